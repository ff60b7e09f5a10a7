/- Lists of instructions in bytes, and back, in plain words. -/
import Derived.Test.YtajcmjjgnbaahaaDoorAb
namespace Go.Proofs.YtajcmjjgnbaahaaDoor.Amd
open Go Go.Proofs.YtajcmjjgnbaahaaDoor.Sx Go.RowKit
set_option linter.unusedVariables false
set_option linter.unusedSimpArgs false
def catB (X : Nat -> AI) : Nat -> List Int
  | 0 => []
  | n + 1 => catB X n ++ amdBytes (X n)
theorem catB_len (X : Nat -> AI) (n : Nat) : (catB X (n + 1)).length = (catB X n).length + (amdBytes (X n)).length := by simp [catB]
theorem catB_le (X : Nat -> AI) {n : Nat} (h : ∀ i, i < n -> amdErr (X i) = 0) : (catB X n).length <= 8 * n := by
  induction n with
  | zero => simp [catB]
  | succ n ih =>
    have := ih fun i hi => h i (by omega)
    have := bytes_len (h n (by omega))
    rw [catB_len]; omega
structure BytesO (X : Nat -> AI) (n : Nat) (c : Nat × (Nat -> Int)) : Prop where
  ok : ∀ i, i < n -> amdErr (X i) = 0
  len : (catB X n).length <= c.1
  cap : c.1 <= 9223372036854775807
  cell : ∀ e, e < (catB X n).length -> c.2 e = (catB X n).getD e 0
structure BytesB (X : Nat -> AI) (n i : Nat) : Prop where
  lt : i < n
  bad : amdErr (X i) ≠ 0
  ok : ∀ j, j < i -> amdErr (X j) = 0
def cols8 (X : Nat -> AI) : List Col :=
  [.int .i64 fun e => .var (AI.op (X e)), .bool fun e => .var (AI.wide (X e)), .bool fun e => .var (AI.long (X e)), .int .i64 fun e => .var (AI.d (X e)), .int .i64 fun e => .var (AI.s (X e)), .int .i64 fun e => .var (AI.disp (X e)), .int .i64 fun e => .var (AI.imm (X e)), .int .i64 fun e => .var (AI.cc (X e))]
def XG (cs : List Col) (i : Nat) : AI :=
  match cs with
  | [.int _ a, .bool b, .bool c, .int _ d, .int _ s, .int _ dp, .int _ im, .int _ cc] => ⟨(a i).den, (b i).den, (c i).den, (d i).den, (s i).den, (dp i).den, (im i).den, (cc i).den⟩
  | _ => zI
end Go.Proofs.YtajcmjjgnbaahaaDoor.Amd
