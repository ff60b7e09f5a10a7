/- What the document's Decode makes of a word: its rounds. -/
import Derived.Test.YtajcmjjgnbaahaaGreatZr6
import Derived.Test.YtajcmjjgnbaahaaGreatZr0
set_option linter.unusedVariables false
set_option linter.unusedSimpArgs false
namespace Go.Proofs.YtajcmjjgnbaahaaGreat.Rv
open Go Go.Proofs.YtajcmjjgnbaahaaGreat.Sx Go.RowKit
def rr0 : z9 := ⟨0, 0, 0, 0, 0, []⟩
noncomputable def zUM : Code := (Tryz.f15.body).getD .skip
def zJS : List Nat := [0, 2, 3, 4, 5]
noncomputable def zNs (w k : Int) : List SV := zS (zS (zS (zS (zS (List.replicate Tryz.f15.ntmps SV.undef) 0 (.int .u32 (.var w))) 2 (.ptr 0 0)) 3 (.int .i64 (.lit 0))) 4 (.slice 1 0 (.lit 34) (.lit 34))) 5 (.int .i64 (.lit k))
noncomputable def zVI : List SV := zAU.flatMap fun r => match zGQ r with | .agg l => l | _ => []
noncomputable def rdHp : List SObj := [.cells [.int .i64 (.lit 0), .int .i64 (.lit 0), .int .i64 (.lit 0), .int .i64 (.lit 0), .int .i64 (.lit 0)] 60, .cells zVI 77]
noncomputable def rdSt (w k : Int) (u : Nat -> Value) : St := { tmps := zFy zJS u 0 (zNs w k), hp := rdHp }
def rdUn : Nat -> Plan := fun n => if n = 0 then 0 else 40
noncomputable def zQf (σ : St) (K : zAW -> St -> Prop) : Prop :=
 match (zIM zUM 0)[0]? with
 | some (b, c) => zAP P H4 rdUn 0 c b σ K
 | none => False
noncomputable def rdK (Q : SV -> Prop) : zAW -> St -> Prop := (ctxK (zAP P H4 rdUn 0) zUM 0 (endK Tryz.f15 Q)).getD fun _ _ => False
def zLX (named : Bool) (w : Int) (lo : Nat) : IE := match named with | true => .var (w / 2 ^ lo % 2 ^ 5) | false => .lit 0
def zLY (r : z9) (w : Int) : Int × Int := zHD r.op (zLX (zd r.form).1 w 7).den (zLX (zd r.form).2.1 w 15).den (zLX (zd r.form).2.2 w 20).den (immD r.form w)
def zQe (r : z9) (w : Int) : SV := .tuple [.agg [.int .i64 (.lit r.op), .int .i64 (zLX (zd r.form).1 w 7), .int .i64 (zLX (zd r.form).2.1 w 15), .int .i64 (zLX (zd r.form).2.2 w 20), .int .i64 (.var (immD r.form w))], .int .i64 (.lit 0)]
def zJR (r : z9) (w : Int) : BE := .cmp .neq (.conv .u32 (.var (w / 2 ^ 0 % 2 ^ 7))) (.lit r.code)
def zPH (b named : Bool) (R : Prop) : Prop := match named with | true => BE.den (.var b) = true /\ R | false => R
def zTH (r : z9) (w : Int) (N : Prop) (Q : SV -> Prop) : Prop :=
 BE.den (.var (inU32 w)) = true /\ zPH (inU32 w) (zd r.form).1 (zPH (inU32 w) (zd r.form).2.1 (zPH (inU32 w) (zd r.form).2.2 (BE.den (.var (zHG (immD r.form w))) = true /\
  (BE.den (.cmp .eql (.var (zLY r w).2) (.lit 0)) = true -> (BE.den (.cmp .eql (.var (zLY r w).1) (.var w)) = true -> Q (zQe r w)) /\ (BE.den (.cmp .eql (.var (zLY r w).1) (.var w)) = false -> N)) /\
  (BE.den (.cmp .eql (.var (zLY r w).2) (.lit 0)) = false -> N))))
def zT (w : Int) (u : Nat -> Value) (Q : SV -> Prop) (R : St -> Prop) (k : Nat) : Prop :=
 zQf (rdSt w (k : Int) u) (zFZ (fun σ => zEx 0 zJS σ R) (rdK Q)) =
  (BE.den (.var (inU32 w)) = true /\ (BE.den (zJR (zAU.getD k rr0) w) = true -> ∀ u, R (rdSt w ((k + 1 : Nat) : Int) u)) /\ (BE.den (zJR (zAU.getD k rr0) w) = false -> zTH (zAU.getD k rr0) w (∀ u, R (rdSt w ((k + 1 : Nat) : Int) u)) Q))
theorem zTE (w : Int) (Q : SV -> Prop) : zH P H4 rdUn Tryz.f15 [.int .u32 (.var w)] [] (fun v _ => Q v) =
  ∃ (live : List Nat) (I : St -> Prop) (μ : St -> Nat), zEx 0 live { tmps := zS (zNs w 0) 12 (.slice 1 0 (.lit 34) (.lit 34)), hp := rdHp } I /\
   ∀ σ', I σ' -> zQf σ' (zFZ (fun σ'' => zEx 0 live σ'' fun σ3 => I σ3 /\ μ σ3 < μ σ') (rdK Q)) := by kernel_rfl
theorem rd_0 (w : Int) (u : Nat -> Value) (Q : SV -> Prop) (R : St -> Prop) : zT w u Q R 0 := by
 unfold zT; kernel_rfl
theorem rd_1 (w : Int) (u : Nat -> Value) (Q : SV -> Prop) (R : St -> Prop) : zT w u Q R 1 := by
 unfold zT; kernel_rfl
theorem rd_2 (w : Int) (u : Nat -> Value) (Q : SV -> Prop) (R : St -> Prop) : zT w u Q R 2 := by
 unfold zT; kernel_rfl
theorem rd_3 (w : Int) (u : Nat -> Value) (Q : SV -> Prop) (R : St -> Prop) : zT w u Q R 3 := by
 unfold zT; kernel_rfl
theorem rd_4 (w : Int) (u : Nat -> Value) (Q : SV -> Prop) (R : St -> Prop) : zT w u Q R 4 := by
 unfold zT; kernel_rfl
theorem rd_5 (w : Int) (u : Nat -> Value) (Q : SV -> Prop) (R : St -> Prop) : zT w u Q R 5 := by
 unfold zT; kernel_rfl
theorem rd_6 (w : Int) (u : Nat -> Value) (Q : SV -> Prop) (R : St -> Prop) : zT w u Q R 6 := by
 unfold zT; kernel_rfl
theorem rd_7 (w : Int) (u : Nat -> Value) (Q : SV -> Prop) (R : St -> Prop) : zT w u Q R 7 := by
 unfold zT; kernel_rfl
theorem rd_8 (w : Int) (u : Nat -> Value) (Q : SV -> Prop) (R : St -> Prop) : zT w u Q R 8 := by
 unfold zT; kernel_rfl
theorem rd_9 (w : Int) (u : Nat -> Value) (Q : SV -> Prop) (R : St -> Prop) : zT w u Q R 9 := by
 unfold zT; kernel_rfl
theorem zaj (w : Int) (u : Nat -> Value) (Q : SV -> Prop) (R : St -> Prop) : zT w u Q R 10 := by
 unfold zT; kernel_rfl
theorem zai (w : Int) (u : Nat -> Value) (Q : SV -> Prop) (R : St -> Prop) : zT w u Q R 11 := by
 unfold zT; kernel_rfl
theorem zah (w : Int) (u : Nat -> Value) (Q : SV -> Prop) (R : St -> Prop) : zT w u Q R 12 := by
 unfold zT; kernel_rfl
theorem zag (w : Int) (u : Nat -> Value) (Q : SV -> Prop) (R : St -> Prop) : zT w u Q R 13 := by
 unfold zT; kernel_rfl
theorem zaf (w : Int) (u : Nat -> Value) (Q : SV -> Prop) (R : St -> Prop) : zT w u Q R 14 := by
 unfold zT; kernel_rfl
theorem zae (w : Int) (u : Nat -> Value) (Q : SV -> Prop) (R : St -> Prop) : zT w u Q R 15 := by
 unfold zT; kernel_rfl
theorem zad (w : Int) (u : Nat -> Value) (Q : SV -> Prop) (R : St -> Prop) : zT w u Q R 16 := by
 unfold zT; kernel_rfl
theorem zac (w : Int) (u : Nat -> Value) (Q : SV -> Prop) (R : St -> Prop) : zT w u Q R 17 := by
 unfold zT; kernel_rfl
theorem zab (w : Int) (u : Nat -> Value) (Q : SV -> Prop) (R : St -> Prop) : zT w u Q R 18 := by
 unfold zT; kernel_rfl
theorem zaa (w : Int) (u : Nat -> Value) (Q : SV -> Prop) (R : St -> Prop) : zT w u Q R 19 := by
 unfold zT; kernel_rfl
theorem zaZ (w : Int) (u : Nat -> Value) (Q : SV -> Prop) (R : St -> Prop) : zT w u Q R 20 := by
 unfold zT; kernel_rfl
theorem zaY (w : Int) (u : Nat -> Value) (Q : SV -> Prop) (R : St -> Prop) : zT w u Q R 21 := by
 unfold zT; kernel_rfl
theorem zaX (w : Int) (u : Nat -> Value) (Q : SV -> Prop) (R : St -> Prop) : zT w u Q R 22 := by
 unfold zT; kernel_rfl
theorem zaW (w : Int) (u : Nat -> Value) (Q : SV -> Prop) (R : St -> Prop) : zT w u Q R 23 := by
 unfold zT; kernel_rfl
theorem zaV (w : Int) (u : Nat -> Value) (Q : SV -> Prop) (R : St -> Prop) : zT w u Q R 24 := by
 unfold zT; kernel_rfl
theorem zaU (w : Int) (u : Nat -> Value) (Q : SV -> Prop) (R : St -> Prop) : zT w u Q R 25 := by
 unfold zT; kernel_rfl
theorem zaT (w : Int) (u : Nat -> Value) (Q : SV -> Prop) (R : St -> Prop) : zT w u Q R 26 := by
 unfold zT; kernel_rfl
theorem zaS (w : Int) (u : Nat -> Value) (Q : SV -> Prop) (R : St -> Prop) : zT w u Q R 27 := by
 unfold zT; kernel_rfl
theorem zaR (w : Int) (u : Nat -> Value) (Q : SV -> Prop) (R : St -> Prop) : zT w u Q R 28 := by
 unfold zT; kernel_rfl
theorem zaQ (w : Int) (u : Nat -> Value) (Q : SV -> Prop) (R : St -> Prop) : zT w u Q R 29 := by
 unfold zT; kernel_rfl
theorem zaP (w : Int) (u : Nat -> Value) (Q : SV -> Prop) (R : St -> Prop) : zT w u Q R 30 := by
 unfold zT; kernel_rfl
theorem zaO (w : Int) (u : Nat -> Value) (Q : SV -> Prop) (R : St -> Prop) : zT w u Q R 31 := by
 unfold zT; kernel_rfl
theorem zaN (w : Int) (u : Nat -> Value) (Q : SV -> Prop) (R : St -> Prop) : zT w u Q R 32 := by
 unfold zT; kernel_rfl
theorem zaM (w : Int) (u : Nat -> Value) (Q : SV -> Prop) (R : St -> Prop) : zT w u Q R 33 := by
 unfold zT; kernel_rfl
theorem zaL (w : Int) (u : Nat -> Value) (Q : SV -> Prop) (R : St -> Prop) : zQf (rdSt w 34 u) (zFZ (fun σ => zEx 0 zJS σ R) (rdK Q)) = Q zPQ := by kernel_rfl
end Go.Proofs.YtajcmjjgnbaahaaGreat.Rv
