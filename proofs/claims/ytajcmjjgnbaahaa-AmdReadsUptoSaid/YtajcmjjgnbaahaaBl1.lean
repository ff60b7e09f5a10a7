/- Lists of instructions in bytes, and back, in plain words. -/
import Derived.Test.YtajcmjjgnbaahaaAb
namespace Go.Proofs.Ytajcmjjgnbaahaa.Amd
open Go Go.Proofs.Ytajcmjjgnbaahaa.Sx Go.RowKit
set_option linter.unusedVariables false
set_option linter.unusedSimpArgs false

/-- The bytes of the first instructions. -/
def catB (X : Nat → AI) : Nat → List Int
  | 0 => []
  | n + 1 => catB X n ++ amdBytes (X n)
theorem catB_len (X : Nat → AI) (n : Nat) : (catB X (n + 1)).length = (catB X n).length + (amdBytes (X n)).length := by simp [catB]
theorem catB_le (X : Nat → AI) {n : Nat} (h : ∀ i, i < n → amdErr (X i) = 0) : (catB X n).length ≤ 8 * n := by
  induction n with
  | zero => simp [catB]
  | succ n ih =>
    have := ih fun i hi => h i (by omega)
    have := bytes_len (h n (by omega))
    rw [catB_len]; omega
theorem catB_ge (X : Nat → AI) {n : Nat} (h : ∀ i, i < n → amdErr (X i) = 0) : n ≤ (catB X n).length := by
  induction n with
  | zero => simp
  | succ n ih =>
    have := ih fun i hi => h i (by omega)
    have := bytes_len (h n (by omega))
    rw [catB_len]; omega
theorem catB_mono (X : Nat → AI) {k n : Nat} (h : k ≤ n) : (catB X k).length ≤ (catB X n).length := by
  induction n with
  | zero => obtain rfl : k = 0 := by omega
            exact Nat.le_refl _
  | succ n ih =>
    by_cases hk : k = n + 1
    · subst hk; exact Nat.le_refl _
    · rw [catB_len]; have := ih (by omega); omega
theorem catB_byte (X : Nat → AI) {n : Nat} (h : ∀ i, i < n → amdErr (X i) = 0) : AllB (catB X n) := by
  induction n with
  | zero => exact allB_nil
  | succ n ih => exact allB_append (ih fun i hi => h i (by omega)) (bytes_byte (h n (by omega)))
theorem catB_same {X Y : Nat → AI} : ∀ {n : Nat}, (∀ i, i < n → X i = Y i) → catB X n = catB Y n
  | 0, _ => rfl
  | n + 1, h => by
    rw [catB, catB, catB_same fun i hi => h i (by omega), h n (by omega)]
/-- Each stands where those ahead of it end. -/
theorem catB_reads {X : Nat → AI} {g : Nat → Int} : ∀ {n : Nat}, reads g 0 (catB X n) → ∀ i, i < n → reads g (catB X i).length (amdBytes (X i))
  | n + 1, h, i, hi => by
    rw [catB, reads_append, Nat.zero_add] at h
    by_cases hn : i = n
    · subst hn; exact h.2
    · exact catB_reads h.1 i (by omega)

/-- Instructions one behind the other, from the front on. -/
structure Chain (g : Nat → Int) (len n : Nat) (M : Nat → AI) (P : Nat → Nat) : Prop where
  p0 : P 0 = 0
  step : ∀ i, i < n → P i < len ∧ amdDec g len (P i) = some (M i, P (i + 1))
theorem Chain.reads {g : Nat → Int} {len n : Nat} {M : Nat → AI} {P : Nat → Nat} (h : Chain g len n M P) (hb : ∀ k, k < len → 0 ≤ g k ∧ g k < 256) : ∀ {k : Nat}, k ≤ n → (catB M k).length = P k ∧ P k ≤ len ∧ reads g 0 (catB M k)
  | 0, _ => ⟨h.p0.symm ▸ rfl, by rw [h.p0]; exact Nat.zero_le _, trivial⟩
  | k + 1, hk => by
    obtain ⟨a1, a2, a3⟩ := Chain.reads h hb (k := k) (by omega)
    obtain ⟨s1, s2⟩ := h.step k (by omega)
    obtain ⟨e1, e2, e3, e4, e5⟩ := enc_dec hb s2
    refine ⟨by rw [catB_len, a1, e5], e1, ?_⟩
    rw [catB, reads_append, Nat.zero_add, a1]
    exact ⟨a3, e4⟩
theorem Chain.good {g : Nat → Int} {len n : Nat} {M : Nat → AI} {P : Nat → Nat} (h : Chain g len n M P) (hb : ∀ k, k < len → 0 ≤ g k ∧ g k < 256) {i : Nat} (hi : i < n) : amdErr (M i) = 0 ∧ plain (M i) = M i := by
  obtain ⟨e1, e2, e3, e4, e5⟩ := enc_dec hb (h.step i hi).2
  exact ⟨e2, e3⟩
/-- What was written one behind the other is read so. -/
theorem Chain.back {g : Nat → Int} {len n m : Nat} {M X : Nat → AI} {P : Nat → Nat} (h : Chain g len n M P) (hX : ∀ i, i < m → amdErr (X i) = 0) (hr : Amd.reads g 0 (catB X m)) (hl : (catB X m).length = len) :
    ∀ {k : Nat}, k ≤ n → k ≤ m ∧ P k = (catB X k).length ∧ ∀ i, i < k → M i = plain (X i)
  | 0, _ => ⟨Nat.zero_le _, h.p0, fun i hi => absurd hi (by omega)⟩
  | k + 1, hk => by
    obtain ⟨a1, a2, a3⟩ := Chain.back h hX hr hl (k := k) (by omega)
    obtain ⟨s1, s2⟩ := h.step k (by omega)
    have hkm : k < m := by
      refine Classical.byContradiction fun hn => ?_
      obtain rfl : k = m := by omega
      omega
    have hle := catB_mono X (show k + 1 ≤ m by omega)
    rw [catB_len] at hle
    have hd := dec_enc (g := g) (len := len) (hX k hkm) (catB_reads hr k hkm) (by omega)
    rw [a2, hd] at s2
    simp only [Option.some.injEq, Prod.mk.injEq] at s2
    refine ⟨hkm, by rw [catB_len]; exact s2.2.symm, fun i hi => ?_⟩
    by_cases hik : i < k
    · exact a3 i hik
    · obtain rfl : i = k := by omega
      exact s2.1.symm

/-- What Bytes and Read come to. -/
structure BytesO (X : Nat → AI) (n : Nat) (c : Nat × (Nat → Int)) : Prop where
  ok : ∀ i, i < n → amdErr (X i) = 0
  len : (catB X n).length ≤ c.1
  cap : c.1 ≤ 9223372036854775807
  cell : ∀ e, e < (catB X n).length → c.2 e = (catB X n).getD e 0
structure BytesB (X : Nat → AI) (n i : Nat) : Prop where
  lt : i < n
  bad : amdErr (X i) ≠ 0
  ok : ∀ j, j < i → amdErr (X j) = 0
structure RdR where
  n : Nat
  c1 : Nat
  c2 : Nat
  M : Nat → AI
  S : Nat → Int
structure ReadO (g : Nat → Int) (len : Nat) (r : RdR) : Prop where
  all : ∃ P : Nat → Nat, Chain g len r.n r.M P ∧ P r.n = len ∧ ∀ i, i < r.n → r.S i = P i
  h1 : r.n ≤ r.c1
  h2 : r.n ≤ r.c2
  k1 : r.c1 ≤ 9223372036854775807
  k2 : r.c2 ≤ 9223372036854775807
structure ReadB (g : Nat → Int) (len p : Nat) : Prop where
  all : ∃ (k : Nat) (M : Nat → AI) (P : Nat → Nat), Chain g len k M P ∧ P k = p
  lt : p < len
  bad : amdDec g len p = none
def cols8 (X : Nat → AI) : List Col :=
  [.int .i64 fun e => .var (AI.op (X e)), .bool fun e => .var (AI.wide (X e)), .bool fun e => .var (AI.long (X e)), .int .i64 fun e => .var (AI.d (X e)), .int .i64 fun e => .var (AI.s (X e)), .int .i64 fun e => .var (AI.disp (X e)), .int .i64 fun e => .var (AI.imm (X e)), .int .i64 fun e => .var (AI.cc (X e))]
def colI8 (g : Nat → Int) : Col := .int .i64 fun e => .var (g e)
def XG (cs : List Col) (i : Nat) : AI :=
  match cs with
  | [.int _ a, .bool b, .bool c, .int _ d, .int _ s, .int _ dp, .int _ im, .int _ cc] => ⟨(a i).den, (b i).den, (c i).den, (d i).den, (s i).den, (dp i).den, (im i).den, (cc i).den⟩
  | _ => zI
theorem XG_cols (X : Nat → AI) : XG (cols8 X) = X := rfl
end Go.Proofs.Ytajcmjjgnbaahaa.Amd
