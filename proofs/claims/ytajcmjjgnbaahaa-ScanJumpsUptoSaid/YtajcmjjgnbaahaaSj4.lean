/- Has finds each number at the first place that has it: the plain law. -/
import Derived.Test.YtajcmjjgnbaahaaSj2
import Derived.Test.YtajcmjjgnbaahaaSn8
namespace Go.Proofs.Ytajcmjjgnbaahaa.Amd
open Go Go.Proofs.Ytajcmjjgnbaahaa.Sx Go.RowKit
set_option linter.unusedVariables false
set_option linter.unusedSimpArgs false

theorem stepT_cut {t : Int} {g : Nat → Int} {L len p e : Nat} {k : Option Int} (hb : Byt g L) (h : stepT t g L p = some (e, k)) (he : e ≤ len) : stepT t g len p = some (e, k) := by
  unfold stepT at h ⊢
  split at h
  · rename_i ht; rw [if_pos ht]
    unfold stepA at h ⊢
    cases hd : amdDec g L p with
    | none => rw [hd] at h; simp at h
    | some z =>
      obtain ⟨y, e'⟩ := z
      rw [hd] at h
      simp only [Option.some.injEq, Prod.mk.injEq] at h
      obtain ⟨rfl, rfl⟩ := h
      obtain ⟨q1, q2, q3, q4, q5⟩ := enc_dec hb hd
      have := dec_enc (g := g) (len := len) (i := p) q2 q4 (by omega)
      rw [this, q3, q5]
  · rename_i ht; rw [if_neg ht]
    unfold stepR at h ⊢
    split at h
    · split at h
      · rename_i h1 h2
        simp only [Option.some.injEq, Prod.mk.injEq] at h
        obtain ⟨rfl, rfl⟩ := h
        rw [if_pos he, if_pos h2]
      · simp at h
    · simp at h
theorem WholeW.up {t : Int} {g : Nat → Int} {len m : Nat} {P : Nat → Nat} {K : Nat → Option Int} (hb : Byt g len) (w : WholeW t g len m P K) {i : Nat} (hi : i < m) : P i < P (i + 1) ∧ P i < len ∧ P (i + 1) ≤ len := by
  obtain ⟨s1, s2⟩ := w.ch.step i hi
  obtain ⟨e1, e2⟩ := stepT_end hb s2
  exact ⟨e1, s1, e2⟩
theorem WholeW.mono {t : Int} {g : Nat → Int} {len m : Nat} {P : Nat → Nat} {K : Nat → Option Int} (hb : Byt g len) (w : WholeW t g len m P K) {i : Nat} : ∀ {k : Nat}, i + k ≤ m → P i + k ≤ P (i + k)
  | 0, _ => Nat.le_refl _
  | k + 1, h => by
    have h1 := WholeW.mono hb w (i := i) (k := k) (by omega)
    have h2 := (w.up hb (i := i + k) (by omega)).1
    rw [show i + (k + 1) = i + k + 1 by omega]
    omega
/-- The code ahead of an instruction is a whole walk. -/
theorem WholeW.cut {t : Int} {g : Nat → Int} {len m : Nat} {P : Nat → Nat} {K : Nat → Option Int} (hb : Byt g len) (w : WholeW t g len m P K) {q : Nat} (hq : q ≤ m) : WholeW t g (P q) q P K := by
  refine ⟨w.tt, ⟨w.ch.p0, fun i hi => ?_⟩, rfl, ?_⟩
  · have h1 := w.mono hb (i := i) (k := q - i) (by omega)
    have h2 := w.mono hb (i := i + 1) (k := q - (i + 1)) (by omega)
    rw [show i + (q - i) = q by omega] at h1
    rw [show i + 1 + (q - (i + 1)) = q by omega] at h2
    exact ⟨by omega, stepT_cut hb (w.ch.step i (by omega)).2 (by omega)⟩
  · have h1 := w.mono hb (i := 0) (k := q) (by omega)
    rw [Nat.zero_add] at h1; omega
theorem fnd_le {P : Nat → Nat} {K : Nat → Option Int} : ∀ (n : Nat), (fnd P K n).length ≤ n
  | 0 => Nat.le_refl _
  | n + 1 => by
    rw [fnd, List.length_append]
    have := fnd_le (P := P) (K := K) n
    cases K n with
    | none => simp [oneN]; omega
    | some v => simp [oneN]; omega
theorem fnd_pos {P : Nat → Nat} {K : Nat → Option Int} : ∀ {m j : Nat}, j < (fnd P K m).length → ∃ q, q < m ∧ (fnd P K q).length = j ∧ ((fnd P K m).getD j (0, 0)).1 = (P q : Int) ∧ ∀ i, i < j → (fnd P K q).getD i (0, 0) = (fnd P K m).getD i (0, 0)
  | 0, j, h => absurd h (by simp [fnd])
  | m + 1, j, h => by
    have app : ∀ i, i < (fnd P K m).length → (fnd P K (m + 1)).getD i (0, 0) = (fnd P K m).getD i (0, 0) := fun i hi => by
      rw [fnd, List.getD_eq_getElem?_getD, List.getD_eq_getElem?_getD, List.getElem?_append_left hi]
    by_cases hj : j < (fnd P K m).length
    · obtain ⟨q, h1, h2, h3, h4⟩ := fnd_pos hj
      exact ⟨q, by omega, h2, by rw [app j hj]; exact h3, fun i hi => by rw [app i (by omega)]; exact h4 i hi⟩
    · rw [fnd, List.length_append] at h
      cases hk : K m with
      | none => rw [hk] at h; simp [oneN] at h; omega
      | some v =>
        rw [hk] at h
        simp only [oneN, List.length_singleton] at h
        have e : j = (fnd P K m).length := by omega
        refine ⟨m, by omega, e.symm, ?_, fun i hi => (app i (by omega)).symm⟩
        rw [fnd, List.getD_eq_getElem?_getD, List.getElem?_append_right (by omega), hk, e, Nat.sub_self]
        rfl
theorem walkB_bad {t : Int} {g : Nat → Int} {len : Nat} {b : WkE} (h : WalkB t g len b) : b.e ≠ 0 := by
  rcases h.all with ⟨_, _, h, _⟩ | ⟨_, h, _⟩ <;> rw [h] <;> decide
theorem not_both {t : Int} {g : Nat → Int} {len n : Nat} {P : Nat → Nat} {K : Nat → Option Int} (w : WholeW t g len n P K) {b : WkE} (hb : WalkB t g len b) : False := by
  rcases hb.all with ⟨a1, a2, _⟩ | ⟨_, _, k, P3, K3, y1, y2, y3, y4⟩
  · rcases w.tt with h | h
    · exact a1 h
    · exact a2 h
  · exact w.ch.no_stop w.fin y1 (by rw [y2]; exact y3) (by rw [y2]; exact y4)
/-- Has finds it, where an instruction begins; ahead of that there is none. -/
theorem has_found {t : Int} {g : Nat → Int} {len m : Nat} {P : Nat → Nat} {K : Nat → Option Int} (hb : Byt g len) (w : WholeW t g len m P K) {i : Nat} (hi : i < (fnd P K m).length) {k : Int} (hk : low ((fnd P K m).getD i (0, 0)).2 = k) {r : HsR} (h : HsO t g len k r) :
    r.e = 0 ∧ r.has = true ∧ ∃ q, q < m ∧ r.at' = (P q : Int) ∧ ∀ r' : HsR, HsO t g (P q) k r' → r'.has = false := by
  rcases h.all with ⟨h0, n', P', K', w', h⟩ | ⟨_, _, b, hb', _⟩
  · obtain ⟨e1, e2⟩ := w'.ch.end_same w'.fin w.ch w.fin
    rw [e2] at h
    rcases h with ⟨h1, j, h2, h3, h4, h5⟩ | ⟨_, _, h5⟩
    · obtain ⟨q, q1, q2, q3, q4⟩ := fnd_pos h2
      refine ⟨h0, h1, q, q1, by rw [h3, q3], fun r' h' => ?_⟩
      have wq := w.cut hb (Nat.le_of_lt q1)
      rcases h'.all with ⟨_, n2, P2, K2, w2, h'⟩ | ⟨h', _⟩
      · obtain ⟨f1, f2⟩ := w2.ch.end_same w2.fin wq.ch wq.fin
        rw [f2] at h'
        rcases h' with ⟨_, j', g1, _, g2, _⟩ | ⟨h', _⟩
        · exfalso
          rw [q2] at g1
          rw [q4 j' g1] at g2
          exact h5 j' g1 g2
        · exact h'
      · exact h'
    · exact absurd hk (h5 i hi)
  · exact (not_both w hb').elim
theorem low_and (v : Int) : IE.den (.conv .u32 (.bits .and .u64 (.conv .u64 (.var v)) (.lit 4294967295))) = low v := by
  simp only [IE.den]
  have := and_mask_u64 (IntKind.u64.wrap v) 32 (by decide) (by rw [wrap_u64]; omega) (by rw [wrap_u64]; omega)
  rw [show ((2 : Int) ^ 32 - 1) = 4294967295 by decide] at this
  rw [this, wrap_u64]
  unfold low
  rw [wrap_u32, wrap_u32]
  omega
end Go.Proofs.Ytajcmjjgnbaahaa.Amd
