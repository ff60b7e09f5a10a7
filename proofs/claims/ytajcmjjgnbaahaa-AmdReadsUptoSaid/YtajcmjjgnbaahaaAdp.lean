/- The reader's values where the bytes are there, and where they are not. -/
import Derived.Test.YtajcmjjgnbaahaaAd3
import Derived.Test.YtajcmjjgnbaahaaAp3
namespace Go.Proofs.Ytajcmjjgnbaahaa.Amd
open Go Go.Proofs.Ytajcmjjgnbaahaa.Sx Go.RowKit
set_option linter.unusedVariables false
set_option linter.unusedSimpArgs false

section
variable {g : Nat → Int} {len : Nat} {a p mm : Int}
theorem nx_in (h : a < len) : nxV g len a = g a.toNat := if_pos h
theorem nxA_in (h : a < len) : nxA len a = a + 1 := if_pos h
theorem nxB_in (h : a < len) (b : Bool) : nxB len a b = b := by
  unfold nxB
  have : decide ((len : Int) ≤ a) = false := by simp; omega
  rw [this, Bool.or_false]
theorem nxB_out (h : ¬ a < len) (b : Bool) : nxB len a b = true := by
  unfold nxB
  have : decide ((len : Int) ≤ a) = true := by simp; omega
  rw [this, Bool.or_true]
theorem nxB_true : nxB len a true = true := by simp [nxB]
theorem nuB_true (long : Bool) : nuB len a true long = true := by
  unfold nuB
  split <;> simp only [nxB_true]
theorem nu_ok (g : Nat → Int) (h0 : 0 ≤ a) {long : Bool} (h : a + numK long ≤ len) : nuV g len a long = numV g a.toNat long ∧ nuA len a long = a + numK long ∧ ∀ b, nuB len a b long = b := by
  cases long with
  | false =>
    simp only [numK, Bool.false_eq_true, if_false] at h ⊢
    have h1 : a < len := by omega
    simp only [nuV, nuA, nuB, numV, Bool.false_eq_true, if_false, nx_in h1, nxA_in h1, nxB_in h1]
    exact ⟨trivial, by omega, fun _ => trivial⟩
  | true =>
    simp only [numK, if_true] at h ⊢
    have h1 : a < len := by omega
    have h2 : a + 1 < len := by omega
    have h3 : a + 1 + 1 < len := by omega
    have h4 : a + 1 + 1 + 1 < len := by omega
    simp only [nuV, nuA, nuB, numV, if_true, nx_in h1, nxA_in h1, nxB_in h1, nx_in h2, nxA_in h2, nxB_in h2, nx_in h3, nxA_in h3, nxB_in h3, nx_in h4, nxA_in h4, nxB_in h4]
    refine ⟨?_, by omega, fun _ => trivial⟩
    unfold u4
    rw [show (a + 1).toNat = a.toNat + 1 by omega, show (a + 1 + 1).toNat = a.toNat + 2 by omega, show (a + 1 + 1 + 1).toNat = a.toNat + 3 by omega]
theorem nu_bad {long : Bool} (h : ¬ a + numK long ≤ len) (b : Bool) : nuB len a b long = true := by
  cases long with
  | false =>
    simp only [numK, Bool.false_eq_true, if_false] at h
    simp only [nuB, Bool.false_eq_true, if_false]
    exact nxB_out (by omega) b
  | true =>
    simp only [numK, if_true] at h
    simp only [nuB, if_true]
    by_cases h1 : a < len
    · rw [nxA_in h1]
      by_cases h2 : a + 1 < len
      · rw [nxA_in h2]
        by_cases h3 : a + 1 + 1 < len
        · rw [nxA_in h3]; exact nxB_out (by omega) _
        · rw [nxB_out h3, nxB_true]
      · rw [nxB_out h2, nxB_true, nxB_true]
    · rw [nxB_out h1, nxB_true, nxB_true, nxB_true]
theorem paF_true : paF g len a true mm = true := by simp [paF, nxB_true]
theorem pa_ok (h : a < len) (hm : g a.toNat / 64 = mm) (b : Bool) : paF g len a b mm = b := by
  unfold paF
  rw [nxB_in h, nx_in h]; simp [hm]
theorem pa_bad (h : ¬ (a < len ∧ g a.toNat / 64 = mm)) (b : Bool) : paF g len a b mm = true := by
  unfold paF
  by_cases h1 : a < len
  · rw [nx_in h1]
    have : ¬ g a.toNat / 64 = mm := fun e => h ⟨h1, e⟩
    simp [this]
  · rw [nxB_out h1]; rfl
theorem paR_in (h : a < len) : paR g len a p = pr g a.toNat p := by unfold paR pr; rw [nx_in h]
theorem paB_in (h : a < len) : paB g len a p = pb g a.toNat p := by unfold paB pb; rw [nx_in h]
theorem waF_true : waF g len a true mm = true := by simp [waF, nxB_true]
theorem me_ok (h0 : 0 ≤ a) (hm : memOk g len a.toNat) : a < len ∧ meL g len a = memL g a.toNat ∧ meV g len a = memD g a.toNat ∧ meA g len a = memEnd g a.toNat ∧ ∀ b, meB g len a b = b := by
  obtain ⟨m1, m2, m3, m4⟩ := hm
  have h1 : a < len := by omega
  have e1 : meL g len a = memL g a.toNat := by unfold meL memL; rw [nx_in h1]
  have e2 : meS g len a = decide (g a.toNat % 8 = 4) := by unfold meS; rw [nx_in h1]
  have e3 : meQ g len a = a + 1 + sib g a.toNat := by
    unfold meQ sib
    rw [e2]
    by_cases hs : g a.toNat % 8 = 4
    · have := (m3 hs).1
      have h2 : a + 1 < len := by omega
      simp only [hs, decide_true, if_true, nxA_in h1, nxA_in h2]; omega
    · simp only [hs, decide_false, Bool.false_eq_true, if_false, nxA_in h1]; omega
  have hmm : g a.toNat / 64 = (if memL g a.toNat = true then 2 else 1) := by
    unfold memL
    rcases m2 with h | h <;> simp [h]
  have e4 : ∀ b, meF g len a b = b := fun b => by
    unfold meF
    rw [e1, e2]
    by_cases hs : g a.toNat % 8 = 4
    · obtain ⟨q1, q2⟩ := m3 hs
      have h2 : a + 1 < len := by omega
      simp only [hs, decide_true, if_true, nxA_in h1, pa_ok h1 hmm]
      unfold waF
      rw [nxB_in h2, nx_in h2, show (a + 1).toNat = a.toNat + 1 by omega, q2]; simp
    · simp only [hs, decide_false, Bool.false_eq_true, if_false, pa_ok h1 hmm]
  have m5 : a.toNat + 1 + sib g a.toNat + numK (memL g a.toNat) ≤ len := m4
  obtain ⟨n1, n2, n3⟩ := nu_ok (len := len) (a := a + 1 + sib g a.toNat) g (by omega) (long := memL g a.toNat) (by omega)
  refine ⟨h1, e1, ?_, ?_, fun b => ?_⟩
  · unfold meV memD
    rw [e1, e3, n1, show (a + 1 + (sib g a.toNat : Int)).toNat = a.toNat + 1 + sib g a.toNat by omega]
  · unfold meA memEnd
    rw [e1, e3, n2]; omega
  · unfold meB
    rw [e1, e3, e4, n3]
theorem me_bad (h0 : 0 ≤ a) (hm : ¬ memOk g len a.toNat) (b : Bool) : meB g len a b = true := by
  unfold meB
  by_cases h1 : a < len
  · have e1 : meL g len a = memL g a.toNat := by unfold meL memL; rw [nx_in h1]
    have e2 : meS g len a = decide (g a.toNat % 8 = 4) := by unfold meS; rw [nx_in h1]
    by_cases h2 : g a.toNat / 64 = 1 ∨ g a.toNat / 64 = 2
    · by_cases h3 : g a.toNat % 8 = 4 → a.toNat + 1 < len ∧ g (a.toNat + 1) = 36
      · have e3 : meQ g len a = a + 1 + sib g a.toNat := by
          unfold meQ sib
          rw [e2]
          by_cases hs : g a.toNat % 8 = 4
          · have := (h3 hs).1
            have h2 : a + 1 < len := by omega
            simp only [hs, decide_true, if_true, nxA_in h1, nxA_in h2]; omega
          · simp only [hs, decide_false, Bool.false_eq_true, if_false, nxA_in h1]; omega
        have h4 : ¬ memEnd g a.toNat ≤ len := fun h => hm ⟨by omega, h2, h3, h⟩
        unfold memEnd at h4
        rw [e1, e3]
        exact nu_bad (by omega) _
      · have hs : g a.toNat % 8 = 4 := Classical.byContradiction fun h => h3 fun h' => absurd h' h
        have h5 : ¬ (a.toNat + 1 < len ∧ g (a.toNat + 1) = 36) := fun h => h3 fun _ => h
        have e4 : meF g len a b = true := by
          unfold meF
          rw [e2]
          simp only [hs, decide_true, if_true, nxA_in h1]
          unfold waF
          by_cases h6 : a + 1 < len
          · rw [nx_in h6, show (a + 1).toNat = a.toNat + 1 by omega]
            have : ¬ g (a.toNat + 1) = 36 := fun e => h5 ⟨by omega, e⟩
            simp [this]
          · rw [nxB_out h6]; rfl
        rw [e4, nuB_true]
    · have e4 : meF g len a b = true := by
        have hp : paF g len a b (if meL g len a = true then 2 else 1) = true := by
          refine pa_bad (fun h => ?_) b
          rw [e1] at h
          have h7 := h.2
          split at h7
          · exact h2 (.inr h7)
          · exact h2 (.inl h7)
        unfold meF
        rw [hp, waF_true]
        simp
      rw [e4, nuB_true]
  · have e4 : meF g len a b = true := by
      unfold meF
      rw [pa_bad (fun h => h1 h.1) b, waF_true]
      simp
    rw [e4, nuB_true]
theorem of16 {P : Int → Prop} (h : ∀ n : Fin 16, P ((n.val : Nat) : Int)) (h0 : 0 ≤ p) (h1 : p < 16) : P p := by
  have := h ⟨p.toNat, by omega⟩
  simpa [Int.toNat_of_nonneg h0] using this
theorem noF12 (h0 : 0 ≤ p) (h1 : p < 16) : noF p 12 false = !decide (p / 4 = 0) := of16 (P := fun p => noF p 12 false = !decide (p / 4 = 0)) (by decide) h0 h1
theorem noF15 (h0 : 0 ≤ p) (h1 : p < 16) : noF p 15 false = !decide (p = 0) := of16 (P := fun p => noF p 15 false = !decide (p = 0)) (by decide) h0 h1
theorem noF4 (h0 : 0 ≤ p) (h1 : p < 16) : noF p 4 false = !decide (p / 4 % 2 = 0) := of16 (P := fun p => noF p 4 false = !decide (p / 4 % 2 = 0)) (by decide) h0 h1
end
end Go.Proofs.Ytajcmjjgnbaahaa.Amd
