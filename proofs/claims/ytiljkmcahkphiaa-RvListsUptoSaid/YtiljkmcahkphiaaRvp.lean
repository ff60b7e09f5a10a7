/- Words tell the instructions that they were made of. -/
import Derived.Test.YtiljkmcahkphiaaRv4
namespace Go.Proofs.Ytiljkmcahkphiaa.Rv
open Go Go.Proofs.Ytiljkmcahkphiaa.Sx Go.RowKit
set_option linter.unusedVariables false
set_option linter.unusedSimpArgs false

def hasF3 (code : Int) : Bool := !(code == 55 || code == 111)
def hasF7 (code : Int) : Bool := code == 51 || code == 59
def keyR (r : RvRow) : Int × Int × Int := (r.code, if hasF3 r.code then r.f3 else 0, if hasF7 r.code then r.f7 else 0)
def keyW (w : Int) : Int × Int × Int := (w % 128, if hasF3 (w % 128) then w / 4096 % 8 else 0, if hasF7 (w % 128) then w / 33554432 else 0)

theorem key_inj : ∀ r ∈ rvRows, ∀ r' ∈ rvRows, keyR r = keyR r' → r = r' := by
  have h : (rvRows.all fun r => rvRows.all fun r' => !(keyR r == keyR r') || (r.op == r'.op)) = true := by decide +kernel
  have h2 : ∀ r ∈ rvRows, rowOf rvRows r.op = some r := by
    intro r hr
    simp only [rvRows, List.mem_cons, List.not_mem_nil, or_false] at hr
    rcases hr with rfl | rfl | rfl | rfl | rfl | rfl | rfl | rfl | rfl | rfl | rfl | rfl | rfl | rfl | rfl | rfl | rfl | rfl | rfl | rfl | rfl | rfl | rfl | rfl | rfl | rfl | rfl | rfl | rfl | rfl | rfl | rfl | rfl | rfl <;> rfl
  intro r hr r' hr' e
  have := List.all_eq_true.1 (List.all_eq_true.1 h r hr) r' hr'
  simp only [Bool.or_eq_true, Bool.not_eq_true', beq_eq_false_iff_ne, beq_iff_eq] at this
  have ho : r.op = r'.op := by
    rcases this with h | h
    · exact absurd e h
    · exact h
  have e1 := h2 r hr
  rw [ho, h2 r' hr'] at e1
  exact (Option.some.inj e1).symm

/-- An instruction that may be: registers, and the immediate. -/
structure RvOk (r : RvRow) (a b c d : Int) : Prop where
  ra : regB a (names r.form).1 = true
  rb : regB b (names r.form).2.1 = true
  rc : regB c (names r.form).2.2 = true
  fit : fitsB r.form d = true

theorem key_of {w : Int} {r : RvRow} (e1 : w % 128 = r.code) (e2 : hasF3 r.code = true → w / 4096 % 8 = r.f3) (e3 : hasF7 r.code = true → w / 33554432 = r.f7) : keyW w = keyR r := by
  unfold keyW keyR
  rw [e1]
  refine Prod.ext rfl (Prod.ext ?_ ?_)
  · show (if _ then _ else _) = (if _ then _ else _)
    split
    · exact e2 ‹_›
    · rfl
  · show (if _ then _ else _) = (if _ then _ else _)
    split
    · exact e3 ‹_›
    · rfl

theorem word_key (r : RvRow) (hr : r ∈ rvRows) (a b c d : Int) (h : RvOk r a b c d) : keyW (rvWord r a b c d) = keyR r := by
  obtain ⟨ha, hb, hc, hd⟩ := h
  rw [regB_iff] at ha hb hc
  simp only [rvRows, List.mem_cons, List.not_mem_nil, or_false] at hr
  rcases hr with rfl | rfl | rfl | rfl | rfl | rfl | rfl | rfl | rfl | rfl | rfl | rfl | rfl | rfl | rfl | rfl | rfl | rfl | rfl | rfl | rfl | rfl | rfl | rfl | rfl | rfl | rfl | rfl | rfl | rfl | rfl | rfl | rfl | rfl <;>
    (simp only [names, Bool.false_eq_true, false_and, or_false, true_and] at ha hb hc
     refine key_of ?_ ?_ ?_
     · simp only [rvWord, fixedOf, immW, reduceCtorEq, if_false, if_true, true_or, or_true, or_self, Nat.reduceEqDiff]; omega
     · intro h; first | exact absurd h (by decide) | (clear h; simp only [rvWord, fixedOf, immW, reduceCtorEq, if_false, if_true, true_or, or_true, or_self, Nat.reduceEqDiff]; omega) | (
          simp only [rvWord, fixedOf, immW, reduceCtorEq, if_false, if_true, true_or, or_true, or_self, Nat.reduceEqDiff]
          have q1 : 0 ≤ d / 2 % 16 ∧ d / 2 % 16 < 16 := by omega
          have q2 : 0 ≤ d / 32 % 64 ∧ d / 32 % 64 < 64 := by omega
          have q3 : 0 ≤ d / 2048 % 2 ∧ d / 2048 % 2 < 2 := by omega
          have q4 : 0 ≤ d / 4096 % 2 ∧ d / 4096 % 2 < 2 := by omega
          generalize d / 2 % 16 = p1 at q1 ⊢
          generalize d / 32 % 64 = p2 at q2 ⊢
          generalize d / 2048 % 2 = p3 at q3 ⊢
          generalize d / 4096 % 2 = p4 at q4 ⊢
          clear hd
          omega)
     · intro h; first | exact absurd h (by decide) | (clear h; simp only [rvWord, fixedOf, immW, reduceCtorEq, if_false, if_true, true_or, or_true, or_self, Nat.reduceEqDiff]; omega) | (
          simp only [rvWord, fixedOf, immW, reduceCtorEq, if_false, if_true, true_or, or_true, or_self, Nat.reduceEqDiff]
          have q1 : 0 ≤ d / 2 % 16 ∧ d / 2 % 16 < 16 := by omega
          have q2 : 0 ≤ d / 32 % 64 ∧ d / 32 % 64 < 64 := by omega
          have q3 : 0 ≤ d / 2048 % 2 ∧ d / 2048 % 2 < 2 := by omega
          have q4 : 0 ≤ d / 4096 % 2 ∧ d / 4096 % 2 < 2 := by omega
          generalize d / 2 % 16 = p1 at q1 ⊢
          generalize d / 32 % 64 = p2 at q2 ⊢
          generalize d / 2048 % 2 = p3 at q3 ⊢
          generalize d / 4096 % 2 = p4 at q4 ⊢
          clear hd
          omega))

theorem reg_eq {x y : Int} {n : Bool} (hx : regB x n = true) : 0 ≤ x ∧ x < 32 ∧ (n = false → x = 0) := by
  rw [regB_iff] at hx
  rcases hx with rfl | ⟨rfl, h⟩
  · exact ⟨by omega, by omega, fun _ => rfl⟩
  · exact ⟨by omega, by omega, fun h => by cases h⟩

theorem b_split {d : Int} (h0 : -4096 ≤ d) (h1 : d < 4096) (h2 : d % 2 = 0) : d = d / 2 % 16 * 2 + d / 32 % 64 * 32 + d / 2048 % 2 * 2048 - d / 4096 % 2 * 4096 := by
  have e1 : d / 32 = d / 2 / 16 := by omega
  have e2 : d / 2048 = d / 2 / 16 / 64 := by omega
  have e3 : d / 4096 = d / 2 / 16 / 64 / 2 := by omega
  rw [e1, e2, e3]; omega
theorem j_split {d : Int} (h0 : -1048576 ≤ d) (h1 : d < 1048576) (h2 : d % 2 = 0) : d = d / 2 % 1024 * 2 + d / 2048 % 2 * 2048 + d / 4096 % 256 * 4096 - d / 1048576 % 2 * 1048576 := by
  have e2 : d / 2048 = d / 2 / 1024 := by omega
  have e3 : d / 4096 = d / 2 / 1024 / 2 := by omega
  have e4 : d / 1048576 = d / 2 / 1024 / 2 / 256 := by omega
  rw [e2, e3, e4]; omega

theorem radix {m x y x' y' : Int} (h0 : 0 ≤ x) (h1 : x < m) (h0' : 0 ≤ x') (h1' : x' < m) (e : x + m * y = x' + m * y') : x = x' ∧ y = y' := by
  have hm : m ≠ 0 := by omega
  have ex : x = x' := by
    have := congrArg (· % m) e
    simpa [Int.add_mul_emod_self_left, Int.emod_eq_of_lt h0 h1, Int.emod_eq_of_lt h0' h1'] using this
  subst ex
  exact ⟨rfl, Int.eq_of_mul_eq_mul_left hm (by omega)⟩

set_option maxHeartbeats 4000000 in
theorem word_fields (r : RvRow) (hr : r ∈ rvRows) (a b c d a' b' c' d' : Int) (h : RvOk r a b c d) (h' : RvOk r a' b' c' d') (e : rvWord r a b c d = rvWord r a' b' c' d') : a = a' ∧ b = b' ∧ c = c' ∧ d = d' := by
  obtain ⟨ha, hb, hc, hd⟩ := h
  obtain ⟨ha', hb', hc', hd'⟩ := h'
  rw [regB_iff] at ha hb hc ha' hb' hc'
  unfold rvWord at e
  rcases form_range r hr with h | h | h | h | h | h | h | h
  · rw [h] at ha hb hc hd ha' hb' hc' hd' e
    simp only [names, Bool.false_eq_true, false_and, or_false, true_and] at ha hb hc ha' hb' hc'
    simp only [fitsB, Bool.and_eq_true, decide_eq_true_eq] at hd hd'
    simp only [immW] at e
    refine ⟨?_, ?_, ?_, ?_⟩ <;> omega
  · rw [h] at ha hb hc hd ha' hb' hc' hd' e
    simp only [names, Bool.false_eq_true, false_and, or_false, true_and] at ha hb hc ha' hb' hc'
    simp only [fitsB, Bool.and_eq_true, decide_eq_true_eq] at hd hd'
    simp only [immW] at e
    refine ⟨?_, ?_, ?_, ?_⟩ <;> omega
  · rw [h] at ha hb hc hd ha' hb' hc' hd' e
    simp only [names, Bool.false_eq_true, false_and, or_false, true_and] at ha hb hc ha' hb' hc'
    simp only [fitsB, Bool.and_eq_true, decide_eq_true_eq] at hd hd'
    simp only [immW] at e
    refine ⟨?_, ?_, ?_, ?_⟩ <;> omega
  · rw [h] at ha hb hc hd ha' hb' hc' hd' e
    simp only [names, Bool.false_eq_true, false_and, or_false, true_and] at ha hb hc ha' hb' hc'
    simp only [fitsB, Bool.and_eq_true, decide_eq_true_eq] at hd hd'
    simp only [immW] at e
    refine ⟨?_, ?_, ?_, ?_⟩ <;> omega
  · rw [h] at ha hb hc hd ha' hb' hc' hd' e
    simp only [names, Bool.false_eq_true, false_and, or_false, true_and] at ha hb hc ha' hb' hc'
    simp only [fitsB, Bool.and_eq_true, decide_eq_true_eq] at hd hd'
    simp only [immW] at e
    refine ⟨?_, ?_, ?_, ?_⟩ <;> omega
  · rw [h] at ha hb hc hd ha' hb' hc' hd' e
    simp only [names, Bool.false_eq_true, false_and, or_false, true_and] at ha hb hc ha' hb' hc'
    simp only [fitsB, Bool.and_eq_true, decide_eq_true_eq] at hd hd'
    simp only [immW] at e
    refine ⟨?_, ?_, ?_, ?_⟩ <;> omega
  · rw [h] at ha hb hc hd ha' hb' hc' hd' e
    simp only [names, Bool.false_eq_true, false_and, or_false, true_and] at ha hb hc ha' hb' hc'
    simp only [fitsB, Bool.and_eq_true, decide_eq_true_eq] at hd hd'
    simp only [immW] at e
    have q1 : 0 ≤ d / 2 % 16 ∧ d / 2 % 16 < 16 := by omega
    have q2 : 0 ≤ d / 32 % 64 ∧ d / 32 % 64 < 64 := by omega
    have q3 : 0 ≤ d / 2048 % 2 ∧ d / 2048 % 2 < 2 := by omega
    have q4 : 0 ≤ d / 4096 % 2 ∧ d / 4096 % 2 < 2 := by omega
    have q5 := b_split hd.1.1 hd.1.2 hd.2
    have q1' : 0 ≤ d' / 2 % 16 ∧ d' / 2 % 16 < 16 := by omega
    have q2' : 0 ≤ d' / 32 % 64 ∧ d' / 32 % 64 < 64 := by omega
    have q3' : 0 ≤ d' / 2048 % 2 ∧ d' / 2048 % 2 < 2 := by omega
    have q4' : 0 ≤ d' / 4096 % 2 ∧ d' / 4096 % 2 < 2 := by omega
    have q5' := b_split hd'.1.1 hd'.1.2 hd'.2
    generalize d / 2 % 16 = p1 at q1 q5 e
    generalize d / 32 % 64 = p2 at q2 q5 e
    generalize d / 2048 % 2 = p3 at q3 q5 e
    generalize d / 4096 % 2 = p4 at q4 q5 e
    generalize d' / 2 % 16 = p1' at q1' q5' e
    generalize d' / 32 % 64 = p2' at q2' q5' e
    generalize d' / 2048 % 2 = p3' at q3' q5' e
    generalize d' / 4096 % 2 = p4' at q4' q5' e
    clear hd hd'
    have z : a = a' ∧ b = b' ∧ c = c' ∧ p1 = p1' ∧ p2 = p2' ∧ p3 = p3' ∧ p4 = p4' := by
      have e0 : p3 + 2 * (p1 + 128 * (b + 32 * (c + 32 * (p2 + 64 * p4)))) = p3' + 2 * (p1' + 128 * (b' + 32 * (c' + 32 * (p2' + 64 * p4')))) := by omega
      obtain ⟨z1, e0⟩ := radix (by omega) (by omega) (by omega) (by omega) e0
      obtain ⟨z2, e0⟩ := radix (by omega) (by omega) (by omega) (by omega) e0
      obtain ⟨z3, e0⟩ := radix (by omega) (by omega) (by omega) (by omega) e0
      obtain ⟨z4, e0⟩ := radix (by omega) (by omega) (by omega) (by omega) e0
      obtain ⟨z5, e0⟩ := radix (by omega) (by omega) (by omega) (by omega) e0
      exact ⟨by omega, z3, z4, z2, z5, z1, e0⟩
    obtain ⟨z1, z2, z3, rfl, rfl, rfl, rfl⟩ := z
    exact ⟨z1, z2, z3, by omega⟩
  · rw [h] at ha hb hc hd ha' hb' hc' hd' e
    simp only [names, Bool.false_eq_true, false_and, or_false, true_and] at ha hb hc ha' hb' hc'
    simp only [fitsB, Bool.and_eq_true, decide_eq_true_eq] at hd hd'
    simp only [immW] at e
    have q1 : 0 ≤ d / 2 % 1024 ∧ d / 2 % 1024 < 1024 := by omega
    have q2 : 0 ≤ d / 2048 % 2 ∧ d / 2048 % 2 < 2 := by omega
    have q3 : 0 ≤ d / 4096 % 256 ∧ d / 4096 % 256 < 256 := by omega
    have q4 : 0 ≤ d / 1048576 % 2 ∧ d / 1048576 % 2 < 2 := by omega
    have q5 := j_split hd.1.1 hd.1.2 hd.2
    have q1' : 0 ≤ d' / 2 % 1024 ∧ d' / 2 % 1024 < 1024 := by omega
    have q2' : 0 ≤ d' / 2048 % 2 ∧ d' / 2048 % 2 < 2 := by omega
    have q3' : 0 ≤ d' / 4096 % 256 ∧ d' / 4096 % 256 < 256 := by omega
    have q4' : 0 ≤ d' / 1048576 % 2 ∧ d' / 1048576 % 2 < 2 := by omega
    have q5' := j_split hd'.1.1 hd'.1.2 hd'.2
    generalize d / 2 % 1024 = p1 at q1 q5 e
    generalize d / 2048 % 2 = p2 at q2 q5 e
    generalize d / 4096 % 256 = p3 at q3 q5 e
    generalize d / 1048576 % 2 = p4 at q4 q5 e
    generalize d' / 2 % 1024 = p1' at q1' q5' e
    generalize d' / 2048 % 2 = p2' at q2' q5' e
    generalize d' / 4096 % 256 = p3' at q3' q5' e
    generalize d' / 1048576 % 2 = p4' at q4' q5' e
    clear hd hd'
    have z : a = a' ∧ b = b' ∧ c = c' ∧ p1 = p1' ∧ p2 = p2' ∧ p3 = p3' ∧ p4 = p4' := by
      have e0 : a + 32 * (p3 + 256 * (p2 + 2 * (p1 + 1024 * p4))) = a' + 32 * (p3' + 256 * (p2' + 2 * (p1' + 1024 * p4'))) := by omega
      obtain ⟨z1, e0⟩ := radix (by omega) (by omega) (by omega) (by omega) e0
      obtain ⟨z2, e0⟩ := radix (by omega) (by omega) (by omega) (by omega) e0
      obtain ⟨z3, e0⟩ := radix (by omega) (by omega) (by omega) (by omega) e0
      obtain ⟨z4, e0⟩ := radix (by omega) (by omega) (by omega) (by omega) e0
      exact ⟨z1, by omega, by omega, z4, z3, z2, e0⟩
    obtain ⟨z1, z2, z3, rfl, rfl, rfl, rfl⟩ := z
    exact ⟨z1, z2, z3, by omega⟩

theorem word_inj (r r' : RvRow) (hr : r ∈ rvRows) (hr' : r' ∈ rvRows) (a b c d a' b' c' d' : Int) (h : RvOk r a b c d) (h' : RvOk r' a' b' c' d') (e : rvWord r a b c d = rvWord r' a' b' c' d') :
    r = r' ∧ a = a' ∧ b = b' ∧ c = c' ∧ d = d' := by
  have k := word_key r hr a b c d h
  rw [e, word_key r' hr' a' b' c' d' h'] at k
  have er := key_inj r hr r' hr' k.symm
  subst er
  exact ⟨rfl, word_fields r hr a b c d a' b' c' d' h h' e⟩

theorem enc_ok {op a b c d w : Int} (h : rvEnc op a b c d = (w, 0)) : ∃ r ∈ rvRows, r.op = op ∧ RvOk r a b c d ∧ w = rvWord r a b c d := by
  unfold rvEnc at h
  cases hrow : rowOf rvRows op with
  | none => rw [hrow] at h; simp at h
  | some r =>
    rw [hrow] at h
    obtain ⟨hr, ho⟩ := rowOf_some hrow
    simp only at h
    split at h
    · rename_i hg
      simp only [Bool.and_eq_true] at hg
      split at h
      · rename_i hf
        simp only [Prod.mk.injEq, and_true] at h
        exact ⟨r, hr, ho, ⟨hg.1.1, hg.1.2, hg.2, hf⟩, h.symm⟩
      · simp at h
    · simp at h

theorem enc_inj {op a b c d w op' a' b' c' d' w' : Int} (h : rvEnc op a b c d = (w, 0)) (h' : rvEnc op' a' b' c' d' = (w', 0)) : w = w' ↔ op = op' ∧ a = a' ∧ b = b' ∧ c = c' ∧ d = d' := by
  constructor
  · intro e
    obtain ⟨r, hr, ho, hk, hw⟩ := enc_ok h
    obtain ⟨r', hr', ho', hk', hw'⟩ := enc_ok h'
    obtain ⟨er, e1, e2, e3, e4⟩ := word_inj r r' hr hr' a b c d a' b' c' d' hk hk' (by rw [← hw, ← hw', e])
    exact ⟨by rw [← ho, ← ho', er], e1, e2, e3, e4⟩
  · rintro ⟨rfl, rfl, rfl, rfl, rfl⟩
    rw [h] at h'
    exact (Prod.mk.inj h').1

end Go.Proofs.Ytiljkmcahkphiaa.Rv
