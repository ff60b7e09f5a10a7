/- What is written is read back as it was. -/
import Derived.Test.YtajcmjjgnbaahaaDoorAp1
namespace Go.Proofs.YtajcmjjgnbaahaaDoor.Amd
open Go
set_option linter.unusedVariables false
set_option linter.unusedSimpArgs false

section
variable {g : Nat → Int} {len i : Nat}

theorem some_eq {y y' : AI} {e e' : Nat} (h : y = y') (h' : e = e') : some (y, e) = some (y', e') := by rw [h, h']

theorem back_two {op c : Int} {w : Bool} {s d : Int} (hc : c / 16 ≠ 4) (hcode : ∀ p j, j < len → g j / 64 = 3 → decC g len p c j = dTwo g len op p j)
    (hs : badReg s = false) (hd : badReg d = false) (hr : reads g i (withP (pfx w s d) [c, pairB 3 s d])) (hl : i + (withP (pfx w s d) [c, pairB 3 s d]).length ≤ len) :
    amdDec g len i = some (⟨op, w, false, d, s, 0, 0, 0⟩, i + (withP (pfx w s d) [c, pairB 3 s d]).length) := by
  obtain ⟨j, e, r1, r2, r3⟩ := dec_pfx (pfx_ok w s d) hc hr hl
  simp only [reads] at r1
  simp only [List.length_cons, List.length_nil] at r2 r3
  obtain ⟨q1, q2, q3⟩ := pairB_pr (p := pfx w s d) r1.1
  rw [e, hcode _ _ (by omega) q3]
  unfold dTwo
  rw [if_pos ⟨by omega, q3⟩, q1, q2, pfx_W, pfx_R _ _ hs, pfx_B _ _ hd]
  exact some_eq rfl r2
theorem back_imul {w : Bool} {s d : Int} (hs : badReg s = false) (hd : badReg d = false) (hr : reads g i (withP (pfx w d s) [15, 175, pairB 3 d s])) (hl : i + (withP (pfx w d s) [15, 175, pairB 3 d s]).length ≤ len) :
    amdDec g len i = some (⟨13, w, false, d, s, 0, 0, 0⟩, i + (withP (pfx w d s) [15, 175, pairB 3 d s]).length) := by
  obtain ⟨j, e, r1, r2, r3⟩ := dec_pfx (pfx_ok w d s) (by decide) hr hl
  simp only [reads] at r1
  simp only [List.length_cons, List.length_nil] at r2 r3
  obtain ⟨q1, q2, q3⟩ := pairB_pr (p := pfx w d s) r1.2.1
  rw [e]
  unfold decC
  rw [if_pos ⟨rfl, by omega⟩, if_pos r1.1]
  unfold dImul
  rw [if_pos ⟨by omega, q3⟩, q1, q2, pfx_W, pfx_R _ _ hd, pfx_B _ _ hs]
  exact some_eq rfl r2
theorem back_one {op c n : Int} {w : Bool} {d : Int} (hn : n % 8 = n) (hc : c / 16 ≠ 4) (hcode : ∀ p j, j < len → g j / 8 % 8 = n → decC g len p c j = dOne g len op p j)
    (hd : badReg d = false) (hr : reads g i (withP (pfx w 0 d) [c, pairB 3 n d])) (hl : i + (withP (pfx w 0 d) [c, pairB 3 n d]).length ≤ len) :
    amdDec g len i = some (⟨op, w, false, d, 0, 0, 0, 0⟩, i + (withP (pfx w 0 d) [c, pairB 3 n d]).length) := by
  obtain ⟨j, e, r1, r2, r3⟩ := dec_pfx (pfx_ok w 0 d) hc hr hl
  simp only [reads] at r1
  simp only [List.length_cons, List.length_nil] at r2 r3
  obtain ⟨q1, q2, q3⟩ := pairB_pr (p := pfx w 0 d) r1.1
  have hq := pairB_parts 3 n d
  rw [e, hcode _ _ (by omega) (by rw [r1.1, hq.2.1, hn])]
  unfold dOne
  rw [if_pos ⟨pfx_noR _ _, by omega, q3⟩, q2, pfx_W, pfx_B _ _ hd]
  exact some_eq rfl r2
theorem back_imm {op n : Int} {w long : Bool} {d v : Int} (hn : n % 8 = n) (hcode : ∀ p c j, c = 131 ∨ c = 129 → j < len → g j / 8 % 8 = n → decC g len p c j = dImm g len op p c j)
    (hd : badReg d = false) (hv : numOk v long) (hr : reads g i (withP (pfx w 0 d) ((if long = true then 129 else 131) :: pairB 3 n d :: numB v long))) (hl : i + (withP (pfx w 0 d) ((if long = true then 129 else 131) :: pairB 3 n d :: numB v long)).length ≤ len) :
    amdDec g len i = some (⟨op, w, long, d, 0, 0, v, 0⟩, i + (withP (pfx w 0 d) ((if long = true then 129 else 131) :: pairB 3 n d :: numB v long)).length) := by
  obtain ⟨j, e, r1, r2, r3⟩ := dec_pfx (pfx_ok w 0 d) (by split <;> decide) hr hl
  simp only [reads] at r1
  simp only [List.length_cons] at r2 r3
  obtain ⟨q1, q2, q3⟩ := pairB_pr (p := pfx w 0 d) r1.1
  have hq := pairB_parts 3 n d
  obtain ⟨v1, v2⟩ := num_read r1.2 hv
  have hlong : decide ((if long = true then (129 : Int) else 131) = 129) = long := by cases long <;> decide
  rw [e, hcode _ _ _ (by cases long <;> simp) (by omega) (by rw [r1.1, hq.2.1, hn])]
  unfold dImm
  rw [hlong, if_pos ⟨pfx_noR _ _, by omega, q3, by omega⟩, q2, pfx_W, pfx_B _ _ hd, v1]
  exact some_eq rfl (by omega)
theorem back_stack {op c : Int} {d : Int} (hc : c = 80 ∨ c = 88) (hcode : ∀ p b j, 0 ≤ b → b < 8 → decC g len p (c + b) j = dStack op p (c + b) j)
    (hd : badReg d = false) (hr : reads g i (withP (pfx false 0 d) [c + d % 8])) (hl : i + (withP (pfx false 0 d) [c + d % 8]).length ≤ len) :
    amdDec g len i = some (⟨op, false, false, d, 0, 0, 0, 0⟩, i + (withP (pfx false 0 d) [c + d % 8]).length) := by
  obtain ⟨j, e, r1, r2, r3⟩ := dec_pfx (pfx_ok false 0 d) (by omega) hr hl
  simp only [List.length_nil] at r2 r3
  rw [e, hcode _ _ _ (by omega) (by omega)]
  unfold dStack
  rw [if_pos (pfx_noWR d), show (c + d % 8) % 8 = d % 8 by omega, pfx_B _ _ hd]
  exact some_eq rfl r2
theorem back_mov {d v : Int} (hd : badReg d = false) (h0 : 0 ≤ v) (h1 : v ≤ 4294967295) (hr : reads g i (withP (pfx false 0 d) ((184 + d % 8) :: le4 v))) (hl : i + (withP (pfx false 0 d) ((184 + d % 8) :: le4 v)).length ≤ len) :
    amdDec g len i = some (⟨1, false, false, d, 0, 0, v, 0⟩, i + (withP (pfx false 0 d) ((184 + d % 8) :: le4 v)).length) := by
  obtain ⟨j, e, r1, r2, r3⟩ := dec_pfx (pfx_ok false 0 d) (by omega) hr hl
  have r4 := u4_read r1 h0 h1
  rw [show (le4 v).length = 4 from rfl] at r2 r3
  rw [e]
  unfold decC
  rw [if_neg (by omega), if_pos (by omega)]
  unfold dMov
  rw [if_pos ⟨pfx_noWR d, by omega⟩, show (184 + d % 8) % 8 = d % 8 by omega, pfx_B _ _ hd, r4]
  exact some_eq rfl r2
theorem mem_read {mm : Bool} {r b v p : Int} {j : Nat} (hv : numOk v mm) (hr : reads g j (memB r b v mm)) (hl : j + (memB r b v mm).length ≤ len) :
    memOk g len j ∧ memL g j = mm ∧ pr g j p = r % 8 + hiR p ∧ pb g j p = b % 8 + hiB p ∧ memD g j = v ∧ memEnd g j = j + (memB r b v mm).length := by
  simp only [memB, reads, List.length_cons, List.length_append] at hr hl ⊢
  rw [reads_append] at hr
  obtain ⟨q1, q2, q3⟩ := pairB_pr (p := p) hr.1
  have hq := pairB_parts (if mm = true then 2 else 1) r b
  have e1 : memL g j = mm := by unfold memL; rw [q3]; cases mm <;> decide
  have e2 : sib g j = (if b % 8 = 4 then [(36 : Int)] else []).length := by
    unfold sib; rw [hr.1, hq.2.2]; split <;> rfl
  obtain ⟨v1, v2⟩ := num_read hr.2.2 hv
  have e3 : memEnd g j = j + ((if b % 8 = 4 then [(36 : Int)] else []).length + (numB v mm).length + 1) := by
    unfold memEnd; rw [e1, e2, v2]; omega
  refine ⟨⟨by omega, by rw [q3]; cases mm <;> simp, fun h => ?_, by rw [e3]; omega⟩, e1, q1, q2, ?_, e3⟩
  · rw [hr.1, hq.2.2] at h
    have h2 := hr.2.1
    rw [if_pos h] at h2 hl
    simp only [reads, List.length_cons, List.length_nil] at h2 hl
    exact ⟨by omega, h2.1⟩
  · unfold memD
    rw [e1, e2]; exact v1
theorem back_load {w long : Bool} {s d v : Int} (hs : badReg s = false) (hd : badReg d = false) (hv : numOk v long) (hr : reads g i (withP (pfx w d s) (139 :: memB d s v long))) (hl : i + (withP (pfx w d s) (139 :: memB d s v long)).length ≤ len) :
    amdDec g len i = some (⟨3, w, long, d, s, v, 0, 0⟩, i + (withP (pfx w d s) (139 :: memB d s v long)).length) := by
  obtain ⟨j, e, r1, r2, r3⟩ := dec_pfx (pfx_ok w d s) (by decide) hr hl
  obtain ⟨m1, m2, m3, m4, m5, m6⟩ := mem_read (p := pfx w d s) hv r1 r3
  rw [e]
  have hcode : ∀ p j, decC g len p 139 j = dLoad g len p j := fun p j => by unfold decC; simp
  rw [hcode]
  unfold dLoad
  rw [if_pos m1, m2, m3, m4, m5, m6, pfx_W, pfx_R _ _ hd, pfx_B _ _ hs]
  exact some_eq rfl r2
theorem back_store {w long : Bool} {s d v : Int} (hs : badReg s = false) (hd : badReg d = false) (hv : numOk v long) (hr : reads g i (withP (pfx w s d) (137 :: memB s d v long))) (hl : i + (withP (pfx w s d) (137 :: memB s d v long)).length ≤ len) :
    amdDec g len i = some (⟨4, w, long, d, s, v, 0, 0⟩, i + (withP (pfx w s d) (137 :: memB s d v long)).length) := by
  obtain ⟨j, e, r1, r2, r3⟩ := dec_pfx (pfx_ok w s d) (by decide) hr hl
  obtain ⟨m1, m2, m3, m4, m5, m6⟩ := mem_read (p := pfx w s d) hv r1 r3
  rw [e]
  have hcode : ∀ p j, ¬ ahead g len j / 64 = 3 → decC g len p 137 j = dStore g len p j := fun p j h => by unfold decC; simp [h]
  rw [hcode _ _ (by unfold ahead; rw [if_pos m1.1]; have := m1.2.1; omega)]
  unfold dStore
  rw [if_pos m1, m2, m3, m4, m5, m6, pfx_W, pfx_R _ _ hs, pfx_B _ _ hd]
  exact some_eq rfl r2
theorem dec_bare {c : Int} {r : List Int} (hc : c / 16 ≠ 4) (hr : reads g i (c :: r)) (hl : i + (c :: r).length ≤ len) : amdDec g len i = decC g len 0 c (i + 1) := by
  simp only [List.length_cons] at hl
  unfold amdDec
  rw [if_neg (by omega), hr.1, if_neg hc]
theorem back_jmp {long : Bool} {v : Int} (hv : numOk v long) (hr : reads g i ((if long = true then 233 else 235) :: numB v long)) (hl : i + ((if long = true then 233 else 235) :: numB v long).length ≤ len) :
    amdDec g len i = some (⟨25, false, long, 0, 0, 0, v, 0⟩, i + ((if long = true then (233 : Int) else 235) :: numB v long).length) := by
  rw [dec_bare (by split <;> decide) hr hl]
  have hr' := hr.2
  obtain ⟨v1, v2⟩ := num_read hr' hv
  simp only [List.length_cons] at hl ⊢
  have hcode : ∀ p c j, c = 235 ∨ c = 233 → decC g len p c j = dJmp g len p c j := fun p c j h => by unfold decC; rcases h with rfl | rfl <;> simp
  have hlong : decide ((if long = true then (233 : Int) else 235) = 233) = long := by cases long <;> decide
  rw [hcode _ _ _ (by cases long <;> simp)]
  unfold dJmp
  rw [hlong, if_pos ⟨rfl, by omega⟩, v1]
  exact some_eq rfl (by omega)
theorem back_jcc {long : Bool} {v cc : Int} (hcc : ¬ (cc < 2 ∨ 7 < cc)) (hv : numOk v long) (hr : reads g i (if long = true then 15 :: (128 + cc) :: numB v true else (112 + cc) :: numB v false))
    (hl : i + (if long = true then 15 :: (128 + cc) :: numB v true else (112 + cc) :: numB v false).length ≤ len) :
    amdDec g len i = some (⟨26, false, long, 0, 0, 0, v, cc⟩, i + (if long = true then 15 :: (128 + cc) :: numB v true else (112 + cc) :: numB v false).length) := by
  cases long with
  | true =>
    rw [if_pos rfl] at hr hl
    rw [if_pos rfl]
    rw [dec_bare (by decide) hr hl]
    have hr' := hr.2
    simp only [reads] at hr'
    obtain ⟨v1, v2⟩ := num_read hr'.2 hv
    simp only [List.length_cons] at hl ⊢
    unfold decC
    rw [if_pos ⟨rfl, by omega⟩, if_neg (by omega), if_pos (by omega)]
    unfold dJcc
    rw [show g (i + 1) % 16 = cc by omega, if_pos ⟨rfl, by omega, by omega, by omega⟩, v1]
    exact some_eq rfl (by omega)
  | false =>
    simp only [Bool.false_eq_true, if_false] at hr hl ⊢
    rw [dec_bare (by omega) hr hl]
    have hr' := hr.2
    obtain ⟨v1, v2⟩ := num_read hr' hv
    simp only [List.length_cons] at hl ⊢
    unfold decC
    rw [if_neg (by omega), if_neg (by omega), if_neg (by omega), if_neg (by omega), if_pos (by omega)]
    unfold dJcc
    rw [show (112 + cc) % 16 = cc by omega, if_pos ⟨rfl, by omega, by omega, by omega⟩, v1]
    exact some_eq rfl (by omega)
theorem back_ret (hr : reads g i [195]) (hl : i + [(195 : Int)].length ≤ len) : amdDec g len i = some (⟨27, false, false, 0, 0, 0, 0, 0⟩, i + [(195 : Int)].length) := by
  rw [dec_bare (by decide) hr hl]
  unfold decC
  simp [dRet]
end

/-- Operations by their forms. -/
def ofForm : Form → Int → Prop
  | .movImm, o => o = 1
  | .two c, o => o = 2 ∧ c = 137 ∨ o = 5 ∧ c = 1 ∨ o = 6 ∧ c = 9 ∨ o = 7 ∧ c = 33 ∨ o = 8 ∧ c = 41 ∨ o = 9 ∧ c = 49 ∨ o = 10 ∧ c = 57 ∨ o = 11 ∧ c = 133 ∨ o = 12 ∧ c = 135
  | .load, o => o = 3
  | .store, o => o = 4
  | .imul, o => o = 13
  | .imm n, o => o = 14 ∧ n = 0 ∨ o = 15 ∧ n = 5 ∨ o = 16 ∧ n = 7 ∨ o = 17 ∧ n = 4
  | .one c n, o => o = 18 ∧ c = 247 ∧ n = 3 ∨ o = 19 ∧ c = 247 ∧ n = 2 ∨ o = 20 ∧ c = 247 ∧ n = 6 ∨ o = 21 ∧ c = 211 ∧ n = 4 ∨ o = 22 ∧ c = 211 ∧ n = 5
  | .stack c, o => o = 23 ∧ c = 80 ∨ o = 24 ∧ c = 88
  | .jmp, o => o = 25
  | .jcc, o => o = 26
  | .ret, o => o = 27
theorem formOf_none {o : Int} (h : ¬ (1 ≤ o ∧ o ≤ 27)) : formOf o = none := by
  unfold formOf
  iterate 27 rw [if_neg (by omega)]
theorem form_of {o : Int} {f : Form} (h : formOf o = some f) : ofForm f o := by
  by_cases hr : 1 ≤ o ∧ o ≤ 27
  · have hc : o = 1 ∨ o = 2 ∨ o = 3 ∨ o = 4 ∨ o = 5 ∨ o = 6 ∨ o = 7 ∨ o = 8 ∨ o = 9 ∨ o = 10 ∨ o = 11 ∨ o = 12 ∨ o = 13 ∨ o = 14 ∨ o = 15 ∨ o = 16 ∨ o = 17 ∨ o = 18 ∨ o = 19 ∨ o = 20 ∨ o = 21 ∨ o = 22 ∨ o = 23 ∨ o = 24 ∨ o = 25 ∨ o = 26 ∨ o = 27 := by omega
    rcases hc with rfl | rfl | rfl | rfl | rfl | rfl | rfl | rfl | rfl | rfl | rfl | rfl | rfl | rfl | rfl | rfl | rfl | rfl | rfl | rfl | rfl | rfl | rfl | rfl | rfl | rfl | rfl <;> (obtain rfl := Option.some.inj (show some _ = some f from h); simp [ofForm])
  · rw [formOf_none hr] at h; cases h

theorem two_code {g : Nat → Int} {len : Nat} {o c : Int} (h : ofForm (.two c) o) : c / 16 ≠ 4 ∧ ∀ p j, j < len → g j / 64 = 3 → decC g len p c j = dTwo g len o p j := by
  simp only [ofForm] at h
  rcases h with ⟨rfl, rfl⟩ | ⟨rfl, rfl⟩ | ⟨rfl, rfl⟩ | ⟨rfl, rfl⟩ | ⟨rfl, rfl⟩ | ⟨rfl, rfl⟩ | ⟨rfl, rfl⟩ | ⟨rfl, rfl⟩ | ⟨rfl, rfl⟩ <;>
    exact ⟨by decide, fun p j h1 h2 => by unfold decC ahead; simp [h1, h2]⟩
theorem imm_code {g : Nat → Int} {len : Nat} {o n : Int} (h : ofForm (.imm n) o) : n % 8 = n ∧ ∀ p c j, c = 131 ∨ c = 129 → j < len → g j / 8 % 8 = n → decC g len p c j = dImm g len o p c j := by
  simp only [ofForm] at h
  rcases h with ⟨rfl, rfl⟩ | ⟨rfl, rfl⟩ | ⟨rfl, rfl⟩ | ⟨rfl, rfl⟩ <;>
    exact ⟨by decide, fun p c j hc h1 h2 => by rcases hc with rfl | rfl <;> unfold decC ahead <;> simp [h1, h2]⟩
theorem one_code {g : Nat → Int} {len : Nat} {o c n : Int} (h : ofForm (.one c n) o) : n % 8 = n ∧ c / 16 ≠ 4 ∧ ∀ p j, j < len → g j / 8 % 8 = n → decC g len p c j = dOne g len o p j := by
  simp only [ofForm] at h
  rcases h with ⟨rfl, rfl, rfl⟩ | ⟨rfl, rfl, rfl⟩ | ⟨rfl, rfl, rfl⟩ | ⟨rfl, rfl, rfl⟩ | ⟨rfl, rfl, rfl⟩ <;>
    exact ⟨by decide, by decide, fun p j h1 h2 => by unfold decC ahead; simp [h1, h2]⟩
theorem stack_code {g : Nat → Int} {len : Nat} {o c : Int} (h : ofForm (.stack c) o) : (c = 80 ∨ c = 88) ∧ ∀ p b j, 0 ≤ b → b < 8 → decC g len p (c + b) j = dStack o p (c + b) j := by
  simp only [ofForm] at h
  rcases h with ⟨rfl, rfl⟩ | ⟨rfl, rfl⟩
  · exact ⟨.inl rfl, fun p b j h1 h2 => by unfold decC; rw [if_neg (by omega), if_neg (by omega), if_pos (by omega)]⟩
  · exact ⟨.inr rfl, fun p b j h1 h2 => by unfold decC; rw [if_neg (by omega), if_neg (by omega), if_neg (by omega), if_pos (by omega)]⟩
theorem if_zero {p : Prop} [Decidable p] {a b : Int} (ha : a ≠ 0) (h : (if p then a else b) = 0) : ¬ p ∧ b = 0 := by
  split at h
  · exact absurd h ha
  · exact ⟨by assumption, h⟩
theorem if_one {p : Prop} [Decidable p] {a : Int} (ha : a ≠ 0) (h : (if p then 0 else a) = 0) : p := by
  split at h
  · assumption
  · exact absurd h ha
theorem not_bad {r : Int} (h : ¬ badReg r = true) : badReg r = false := by simpa using h

/-- What is written is read, with the fields that count. -/
theorem dec_enc {g : Nat → Int} {len i : Nat} {x : AI} (he : amdErr x = 0) (hr : reads g i (amdBytes x)) (hl : i + (amdBytes x).length ≤ len) : amdDec g len i = some (plain x, i + (amdBytes x).length) := by
  unfold amdErr at he
  unfold amdBytes plain at *
  cases hf : formOf x.op with
  | none => rw [hf] at he; simp at he
  | some f =>
    have ho := form_of hf
    rw [hf] at he hr hl
    simp only at he hr hl ⊢
    obtain ⟨o, w, lg, d, s, dp, im, cc⟩ := x
    cases f with
    | movImm =>
      simp only [ofForm] at ho
      subst ho
      simp only [encE] at he
      obtain ⟨h1, h2⟩ := if_zero (by decide) he
      obtain ⟨h3, _⟩ := if_zero (by decide) h2
      exact back_mov (not_bad h1) (by dsimp only; omega) (by dsimp only; omega) hr hl
    | two c =>
      simp only [encE] at he
      obtain ⟨h1, _⟩ := if_zero (by decide) he
      obtain ⟨c1, c2⟩ := two_code (g := g) (len := len) ho
      exact back_two c1 c2 (not_bad fun h => h1 (.inl h)) (not_bad fun h => h1 (.inr h)) hr hl
    | load =>
      simp only [ofForm] at ho
      subst ho
      simp only [encE] at he
      obtain ⟨h1, h2⟩ := if_zero (by decide) he
      exact back_load (not_bad fun h => h1 (.inr h)) (not_bad fun h => h1 (.inl h)) (if_one (by decide) h2) hr hl
    | store =>
      simp only [ofForm] at ho
      subst ho
      simp only [encE] at he
      obtain ⟨h1, h2⟩ := if_zero (by decide) he
      exact back_store (not_bad fun h => h1 (.inr h)) (not_bad fun h => h1 (.inl h)) (if_one (by decide) h2) hr hl
    | imul =>
      simp only [ofForm] at ho
      subst ho
      simp only [encE] at he
      obtain ⟨h1, _⟩ := if_zero (by decide) he
      exact back_imul (not_bad fun h => h1 (.inl h)) (not_bad fun h => h1 (.inr h)) hr hl
    | imm n =>
      simp only [encE] at he
      obtain ⟨h1, h2⟩ := if_zero (by decide) he
      obtain ⟨c1, c2⟩ := imm_code (g := g) (len := len) ho
      exact back_imm c1 c2 (not_bad h1) (if_one (by decide) h2) hr hl
    | one c n =>
      simp only [encE] at he
      obtain ⟨h1, _⟩ := if_zero (by decide) he
      obtain ⟨c1, c2, c3⟩ := one_code (g := g) (len := len) ho
      exact back_one c1 c2 c3 (not_bad h1) hr hl
    | stack c =>
      simp only [encE] at he
      obtain ⟨h1, _⟩ := if_zero (by decide) he
      obtain ⟨c1, c2⟩ := stack_code (g := g) (len := len) ho
      exact back_stack c1 c2 (not_bad h1) hr hl
    | jmp =>
      simp only [ofForm] at ho
      subst ho
      simp only [encE] at he
      exact back_jmp (if_one (by decide) he) hr hl
    | jcc =>
      simp only [ofForm] at ho
      subst ho
      simp only [encE] at he
      obtain ⟨h1, h2⟩ := if_zero (by decide) he
      exact back_jcc h1 (if_one (by decide) h2) hr hl
    | ret =>
      simp only [ofForm] at ho
      subst ho
      exact back_ret hr hl
end Go.Proofs.YtajcmjjgnbaahaaDoor.Amd
