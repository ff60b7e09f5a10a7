/- What is written is read back as it was. -/
import Derived.Test.YtajcmjjgnbaahaaGreatAp1
set_option linter.unusedVariables false
set_option linter.unusedSimpArgs false
namespace Go.Proofs.YtajcmjjgnbaahaaGreat.Amd
open Go
section
variable {g : Nat -> Int} {len i : Nat}
theorem zCk {y y' : AI} {e e' : Nat} (h : y = y') (h' : e = e') : some (y, e) = some (y', e') := by rw [h, h']
theorem zTz {op c : Int} {w : Bool} {s d : Int} (hc : c / 16 ≠ 4) (hcode : ∀ p j, j < len -> g j / 64 = 3 -> decC g len p c j = dTwo g len op p j)
  (hs : zV s = false) (hd : zV d = false) (hr : zu g i (zAO (pfx w s d) [c, zAm 3 s d])) (hl : i + (zAO (pfx w s d) [c, zAm 3 s d]).length <= len) :
  zr g len i = some (⟨op, w, false, d, s, 0, 0, 0⟩, i + (zAO (pfx w s d) [c, zAm 3 s d]).length) := by
 obtain ⟨j, e, r1, r2, r3⟩ := zEU (zCQ w s d) hc hr hl
 simp only [zu] at r1
 simp only [List.length_cons, List.length_nil] at r2 r3
 obtain ⟨q1, q2, q3⟩ := zFo (p := pfx w s d) r1.1
 rw [e, hcode _ _ (by omega) q3]
 unfold dTwo
 rw [if_pos ⟨by omega, q3⟩, q1, q2, zHE, zLe _ _ hs, zEv _ _ hd]
 exact zCk rfl r2
theorem zSH {w : Bool} {s d : Int} (hs : zV s = false) (hd : zV d = false) (hr : zu g i (zAO (pfx w d s) [15, 175, zAm 3 d s])) (hl : i + (zAO (pfx w d s) [15, 175, zAm 3 d s]).length <= len) :
  zr g len i = some (⟨13, w, false, d, s, 0, 0, 0⟩, i + (zAO (pfx w d s) [15, 175, zAm 3 d s]).length) := by
 obtain ⟨j, e, r1, r2, r3⟩ := zEU (zCQ w d s) (by decide) hr hl
 simp only [zu] at r1
 simp only [List.length_cons, List.length_nil] at r2 r3
 obtain ⟨q1, q2, q3⟩ := zFo (p := pfx w d s) r1.2.1
 rw [e]
 unfold decC
 rw [if_pos ⟨rfl, by omega⟩, if_pos r1.1]
 unfold zTs
 rw [if_pos ⟨by omega, q3⟩, q1, q2, zHE, zLe _ _ hd, zEv _ _ hs]
 exact zCk rfl r2
theorem zT1 {op c n : Int} {w : Bool} {d : Int} (hn : n % 8 = n) (hc : c / 16 ≠ 4) (hcode : ∀ p j, j < len -> g j / 8 % 8 = n -> decC g len p c j = dOne g len op p j)
  (hd : zV d = false) (hr : zu g i (zAO (pfx w 0 d) [c, zAm 3 n d])) (hl : i + (zAO (pfx w 0 d) [c, zAm 3 n d]).length <= len) :
  zr g len i = some (⟨op, w, false, d, 0, 0, 0, 0⟩, i + (zAO (pfx w 0 d) [c, zAm 3 n d]).length) := by
 obtain ⟨j, e, r1, r2, r3⟩ := zEU (zCQ w 0 d) hc hr hl
 simp only [zu] at r1
 simp only [List.length_cons, List.length_nil] at r2 r3
 obtain ⟨q1, q2, q3⟩ := zFo (p := pfx w 0 d) r1.1
 have hq := zB2 3 n d
 rw [e, hcode _ _ (by omega) (by rw [r1.1, hq.2.1, hn])]
 unfold dOne
 rw [if_pos ⟨zQl _ _, by omega, q3⟩, q2, zHE, zEv _ _ hd]
 exact zCk rfl r2
theorem zT5 {op n : Int} {w long : Bool} {d v : Int} (hn : n % 8 = n) (hcode : ∀ p c j, c = 131 ∨ c = 129 -> j < len -> g j / 8 % 8 = n -> decC g len p c j = dImm g len op p c j)
  (hd : zV d = false) (hv : zAs v long) (hr : zu g i (zAO (pfx w 0 d) ((if long = true then 129 else 131) :: zAm 3 n d :: numB v long))) (hl : i + (zAO (pfx w 0 d) ((if long = true then 129 else 131) :: zAm 3 n d :: numB v long)).length <= len) :
  zr g len i = some (⟨op, w, long, d, 0, 0, v, 0⟩, i + (zAO (pfx w 0 d) ((if long = true then 129 else 131) :: zAm 3 n d :: numB v long)).length) := by
 obtain ⟨j, e, r1, r2, r3⟩ := zEU (zCQ w 0 d) (by split <;> decide) hr hl
 simp only [zu] at r1
 simp only [List.length_cons] at r2 r3
 obtain ⟨q1, q2, q3⟩ := zFo (p := pfx w 0 d) r1.1
 have hq := zB2 3 n d
 obtain ⟨v1, v2⟩ := zEk r1.2 hv
 have hlong : decide ((if long = true then (129 : Int) else 131) = 129) = long := by cases long <;> decide
 rw [e, hcode _ _ _ (by cases long <;> simp) (by omega) (by rw [r1.1, hq.2.1, hn])]
 unfold dImm
 rw [hlong, if_pos ⟨zQl _ _, by omega, q3, by omega⟩, q2, zHE, zEv _ _ hd, v1]
 exact zCk rfl (by omega)
theorem zPj {op c : Int} {d : Int} (hc : c = 80 ∨ c = 88) (hcode : ∀ p b j, 0 <= b -> b < 8 -> decC g len p (c + b) j = zIk op p (c + b) j)
  (hd : zV d = false) (hr : zu g i (zAO (pfx false 0 d) [c + d % 8])) (hl : i + (zAO (pfx false 0 d) [c + d % 8]).length <= len) :
  zr g len i = some (⟨op, false, false, d, 0, 0, 0, 0⟩, i + (zAO (pfx false 0 d) [c + d % 8]).length) := by
 obtain ⟨j, e, r1, r2, r3⟩ := zEU (zCQ false 0 d) (by omega) hr hl
 simp only [List.length_nil] at r2 r3
 rw [e, hcode _ _ _ (by omega) (by omega)]
 unfold zIk
 rw [if_pos (zNt d), show (c + d % 8) % 8 = d % 8 by omega, zEv _ _ hd]
 exact zCk rfl r2
theorem zT2 {d v : Int} (hd : zV d = false) (h0 : 0 <= v) (h1 : v <= 4294967295) (hr : zu g i (zAO (pfx false 0 d) ((184 + d % 8) :: le4 v))) (hl : i + (zAO (pfx false 0 d) ((184 + d % 8) :: le4 v)).length <= len) :
  zr g len i = some (⟨1, false, false, d, 0, 0, v, 0⟩, i + (zAO (pfx false 0 d) ((184 + d % 8) :: le4 v)).length) := by
 obtain ⟨j, e, r1, r2, r3⟩ := zEU (zCQ false 0 d) (by omega) hr hl
 have r4 := zPv r1 h0 h1
 rw [show (le4 v).length = 4 from rfl] at r2 r3
 rw [e]
 unfold decC
 rw [if_neg (by omega), if_pos (by omega)]
 unfold dMov
 rw [if_pos ⟨zNt d, by omega⟩, show (184 + d % 8) % 8 = d % 8 by omega, zEv _ _ hd, r4]
 exact zCk rfl r2
theorem zN8 {mm : Bool} {r b v p : Int} {j : Nat} (hv : zAs v mm) (hr : zu g j (memB r b v mm)) (hl : j + (memB r b v mm).length <= len) :
  zLn g len j /\ memL g j = mm /\ pr g j p = r % 8 + hiR p /\ pb g j p = b % 8 + hiB p /\ memD g j = v /\ zD3 g j = j + (memB r b v mm).length := by
 simp only [memB, zu, List.length_cons, List.length_append] at hr hl ⊢
 rw [zC7] at hr
 obtain ⟨q1, q2, q3⟩ := zFo (p := p) hr.1
 have hq := zB2 (if mm = true then 2 else 1) r b
 have e1 : memL g j = mm := by unfold memL; rw [q3]; cases mm <;> decide
 have e2 : sib g j = (if b % 8 = 4 then [(36 : Int)] else []).length := by
  unfold sib; rw [hr.1, hq.2.2]; split <;> rfl
 obtain ⟨v1, v2⟩ := zEk hr.2.2 hv
 have e3 : zD3 g j = j + ((if b % 8 = 4 then [(36 : Int)] else []).length + (numB v mm).length + 1) := by
  unfold zD3; rw [e1, e2, v2]; omega
 refine ⟨⟨by omega, by rw [q3]; cases mm <;> simp, fun h => ?_, by rw [e3]; omega⟩, e1, q1, q2, ?_, e3⟩
 ·rw [hr.1, hq.2.2] at h
  have h2 := hr.2.1
  rw [if_pos h] at h2 hl
  simp only [zu, List.length_cons, List.length_nil] at h2 hl
  exact ⟨by omega, h2.1⟩
 ·unfold memD
  rw [e1, e2]; exact v1
theorem zSG {w long : Bool} {s d v : Int} (hs : zV s = false) (hd : zV d = false) (hv : zAs v long) (hr : zu g i (zAO (pfx w d s) (139 :: memB d s v long))) (hl : i + (zAO (pfx w d s) (139 :: memB d s v long)).length <= len) :
  zr g len i = some (⟨3, w, long, d, s, v, 0, 0⟩, i + (zAO (pfx w d s) (139 :: memB d s v long)).length) := by
 obtain ⟨j, e, r1, r2, r3⟩ := zEU (zCQ w d s) (by decide) hr hl
 obtain ⟨m1, m2, m3, m4, m5, m6⟩ := zN8 (p := pfx w d s) hv r1 r3
 rw [e]
 have hcode : ∀ p j, decC g len p 139 j = zR8 g len p j := fun p j => by unfold decC; simp
 rw [hcode]
 unfold zR8
 rw [if_pos m1, m2, m3, m4, m5, m6, zHE, zLe _ _ hd, zEv _ _ hs]
 exact zCk rfl r2
theorem zPi {w long : Bool} {s d v : Int} (hs : zV s = false) (hd : zV d = false) (hv : zAs v long) (hr : zu g i (zAO (pfx w s d) (137 :: memB s d v long))) (hl : i + (zAO (pfx w s d) (137 :: memB s d v long)).length <= len) :
  zr g len i = some (⟨4, w, long, d, s, v, 0, 0⟩, i + (zAO (pfx w s d) (137 :: memB s d v long)).length) := by
 obtain ⟨j, e, r1, r2, r3⟩ := zEU (zCQ w s d) (by decide) hr hl
 obtain ⟨m1, m2, m3, m4, m5, m6⟩ := zN8 (p := pfx w s d) hv r1 r3
 rw [e]
 have hcode : ∀ p j, ¬ zCO g len j / 64 = 3 -> decC g len p 137 j = zMF g len p j := fun p j h => by unfold decC; simp [h]
 rw [hcode _ _ (by unfold zCO; rw [if_pos m1.1]; have := m1.2.1; omega)]
 unfold zMF
 rw [if_pos m1, m2, m3, m4, m5, m6, zHE, zLe _ _ hs, zEv _ _ hd]
 exact zCk rfl r2
theorem zHY {c : Int} {r : List Int} (hc : c / 16 ≠ 4) (hr : zu g i (c :: r)) (hl : i + (c :: r).length <= len) : zr g len i = decC g len 0 c (i + 1) := by
 simp only [List.length_cons] at hl
 unfold zr
 rw [if_neg (by omega), hr.1, if_neg hc]
theorem zT3 {long : Bool} {v : Int} (hv : zAs v long) (hr : zu g i ((if long = true then 233 else 235) :: numB v long)) (hl : i + ((if long = true then 233 else 235) :: numB v long).length <= len) :
  zr g len i = some (⟨25, false, long, 0, 0, 0, v, 0⟩, i + ((if long = true then (233 : Int) else 235) :: numB v long).length) := by
 rw [zHY (by split <;> decide) hr hl]
 have hr' := hr.2
 obtain ⟨v1, v2⟩ := zEk hr' hv
 simp only [List.length_cons] at hl ⊢
 have hcode : ∀ p c j, c = 235 ∨ c = 233 -> decC g len p c j = dJmp g len p c j := fun p c j h => by unfold decC; rcases h with rfl | rfl <;> simp
 have hlong : decide ((if long = true then (233 : Int) else 235) = 233) = long := by cases long <;> decide
 rw [hcode _ _ _ (by cases long <;> simp)]
 unfold dJmp
 rw [hlong, if_pos ⟨rfl, by omega⟩, v1]
 exact zCk rfl (by omega)
theorem zT4 {long : Bool} {v cc : Int} (hcc : ¬ (cc < 2 ∨ 7 < cc)) (hv : zAs v long) (hr : zu g i (if long = true then 15 :: (128 + cc) :: numB v true else (112 + cc) :: numB v false))
  (hl : i + (if long = true then 15 :: (128 + cc) :: numB v true else (112 + cc) :: numB v false).length <= len) :
  zr g len i = some (⟨26, false, long, 0, 0, 0, v, cc⟩, i + (if long = true then 15 :: (128 + cc) :: numB v true else (112 + cc) :: numB v false).length) := by
 cases long with
 | true =>
  rw [if_pos rfl] at hr hl
  rw [if_pos rfl]
  rw [zHY (by decide) hr hl]
  have hr' := hr.2
  simp only [zu] at hr'
  obtain ⟨v1, v2⟩ := zEk hr'.2 hv
  simp only [List.length_cons] at hl ⊢
  unfold decC
  rw [if_pos ⟨rfl, by omega⟩, if_neg (by omega), if_pos (by omega)]
  unfold dJcc
  rw [show g (i + 1) % 16 = cc by omega, if_pos ⟨rfl, by omega, by omega, by omega⟩, v1]
  exact zCk rfl (by omega)
 | false =>
  simp only [Bool.false_eq_true, if_false] at hr hl ⊢
  rw [zHY (by omega) hr hl]
  have hr' := hr.2
  obtain ⟨v1, v2⟩ := zEk hr' hv
  simp only [List.length_cons] at hl ⊢
  unfold decC
  rw [if_neg (by omega), if_neg (by omega), if_neg (by omega), if_neg (by omega), if_pos (by omega)]
  unfold dJcc
  rw [show (112 + cc) % 16 = cc by omega, if_pos ⟨rfl, by omega, by omega, by omega⟩, v1]
  exact zCk rfl (by omega)
theorem zT0 (hr : zu g i [195]) (hl : i + [(195 : Int)].length <= len) : zr g len i = some (⟨27, false, false, 0, 0, 0, 0, 0⟩, i + [(195 : Int)].length) := by
 rw [zHY (by decide) hr hl]
 unfold decC
 simp [dRet]
end
def zBT : Form -> Int -> Prop
 | .movImm, o => o = 1
 | .two c, o => o = 2 /\ c = 137 ∨ o = 5 /\ c = 1 ∨ o = 6 /\ c = 9 ∨ o = 7 /\ c = 33 ∨ o = 8 /\ c = 41 ∨ o = 9 /\ c = 49 ∨ o = 10 /\ c = 57 ∨ o = 11 /\ c = 133 ∨ o = 12 /\ c = 135
 | .load, o => o = 3
 | .store, o => o = 4
 | .imul, o => o = 13
 | .imm n, o => o = 14 /\ n = 0 ∨ o = 15 /\ n = 5 ∨ o = 16 /\ n = 7 ∨ o = 17 /\ n = 4
 | .one c n, o => o = 18 /\ c = 247 /\ n = 3 ∨ o = 19 /\ c = 247 /\ n = 2 ∨ o = 20 /\ c = 247 /\ n = 6 ∨ o = 21 /\ c = 211 /\ n = 4 ∨ o = 22 /\ c = 211 /\ n = 5
 | .stack c, o => o = 23 /\ c = 80 ∨ o = 24 /\ c = 88
 | .jmp, o => o = 25
 | .jcc, o => o = 26
 | .ret, o => o = 27
theorem zIW {o : Int} (h : ¬ (1 <= o /\ o <= 27)) : zA o = none := by
 unfold zA
 iterate 27 rw [if_neg (by omega)]
theorem zFR {o : Int} {f : Form} (h : zA o = some f) : zBT f o := by
 by_cases hr : 1 <= o /\ o <= 27
 ·have hc : o = 1 ∨ o = 2 ∨ o = 3 ∨ o = 4 ∨ o = 5 ∨ o = 6 ∨ o = 7 ∨ o = 8 ∨ o = 9 ∨ o = 10 ∨ o = 11 ∨ o = 12 ∨ o = 13 ∨ o = 14 ∨ o = 15 ∨ o = 16 ∨ o = 17 ∨ o = 18 ∨ o = 19 ∨ o = 20 ∨ o = 21 ∨ o = 22 ∨ o = 23 ∨ o = 24 ∨ o = 25 ∨ o = 26 ∨ o = 27 := by omega
  rcases hc with rfl | rfl | rfl | rfl | rfl | rfl | rfl | rfl | rfl | rfl | rfl | rfl | rfl | rfl | rfl | rfl | rfl | rfl | rfl | rfl | rfl | rfl | rfl | rfl | rfl | rfl | rfl <;> (obtain rfl := Option.some.inj (show some _ = some f from h); simp [zBT])
 ·rw [zIW hr] at h; cases h
theorem zNX {g : Nat -> Int} {len : Nat} {o c : Int} (h : zBT (.two c) o) : c / 16 ≠ 4 /\ ∀ p j, j < len -> g j / 64 = 3 -> decC g len p c j = dTwo g len o p j := by
 simp only [zBT] at h
 rcases h with ⟨rfl, rfl⟩ | ⟨rfl, rfl⟩ | ⟨rfl, rfl⟩ | ⟨rfl, rfl⟩ | ⟨rfl, rfl⟩ | ⟨rfl, rfl⟩ | ⟨rfl, rfl⟩ | ⟨rfl, rfl⟩ | ⟨rfl, rfl⟩ <;>
  exact ⟨by decide, fun p j h1 h2 => by unfold decC zCO; simp [h1, h2]⟩
theorem zTa {g : Nat -> Int} {len : Nat} {o n : Int} (h : zBT (.imm n) o) : n % 8 = n /\ ∀ p c j, c = 131 ∨ c = 129 -> j < len -> g j / 8 % 8 = n -> decC g len p c j = dImm g len o p c j := by
 simp only [zBT] at h
 rcases h with ⟨rfl, rfl⟩ | ⟨rfl, rfl⟩ | ⟨rfl, rfl⟩ | ⟨rfl, rfl⟩ <;>
  exact ⟨by decide, fun p c j hc h1 h2 => by rcases hc with rfl | rfl <;> unfold decC zCO <;> simp [h1, h2]⟩
theorem zNy {g : Nat -> Int} {len : Nat} {o c n : Int} (h : zBT (.one c n) o) : n % 8 = n /\ c / 16 ≠ 4 /\ ∀ p j, j < len -> g j / 8 % 8 = n -> decC g len p c j = dOne g len o p j := by
 simp only [zBT] at h
 rcases h with ⟨rfl, rfl, rfl⟩ | ⟨rfl, rfl, rfl⟩ | ⟨rfl, rfl, rfl⟩ | ⟨rfl, rfl, rfl⟩ | ⟨rfl, rfl, rfl⟩ <;>
  exact ⟨by decide, by decide, fun p j h1 h2 => by unfold decC zCO; simp [h1, h2]⟩
theorem zJK {g : Nat -> Int} {len : Nat} {o c : Int} (h : zBT (.stack c) o) : (c = 80 ∨ c = 88) /\ ∀ p b j, 0 <= b -> b < 8 -> decC g len p (c + b) j = zIk o p (c + b) j := by
 simp only [zBT] at h
 rcases h with ⟨rfl, rfl⟩ | ⟨rfl, rfl⟩
 ·exact ⟨.inl rfl, fun p b j h1 h2 => by unfold decC; rw [if_neg (by omega), if_neg (by omega), if_pos (by omega)]⟩
 ·exact ⟨.inr rfl, fun p b j h1 h2 => by unfold decC; rw [if_neg (by omega), if_neg (by omega), if_neg (by omega), if_pos (by omega)]⟩
theorem zAT {p : Prop} [Decidable p] {a b : Int} (ha : a ≠ 0) (h : (if p then a else b) = 0) : ¬ p /\ b = 0 := by
 split at h
 ·exact absurd h ha
 ·exact ⟨by assumption, h⟩
theorem zE6 {p : Prop} [Decidable p] {a : Int} (ha : a ≠ 0) (h : (if p then 0 else a) = 0) : p := by
 split at h
 ·assumption
 ·exact absurd h ha
theorem zAM {r : Int} (h : ¬ zV r = true) : zV r = false := by simpa using h
theorem zKy {g : Nat -> Int} {len i : Nat} {x : AI} (he : zM x = 0) (hr : zu g i (zD x)) (hl : i + (zD x).length <= len) : zr g len i = some (plain x, i + (zD x).length) := by
 unfold zM at he
 unfold zD plain at *
 cases hf : zA x.op with
 | none => rw [hf] at he; simp at he
 | some f =>
  have ho := zFR hf
  rw [hf] at he hr hl
  simp only at he hr hl ⊢
  obtain ⟨o, w, lg, d, s, dp, im, cc⟩ := x
  cases f with
  | movImm =>
   simp only [zBT] at ho
   subst ho
   simp only [encE] at he
   obtain ⟨h1, h2⟩ := zAT (by decide) he
   obtain ⟨h3, _⟩ := zAT (by decide) h2
   exact zT2 (zAM h1) (by dsimp only; omega) (by dsimp only; omega) hr hl
  | two c =>
   simp only [encE] at he
   obtain ⟨h1, _⟩ := zAT (by decide) he
   obtain ⟨c1, c2⟩ := zNX (g := g) (len := len) ho
   exact zTz c1 c2 (zAM fun h => h1 (.inl h)) (zAM fun h => h1 (.inr h)) hr hl
  | load =>
   simp only [zBT] at ho
   subst ho
   simp only [encE] at he
   obtain ⟨h1, h2⟩ := zAT (by decide) he
   exact zSG (zAM fun h => h1 (.inr h)) (zAM fun h => h1 (.inl h)) (zE6 (by decide) h2) hr hl
  | store =>
   simp only [zBT] at ho
   subst ho
   simp only [encE] at he
   obtain ⟨h1, h2⟩ := zAT (by decide) he
   exact zPi (zAM fun h => h1 (.inr h)) (zAM fun h => h1 (.inl h)) (zE6 (by decide) h2) hr hl
  | imul =>
   simp only [zBT] at ho
   subst ho
   simp only [encE] at he
   obtain ⟨h1, _⟩ := zAT (by decide) he
   exact zSH (zAM fun h => h1 (.inl h)) (zAM fun h => h1 (.inr h)) hr hl
  | imm n =>
   simp only [encE] at he
   obtain ⟨h1, h2⟩ := zAT (by decide) he
   obtain ⟨c1, c2⟩ := zTa (g := g) (len := len) ho
   exact zT5 c1 c2 (zAM h1) (zE6 (by decide) h2) hr hl
  | one c n =>
   simp only [encE] at he
   obtain ⟨h1, _⟩ := zAT (by decide) he
   obtain ⟨c1, c2, c3⟩ := zNy (g := g) (len := len) ho
   exact zT1 c1 c2 c3 (zAM h1) hr hl
  | stack c =>
   simp only [encE] at he
   obtain ⟨h1, _⟩ := zAT (by decide) he
   obtain ⟨c1, c2⟩ := zJK (g := g) (len := len) ho
   exact zPj c1 c2 (zAM h1) hr hl
  | jmp =>
   simp only [zBT] at ho
   subst ho
   simp only [encE] at he
   exact zT3 (zE6 (by decide) he) hr hl
  | jcc =>
   simp only [zBT] at ho
   subst ho
   simp only [encE] at he
   obtain ⟨h1, h2⟩ := zAT (by decide) he
   exact zT4 h1 (zE6 (by decide) h2) hr hl
  | ret =>
   simp only [zBT] at ho
   subst ho
   exact zT0 hr hl
theorem zCE (p : Int) (l : List Int) : l.length <= (zAO p l).length /\ (zAO p l).length <= l.length + 1 := by
 unfold zAO; split <;> simp
theorem zHS (v : Int) (b : Bool) : 1 <= (numB v b).length /\ (numB v b).length <= 4 := by
 unfold numB le4; cases b <;> simp
theorem zSE {x : AI} (he : zM x = 0) : 1 <= (zD x).length /\ (zD x).length <= 8 := by
 unfold zM at he
 unfold zD
 cases hf : zA x.op with
 | none => rw [hf] at he; simp at he
 | some f =>
  have n1 := zHS x.imm x.long
  have n2 := zHS x.disp x.long
  have n3 := zHS x.imm true
  have n4 := zHS x.imm false
  cases f with
  | movImm => have := zCE (pfx false 0 x.d) ((184 + x.d % 8) :: le4 x.imm); simp only [encL]; simp only [List.length_cons, le4, List.length_nil] at this ⊢; omega
  | two c => have := zCE (pfx x.wide x.s x.d) [c, zAm 3 x.s x.d]; simp only [encL]; simp only [List.length_cons, List.length_nil] at this ⊢; omega
  | load => have := zCE (pfx x.wide x.d x.s) (139 :: memB x.d x.s x.disp x.long); simp only [encL]; simp only [memB, List.length_cons, List.length_append] at this ⊢; split at this <;> simp only [List.length_cons, List.length_nil, *, if_true, if_false] at this ⊢ <;> omega
  | store => have := zCE (pfx x.wide x.s x.d) (137 :: memB x.s x.d x.disp x.long); simp only [encL]; simp only [memB, List.length_cons, List.length_append] at this ⊢; split at this <;> simp only [List.length_cons, List.length_nil, *, if_true, if_false] at this ⊢ <;> omega
  | imul => have := zCE (pfx x.wide x.d x.s) [15, 175, zAm 3 x.d x.s]; simp only [encL]; simp only [List.length_cons, List.length_nil] at this ⊢; omega
  | imm n => have := zCE (pfx x.wide 0 x.d) ((if x.long = true then 129 else 131) :: zAm 3 n x.d :: numB x.imm x.long); simp only [encL]; simp only [List.length_cons] at this ⊢; omega
  | one c n => have := zCE (pfx x.wide 0 x.d) [c, zAm 3 n x.d]; simp only [encL]; simp only [List.length_cons, List.length_nil] at this ⊢; omega
  | stack c => have := zCE (pfx false 0 x.d) [c + x.d % 8]; simp only [encL]; simp only [List.length_cons, List.length_nil] at this ⊢; omega
  | jmp => simp only [encL, List.length_cons]; omega
  | jcc => simp only [encL]; split <;> simp only [List.length_cons] <;> omega
  | ret => simp [encL]
end Go.Proofs.YtajcmjjgnbaahaaGreat.Amd
