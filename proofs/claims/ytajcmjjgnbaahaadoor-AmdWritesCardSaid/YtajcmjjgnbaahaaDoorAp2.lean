/- What is written is read back as it was. -/
import Derived.Test.YtajcmjjgnbaahaaDoorAp1
namespace Go.Proofs.YtajcmjjgnbaahaaDoor.Amd
open Go
set_option linter.unusedVariables false
set_option linter.unusedSimpArgs false
section
variable {g : Nat -> Int} {len i : Nat}
end
def ofForm : Form -> Int -> Prop
  | .movImm, o => o = 1
  | .two c, o => o = 2 /\ c = 137 ∨ o = 5 /\ c = 1 ∨ o = 6 /\ c = 9 ∨ o = 7 /\ c = 33 ∨ o = 8 /\ c = 41 ∨ o = 9 /\ c = 49 ∨ o = 10 /\ c = 57 ∨ o = 11 /\ c = 133 ∨ o = 12 /\ c = 135
  | .load, o => o = 3
  | .store, o => o = 4
  | .imul, o => o = 13
  | .imm n, o => o = 14 /\ n = 0 ∨ o = 15 /\ n = 5 ∨ o = 16 /\ n = 7 ∨ o = 17 /\ n = 4
  | .one c n, o => o = 18 /\ c = 247 /\ n = 3 ∨ o = 19 /\ c = 247 /\ n = 2 ∨ o = 20 /\ c = 247 /\ n = 6 ∨ o = 21 /\ c = 211 /\ n = 4 ∨ o = 22 /\ c = 211 /\ n = 5
  | .stack c, o => o = 23 /\ c = 80 ∨ o = 24 /\ c = 88
  | .jmp, o => o = 25
  | .jcc, o => o = 26
  | .ret, o => o = 27
theorem formOf_none {o : Int} (h : ¬ (1 <= o /\ o <= 27)) : formOf o = none := by
  unfold formOf
  iterate 27 rw [if_neg (by omega)]
theorem form_of {o : Int} {f : Form} (h : formOf o = some f) : ofForm f o := by
  by_cases hr : 1 <= o /\ o <= 27
  · have hc : o = 1 ∨ o = 2 ∨ o = 3 ∨ o = 4 ∨ o = 5 ∨ o = 6 ∨ o = 7 ∨ o = 8 ∨ o = 9 ∨ o = 10 ∨ o = 11 ∨ o = 12 ∨ o = 13 ∨ o = 14 ∨ o = 15 ∨ o = 16 ∨ o = 17 ∨ o = 18 ∨ o = 19 ∨ o = 20 ∨ o = 21 ∨ o = 22 ∨ o = 23 ∨ o = 24 ∨ o = 25 ∨ o = 26 ∨ o = 27 := by omega
    rcases hc with rfl | rfl | rfl | rfl | rfl | rfl | rfl | rfl | rfl | rfl | rfl | rfl | rfl | rfl | rfl | rfl | rfl | rfl | rfl | rfl | rfl | rfl | rfl | rfl | rfl | rfl | rfl <;> (obtain rfl := Option.some.inj (show some _ = some f from h); simp [ofForm])
  · rw [formOf_none hr] at h; cases h
theorem if_zero {p : Prop} [Decidable p] {a b : Int} (ha : a ≠ 0) (h : (if p then a else b) = 0) : ¬ p /\ b = 0 := by
  split at h
  · exact absurd h ha
  · exact ⟨by assumption, h⟩
theorem not_bad {r : Int} (h : ¬ badReg r = true) : badReg r = false := by simpa using h
theorem withP_len (p : Int) (l : List Int) : l.length <= (withP p l).length /\ (withP p l).length <= l.length + 1 := by
  unfold withP; split <;> simp
theorem numB_len (v : Int) (b : Bool) : 1 <= (numB v b).length /\ (numB v b).length <= 4 := by
  unfold numB le4; cases b <;> simp
theorem bytes_len {x : AI} (he : amdErr x = 0) : 1 <= (amdBytes x).length /\ (amdBytes x).length <= 8 := by
  unfold amdErr at he
  unfold amdBytes
  cases hf : formOf x.op with
  | none => rw [hf] at he; simp at he
  | some f =>
    have n1 := numB_len x.imm x.long
    have n2 := numB_len x.disp x.long
    have n3 := numB_len x.imm true
    have n4 := numB_len x.imm false
    cases f with
    | movImm => have := withP_len (pfx false 0 x.d) ((184 + x.d % 8) :: le4 x.imm); simp only [encL]; simp only [List.length_cons, le4, List.length_nil] at this ⊢; omega
    | two c => have := withP_len (pfx x.wide x.s x.d) [c, pairB 3 x.s x.d]; simp only [encL]; simp only [List.length_cons, List.length_nil] at this ⊢; omega
    | load => have := withP_len (pfx x.wide x.d x.s) (139 :: memB x.d x.s x.disp x.long); simp only [encL]; simp only [memB, List.length_cons, List.length_append] at this ⊢; split at this <;> simp only [List.length_cons, List.length_nil, *, if_true, if_false] at this ⊢ <;> omega
    | store => have := withP_len (pfx x.wide x.s x.d) (137 :: memB x.s x.d x.disp x.long); simp only [encL]; simp only [memB, List.length_cons, List.length_append] at this ⊢; split at this <;> simp only [List.length_cons, List.length_nil, *, if_true, if_false] at this ⊢ <;> omega
    | imul => have := withP_len (pfx x.wide x.d x.s) [15, 175, pairB 3 x.d x.s]; simp only [encL]; simp only [List.length_cons, List.length_nil] at this ⊢; omega
    | imm n => have := withP_len (pfx x.wide 0 x.d) ((if x.long = true then 129 else 131) :: pairB 3 n x.d :: numB x.imm x.long); simp only [encL]; simp only [List.length_cons] at this ⊢; omega
    | one c n => have := withP_len (pfx x.wide 0 x.d) [c, pairB 3 n x.d]; simp only [encL]; simp only [List.length_cons, List.length_nil] at this ⊢; omega
    | stack c => have := withP_len (pfx false 0 x.d) [c + x.d % 8]; simp only [encL]; simp only [List.length_cons, List.length_nil] at this ⊢; omega
    | jmp => simp only [encL, List.length_cons]; omega
    | jcc => simp only [encL]; split <;> simp only [List.length_cons] <;> omega
    | ret => simp [encL]
end Go.Proofs.YtajcmjjgnbaahaaDoor.Amd
