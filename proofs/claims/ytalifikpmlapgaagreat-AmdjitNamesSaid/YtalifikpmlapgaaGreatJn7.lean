/- The question of law 20, whether the program is there: it answers true. -/
import Derived.Test.YtalifikpmlapgaaGreatJn6
import Derived.Test.YtalifikpmlapgaaGreatJr2
namespace Go.Proofs.YtalifikpmlapgaaGreat.jitNames
open Go Go.RowKit Go.Proofs.YtalifikpmlapgaaGreat.Sx
set_option linter.unusedVariables false
set_option linter.unusedSimpArgs false
theorem lives_run : sxFunc P R2 (fun _ => .plain 70) Tryz.f23 livesCl.args (gsHp livesCl.gs) (clDone [] livesCl.val livesCl.new) = ((True ∧ List.map zeroCol (SV.cells (SV.int IntKind.u8 (IE.lit 0))) = List.map zeroCol (SV.cells (SV.int IntKind.u8 (IE.lit 0))) ∧ True) ∧ List.map zeroCol (SV.cells (SV.int IntKind.u8 (IE.lit 0))) = List.map zeroCol (SV.cells (SV.int IntKind.u8 (IE.lit 0))) ∧ True) := by kernel_rfl
theorem false_ok {f : FuncId} : SpecOk P f fun _ _ _ => False := fun B ν hp w args K _ _ _ h => h.elim
theorem lives_ok : SpecOk P 23 livesS := by
  have hs := func_sound (un := fun _ => .plain 70) R2_ok Tryz.func23
  refine clSpec_ok hs false_ok fun c hc => ?_
  simp only [List.mem_singleton] at hc; subst hc
  exact ⟨[], by rw [lives_run]; simp⟩
theorem spec_cal {f : FuncId} {s : SpecFn} {g : Guess} (h : SpecOk P f s) : CalOk P f (.spec s g) := h
noncomputable def R5 : FuncId → Option Cal := inl P (fun _ _ => .plain 60) (table [(23, .spec livesS (clGuess [livesCl] fun _ _ => none))]) 12
theorem R5_ok : GammaOk P R5 := inl_ok (table_ok fun p hp => by
  simp only [List.mem_singleton] at hp; subst hp; exact spec_cal lives_ok) 12
theorem RG_ok : GammaOk P RG := inl_ok (table_ok fun p hp => by
  simp only [rgT, List.mem_cons, List.not_mem_nil, or_false] at hp
  rcases hp with rfl | rfl | rfl | rfl | rfl | rfl
  · exact sure_ok
  · exact sure_ok
  · exact sure_ok
  · exact sure_ok
  · exact spec_cal lives_ok
  · exact freg_ok) 4
end Go.Proofs.YtalifikpmlapgaaGreat.jitNames
