/- The law AmdjitNames answers true: the examples, and the errors by their numbers. No conditions. -/
import Derived.Test.YtalifikpmlapgaaGreatLaw
import Derived.Test.YtalifikpmlapgaaGreatChecked
import Derived.Test.YtalifikpmlapgaaGreatJn7
import Derived.Test.YtalifikpmlapgaaGreatAfNames
import Derived.KernelRfl
namespace Go.Proofs.YtalifikpmlapgaaGreat.amdjitNames
open Go Go.ChangeShapes Go.WideShapes Go.ChangeAt Go.RowKit Go.Proofs.YtalifikpmlapgaaGreat.Sx
set_option linter.unusedVariables false

open Go.Proofs.YtalifikpmlapgaaGreat.jitNames
/-- The run over the examples: what is left to show. -/
theorem run (Q : SV → Prop) : sxFunc P R5 (fun _ => .plain 60) Tryz.f6 [] [] (fun v _ => Q v) = (Q (.bool (.lit true)) ∧ True ∧ True) := by kernel_rfl
theorem calls (w : World) : Calls P 6 #[] w fun r w' => r = .returned (.bool true) ∧ Below w.heap.size w w' := by
  have hs := func_sound (un := fun _ => .plain 60) R5_ok Tryz.func6
  refine calls_val hs (args := []) trivial (V := .bool true) ?_ w
  rw [run]
  simp [SV.den, BE.den]

theorem own : ownKnob Tryz.prog.godebug = none := by kernel_rfl
theorem laidOut : laidOutB Tryz.prog = true := by kernel_rfl

set_option maxRecDepth 100000 in
theorem lifted (os : Os) (started : os.Started) (H : Type) (enc : TypeId × Value → H) :
    ReturnsInHanded {} Tryz.checked os 6 .any (Rows.amdjitNamesSpec.pre6 enc Tryz.prog Tryz.f6 Rows.amdjitNamesRow.domain false) (Rows.amdjitNamesSpec.post enc Tryz.prog Tryz.f6 false true false false) := by
  refine LawKit.law_lifted (C := Tryz.checked) own started (by kernel_rfl) Tryz.func6
    (ChangeSpec.witness6 (enc := enc) (C := Tryz.checked) false ⟨#[], #[], []⟩ 8 (by kernel_rfl) (by kernel_rfl) (by kernel_rfl) (by kernel_rfl))
    laidOut rfl (by kernel_rfl) (by kernel_rfl) (tb := 4) Tryz.underlying4 ?_ ?_
  · intro ds hl
    match ds, hl with
    | [], _ => rfl
  · intro W base args ds p hval hA hsz
    rw [Tryz.params6] at hA
    obtain ⟨h0, _, _⟩ := trodAll_nil hA
    obtain rfl : args = #[] := by cases args; simp_all
    exact calls W

theorem over : Rows.amdjitNamesRow.holds Tryz.pinned (OpenSpec.ofChange Rows.amdjitNamesSpec) :=
  OpenClaim.holds_of_wide 6 Tryz.f6 rfl rfl rfl rfl rfl rfl rfl ⟨rfl, rfl, rfl, rfl, rfl⟩ rfl rfl rfl rfl rfl (by kernel_rfl) Tryz.func6 facts
    (of_decide_eq_true (by kernel_rfl)) (by unfold Func.isWrapper; first | (rw [if_pos (by decide +kernel)]; kernel_rfl) | (rw [if_neg (by decide +kernel)]; exact ⟨rfl, rfl⟩))
    (fun os started H enc _ => lifted os started H enc)
theorem proved : Rows.AmdjitNamesSaid := over
end Go.Proofs.YtalifikpmlapgaaGreat.amdjitNames

namespace Go.Proofs.YtalifikpmlapgaaGreat
/-- The row, under a short name, for the claim. -/
theorem amdjitNames_holds : Rows.AmdjitNamesSaid := amdjitNames.proved
end Go.Proofs.YtalifikpmlapgaaGreat
