/- The law ScanNames answers true: the numbers, places and errors of the examples. No conditions. -/
import Derived.Test.YtajcmjjgnbaahaaLaw
import Derived.Test.YtajcmjjgnbaahaaChecked
import Derived.Test.YtajcmjjgnbaahaaSx5
import Derived.KernelRfl
namespace Go.Proofs.Ytajcmjjgnbaahaa.scanNames
open Go Go.ChangeShapes Go.WideShapes Go.ChangeAt Go.RowKit Go.Proofs.Ytajcmjjgnbaahaa.Sx
set_option linter.unusedVariables false

noncomputable abbrev P := Go.Proofs.Try.prog
noncomputable def G0 : FuncId → Option Cal := inl P (fun _ _ => .plain 60) (fun _ => none) 12
theorem G0_ok : GammaOk P G0 := inl_ok none_ok 12
/-- The run over the examples: what is left to show. -/
theorem run (Q : SV → Prop) : sxFunc P G0 (fun _ => .plain 60) Try.f7 [] [] (fun v _ => Q v) =
    ((((((((((((((((((Q (.bool (.lit true)) ∧ True) ∧ True) ∧ True) ∧ True) ∧ True) ∧ True) ∧ True) ∧ True) ∧ True) ∧ True) ∧ True) ∧ True) ∧ True) ∧ True) ∧ True) ∧ True) ∧ True) ∧ True) := by kernel_rfl
theorem calls (w : World) : Calls P 7 #[] w fun r w' => r = .returned (.bool true) ∧ Below w.heap.size w w' := by
  have hs := func_sound (un := fun _ => .plain 60) G0_ok Try.func7
  refine calls_val hs (args := []) trivial (V := .bool true) ?_ w
  rw [run]
  simp [SV.den, BE.den]

theorem own : ownKnob Try.prog.godebug = none := by kernel_rfl
theorem laidOut : laidOutB Try.prog = true := by kernel_rfl

set_option maxRecDepth 100000 in
theorem lifted (os : Os) (started : os.Started) (H : Type) (enc : TypeId × Value → H) :
    ReturnsInHanded {} Try.checked os 7 .any (Rows.scanNamesSpec.pre6 enc Try.prog Try.f7 Rows.scanNamesRow.domain false) (Rows.scanNamesSpec.post enc Try.prog Try.f7 false true false false) := by
  refine LawKit.law_lifted (C := Try.checked) own started (by kernel_rfl) Try.func7
    (ChangeSpec.witness6 (enc := enc) (C := Try.checked) false ⟨#[], #[], []⟩ 8 (by kernel_rfl) (by kernel_rfl) (by kernel_rfl) (by kernel_rfl))
    laidOut rfl (by kernel_rfl) (by kernel_rfl) (tb := 4) Try.underlying4 ?_ ?_
  · intro ds hl
    match ds, hl with
    | [], _ => rfl
  · intro W base args ds p hval hA hsz
    rw [Try.params7] at hA
    obtain ⟨h0, _, _⟩ := trodAll_nil hA
    obtain rfl : args = #[] := by cases args; simp_all
    exact calls W

theorem over : Rows.scanNamesRow.holds Try.pinned (OpenSpec.ofChange Rows.scanNamesSpec) :=
  OpenClaim.holds_of_wide 7 Try.f7 rfl rfl rfl rfl rfl rfl rfl ⟨rfl, rfl, rfl, rfl, rfl⟩ rfl rfl rfl rfl rfl (by kernel_rfl) Try.func7 (by kernel_rfl)
    (of_decide_eq_true (by kernel_rfl)) (by unfold Func.isWrapper; first | (rw [if_pos (by decide +kernel)]; kernel_rfl) | (rw [if_neg (by decide +kernel)]; exact ⟨rfl, rfl⟩))
    (fun os started H enc _ => lifted os started H enc)
theorem proved : Rows.ScanNamesSaid := over
end Go.Proofs.Ytajcmjjgnbaahaa.scanNames

namespace Go.Proofs.Ytajcmjjgnbaahaa
/-- The row, under a short name, for the claim. -/
theorem scanNames_holds : Rows.ScanNamesSaid := scanNames.proved
end Go.Proofs.Ytajcmjjgnbaahaa
