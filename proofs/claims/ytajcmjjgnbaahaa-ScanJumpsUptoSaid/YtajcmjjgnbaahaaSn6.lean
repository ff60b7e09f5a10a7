/- What the law's own question comes to. -/
import Derived.Test.YtajcmjjgnbaahaaAl2
namespace Go.Proofs.Ytajcmjjgnbaahaa.Amd
open Go Go.Proofs.Ytajcmjjgnbaahaa.Sx Go.RowKit
set_option linter.unusedVariables false
set_option linter.unusedSimpArgs false

noncomputable def G0 : FuncId → Option Cal := inl P (fun _ _ => .plain 60) (fun _ => none) 12
theorem G0_ok : GammaOk P G0 := inl_ok Sx.none_ok 12
theorem lives22_nf (Q : SV → Prop) : sxFunc P G0 (fun _ => .plain 60) Try.f20 [] [] (fun v _ => Q v) = Q (.bool (.lit true)) := by kernel_rfl
theorem lives22_ok : PureOk P 20 livF := by
  have hs := func_sound (un := fun _ => .plain 60) G0_ok Try.func20
  refine pure_of hs ?_
  intro args p v hF hp
  unfold livF at hF
  split at hF
  · simp only [Option.some.injEq, Prod.mk.injEq] at hF
    obtain ⟨rfl, rfl⟩ := hF
    refine ⟨[], rfl, trivial, trivial, trivial, ?_⟩
    rw [lives22_nf]
    simp [SV.den, BE.den]
  · simp at hF
end Go.Proofs.Ytajcmjjgnbaahaa.Amd
