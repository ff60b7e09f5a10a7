/- The live question, and the law RvApart. -/
import Derived.Test.YtiljkmcahkphiaaRv5
import Derived.Test.YtiljkmcahkphiaaRvp
namespace Go.Proofs.Ytiljkmcahkphiaa.Rv
open Go Go.Proofs.Ytiljkmcahkphiaa.Sx Go.RowKit
set_option linter.unusedVariables false
set_option linter.unusedSimpArgs false

def rvT3 : List (FuncId × Cal) := (10, .pure fEnc) :: rvT2
theorem table_cons {P : Program} {f : FuncId} {c : Cal} {l : List (FuncId × Cal)} (h : CalOk P f c) (hl : GammaOk P (table l)) : GammaOk P (table ((f, c) :: l)) := by
  intro g c' hg
  unfold table at hg
  split at hg
  · rename_i e; subst e
    obtain rfl := Option.some.inj hg
    exact h
  · exact hl g c' hg
theorem rvT3_ok : GammaOk P (table rvT3) := table_cons fenc_ok rvT2_ok
noncomputable def G3 : FuncId → Option Cal := inl P (fun _ _ => 40) (table rvT3) 4
theorem G3_ok : GammaOk P G3 := inl_ok rvT3_ok 4

def headE (Q : SV → Prop) : Prop :=
  BE.den (.var (inI64 (-1))) = true ∧ (BE.den (.lit true) = true ∧ (BE.den (.cmp .eql (.var (rvEnc 2 1 2 0 (-1)).1) (.lit 4293984403)) = true → (BE.den (.cmp .eql (.var (rvEnc 2 1 2 0 (-1)).2) (.lit 0)) = true → Q (.bool (.lit true))) ∧
    (BE.den (.cmp .eql (.var (rvEnc 2 1 2 0 (-1)).2) (.lit 0)) = false → Q (.bool (.lit false)))) ∧ (BE.den (.cmp .eql (.var (rvEnc 2 1 2 0 (-1)).1) (.lit 4293984403)) = false → Q (.bool (.lit false)))) ∧ ((True ∧ True) ∧ True) ∧ True

theorem head_run (Q : SV → Prop) : sxFunc P G3 (fun _ => 40) Try.f7 [] [] (fun v _ => Q v) = headE Q := by kernel_rfl

def fHead : PureFn
  | [] => some (none, .bool (.lit true))
  | _ => none

theorem head_ok : PureOk P 7 fHead := by
  refine pure_of (func_sound (un := fun _ => 40) G3_ok Try.func7) ?_
  intro args p v hF hp
  unfold fHead at hF
  split at hF
  · simp only [Option.some.injEq, Prod.mk.injEq] at hF; obtain ⟨rfl, rfl⟩ := hF
    refine ⟨[], rfl, trivial, trivial, trivial, ?_⟩
    rw [head_run]
    have e : rvEnc 2 1 2 0 (-1) = (4293984403, 0) := by decide +kernel
    refine ⟨by decide, ⟨rfl, fun _ => ⟨fun _ ν => rfl, fun h => ?_⟩, fun h => ?_⟩, ⟨⟨trivial, trivial⟩, trivial⟩, trivial⟩
    · rw [e] at h; exact absurd h (by decide)
    · rw [e] at h; exact absurd h (by decide)
  · simp at hF

def rvT4 : List (FuncId × Cal) := (7, .pure fHead) :: rvT3
theorem rvT4_ok : GammaOk P (table rvT4) := table_cons head_ok rvT3_ok
noncomputable def G4 : FuncId → Option Cal := inl P (fun _ _ => 40) (table rvT4) 4
theorem G4_ok : GammaOk P G4 := inl_ok rvT4_ok 4

end Go.Proofs.Ytiljkmcahkphiaa.Rv
