/- What the laws' calls come to, kept under names that are not opened. -/
import Derived.Test.YtajcmjjgnbaahaaDoorSw6
import Derived.Test.YtajcmjjgnbaahaaDoorSw7
namespace Go.Proofs.YtajcmjjgnbaahaaDoor.Amd
open Go Go.Proofs.YtajcmjjgnbaahaaDoor.Sx Go.RowKit
set_option linter.unusedVariables false
set_option linter.unusedSimpArgs false
noncomputable def G0 : FuncId -> Option Cal := inl P (fun _ _ => .plain 60) (fun _ => none) 12
theorem G0_ok : GammaOk P G0 := inl_ok Sx.none_ok 12
theorem lives18_nf (Q : SV -> Prop) : sxFunc P G0 (fun _ => .plain 60) Tryd.f6 [] [] (fun v _ => Q v) = (Q (.bool (.lit true)) /\ True) := by kernel_rfl
theorem lives18_ok : PureOk P 6 livF := by
  have hs := func_sound (un := fun _ => .plain 60) G0_ok Tryd.func6
  refine pure_of hs ?_
  intro args p v hF hp
  unfold livF at hF
  split at hF
  · simp only [Option.some.injEq, Prod.mk.injEq] at hF
    obtain ⟨rfl, rfl⟩ := hF
    refine ⟨[], rfl, trivial, trivial, trivial, ?_⟩
    rw [lives18_nf]
    simp [SV.den, BE.den]
  · simp at hF
structure AV where
  T : AI -> ByteArray
  O : AI -> Nat × (Nat -> Int) -> Prop
  L : AI -> Nat
  E : AI -> Int
def av0 : AV := ⟨showB, EncN, encLen, amdErr⟩
def showG (V : AV) : TabFn
  | [.agg [.int .i64 op, .bool w, .bool l, .int .i64 d, .int .i64 s, .int .i64 dp, .int .i64 im, .int .i64 cc]] => some (in64 dp.den /\ in64 im.den, .strE (V.T ⟨op.den, w.den, l.den, d.den, s.den, dp.den, im.den, cc.den⟩))
  | _ => none
def encGOuts (V : AV) : Ins -> List SV -> List Out := fun ins pl => match ins, pl with
  | [], [.agg [.int .i64 op, .bool w, .bool l, .int .i64 d, .int .i64 s, .int .i64 dp, .int .i64 im, .int .i64 cc]] =>
    encNOuts (V.O ⟨op.den, w.den, l.den, d.den, s.den, dp.den, im.den, cc.den⟩) (V.L ⟨op.den, w.den, l.den, d.den, s.den, dp.den, im.den, cc.den⟩) (V.E ⟨op.den, w.den, l.den, d.den, s.den, dp.den, im.den, cc.den⟩)
  | _, _ => []
theorem showG_0 : showG av0 = showF := rfl
theorem encG_0 : encGOuts av0 = encNOutsP := rfl
end Go.Proofs.YtajcmjjgnbaahaaDoor.Amd
