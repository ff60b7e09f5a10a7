/- Encode as a function of its arguments alone. -/
import Derived.Test.YtiljkmcahkphiaaRv4
namespace Go.Proofs.Ytiljkmcahkphiaa.Rv
open Go Go.Proofs.Ytiljkmcahkphiaa.Sx Go.RowKit
set_option linter.unusedVariables false
set_option linter.unusedSimpArgs false

def fEnc : PureFn
  | [.agg [.int .i64 op, .int .i64 a, .int .i64 b, .int .i64 c, .int .i64 d]] =>
    some (some (.var (inI64 d.den)), .tuple [.int .u32 (.var (rvEnc op.den a.den b.den c.den d.den).1), .int .i64 (.var (rvEnc op.den a.den b.den c.den d.den).2)])
  | _ => none

theorem fenc_ok : PureOk P 10 fEnc := by
  intro args p v hF hp
  unfold fEnc at hF
  split at hF
  · rename_i op a b c d
    simp only [Option.some.injEq, Prod.mk.injEq] at hF; obtain ⟨rfl, rfl⟩ := hF
    refine ⟨by simp [SV.wfL, SV.wf], by simp [SV.wfL, SV.wf], fun w => ?_⟩
    have := enc_calls op.den a.den b.den c.den d.den (by simpa [Holds, BE.den] using hp) w
    simpa [SV.denL, SV.den, IE.den, pairV] using this
  · simp at hF

end Go.Proofs.Ytiljkmcahkphiaa.Rv
