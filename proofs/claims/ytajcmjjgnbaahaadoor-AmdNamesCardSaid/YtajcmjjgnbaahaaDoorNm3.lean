import Derived.Test.YtajcmjjgnbaahaaDoorNm1
set_option linter.unusedVariables false
namespace Go.Proofs.YtajcmjjgnbaahaaDoor.amdNames
open Go Go.RowKit Go.Proofs.YtajcmjjgnbaahaaDoor.Sx
def pow10 : List SV := [1, 10, 100, 1000, 10000, 100000, 1000000, 10000000, 100000000, 1000000000, 10000000000, 100000000000, 1000000000000, 10000000000000, 100000000000000, 1000000000000000, 10000000000000000, 100000000000000000, 1000000000000000000, 10000000000000000000].map fun n => .int .u64 (.lit n)
def hp0 : List SObj := [.glob 0 pow10]
theorem run (Q : SV → Prop) : sxFunc P G1 (fun _ => .plain 60) Tryd.f5 [] hp0 (fun v _ => Q v) =
    (Q (.bool (.lit true)) ∧ (True ∧ True) ∧ True) := by kernel_rfl
end Go.Proofs.YtajcmjjgnbaahaaDoor.amdNames
