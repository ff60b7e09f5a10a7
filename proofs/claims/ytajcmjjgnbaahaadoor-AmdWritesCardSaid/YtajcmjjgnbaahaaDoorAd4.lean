/- What an instruction is, behind its prefix and its code. -/
import Derived.Test.YtajcmjjgnbaahaaDoorAd2
namespace Go.Proofs.YtajcmjjgnbaahaaDoor.Amd
open Go Go.Proofs.YtajcmjjgnbaahaaDoor.Sx Go.RowKit
set_option linter.unusedVariables false
set_option linter.unusedSimpArgs false
theorem none_cal {f : FuncId} : CalOk P f (.pure fun _ => none) := fun args p v h => by simp at h
end Go.Proofs.YtajcmjjgnbaahaaDoor.Amd
