/- Decode: its contract. -/
import Derived.Test.YtajcmjjgnbaahaaDoorAd4
import Derived.Test.YtajcmjjgnbaahaaDoorAdp
import Derived.Test.YtajcmjjgnbaahaaDoorSxq
namespace Go.Proofs.YtajcmjjgnbaahaaDoor.Amd
open Go Go.Proofs.YtajcmjjgnbaahaaDoor.Sx Go.RowKit
set_option linter.unusedVariables false
set_option linter.unusedSimpArgs false
def zI : AI := ⟨0, false, false, 0, 0, 0, 0, 0⟩
end Go.Proofs.YtajcmjjgnbaahaaDoor.Amd
