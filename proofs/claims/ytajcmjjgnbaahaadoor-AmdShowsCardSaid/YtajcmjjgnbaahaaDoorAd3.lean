/- What the reader's place in memory is. -/
import Derived.Test.YtajcmjjgnbaahaaDoorAd2
namespace Go.Proofs.YtajcmjjgnbaahaaDoor.Amd
open Go Go.Proofs.YtajcmjjgnbaahaaDoor.Sx Go.RowKit
set_option linter.unusedVariables false
set_option linter.unusedSimpArgs false

end Go.Proofs.YtajcmjjgnbaahaaDoor.Amd
