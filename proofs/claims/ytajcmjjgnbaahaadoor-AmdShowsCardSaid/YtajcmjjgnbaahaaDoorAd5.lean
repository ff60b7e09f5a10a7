/- An instruction behind its prefix and its code: what is read is what stands there. -/
import Derived.Test.YtajcmjjgnbaahaaDoorAd4
import Derived.Test.YtajcmjjgnbaahaaDoorAdp
namespace Go.Proofs.YtajcmjjgnbaahaaDoor.Amd
open Go Go.Proofs.YtajcmjjgnbaahaaDoor.Sx Go.RowKit
set_option linter.unusedVariables false
set_option linter.unusedSimpArgs false

section
variable {g : Nat → Int} {len cap : Nat} {a p code : Int}
end
end Go.Proofs.YtajcmjjgnbaahaaDoor.Amd
