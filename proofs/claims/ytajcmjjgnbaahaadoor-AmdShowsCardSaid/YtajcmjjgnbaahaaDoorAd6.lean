/- An instruction of any code: its contract; Decode's run. -/
import Derived.Test.YtajcmjjgnbaahaaDoorAd5
import Derived.Test.YtajcmjjgnbaahaaDoorSxq
namespace Go.Proofs.YtajcmjjgnbaahaaDoor.Amd
open Go Go.Proofs.YtajcmjjgnbaahaaDoor.Sx Go.RowKit
set_option linter.unusedVariables false
set_option linter.unusedSimpArgs false

structure CodeOk (b : Bool) (c : Int) : Prop where
  nb : b = false
  c0 : 0 ≤ c
  c1 : c < 256
end Go.Proofs.YtajcmjjgnbaahaaDoor.Amd
