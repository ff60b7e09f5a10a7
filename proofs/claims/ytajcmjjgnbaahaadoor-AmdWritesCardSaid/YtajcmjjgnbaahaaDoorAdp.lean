/- The reader's values where the bytes are there, and where they are not. -/
import Derived.Test.YtajcmjjgnbaahaaDoorAd2
import Derived.Test.YtajcmjjgnbaahaaDoorAp2
namespace Go.Proofs.YtajcmjjgnbaahaaDoor.Amd
open Go Go.Proofs.YtajcmjjgnbaahaaDoor.Sx Go.RowKit
set_option linter.unusedVariables false
set_option linter.unusedSimpArgs false
section
variable {g : Nat -> Int} {len : Nat} {a p mm : Int}
theorem of16 {P : Int -> Prop} (h : ∀ n : Fin 16, P ((n.val : Nat) : Int)) (h0 : 0 <= p) (h1 : p < 16) : P p := by
  have := h ⟨p.toNat, by omega⟩
  simpa [Int.toNat_of_nonneg h0] using this
end
end Go.Proofs.YtajcmjjgnbaahaaDoor.Amd
