/- What a law's arguments are that are slices of numbers: rows that came in. -/
import Derived.Test.YtajcmjjgnbaahaaDoorLaw
import Derived.Test.YtajcmjjgnbaahaaDoorSx5
import Derived.ChangeSlices
namespace Go.Proofs.YtajcmjjgnbaahaaDoor.LawKit
open Go Go.ChangeShapes Go.WideShapes Go.ChangeAt Go.RowKit Go.Proofs.YtajcmjjgnbaahaaDoor.Sx
set_option linter.unusedVariables false
set_option linter.unusedSimpArgs false
variable {H : Type} {enc : TypeId × Value -> H} {P : Program}
theorem slice_block {W : World} {base : Nat} {t e : TypeId} {a : Addr} {len cap : Nat} (ht : P.underlying t = some (.slice e)) (hval : Value.okWide P W .any base t (.slice (some a) len cap)) : a.block < W.heap.size /\ a.spot = none := by
  simp only [Value.okWide, ht, Cell.okWide, Cell.ok] at hval
  obtain ⟨_, _, _, hsp, row, cells, hs, _⟩ := hval
  refine ⟨?_, hsp⟩
  unfold World.shape? at hs
  split at hs
  · rename_i h; exact (Array.getElem?_eq_some_iff.1 h).1
  · simp at hs
end Go.Proofs.YtajcmjjgnbaahaaDoor.LawKit
