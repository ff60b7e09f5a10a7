/- The closed facts of AmdjitNames' row, one by one. -/
import Derived.Test.YtalifikpmlapgaaGreatJn3
import Derived.Test.YtalifikpmlapgaaGreatRows
import Derived.Test.YtalifikpmlapgaaGreatLaw
namespace Go.Proofs.YtalifikpmlapgaaGreat.amdjitNames
open Go Go.ChangeShapes Go.WideShapes Go.ChangeAt Go.RowKit
set_option linter.unusedVariables false
theorem fact1 : Tryz.prog.inPlace 6 = [] := by kernel_rfl
theorem fact2 : Tryz.prog.unfollowed 6 = true := by kernel_rfl
theorem fact3 : Tryz.prog.recurses 6 = true := by kernel_rfl
theorem fact4 : Tryz.prog.varsNamed 6 = [] := by kernel_rfl
theorem facts : joinedFacts Tryz.prog 6 Tryz.f6 Rows.amdjitNamesSpec Rows.amdjitNamesRow = true := by
  unfold joinedFacts
  rw [fact1, fact2, fact3, fact4]
  kernel_rfl
end Go.Proofs.YtalifikpmlapgaaGreat.amdjitNames
