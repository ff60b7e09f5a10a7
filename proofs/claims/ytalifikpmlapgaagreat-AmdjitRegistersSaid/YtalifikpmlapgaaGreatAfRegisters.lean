/- The closed facts of AmdjitRegisters' row, one by one. -/
import Derived.Test.YtalifikpmlapgaaGreatJn3
import Derived.Test.YtalifikpmlapgaaGreatRows
import Derived.Test.YtalifikpmlapgaaGreatLaw
namespace Go.Proofs.YtalifikpmlapgaaGreat.amdjitRegisters
open Go Go.ChangeShapes Go.WideShapes Go.ChangeAt Go.RowKit
set_option linter.unusedVariables false
theorem fact1 : Tryz.prog.inPlace 7 = [] := by kernel_rfl
theorem fact2 : Tryz.prog.unfollowed 7 = true := by kernel_rfl
theorem fact3 : Tryz.prog.recurses 7 = true := by kernel_rfl
theorem fact4 : Tryz.prog.varsNamed 7 = [] := by kernel_rfl
theorem facts : joinedFacts Tryz.prog 7 Tryz.f7 Rows.amdjitRegistersSpec Rows.amdjitRegistersRow = true := by
  unfold joinedFacts
  rw [fact1, fact2, fact3, fact4]
  kernel_rfl
end Go.Proofs.YtalifikpmlapgaaGreat.amdjitRegisters
