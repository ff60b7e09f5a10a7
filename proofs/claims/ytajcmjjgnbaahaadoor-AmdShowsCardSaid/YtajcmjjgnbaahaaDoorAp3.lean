/- What is read is written as it was. -/
import Derived.Test.YtajcmjjgnbaahaaDoorAp2
namespace Go.Proofs.YtajcmjjgnbaahaaDoor.Amd
open Go
set_option linter.unusedVariables false
set_option linter.unusedSimpArgs false

/-- What is read behind a prefix and a code is what is written. -/
def Told (g : Nat → Int) (len : Nat) (p code : Int) (j : Nat) (y : AI) (e : Nat) : Prop :=
  e ≤ len ∧ amdErr y = 0 ∧ plain y = y ∧ ∃ r, reads g j r ∧ amdBytes y = withP p (code :: r) ∧ j + r.length = e
section
variable {g : Nat → Int} {len j e : Nat} {p : Int} {y : AI}
end

end Go.Proofs.YtajcmjjgnbaahaaDoor.Amd
