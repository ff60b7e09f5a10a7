/- What the reader's small methods do: a byte, the byte ahead, a register's high bit. -/
import Derived.Test.YtajcmjjgnbaahaaDoorAm1
namespace Go.Proofs.YtajcmjjgnbaahaaDoor.Amd
open Go Go.Proofs.YtajcmjjgnbaahaaDoor.Sx Go.RowKit
set_option linter.unusedVariables false
set_option linter.unusedSimpArgs false
def col8 (g : Nat -> Int) : Col := .int .u8 fun e => .var (g e)
theorem ask_ix {a b : Bool} (ha : a = true) (hb : b = true) : BE.den (.ite (.var a) (.var b) (.lit false)) = true := by simp [BE.den, ha, hb]
end Go.Proofs.YtajcmjjgnbaahaaDoor.Amd
