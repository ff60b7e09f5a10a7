/- What the reader's numbers and pairs of registers are. -/
import Derived.Test.YtajcmjjgnbaahaaDoorAd1
import Derived.Test.YtajcmjjgnbaahaaDoorAp2
namespace Go.Proofs.YtajcmjjgnbaahaaDoor.Amd
open Go Go.Proofs.YtajcmjjgnbaahaaDoor.Sx Go.RowKit
set_option linter.unusedVariables false
set_option linter.unusedSimpArgs false
theorem wrap_i32 (n : Int) : IntKind.i32.wrap n = if n % 4294967296 >= 2147483648 then n % 4294967296 - 4294967296 else n % 4294967296 := by simp [IntKind.wrap, IntKind.bits, IntKind.signed]
theorem ask2 {len cap : Nat} (h : len <= cap) : BE.den (.ite (.var (decide (0 + cap <= cap))) (.var (decide (len <= cap))) (.lit false)) = true := ask_ix (by simp) (by simpa using h)
end Go.Proofs.YtajcmjjgnbaahaaDoor.Amd
