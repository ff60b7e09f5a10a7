/- Bits of words as sums. -/
import Derived.Test.YtajcmjjgnbaahaaDoorSx2
namespace Go.Proofs.YtajcmjjgnbaahaaDoor.Sx
open Go
set_option linter.unusedVariables false
set_option linter.unusedSimpArgs false
theorem wrap_u64 (n : Int) : IntKind.u64.wrap n = n % 18446744073709551616 := by simp [IntKind.wrap, IntKind.bits, IntKind.signed]
theorem wrap_u32 (n : Int) : IntKind.u32.wrap n = n % 4294967296 := by simp [IntKind.wrap, IntKind.bits, IntKind.signed]
theorem wrap_u8 (n : Int) : IntKind.u8.wrap n = n % 256 := by simp [IntKind.wrap, IntKind.bits, IntKind.signed]
theorem wrap_i64 (n : Int) : IntKind.i64.wrap n = if n % 18446744073709551616 >= 9223372036854775808 then n % 18446744073709551616 - 18446744073709551616 else n % 18446744073709551616 := by
  simp [IntKind.wrap, IntKind.bits, IntKind.signed]
theorem wrap_i64_in {n : Int} (h0 : -9223372036854775808 <= n) (h1 : n < 9223372036854775808) : IntKind.i64.wrap n = n := by rw [wrap_i64]; split <;> omega
theorem wrap_u32_in {n : Int} (h0 : 0 <= n) (h1 : n < 4294967296) : IntKind.u32.wrap n = n := by rw [wrap_u32]; omega
theorem shr_ediv (k : IntKind) (x : Int) (n : Nat) (hn : n <= k.bits) : shrI k x n = x / 2 ^ n := by
  have e : min ((n : Int).toNat) k.bits = n := by simp [Nat.min_eq_left hn]
  rw [shrI, e, Int.fdiv_eq_ediv_of_nonneg _ (Int.le_of_lt (Int.pow_pos (by decide)))]
end Go.Proofs.YtajcmjjgnbaahaaDoor.Sx
