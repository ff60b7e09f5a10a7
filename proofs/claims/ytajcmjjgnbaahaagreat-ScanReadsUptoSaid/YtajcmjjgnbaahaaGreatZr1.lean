/- The document's bits of words: ravelinref01.Bits and Sext. -/
import Derived.Test.YtajcmjjgnbaahaaGreatZr0
set_option linter.unusedVariables false
set_option linter.unusedSimpArgs false
namespace Go.Proofs.YtajcmjjgnbaahaaGreat.Rv
open Go Go.Proofs.YtajcmjjgnbaahaaGreat.Sx Go.RowKit
def bitE (v : Int) (i : Int) : IE := .bits .and .u64 (.shr .u64 (.var v) (.lit i)) (.lit 1)
def orB (v : Int) (lo : Nat) : Nat -> IE
 | 0 => .lit 0
 | n + 1 => .bits .or .u64 (orB v lo n) (.shl .u64 (bitE v ((lo + n : Nat) : Int)) (.lit ((n : Nat) : Int)))
def zF8 : List (Nat × Nat) := [(0, 20), (0, 12), (0, 6), (0, 5), (5, 7), (1, 4), (5, 6), (11, 1), (12, 1), (1, 10), (12, 8), (20, 1), (0, 7), (12, 20), (20, 12), (20, 6), (20, 5), (7, 5), (25, 7), (8, 4), (25, 6), (7, 1), (31, 1), (21, 10), (15, 5)]
theorem zQg (p : Nat × Nat) (hp : p ∈ zF8) (v : Int) (Q : SV -> Prop) : zH P G3 (fun _ => 70) Tryz.f25 [.int .u64 (.var v), .int .i64 (.lit (p.1 : Nat)), .int .i64 (.lit (p.2 : Nat))] [] (fun v _ => Q v) = Q (.int .u64 (orB v p.1 p.2)) := by
 simp only [zF8, List.mem_cons, List.not_mem_nil, or_false] at hp
 rcases hp with rfl | rfl | rfl | rfl | rfl | rfl | rfl | rfl | rfl | rfl | rfl | rfl | rfl | rfl | rfl | rfl | rfl | rfl | rfl | rfl | rfl | rfl | rfl | rfl | rfl <;> kernel_rfl
theorem zRy (x : Int) (m : Int) (hm : 0 < m) : x % (m * 2) = x % m + x / m % 2 * m := by
 have h1 := Int.emod_add_mul_ediv x m
 have h2 := Int.emod_add_mul_ediv (x / m) 2
 have h3 : x = (x % m + x / m % 2 * m) + (m * 2) * (x / m / 2) := by
  have e : m * (x / m) = m * (x / m % 2 + 2 * (x / m / 2)) := by rw [h2]
  rw [Int.mul_add] at e
  have e2 : m * (2 * (x / m / 2)) = m * 2 * (x / m / 2) := by rw [Int.mul_assoc]
  have e3 : m * (x / m % 2) = x / m % 2 * m := Int.mul_comm _ _
  omega
 have b0 : 0 <= x % m := Int.emod_nonneg _ (by omega)
 have b1 : x % m < m := Int.emod_lt_of_pos _ hm
 have b2 : x / m % 2 = 0 ∨ x / m % 2 = 1 := by omega
 have b3 : 0 <= x % m + x / m % 2 * m /\ x % m + x / m % 2 * m < m * 2 := by
  rcases b2 with h | h <;> rw [h] <;> omega
 generalize x % m + x / m % 2 * m = r at *
 rw [h3, Int.add_mul_emod_self_left, Int.emod_eq_of_lt b3.1 b3.2]
theorem zMv (v : Int) (h0 : 0 <= v) (h1 : v < 18446744073709551616) (lo : Nat) : ∀ n : Nat, lo + n <= 64 -> n <= 63 -> (orB v lo n).den = v / 2 ^ lo % 2 ^ n /\ Sub (2 ^ n - 1) (v / 2 ^ lo % 2 ^ n)
 | 0, _, _ => by
  refine ⟨?_, ?_⟩
  ·simp [orB, IE.den, Int.emod_one]
  ·simp only [Int.pow_zero, Int.emod_one]; exact Sub.zero _
 | n + 1, hn, hn' => by
  obtain ⟨e, s⟩ := zMv v h0 h1 lo n (by omega) (by omega)
  have hpos : (0 : Int) < 2 ^ (lo + n) := Int.pow_pos (by decide)
  have hp : (0 : Int) < 2 ^ n := Int.pow_pos (by decide)
  have q0 : 0 <= v / 2 ^ (lo + n) := Int.ediv_nonneg h0 (Int.le_of_lt hpos)
  have q1 : v / 2 ^ (lo + n) < 18446744073709551616 := Int.lt_of_le_of_lt (Int.ediv_le_self _ h0) h1
  have b0 : 0 <= v / 2 ^ (lo + n) % 2 := by omega
  have b1 : v / 2 ^ (lo + n) % 2 < 2 := by omega
  have hle : (2 : Int) ^ n <= 9223372036854775808 := by
   have := ipow_le (k := n) (n := 63) (by omega)
   simpa using this
  have hm1 : v / 2 ^ (lo + n) % 2 * 2 ^ n < 18446744073709551616 := by
   have := Int.mul_le_mul (show v / 2 ^ (lo + n) % 2 <= 1 by omega) hle (Int.le_of_lt hp) (by decide)
   omega
  have hm0 : 0 <= v / 2 ^ (lo + n) % 2 * 2 ^ n := Int.mul_nonneg b0 (Int.le_of_lt hp)
  have ebit : (IE.shl .u64 (bitE v ((lo + n : Nat) : Int)) (.lit ((n : Nat) : Int))).den = v / 2 ^ (lo + n) % 2 * 2 ^ n := by
   simp only [bitE, IE.den]
   rw [zCU .u64 _ (lo + n) (by simp [IntKind.bits]; omega), show (1 : Int) = 2 ^ 1 - 1 from rfl, zDB _ 1 (by decide) q0 q1, zCN .u64 _ n (by simp [IntKind.bits]; omega)]
   exact zAE hm0 hm1
  have s2 : Sub ((2 ^ 1 - 1) * 2 ^ n) (v / 2 ^ (lo + n) % 2 * 2 ^ n) := Sub.shift _ 1 n b0 b1
  have hd : (2 ^ n - 1) &&& ((2 ^ 1 - 1) * 2 ^ n) = 0 := by
   rw [zEt, Nat.div_eq_of_lt (by have := Nat.two_pow_pos n; omega)]; simp
  have l1 : 2 ^ n - 1 < 2 ^ 64 := by
   have := Nat.pow_le_pow_right (show 0 < 2 by decide) (show n <= 64 by omega)
   have := Nat.two_pow_pos n
   omega
  have l2 : (2 ^ 1 - 1) * 2 ^ n < 2 ^ 64 := by
   have := Nat.pow_lt_pow_right (show 1 < 2 by decide) (show n < 64 by omega)
   omega
  obtain ⟨o1, o2⟩ := or64 s s2 hd l1 l2
  have key : v / 2 ^ lo % 2 ^ (n + 1) = v / 2 ^ lo % 2 ^ n + v / 2 ^ (lo + n) % 2 * 2 ^ n := by
   rw [Int.pow_succ, zRy _ _ hp, Int.ediv_ediv_of_nonneg (Int.le_of_lt (Int.pow_pos (by decide))), <- Int.pow_add]
  refine ⟨?_, ?_⟩
  ·rw [key, <- o1]
   show zAy .or .u64 (orB v lo n).den _ = _
   rw [e, ebit]
  ·rw [key]
   have em : (2 ^ n - 1) ||| ((2 ^ 1 - 1) * 2 ^ n) = 2 ^ (n + 1) - 1 := by
    rw [zEI _ _ hd, Nat.pow_succ]
    have := Nat.two_pow_pos n
    omega
   rw [<- em]; exact o2
end Go.Proofs.YtajcmjjgnbaahaaGreat.Rv
