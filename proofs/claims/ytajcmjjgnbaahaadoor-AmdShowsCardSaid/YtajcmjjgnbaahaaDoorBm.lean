/- Bits of words as sums. -/
import Derived.Test.YtajcmjjgnbaahaaDoorSx2
namespace Go.Proofs.YtajcmjjgnbaahaaDoor.Sx
open Go
set_option linter.unusedVariables false
set_option linter.unusedSimpArgs false

theorem wrap_u64 (n : Int) : IntKind.u64.wrap n = n % 18446744073709551616 := by simp [IntKind.wrap, IntKind.bits, IntKind.signed]
theorem wrap_u32 (n : Int) : IntKind.u32.wrap n = n % 4294967296 := by simp [IntKind.wrap, IntKind.bits, IntKind.signed]
theorem wrap_u8 (n : Int) : IntKind.u8.wrap n = n % 256 := by simp [IntKind.wrap, IntKind.bits, IntKind.signed]
theorem wrap_i64 (n : Int) : IntKind.i64.wrap n = if n % 18446744073709551616 ≥ 9223372036854775808 then n % 18446744073709551616 - 18446744073709551616 else n % 18446744073709551616 := by
  simp [IntKind.wrap, IntKind.bits, IntKind.signed]
theorem wrap_i64_in {n : Int} (h0 : -9223372036854775808 ≤ n) (h1 : n < 9223372036854775808) : IntKind.i64.wrap n = n := by rw [wrap_i64]; split <;> omega
theorem wrap_u32_in {n : Int} (h0 : 0 ≤ n) (h1 : n < 4294967296) : IntKind.u32.wrap n = n := by rw [wrap_u32]; omega

theorem shr_ediv (k : IntKind) (x : Int) (n : Nat) (hn : n ≤ k.bits) : shrI k x n = x / 2 ^ n := by
  have e : min ((n : Int).toNat) k.bits = n := by simp [Nat.min_eq_left hn]
  rw [shrI, e, Int.fdiv_eq_ediv_of_nonneg _ (Int.le_of_lt (Int.pow_pos (by decide)))]
theorem bits_u (op : Nat → Nat → Nat) (o : BinOp) (k : IntKind) (w : Nat) (hw : k.bits = w) (hs : k.signed = false) (x y : Nat) (hx : x < 2 ^ w) (hy : y < 2 ^ w) (hop : ∀ a b, a < 2 ^ w → b < 2 ^ w → op a b < 2 ^ w)
    (ho : ∀ a b : Int, bitsI o k a b = k.wrap ((op (BitVec.ofInt k.bits a).toNat (BitVec.ofInt k.bits b).toNat : Nat) : Int)) : bitsI o k x y = (op x y : Nat) := by
  have tn : ∀ n : Nat, n < 2 ^ w → (BitVec.ofInt k.bits (n : Int)).toNat = n := by
    intro n hn
    rw [hw, BitVec.ofInt_natCast, BitVec.toNat_ofNat]
    exact Nat.mod_eq_of_lt hn
  rw [ho, tn x hx, tn y hy]
  have h := hop x y hx hy
  unfold IntKind.wrap
  rw [hs, hw]
  simp only [Bool.false_and, Bool.false_eq_true, if_false]
  exact Int.emod_eq_of_lt (Int.natCast_nonneg _) (by exact_mod_cast h)

theorem or_u32 (x y : Nat) (hx : x < 2 ^ 32) (hy : y < 2 ^ 32) : bitsI .or .u32 x y = ((x ||| y : Nat) : Int) :=
  bits_u (· ||| ·) .or .u32 32 rfl rfl x y hx hy (fun a b ha hb => Nat.or_lt_two_pow ha hb) (fun a b => by simp [bitsI])
theorem or_eq_add (x y : Nat) (h : x &&& y = 0) : x ||| y = x + y := by
  have hlt : ∀ n, n < 2 ^ n := fun n => Nat.lt_two_pow_self
  have h1 : x + y < 2 ^ (x + y) := hlt _
  have hx : x < 2 ^ (x + y) := by omega
  have hy : y < 2 ^ (x + y) := by omega
  have hb : BitVec.ofNat (x + y) x &&& BitVec.ofNat (x + y) y = 0#(x + y) := by
    apply BitVec.eq_of_toNat_eq
    simp [BitVec.toNat_ofNat, Nat.mod_eq_of_lt hx, Nat.mod_eq_of_lt hy, h]
  have := congrArg BitVec.toNat (BitVec.add_eq_or_of_and_eq_zero _ _ hb)
  simpa [BitVec.toNat_add, BitVec.toNat_ofNat, Nat.mod_eq_of_lt hx, Nat.mod_eq_of_lt hy, Nat.mod_eq_of_lt h1] using this.symm

/-- All its bits lie in a mask. -/
def Sub (m : Nat) (x : Int) : Prop := ∃ n : Nat, x = n ∧ n &&& m = n

theorem Sub.lt {m : Nat} {x : Int} (h : Sub m x) : 0 ≤ x ∧ x ≤ m := by
  obtain ⟨n, rfl, hn⟩ := h
  have : n ≤ m := by rw [← hn]; exact Nat.and_le_right
  omega
theorem Sub.zero (m : Nat) : Sub m 0 := ⟨0, rfl, by simp⟩
theorem Sub.or {m m' : Nat} {x y : Int} (hx : Sub m x) (hy : Sub m' y) (hd : m &&& m' = 0) (hm : m < 2 ^ 32) (hm' : m' < 2 ^ 32) : bitsI .or .u32 x y = x + y ∧ Sub (m ||| m') (x + y) := by
  have l1 := hx.lt
  have l2 := hy.lt
  obtain ⟨a, rfl, ha⟩ := hx
  obtain ⟨b, rfl, hb⟩ := hy
  have hz : a &&& b = 0 := by
    rw [← ha, ← hb]
    have : (a &&& m) &&& (b &&& m') = (a &&& b) &&& (m &&& m') := by
      rw [Nat.and_assoc, ← Nat.and_assoc m b m', Nat.and_comm m b, Nat.and_assoc b m m', ← Nat.and_assoc]
    rw [this, hd]; simp
  have hab := or_eq_add a b hz
  rw [or_u32 a b (by omega) (by omega), hab]
  refine ⟨by simp, a + b, by simp, ?_⟩
  rw [← hab, Nat.and_or_distrib_right]
  have e1 : a &&& (m ||| m') = a := by rw [Nat.and_or_distrib_left, ha, ← ha, Nat.and_assoc, hd]; simp
  have e2 : b &&& (m ||| m') = b := by rw [Nat.and_or_distrib_left, hb, ← hb, Nat.and_assoc, Nat.and_comm m' m, hd]; simp
  rw [e1, e2]
theorem Sub.shift (x : Int) (k s : Nat) (h0 : 0 ≤ x) (h1 : x < 2 ^ k) : Sub ((2 ^ k - 1) * 2 ^ s) (x * 2 ^ s) := by
  obtain ⟨n, rfl⟩ := Int.eq_ofNat_of_zero_le h0
  have hn : n < 2 ^ k := by exact_mod_cast h1
  refine ⟨n * 2 ^ s, by simp, ?_⟩
  rw [← Nat.shiftLeft_eq, ← Nat.shiftLeft_eq, ← Nat.shiftLeft_and_distrib, Nat.and_two_pow_sub_one_eq_mod, Nat.mod_eq_of_lt hn]

end Go.Proofs.YtajcmjjgnbaahaaDoor.Sx
