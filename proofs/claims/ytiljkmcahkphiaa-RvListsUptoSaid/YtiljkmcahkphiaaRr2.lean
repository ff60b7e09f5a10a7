/- The document's bits of words as functions of their arguments alone; signed numbers. -/
import Derived.Test.YtiljkmcahkphiaaRr1
namespace Go.Proofs.Ytiljkmcahkphiaa.Rv
open Go Go.Proofs.Ytiljkmcahkphiaa.Sx Go.RowKit
set_option linter.unusedVariables false
set_option linter.unusedSimpArgs false

def inU64 (n : Int) : Bool := decide (0 ≤ n) && decide (n < 18446744073709551616)

/-- Bits lo .. lo + n - 1 of a number. -/
def fRBits : PureFn
  | [.int .u64 e, .int .i64 (.lit lo), .int .i64 (.lit n)] =>
    if (bitPairs.contains (lo.toNat, n.toNat) && decide (0 ≤ lo) && decide (0 ≤ n)) = true then some (some (.var (inU64 e.den)), .int .u64 (.var (e.den / 2 ^ lo.toNat % 2 ^ n.toNat))) else none
  | _ => none

theorem bitPairs_small : ∀ p ∈ bitPairs, p.1 + p.2 ≤ 64 ∧ p.2 ≤ 63 := by decide

theorem rbits_ok : PureOk P 35 fRBits := by
  refine pure_of (func_sound (un := fun _ => 70) G3_ok Try.func35) ?_
  intro args p v hF hp
  unfold fRBits at hF
  split at hF
  · rename_i e lo n
    split at hF
    · rename_i hc
      simp only [Bool.and_eq_true, decide_eq_true_eq] at hc
      obtain ⟨⟨h1, h2⟩, h3⟩ := hc
      simp only [Option.some.injEq, Prod.mk.injEq] at hF; obtain ⟨rfl, rfl⟩ := hF
      have hmem : (lo.toNat, n.toNat) ∈ bitPairs := by simpa using h1
      simp only [Holds, BE.den, inU64, Bool.and_eq_true, decide_eq_true_eq] at hp
      refine ⟨[.int .u64 (.var e.den), .int .i64 (.lit ((lo.toNat : Nat) : Int)), .int .i64 (.lit ((n.toNat : Nat) : Int))], ?_, by simp [SV.wfL, SV.wf], by simp [SV.wfL, SV.wf], by simp [SV.wf], ?_⟩
      · simp [SV.denL, SV.den, IE.den, Int.toNat_of_nonneg h2, Int.toNat_of_nonneg h3]
      · rw [rbits_run (lo.toNat, n.toNat) hmem]
        intro ν
        obtain ⟨s1, s2⟩ := bitPairs_small _ hmem
        simp only [SV.den, IE.den, (orB_den e.den hp.1 hp.2 lo.toNat n.toNat s1 s2).1]
    · simp at hF
  · simp at hF

/-- The sign's bits above. -/
def orS (v : Int) (n : Nat) : Nat → IE
  | 0 => orB v 0 n
  | k + 1 => .bits .or .u64 (orS v n k) (.shl .u64 (bitE v ((n - 1 : Nat) : Int)) (.lit ((n + k : Nat) : Int)))

theorem rsext_run (n : Nat) (hn : n ∈ [12, 13, 21]) (v : Int) (Q : SV → Prop) : sxFunc P G3 (fun _ => 70) Try.f44 [.int .u64 (.var v), .int .i64 (.lit (n : Nat))] [] (fun v _ => Q v) = Q (.int .i64 (.conv .i64 (orS v n (64 - n)))) := by
  simp only [List.mem_cons, List.not_mem_nil, or_false] at hn
  rcases hn with rfl | rfl | rfl <;> kernel_rfl

theorem orS_den (v : Int) (h0 : 0 ≤ v) (h1 : v < 18446744073709551616) (n : Nat) (hn : 1 ≤ n) (hn' : n ≤ 63) : ∀ k : Nat, n + k ≤ 64 →
    (orS v n k).den = v % 2 ^ n + v / 2 ^ (n - 1) % 2 * (2 ^ (n + k) - 2 ^ n) ∧ Sub (2 ^ (n + k) - 1) (v % 2 ^ n + v / 2 ^ (n - 1) % 2 * (2 ^ (n + k) - 2 ^ n))
  | 0, _ => by
    have := orB_den v h0 h1 0 n (by omega) hn'
    simpa [orS] using this
  | k + 1, hk => by
    obtain ⟨e, s⟩ := orS_den v h0 h1 n hn hn' k (by omega)
    have hpos : (0 : Int) < 2 ^ (n - 1) := Int.pow_pos (by decide)
    have hp : (0 : Int) < 2 ^ (n + k) := Int.pow_pos (by decide)
    have q0 : 0 ≤ v / 2 ^ (n - 1) := Int.ediv_nonneg h0 (Int.le_of_lt hpos)
    have q1 : v / 2 ^ (n - 1) < 18446744073709551616 := Int.lt_of_le_of_lt (Int.ediv_le_self _ h0) h1
    have b0 : 0 ≤ v / 2 ^ (n - 1) % 2 := by omega
    have b1 : v / 2 ^ (n - 1) % 2 < 2 := by omega
    have hle : (2 : Int) ^ (n + k) ≤ 9223372036854775808 := by
      have := ipow_le (k := n + k) (n := 63) (by omega)
      simpa using this
    have hm1 : v / 2 ^ (n - 1) % 2 * 2 ^ (n + k) < 18446744073709551616 := by
      have := Int.mul_le_mul (show v / 2 ^ (n - 1) % 2 ≤ 1 by omega) hle (Int.le_of_lt hp) (by decide)
      omega
    have hm0 : 0 ≤ v / 2 ^ (n - 1) % 2 * 2 ^ (n + k) := Int.mul_nonneg b0 (Int.le_of_lt hp)
    have ebit : (IE.shl .u64 (bitE v ((n - 1 : Nat) : Int)) (.lit ((n + k : Nat) : Int))).den = v / 2 ^ (n - 1) % 2 * 2 ^ (n + k) := by
      simp only [bitE, IE.den]
      rw [shr_ediv .u64 _ (n - 1) (by simp [IntKind.bits]; omega), show (1 : Int) = 2 ^ 1 - 1 from rfl, and_mask_u64 _ 1 (by decide) q0 q1, shl_mul .u64 _ (n + k) (by simp [IntKind.bits]; omega)]
      exact wrap_u64_in hm0 hm1
    have s2 : Sub ((2 ^ 1 - 1) * 2 ^ (n + k)) (v / 2 ^ (n - 1) % 2 * 2 ^ (n + k)) := Sub.shift _ 1 (n + k) b0 b1
    have hd : (2 ^ (n + k) - 1) &&& ((2 ^ 1 - 1) * 2 ^ (n + k)) = 0 := by
      rw [and_part, Nat.div_eq_of_lt (by have := Nat.two_pow_pos (n + k); omega)]; simp
    have l1 : 2 ^ (n + k) - 1 < 2 ^ 64 := by
      have := Nat.pow_le_pow_right (show 0 < 2 by decide) (show n + k ≤ 64 by omega)
      have := Nat.two_pow_pos (n + k)
      omega
    have l2 : (2 ^ 1 - 1) * 2 ^ (n + k) < 2 ^ 64 := by
      have := Nat.pow_lt_pow_right (show 1 < 2 by decide) (show n + k < 64 by omega)
      omega
    obtain ⟨o1, o2⟩ := or64 s s2 hd l1 l2
    have key : v % 2 ^ n + v / 2 ^ (n - 1) % 2 * (2 ^ (n + (k + 1)) - 2 ^ n) = v % 2 ^ n + v / 2 ^ (n - 1) % 2 * (2 ^ (n + k) - 2 ^ n) + v / 2 ^ (n - 1) % 2 * 2 ^ (n + k) := by
      rw [← Nat.add_assoc, Int.pow_succ, Int.mul_sub, Int.mul_sub, ← Int.mul_assoc]
      omega
    refine ⟨?_, ?_⟩
    · rw [key, ← o1]
      show bitsI .or .u64 (orS v n k).den _ = _
      rw [e, ebit]
    · rw [key]
      have em : (2 ^ (n + k) - 1) ||| ((2 ^ 1 - 1) * 2 ^ (n + k)) = 2 ^ (n + (k + 1)) - 1 := by
        rw [or_eq_add _ _ hd, ← Nat.add_assoc, Nat.pow_succ]
        have := Nat.two_pow_pos (n + k)
        omega
      rw [← em]; exact o2

/-- A number of n bits, with its sign. -/
def sgnN (n : Nat) (v : Int) : Int := v % 2 ^ n - v / 2 ^ (n - 1) % 2 * 2 ^ n

def fRSext : PureFn
  | [.int .u64 e, .int .i64 (.lit n)] =>
    if (decide (n.toNat ∈ [12, 13, 21]) && decide (0 ≤ n)) = true then some (some (.var (inU64 e.den)), .int .i64 (.var (sgnN n.toNat e.den))) else none
  | _ => none

theorem rsext_ok : PureOk P 44 fRSext := by
  refine pure_of (func_sound (un := fun _ => 70) G3_ok Try.func44) ?_
  intro args p v hF hp
  unfold fRSext at hF
  split at hF
  · rename_i e n
    split at hF
    · rename_i hc
      simp only [Bool.and_eq_true, decide_eq_true_eq] at hc
      obtain ⟨h1, h3⟩ := hc
      simp only [Option.some.injEq, Prod.mk.injEq] at hF; obtain ⟨rfl, rfl⟩ := hF
      simp only [Holds, BE.den, inU64, Bool.and_eq_true, decide_eq_true_eq] at hp
      refine ⟨[.int .u64 (.var e.den), .int .i64 (.lit ((n.toNat : Nat) : Int))], ?_, by simp [SV.wfL, SV.wf], by simp [SV.wfL, SV.wf], by simp [SV.wf], ?_⟩
      · simp [SV.denL, SV.den, IE.den, Int.toNat_of_nonneg h3]
      · rw [rsext_run n.toNat h1]
        intro ν
        have hn : 1 ≤ n.toNat ∧ n.toNat ≤ 32 := by
          simp only [List.mem_cons, List.not_mem_nil, or_false] at h1
          omega
        have hd := (orS_den e.den hp.1 hp.2 n.toNat hn.1 (by omega) (64 - n.toNat) (by omega)).1
        simp only [SV.den, IE.den, hd]
        rw [show n.toNat + (64 - n.toNat) = 64 by omega]
        have hpos : (0 : Int) < 2 ^ n.toNat := Int.pow_pos (by decide)
        have hle : (2 : Int) ^ n.toNat ≤ 4294967296 := by rw [← ipow32]; exact ipow_le hn.2
        have r0 : 0 ≤ e.den % 2 ^ n.toNat := Int.emod_nonneg _ (by omega)
        have r1 : e.den % 2 ^ n.toNat < 2 ^ n.toNat := Int.emod_lt_of_pos _ hpos
        have hb : e.den / 2 ^ (n.toNat - 1) % 2 = 0 ∨ e.den / 2 ^ (n.toNat - 1) % 2 = 1 := by omega
        simp only [sgnN]
        generalize e.den / 2 ^ (n.toNat - 1) % 2 = b at *
        generalize e.den % 2 ^ n.toNat = r at *
        generalize (2 : Int) ^ n.toNat = m at *
        rw [wrap_i64, show (2 : Int) ^ 64 = 18446744073709551616 from rfl]
        congr 1
        rcases hb with rfl | rfl
        · split <;> omega
        · split <;> omega
    · simp at hF
  · simp at hF

end Go.Proofs.Ytiljkmcahkphiaa.Rv
