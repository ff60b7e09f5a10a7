/- The document's bits of words as functions of their arguments alone; signed numbers. -/
import Derived.Test.YtajcmjjgnbaahaaGreatZr1
set_option linter.unusedVariables false
set_option linter.unusedSimpArgs false
namespace Go.Proofs.YtajcmjjgnbaahaaGreat.Rv
open Go Go.Proofs.YtajcmjjgnbaahaaGreat.Sx Go.RowKit
def zIR (n : Int) : Bool := decide (0 <= n) && decide (n < 18446744073709551616)
def zRt : zBN
 | [.int .u64 e, .int .i64 (.lit lo), .int .i64 (.lit n)] =>
  if (zF8.contains (lo.toNat, n.toNat) && decide (0 <= lo) && decide (0 <= n)) = true then some (some (.var (zIR e.den)), .int .u64 (.var (e.den / 2 ^ lo.toNat % 2 ^ n.toNat))) else none
 | _ => none
theorem zJA : ∀ p ∈ zF8, p.1 + p.2 <= 64 /\ p.2 <= 63 := by decide
theorem zTI : zAr P 25 zRt := by
 refine zBO (zN (un := fun _ => 70) zZ3 Tryz.func25) ?_
 intro args p v hF hp
 unfold zRt at hF
 split at hF
 ·rename_i e lo n
  split at hF
  ·rename_i hc
   simp only [Bool.and_eq_true, decide_eq_true_eq] at hc
   obtain ⟨⟨h1, h2⟩, h3⟩ := hc
   simp only [Option.some.injEq, Prod.mk.injEq] at hF; obtain ⟨rfl, rfl⟩ := hF
   have hmem : (lo.toNat, n.toNat) ∈ zF8 := by simpa using h1
   simp only [zAJ, BE.den, zIR, Bool.and_eq_true, decide_eq_true_eq] at hp
   refine ⟨[.int .u64 (.var e.den), .int .i64 (.lit ((lo.toNat : Nat) : Int)), .int .i64 (.lit ((n.toNat : Nat) : Int))], ?_, by simp [SV.wfL, SV.wf], by simp [SV.wfL, SV.wf], by simp [SV.wf], ?_⟩
   ·simp [SV.denL, SV.den, IE.den, Int.toNat_of_nonneg h2, Int.toNat_of_nonneg h3]
   ·rw [zQg (lo.toNat, n.toNat) hmem]
    intro ν
    obtain ⟨s1, s2⟩ := zJA _ hmem
    simp only [SV.den, IE.den, (zMv e.den hp.1 hp.2 lo.toNat n.toNat s1 s2).1]
  ·simp at hF
 ·simp at hF
def orS (v : Int) (n : Nat) : Nat -> IE
 | 0 => orB v 0 n
 | k + 1 => .bits .or .u64 (orS v n k) (.shl .u64 (bitE v ((n - 1 : Nat) : Int)) (.lit ((n + k : Nat) : Int)))
theorem zQP (n : Nat) (hn : n ∈ [12, 13, 21]) (v : Int) (Q : SV -> Prop) : zH P G3 (fun _ => 70) Tryz.f36 [.int .u64 (.var v), .int .i64 (.lit (n : Nat))] [] (fun v _ => Q v) = Q (.int .i64 (.conv .i64 (orS v n (64 - n)))) := by
 simp only [List.mem_cons, List.not_mem_nil, or_false] at hn
 rcases hn with rfl | rfl | rfl <;> kernel_rfl
theorem zMu (v : Int) (h0 : 0 <= v) (h1 : v < 18446744073709551616) (n : Nat) (hn : 1 <= n) (hn' : n <= 63) : ∀ k : Nat, n + k <= 64 ->
  (orS v n k).den = v % 2 ^ n + v / 2 ^ (n - 1) % 2 * (2 ^ (n + k) - 2 ^ n) /\ Sub (2 ^ (n + k) - 1) (v % 2 ^ n + v / 2 ^ (n - 1) % 2 * (2 ^ (n + k) - 2 ^ n))
 | 0, _ => by
  have := zMv v h0 h1 0 n (by omega) hn'
  simpa [orS] using this
 | k + 1, hk => by
  obtain ⟨e, s⟩ := zMu v h0 h1 n hn hn' k (by omega)
  have hpos : (0 : Int) < 2 ^ (n - 1) := Int.pow_pos (by decide)
  have hp : (0 : Int) < 2 ^ (n + k) := Int.pow_pos (by decide)
  have q0 : 0 <= v / 2 ^ (n - 1) := Int.ediv_nonneg h0 (Int.le_of_lt hpos)
  have q1 : v / 2 ^ (n - 1) < 18446744073709551616 := Int.lt_of_le_of_lt (Int.ediv_le_self _ h0) h1
  have b0 : 0 <= v / 2 ^ (n - 1) % 2 := by omega
  have b1 : v / 2 ^ (n - 1) % 2 < 2 := by omega
  have hle : (2 : Int) ^ (n + k) <= 9223372036854775808 := by
   have := ipow_le (k := n + k) (n := 63) (by omega)
   simpa using this
  have hm1 : v / 2 ^ (n - 1) % 2 * 2 ^ (n + k) < 18446744073709551616 := by
   have := Int.mul_le_mul (show v / 2 ^ (n - 1) % 2 <= 1 by omega) hle (Int.le_of_lt hp) (by decide)
   omega
  have hm0 : 0 <= v / 2 ^ (n - 1) % 2 * 2 ^ (n + k) := Int.mul_nonneg b0 (Int.le_of_lt hp)
  have ebit : (IE.shl .u64 (bitE v ((n - 1 : Nat) : Int)) (.lit ((n + k : Nat) : Int))).den = v / 2 ^ (n - 1) % 2 * 2 ^ (n + k) := by
   simp only [bitE, IE.den]
   rw [zCU .u64 _ (n - 1) (by simp [IntKind.bits]; omega), show (1 : Int) = 2 ^ 1 - 1 from rfl, zDB _ 1 (by decide) q0 q1, zCN .u64 _ (n + k) (by simp [IntKind.bits]; omega)]
   exact zAE hm0 hm1
  have s2 : Sub ((2 ^ 1 - 1) * 2 ^ (n + k)) (v / 2 ^ (n - 1) % 2 * 2 ^ (n + k)) := Sub.shift _ 1 (n + k) b0 b1
  have hd : (2 ^ (n + k) - 1) &&& ((2 ^ 1 - 1) * 2 ^ (n + k)) = 0 := by
   rw [zEt, Nat.div_eq_of_lt (by have := Nat.two_pow_pos (n + k); omega)]; simp
  have l1 : 2 ^ (n + k) - 1 < 2 ^ 64 := by
   have := Nat.pow_le_pow_right (show 0 < 2 by decide) (show n + k <= 64 by omega)
   have := Nat.two_pow_pos (n + k)
   omega
  have l2 : (2 ^ 1 - 1) * 2 ^ (n + k) < 2 ^ 64 := by
   have := Nat.pow_lt_pow_right (show 1 < 2 by decide) (show n + k < 64 by omega)
   omega
  obtain ⟨o1, o2⟩ := or64 s s2 hd l1 l2
  have key : v % 2 ^ n + v / 2 ^ (n - 1) % 2 * (2 ^ (n + (k + 1)) - 2 ^ n) = v % 2 ^ n + v / 2 ^ (n - 1) % 2 * (2 ^ (n + k) - 2 ^ n) + v / 2 ^ (n - 1) % 2 * 2 ^ (n + k) := by
   rw [<- Nat.add_assoc, Int.pow_succ, Int.mul_sub, Int.mul_sub, <- Int.mul_assoc]
   omega
  refine ⟨?_, ?_⟩
  ·rw [key, <- o1]
   show zAy .or .u64 (orS v n k).den _ = _
   rw [e, ebit]
  ·rw [key]
   have em : (2 ^ (n + k) - 1) ||| ((2 ^ 1 - 1) * 2 ^ (n + k)) = 2 ^ (n + (k + 1)) - 1 := by
    rw [zEI _ _ hd, <- Nat.add_assoc, Nat.pow_succ]
    have := Nat.two_pow_pos (n + k)
    omega
   rw [<- em]; exact o2
def sgnN (n : Nat) (v : Int) : Int := v % 2 ^ n - v / 2 ^ (n - 1) % 2 * 2 ^ n
def zRr : zBN
 | [.int .u64 e, .int .i64 (.lit n)] =>
  if (decide (n.toNat ∈ [12, 13, 21]) && decide (0 <= n)) = true then some (some (.var (zIR e.den)), .int .i64 (.var (sgnN n.toNat e.den))) else none
 | _ => none
theorem zSp : zAr P 36 zRr := by
 refine zBO (zN (un := fun _ => 70) zZ3 Tryz.func36) ?_
 intro args p v hF hp
 unfold zRr at hF
 split at hF
 ·rename_i e n
  split at hF
  ·rename_i hc
   simp only [Bool.and_eq_true, decide_eq_true_eq] at hc
   obtain ⟨h1, h3⟩ := hc
   simp only [Option.some.injEq, Prod.mk.injEq] at hF; obtain ⟨rfl, rfl⟩ := hF
   simp only [zAJ, BE.den, zIR, Bool.and_eq_true, decide_eq_true_eq] at hp
   refine ⟨[.int .u64 (.var e.den), .int .i64 (.lit ((n.toNat : Nat) : Int))], ?_, by simp [SV.wfL, SV.wf], by simp [SV.wfL, SV.wf], by simp [SV.wf], ?_⟩
   ·simp [SV.denL, SV.den, IE.den, Int.toNat_of_nonneg h3]
   ·rw [zQP n.toNat h1]
    intro ν
    have hn : 1 <= n.toNat /\ n.toNat <= 32 := by
     simp only [List.mem_cons, List.not_mem_nil, or_false] at h1
     omega
    have hd := (zMu e.den hp.1 hp.2 n.toNat hn.1 (by omega) (64 - n.toNat) (by omega)).1
    simp only [SV.den, IE.den, hd]
    rw [show n.toNat + (64 - n.toNat) = 64 by omega]
    have hpos : (0 : Int) < 2 ^ n.toNat := Int.pow_pos (by decide)
    have hle : (2 : Int) ^ n.toNat <= 4294967296 := by rw [<- zIQ]; exact ipow_le hn.2
    have r0 : 0 <= e.den % 2 ^ n.toNat := Int.emod_nonneg _ (by omega)
    have r1 : e.den % 2 ^ n.toNat < 2 ^ n.toNat := Int.emod_lt_of_pos _ hpos
    have hb : e.den / 2 ^ (n.toNat - 1) % 2 = 0 ∨ e.den / 2 ^ (n.toNat - 1) % 2 = 1 := by omega
    simp only [sgnN]
    generalize e.den / 2 ^ (n.toNat - 1) % 2 = b at *
    generalize e.den % 2 ^ n.toNat = r at *
    generalize (2 : Int) ^ n.toNat = m at *
    rw [zFW, show (2 : Int) ^ 64 = 18446744073709551616 from rfl]
    congr 1
    rcases hb with rfl | rfl
    ·split <;> omega
    ·split <;> omega
  ·simp at hF
 ·simp at hF
end Go.Proofs.YtajcmjjgnbaahaaGreat.Rv
