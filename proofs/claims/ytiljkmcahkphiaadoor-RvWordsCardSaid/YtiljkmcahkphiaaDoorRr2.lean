/- The document's bits of words as functions of their arguments alone; signed numbers. -/
import Derived.Test.YtiljkmcahkphiaaDoorRr1
namespace Go.Proofs.YtiljkmcahkphiaaDoor.Rv
open Go Go.Proofs.YtiljkmcahkphiaaDoor.Sx Go.RowKit
set_option linter.unusedVariables false
set_option linter.unusedSimpArgs false

def inU64 (n : Int) : Bool := decide (0 ≤ n) && decide (n < 18446744073709551616)

/-- Bits lo .. lo + n - 1 of a number. -/
def fRBits : PureFn
  | [.int .u64 e, .int .i64 (.lit lo), .int .i64 (.lit n)] =>
    if (bitPairs.contains (lo.toNat, n.toNat) && decide (0 ≤ lo) && decide (0 ≤ n)) = true then some (some (.var (inU64 e.den)), .int .u64 (.var (e.den / 2 ^ lo.toNat % 2 ^ n.toNat))) else none
  | _ => none

theorem bitPairs_small : ∀ p ∈ bitPairs, p.1 + p.2 ≤ 64 ∧ p.2 ≤ 63 := by decide

theorem rbits_ok : PureOk P 31 fRBits := by
  refine pure_of (func_sound (un := fun _ => 70) G3_ok Tryd.func31) ?_
  intro args p v hF hp
  unfold fRBits at hF
  split at hF
  · rename_i e lo n
    split at hF
    · rename_i hc
      simp only [Bool.and_eq_true, decide_eq_true_eq] at hc
      obtain ⟨⟨h1, h2⟩, h3⟩ := hc
      simp only [Option.some.injEq, Prod.mk.injEq] at hF; obtain ⟨rfl, rfl⟩ := hF
      have hmem : (lo.toNat, n.toNat) ∈ bitPairs := by simpa using h1
      simp only [Holds, BE.den, inU64, Bool.and_eq_true, decide_eq_true_eq] at hp
      refine ⟨[.int .u64 (.var e.den), .int .i64 (.lit ((lo.toNat : Nat) : Int)), .int .i64 (.lit ((n.toNat : Nat) : Int))], ?_, by simp [SV.wfL, SV.wf], by simp [SV.wfL, SV.wf], by simp [SV.wf], ?_⟩
      · simp [SV.denL, SV.den, IE.den, Int.toNat_of_nonneg h2, Int.toNat_of_nonneg h3]
      · rw [rbits_run (lo.toNat, n.toNat) hmem]
        intro ν
        obtain ⟨s1, s2⟩ := bitPairs_small _ hmem
        simp only [SV.den, IE.den, (orB_den e.den hp.1 hp.2 lo.toNat n.toNat s1 s2).1]
    · simp at hF
  · simp at hF

end Go.Proofs.YtiljkmcahkphiaaDoor.Rv
