/- The law AmdjitRegisters answers true. -/
import Derived.Test.YtalifikpmlapgaaGreatJr2
import Derived.Test.YtalifikpmlapgaaGreatLaw2
namespace Go.Proofs.YtalifikpmlapgaaGreat.jitNames
open Go Go.RowKit Go.Proofs.YtalifikpmlapgaaGreat.Sx
set_option linter.unusedVariables false
set_option linter.unusedSimpArgs false
theorem wrap_i64_in {n : Int} (h0 : -9223372036854775808 ≤ n) (h1 : n < 9223372036854775808) : IntKind.i64.wrap n = n := by
  simp [IntKind.wrap, IntKind.bits, IntKind.signed]; split <;> omega
theorem ask_ix {a b : Bool} (ha : a = true) (hb : b = true) : BE.den (.ite (.var a) (.var b) (.lit false)) = true := by simp [BE.den, ha, hb]
theorem neq_of {x y : Int} (h : x = y) : BE.den (.cmp .neq (.var x) (.var y)) = false := by simp [BE.den, IE.den, cmpI_neq, h]
theorem regs_at (n : Int) (h0 : 0 ≤ n) (h1 : n ≤ 6) (i : Nat) (hi : i = n.toNat) : IE.den (match [SV.int IntKind.i64 (IE.lit 6), SV.int IntKind.i64 (IE.lit 8), SV.int IntKind.i64 (IE.lit 9), SV.int IntKind.i64 (IE.lit 10), SV.int IntKind.i64 (IE.lit 11), SV.int IntKind.i64 (IE.lit 3), SV.int IntKind.i64 (IE.lit 5)][i]? with | some (SV.int k a) => a | x => IE.lit 0) = regV n := by
  obtain ⟨k, rfl⟩ := Int.eq_ofNat_of_zero_le h0
  have hk : k < 7 := by omega
  have e : i = k := by simpa using hi
  subst e
  match i, hk with
  | 0, _ => rfl
  | 1, _ => rfl
  | 2, _ => rfl
  | 3, _ => rfl
  | 4, _ => rfl
  | 5, _ => rfl
  | 6, _ => rfl

set_option maxRecDepth 100000 in
theorem regs_sx (g : Nat → Int) (len cap : Nat) (hle : len ≤ cap) (hcap : cap ≤ 9223372036854775807) :
    sxFunc P RG (fun _ => ann1 Nat (rSlots len cap) (rHp g cap) (fun k => k ≤ len) (fun k => len - k)) Tryz.f7 [slR len cap] (rHp0 g cap) (fun v _ => ∀ ν, v.den ν = .bool true) := by
  rw [regs_nf g len cap (fun k => k ≤ len) (fun k => len - k) (fun v => ∀ ν, v.den ν = .bool true)]
  refine ⟨⟨0, Nat.zero_le _, rfl, rfl, rfl, rfl, fun _ _ => rfl, trivial⟩, ?_, fun _ _ h => h⟩
  intro _ k hk
  have hk' : k ≤ len := hk
  refine ⟨fun hlt => ?_, fun _ ν => rfl⟩
  have hlt : k < len := by simpa [BE.den, IE.den, cmpI_lss] using hlt
  have hkt : 0 + Int.toNat (k : Int) = k := by simp
  have q1 : BE.den (.ite (.var (decide (len ≤ cap ∧ 0 + cap ≤ cap))) (.var (decide (0 ≤ (k : Int) ∧ (k : Int) < (len : Int)))) (.lit false)) = true := ask_ix (by simp; omega) (by simp; omega)
  have q2 : decide (0 + Int.toNat (k : Int) + 1 ≤ cap) = true := decide_eq_true (by omega)
  have hnext : ∃ a', a' ≤ len ∧ Nat.le (Nat.succ (len - a')) (len - k) ∧ len = len ∧ cap = cap ∧ IE.den (IE.add IntKind.i64 (IE.var (k : Int)) (IE.lit 1)) = (a' : Int) ∧ cap = cap ∧ (∀ e, e < cap → g e = g e) ∧ True := by
    refine ⟨k + 1, hlt, ?_, rfl, rfl, ?_, rfl, fun _ _ => rfl, trivial⟩
    · show len - (k + 1) < len - k
      omega
    · show IntKind.i64.wrap ((k : Int) + 1) = ((k + 1 : Nat) : Int)
      rw [wrap_i64_in (by omega) (by omega)]; omega
  refine ⟨q1, q2, q1, q2, fun hn => ?_, fun hn => ⟨q1, q2, fun hg => ?_, fun hg => ?_⟩⟩
  · have hn' : g (0 + Int.toNat (k : Int)) < 0 := by simpa [BE.den, IE.den, cmpI_lss] using hn
    have hi : regIn (g (0 + Int.toNat (k : Int))) = false := by unfold regIn; rw [Bool.and_eq_false_iff]; left; exact decide_eq_false (by omega)
    refine ⟨?_, hi, hnext⟩
    have hv : regV (g (0 + Int.toNat (k : Int))) = 0 := by unfold regV; rw [hi]; rfl
    rw [hv]; rfl
  · have hn' : 6 < g (0 + Int.toNat (k : Int)) := by simpa [BE.den, IE.den, cmpI_gtr] using hg
    have hi : regIn (g (0 + Int.toNat (k : Int))) = false := by unfold regIn; rw [Bool.and_eq_false_iff]; right; exact decide_eq_false (by omega)
    refine ⟨?_, hi, hnext⟩
    have hv : regV (g (0 + Int.toNat (k : Int))) = 0 := by unfold regV; rw [hi]; rfl
    rw [hv]; rfl
  · have h0 : 0 ≤ g (0 + Int.toNat (k : Int)) := by
      have : ¬ g (0 + Int.toNat (k : Int)) < 0 := by simpa [BE.den, IE.den, cmpI_lss] using hn
      omega
    have h6 : g (0 + Int.toNat (k : Int)) ≤ 6 := by
      have : ¬ 6 < g (0 + Int.toNat (k : Int)) := by simpa [BE.den, IE.den, cmpI_gtr] using hg
      omega
    have hi : regIn (g (0 + Int.toNat (k : Int))) = true := by unfold regIn; rw [Bool.and_eq_true]; exact ⟨decide_eq_true h0, decide_eq_true (by omega)⟩
    refine ⟨q1, q2, decide_eq_true (by omega), decide_eq_true (by omega), ?_, ?_, hnext⟩
    · have hat := regs_at (g (0 + Int.toNat (k : Int))) h0 h6 ((0 / 1 + NE.den (IE.nat (IE.var (g (0 + NE.den (IE.nat (IE.var (k : Int)))))))) * 1 + 0) (by
        show (0 / 1 + (g (0 + Int.toNat (k : Int))).toNat) * 1 + 0 = _
        simp)
      exact neq_of hat.symm
    · rw [hi]; rfl
end Go.Proofs.YtalifikpmlapgaaGreat.jitNames
