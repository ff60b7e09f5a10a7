/- The document's answer to layer 15: its small functions, in numbers. -/
import Derived.Test.YtiljkmcahkphiaaRr2
namespace Go.Proofs.Ytiljkmcahkphiaa.Rv
open Go Go.Proofs.Ytiljkmcahkphiaa.Sx Go.RowKit
set_option linter.unusedVariables false
set_option linter.unusedSimpArgs false

def rrT : List (FuncId × Cal) := [(35, .pure fRBits), (44, .pure fRSext)]
theorem rrT_ok : GammaOk P (table rrT) := table_cons rbits_ok (table_cons rsext_ok (table_ok (by simp)))
noncomputable def H0 : FuncId → Option Cal := inl P (fun _ _ => 40) (table rrT) 6
theorem H0_ok : GammaOk P H0 := inl_ok rrT_ok 6

/-! at, part -/
def fRAt : PureFn
  | [.int .i64 e, .int .i64 (.lit lo), .int .i64 (.lit n), .int .i64 (.lit to)] =>
    if (atList.contains (lo.toNat, n.toNat, to.toNat) && decide (0 ≤ lo) && decide (0 ≤ n) && decide (0 ≤ to)) = true then some (some (.var (inI64 e.den)), .int .u32 (.var (e.den / 2 ^ lo.toNat % 2 ^ n.toNat * 2 ^ to.toNat))) else none
  | _ => none
where atList : List (Nat × Nat × Nat) := [(0, 20, 12), (0, 12, 20), (0, 6, 20), (0, 5, 7), (5, 7, 25), (1, 4, 8), (5, 6, 25), (11, 1, 7), (12, 1, 31), (1, 10, 21), (11, 1, 20), (12, 8, 12), (20, 1, 31)]

theorem at_run (p : Nat × Nat × Nat) (hp : p ∈ fRAt.atList) (v : Int) (Q : SV → Prop) : sxFunc P H0 (fun _ => 40) Try.f39 [.int .i64 (.var v), .int .i64 (.lit (p.1 : Nat)), .int .i64 (.lit (p.2.1 : Nat)), .int .i64 (.lit (p.2.2 : Nat))] [] (fun v _ => Q v) =
    (BE.den (BE.var (inU64 (IE.den (IE.conv .u64 (.var v))))) = true ∧ Q (.int .u32 (.shl .u32 (.conv .u32 (.var (IE.den (.conv .u64 (.var v)) / 2 ^ p.1 % 2 ^ p.2.1))) (.lit (p.2.2 : Nat))))) := by
  simp only [fRAt.atList, List.mem_cons, List.not_mem_nil, or_false] at hp
  rcases hp with rfl | rfl | rfl | rfl | rfl | rfl | rfl | rfl | rfl | rfl | rfl | rfl | rfl <;> kernel_rfl

theorem atList_small : ∀ p ∈ fRAt.atList, p.1 + p.2.1 ≤ 64 ∧ p.2.1 + p.2.2 ≤ 32 := by decide

theorem u64_bits (v : Int) (lo n : Nat) (h : lo + n ≤ 64) : v % 18446744073709551616 / 2 ^ lo % 2 ^ n = v / 2 ^ lo % 2 ^ n := by
  have e : (18446744073709551616 : Int) = 2 ^ lo * (2 ^ n * 2 ^ (64 - lo - n)) := by
    rw [← Int.pow_add, ← Int.pow_add, show lo + (n + (64 - lo - n)) = 64 by omega]; rfl
  have hp : (0 : Int) < 2 ^ lo := Int.pow_pos (by decide)
  have hk : v = v % 18446744073709551616 + 2 ^ lo * (2 ^ n * (2 ^ (64 - lo - n) * (v / 18446744073709551616))) := by
    have := Int.emod_add_mul_ediv v 18446744073709551616
    rw [← Int.mul_assoc, ← Int.mul_assoc, Int.mul_assoc (2 ^ lo), ← e]
    exact this.symm
  have h2 : v / 2 ^ lo = v % 18446744073709551616 / 2 ^ lo + 2 ^ n * (2 ^ (64 - lo - n) * (v / 18446744073709551616)) := by
    rw [← Int.add_mul_ediv_left _ _ (by omega : (2 : Int) ^ lo ≠ 0), ← hk]
  rw [h2, Int.add_mul_emod_self_left]

theorem at_ok : PureOk P 39 fRAt := by
  refine pure_of (func_sound (un := fun _ => 40) H0_ok Try.func39) ?_
  intro args p v hF hp
  unfold fRAt at hF
  split at hF
  · rename_i e lo n to
    split at hF
    · rename_i hc
      simp only [Bool.and_eq_true, decide_eq_true_eq] at hc
      obtain ⟨⟨⟨h1, h2⟩, h3⟩, h4⟩ := hc
      simp only [Option.some.injEq, Prod.mk.injEq] at hF; obtain ⟨rfl, rfl⟩ := hF
      have hmem : (lo.toNat, n.toNat, to.toNat) ∈ fRAt.atList := by simpa using h1
      obtain ⟨s1, s2⟩ := atList_small _ hmem
      simp only at s1 s2
      simp only [Holds, BE.den, inI64_iff] at hp
      refine ⟨[.int .i64 (.var e.den), .int .i64 (.lit ((lo.toNat : Nat) : Int)), .int .i64 (.lit ((n.toNat : Nat) : Int)), .int .i64 (.lit ((to.toNat : Nat) : Int))], ?_, by simp [SV.wfL, SV.wf], by simp [SV.wfL, SV.wf], by simp [SV.wf], ?_⟩
      · simp [SV.denL, SV.den, IE.den, Int.toNat_of_nonneg h2, Int.toNat_of_nonneg h3, Int.toNat_of_nonneg h4]
      · rw [at_run (lo.toNat, n.toNat, to.toNat) hmem]
        have hq : (0 : Int) < 2 ^ n.toNat := Int.pow_pos (by decide)
        have b0 : 0 ≤ e.den / 2 ^ lo.toNat % 2 ^ n.toNat := Int.emod_nonneg _ (by omega)
        have b1 : e.den / 2 ^ lo.toNat % 2 ^ n.toNat < 2 ^ n.toNat := Int.emod_lt_of_pos _ hq
        have hle : (2 : Int) ^ n.toNat * 2 ^ to.toNat ≤ 4294967296 := by rw [← Int.pow_add, ← ipow32]; exact ipow_le s2
        have ht : (0 : Int) < 2 ^ to.toNat := Int.pow_pos (by decide)
        have b2 : e.den / 2 ^ lo.toNat % 2 ^ n.toNat * 2 ^ to.toNat < 4294967296 := Int.lt_of_lt_of_le (Int.mul_lt_mul_of_pos_right b1 ht) hle
        have b3 : e.den / 2 ^ lo.toNat % 2 ^ n.toNat < 4294967296 := by
          have : (2 : Int) ^ n.toNat ≤ 4294967296 := by rw [← ipow32]; exact ipow_le (by omega)
          omega
        refine ⟨by simp only [BE.den, IE.den, wrap_u64, inU64]; simp; omega, fun ν => ?_⟩
        simp only [SV.den, IE.den, wrap_u64, u64_bits _ _ _ s1]
        rw [wrap_u32_in b0 b3, shl_mul .u32 _ to.toNat (by simp [IntKind.bits]; omega), wrap_u32_in (Int.mul_nonneg b0 (Int.le_of_lt ht)) b2]
    · simp at hF
  · simp at hF


theorem inU32_iff (n : Int) : inU32 n = true ↔ 0 ≤ n ∧ n < 4294967296 := by simp [inU32]
def fRPart : PureFn
  | [.int .u32 e, .int .i64 (.lit lo), .int .i64 (.lit n)] =>
    if (partList.contains (lo.toNat, n.toNat) && decide (0 ≤ lo) && decide (0 ≤ n)) = true then some (some (.var (inU32 e.den)), .int .i64 (.var (e.den / 2 ^ lo.toNat % 2 ^ n.toNat))) else none
  | _ => none
where partList : List (Nat × Nat) := [(0, 7), (12, 20), (20, 12), (20, 6), (20, 5), (7, 5), (25, 7), (8, 4), (25, 6), (7, 1), (31, 1), (21, 10), (20, 1), (12, 8), (15, 5)]

theorem part_run (p : Nat × Nat) (hp : p ∈ fRPart.partList) (v : Int) (Q : SV → Prop) : sxFunc P H0 (fun _ => 40) Try.f22 [.int .u32 (.var v), .int .i64 (.lit (p.1 : Nat)), .int .i64 (.lit (p.2 : Nat))] [] (fun v _ => Q v) =
    (BE.den (BE.var (inU64 (IE.den (IE.conv .u64 (.var v))))) = true ∧ Q (.int .i64 (.conv .i64 (.var (IE.den (.conv .u64 (.var v)) / 2 ^ p.1 % 2 ^ p.2))))) := by
  simp only [fRPart.partList, List.mem_cons, List.not_mem_nil, or_false] at hp
  rcases hp with rfl | rfl | rfl | rfl | rfl | rfl | rfl | rfl | rfl | rfl | rfl | rfl | rfl | rfl | rfl <;> kernel_rfl

theorem partList_small : ∀ p ∈ fRPart.partList, p.1 + p.2 ≤ 32 := by decide

theorem part_ok : PureOk P 22 fRPart := by
  refine pure_of (func_sound (un := fun _ => 40) H0_ok Try.func22) ?_
  intro args p v hF hp
  unfold fRPart at hF
  split at hF
  · rename_i e lo n
    split at hF
    · rename_i hc
      simp only [Bool.and_eq_true, decide_eq_true_eq] at hc
      obtain ⟨⟨h1, h2⟩, h3⟩ := hc
      simp only [Option.some.injEq, Prod.mk.injEq] at hF; obtain ⟨rfl, rfl⟩ := hF
      have hmem : (lo.toNat, n.toNat) ∈ fRPart.partList := by simpa using h1
      have s1 := partList_small _ hmem
      simp only at s1
      simp only [Holds, BE.den, inU32_iff] at hp
      refine ⟨[.int .u32 (.var e.den), .int .i64 (.lit ((lo.toNat : Nat) : Int)), .int .i64 (.lit ((n.toNat : Nat) : Int))], ?_, by simp [SV.wfL, SV.wf], by simp [SV.wfL, SV.wf], by simp [SV.wf], ?_⟩
      · simp [SV.denL, SV.den, IE.den, Int.toNat_of_nonneg h2, Int.toNat_of_nonneg h3]
      · rw [part_run (lo.toNat, n.toNat) hmem]
        have hq : (0 : Int) < 2 ^ n.toNat := Int.pow_pos (by decide)
        have b0 : 0 ≤ e.den / 2 ^ lo.toNat % 2 ^ n.toNat := Int.emod_nonneg _ (by omega)
        have b1 : e.den / 2 ^ lo.toNat % 2 ^ n.toNat < 2 ^ n.toNat := Int.emod_lt_of_pos _ hq
        have b3 : e.den / 2 ^ lo.toNat % 2 ^ n.toNat < 4294967296 := by
          have : (2 : Int) ^ n.toNat ≤ 4294967296 := by rw [← ipow32]; exact ipow_le (by omega)
          omega
        refine ⟨by simp only [BE.den, IE.den, wrap_u64, inU64]; simp; omega, fun ν => ?_⟩
        simp only [SV.den, IE.den, wrap_u64, u64_bits _ _ _ (by omega : lo.toNat + n.toNat ≤ 64)]
        rw [wrap_i64_in (by omega) (by omega)]
    · simp at hF
  · simp at hF

/-! reg, imm -/
def regE (a : Int) (b : Bool) (Q : SV → Prop) : Prop :=
  (BE.den (BE.cmp BinOp.geq (IE.var a) (IE.lit 0)) = true → (BE.den (BE.cmp BinOp.lss (IE.var a) (IE.lit 32)) = true → Q (SV.bool (if b then BE.lit true else BE.cmp BinOp.eql (IE.var a) (IE.lit 0)))) ∧ (BE.den (BE.cmp BinOp.lss (IE.var a) (IE.lit 32)) = false → Q (SV.bool (BE.lit false)))) ∧ (BE.den (BE.cmp BinOp.geq (IE.var a) (IE.lit 0)) = false → Q (SV.bool (BE.lit false)))
theorem rreg_run (a : Int) (b : Bool) (Q : SV → Prop) : sxFunc P H0 (fun _ => 40) Try.f28 [.int .i64 (.var a), .bool (.lit b)] [] (fun v _ => Q v) = regE a b Q := by
  cases b <;> kernel_rfl
def fRReg : PureFn
  | [.int .i64 e, .bool (.lit b)] => some (none, .bool (.var (regB e.den b)))
  | _ => none
theorem rreg_ok : PureOk P 28 fRReg := by
  refine pure_of (func_sound (un := fun _ => 40) H0_ok Try.func28) ?_
  intro args p v hF hp
  unfold fRReg at hF
  split at hF
  · rename_i e b
    simp only [Option.some.injEq, Prod.mk.injEq] at hF; obtain ⟨rfl, rfl⟩ := hF
    refine ⟨[.int .i64 (.var e.den), .bool (.lit b)], by simp [SV.denL, SV.den, IE.den], by simp [SV.wfL, SV.wf], by simp [SV.wfL, SV.wf], by simp [SV.wf], ?_⟩
    rw [rreg_run]
    simp only [regE, BE.den, IE.den, cmpI_geq, cmpI_lss, decide_eq_true_eq, decide_eq_false_iff_not]
    refine ⟨fun h1 => ⟨fun h2 ν => ?_, fun h2 ν => ?_⟩, fun h1 ν => ?_⟩
    · cases b
      · simp [SV.den, BE.den, IE.den, cmpI_eql, regB]
      · simp only [SV.den, BE.den, regB, if_true]; congr 1; simp; omega
    · simp only [SV.den, BE.den, regB]; congr 1; cases b <;> simp <;> omega
    · simp only [SV.den, BE.den, regB]; congr 1; cases b <;> simp <;> omega
  · simp at hF

def cmpE (op : BinOp) (a k : Int) : BE := .cmp op (.var a) (.lit k)
/-- Not less than lo, less than hi, and what follows. -/
def betweenE (a lo hi : Int) (last : BE) (Q : SV → Prop) : Prop :=
  (BE.den (cmpE .geq a lo) = true → (BE.den (cmpE .lss a hi) = true → Q (.bool last)) ∧ (BE.den (cmpE .lss a hi) = false → Q (.bool (.lit false)))) ∧ (BE.den (cmpE .geq a lo) = false → Q (.bool (.lit false)))
def between2 (a lo hi : Int) (Q : SV → Prop) : Prop :=
  (BE.den (cmpE .geq a lo) = true → Q (.bool (cmpE .lss a hi))) ∧ (BE.den (cmpE .geq a lo) = false → Q (.bool (.lit false)))
def immQ (a : Int) (Q : SV → Prop) : Nat → Prop
  | 1 => between2 a 0 1048576 Q
  | 2 | 5 => between2 a (-2048) 2048 Q
  | 3 => between2 a 0 64 Q
  | 4 => between2 a 0 32 Q
  | 7 => betweenE a (-4096) 4096 (.cmp .eql (.rem (.var a) (.lit 2)) (.lit 0)) Q
  | 8 => betweenE a (-1048576) 1048576 (.cmp .eql (.rem (.var a) (.lit 2)) (.lit 0)) Q
  | _ => Q (.bool (cmpE .eql a 0))
theorem rimm_run (f : Nat) (hf : f ∈ [1, 2, 3, 4, 5, 6, 7, 8]) (a : Int) (Q : SV → Prop) : sxFunc P H0 (fun _ => 40) Try.f29 [.int .i64 (.lit (f : Nat)), .int .i64 (.var a)] [] (fun v _ => Q v) = immQ a Q f := by
  simp only [List.mem_cons, List.not_mem_nil, or_false] at hf
  rcases hf with rfl | rfl | rfl | rfl | rfl | rfl | rfl | rfl <;> kernel_rfl
def fRImm : PureFn
  | [.int .i64 (.lit f), .int .i64 e] => if (decide (f.toNat ∈ [1, 2, 3, 4, 5, 6, 7, 8]) && decide (0 ≤ f)) = true then some (none, .bool (.var (fitsB f.toNat e.den))) else none
  | _ => none
theorem between2_of (a lo hi : Int) (Q : SV → Prop) (h : ∀ v : SV, (∀ ν, v.den ν = .bool (decide (lo ≤ a) && decide (a < hi))) → Q v) : between2 a lo hi Q := by
  simp only [between2, cmpE, BE.den, IE.den, cmpI_geq, decide_eq_true_eq, decide_eq_false_iff_not]
  refine ⟨fun h1 => h _ fun ν => ?_, fun h1 => h _ fun ν => ?_⟩
  · simp [SV.den, BE.den, IE.den, cmpI_lss, h1]
  · simp [SV.den, BE.den, h1]
theorem betweenE_of (a lo hi : Int) (last : BE) (Q : SV → Prop) (h : ∀ v : SV, (∀ ν, v.den ν = .bool (decide (lo ≤ a) && decide (a < hi) && last.den)) → Q v) : betweenE a lo hi last Q := by
  simp only [betweenE, cmpE, BE.den, IE.den, cmpI_geq, cmpI_lss, decide_eq_true_eq, decide_eq_false_iff_not]
  refine ⟨fun h1 => ⟨fun h2 => h _ fun ν => ?_, fun h2 => h _ fun ν => ?_⟩, fun h1 => h _ fun ν => ?_⟩
  · simp [SV.den, h1, h2]
  · simp [SV.den, BE.den, h2]
  · simp [SV.den, BE.den, h1]
theorem rimm_ok : PureOk P 29 fRImm := by
  refine pure_of (func_sound (un := fun _ => 40) H0_ok Try.func29) ?_
  intro args p v hF hp
  unfold fRImm at hF
  split at hF
  · rename_i f e
    split at hF
    · rename_i hc
      simp only [Bool.and_eq_true, decide_eq_true_eq] at hc
      obtain ⟨h1, h2⟩ := hc
      simp only [Option.some.injEq, Prod.mk.injEq] at hF; obtain ⟨rfl, rfl⟩ := hF
      refine ⟨[.int .i64 (.lit ((f.toNat : Nat) : Int)), .int .i64 (.var e.den)], by simp [SV.denL, SV.den, IE.den, Int.toNat_of_nonneg h2], by simp [SV.wfL, SV.wf], by simp [SV.wfL, SV.wf], by simp [SV.wf], ?_⟩
      rw [rimm_run _ h1]
      generalize f.toNat = g at *
      simp only [List.mem_cons, List.not_mem_nil, or_false] at h1
      rcases h1 with rfl | rfl | rfl | rfl | rfl | rfl | rfl | rfl <;> simp only [immQ]
      · exact between2_of _ _ _ _ fun v hv ν => by rw [hv ν]; rfl
      · exact between2_of _ _ _ _ fun v hv ν => by rw [hv ν]; rfl
      · exact between2_of _ _ _ _ fun v hv ν => by rw [hv ν]; rfl
      · exact between2_of _ _ _ _ fun v hv ν => by rw [hv ν]; rfl
      · exact between2_of _ _ _ _ fun v hv ν => by rw [hv ν]; rfl
      · intro ν; simp [cmpE, SV.den, BE.den, IE.den, cmpI_eql, fitsB]
      · refine betweenE_of _ _ _ _ _ fun v hv ν => ?_
        rw [hv ν]; simp [SV.den, BE.den, IE.den, cmpI_eql, fitsB, tmod2]
      · refine betweenE_of _ _ _ _ _ fun v hv ν => ?_
        rw [hv ν]; simp [SV.den, BE.den, IE.den, cmpI_eql, fitsB, tmod2]
    · simp at hF
  · simp at hF

def rrT1 : List (FuncId × Cal) := (39, .pure fRAt) :: (22, .pure fRPart) :: (28, .pure fRReg) :: (29, .pure fRImm) :: rrT
theorem rrT1_ok : GammaOk P (table rrT1) := table_cons at_ok (table_cons part_ok (table_cons rreg_ok (table_cons rimm_ok rrT_ok)))
noncomputable def H1 : FuncId → Option Cal := inl P (fun _ _ => 40) (table rrT1) 6
theorem H1_ok : GammaOk P H1 := inl_ok rrT1_ok 6

end Go.Proofs.Ytiljkmcahkphiaa.Rv
