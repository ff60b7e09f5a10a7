/- The functions of package rv that look at numbers alone: what they make. -/
import Derived.Test.YtiljkmcahkphiaaProg
import Derived.Test.YtiljkmcahkphiaaSx5
import Derived.Test.YtiljkmcahkphiaaBm
import Derived.KernelRfl
namespace Go.Proofs.Ytiljkmcahkphiaa.Rv
open Go Go.Proofs.Ytiljkmcahkphiaa.Sx
set_option linter.unusedVariables false
set_option linter.unusedSimpArgs false

noncomputable abbrev P := Go.Proofs.Try.prog
noncomputable def G0 : FuncId → Option Cal := inl P (fun _ _ => 0) (fun _ => none) 6
theorem G0_ok : GammaOk P G0 := inl_ok none_ok 6

def inI64 (n : Int) : Bool := decide (-9223372036854775808 ≤ n) && decide (n < 9223372036854775808)
theorem inI64_iff (n : Int) : inI64 n = true ↔ -9223372036854775808 ≤ n ∧ n < 9223372036854775808 := by simp [inI64]

def regB (n : Int) (named : Bool) : Bool := decide (n = 0) || named && decide (0 < n) && decide (n < 32)
def fReg : PureFn
  | [.int .i64 n, .bool named] => some (none, .bool (.var (regB n.den named.den)))
  | _ => none

theorem reg_run (a : Int) (b : Bool) (K : SV → List SObj → Prop) : sxFunc P G0 (fun _ => 0) Try.f26 [.int .i64 (.var a), .bool (.var b)] [] K =
    ((BE.den (BE.cmp BinOp.eql (IE.var a) (IE.lit 0)) = true → K (SV.bool (BE.lit true)) []) ∧ (BE.den (BE.cmp BinOp.eql (IE.var a) (IE.lit 0)) = false → (BE.den (BE.var b) = true → (BE.den (BE.cmp BinOp.gtr (IE.var a) (IE.lit 0)) = true → K (SV.bool (BE.cmp BinOp.lss (IE.var a) (IE.lit 32))) []) ∧ (BE.den (BE.cmp BinOp.gtr (IE.var a) (IE.lit 0)) = false → K (SV.bool (BE.lit false)) [])) ∧ (BE.den (BE.var b) = false → K (SV.bool (BE.lit false)) []))) := by kernel_rfl

theorem reg_ok : PureOk P 26 fReg := by
  refine pure_of (func_sound (un := fun _ => 0) G0_ok Try.func26) ?_
  intro args p v hF hp
  unfold fReg at hF
  split at hF
  · rename_i n m
    simp only [Option.some.injEq, Prod.mk.injEq] at hF; obtain ⟨rfl, rfl⟩ := hF
    refine ⟨[.int .i64 (.var n.den), .bool (.var m.den)], rfl, by simp [SV.wfL, SV.wf], by simp [SV.wfL, SV.wf], trivial, ?_⟩
    rw [reg_run]
    simp only [BE.den, IE.den, cmpI_eql, cmpI_neq, cmpI_lss, cmpI_leq, cmpI_gtr, cmpI_geq, SV.den, regB]
    by_cases h : n.den = 0
    · simp [h]
    · by_cases h2 : 0 < n.den <;> cases m.den <;> simp [h, h2]
  · simp at hF

def fBits : PureFn
  | [.int .u64 v, .int .i64 lo, .int .i64 n] => some (some (BE.andS (.cmpS .geq lo (.lit 0)) (BE.andS (.cmpS .leq lo (.lit 63)) (BE.andS (.cmpS .geq n (.lit 1)) (.cmpS .leq n (.lit 63))))),
      .int .u64 (.bits .and .u64 (IE.two (.shr .u64) v lo) (IE.two (.sub .u64) (IE.two (.shl .u64) (.lit 1) n) (.lit 1))))
  | _ => none

theorem bits_run (a b c : Int) (K : SV → List SObj → Prop) : sxFunc P G0 (fun _ => 0) Try.f20 [.int .u64 (.var a), .int .i64 (.var b), .int .i64 (.var c)] [] K =
    ((BE.den (BE.cmp BinOp.lss (IE.var b) (IE.lit 0)) = true → K (SV.int IntKind.u64 (IE.lit 0)) []) ∧ (BE.den (BE.cmp BinOp.lss (IE.var b) (IE.lit 0)) = false → (BE.den (BE.cmp BinOp.gtr (IE.var b) (IE.lit 63)) = true → K (SV.int IntKind.u64 (IE.lit 0)) []) ∧ (BE.den (BE.cmp BinOp.gtr (IE.var b) (IE.lit 63)) = false → BE.den (BE.cmp BinOp.geq (IE.var b) (IE.lit 0)) = true ∧ (BE.den (BE.cmp BinOp.lss (IE.var c) (IE.lit 1)) = true → K (SV.int IntKind.u64 (IE.bits BinOp.and IntKind.u64 (IE.shr IntKind.u64 (IE.var a) (IE.var b)) (IE.lit 0))) []) ∧ (BE.den (BE.cmp BinOp.lss (IE.var c) (IE.lit 1)) = false → (BE.den (BE.cmp BinOp.gtr (IE.var c) (IE.lit 63)) = true → K (SV.int IntKind.u64 (IE.bits BinOp.and IntKind.u64 (IE.shr IntKind.u64 (IE.var a) (IE.var b)) (IE.lit 18446744073709551615))) []) ∧ (BE.den (BE.cmp BinOp.gtr (IE.var c) (IE.lit 63)) = false → BE.den (BE.cmp BinOp.geq (IE.var c) (IE.lit 0)) = true ∧ K (SV.int IntKind.u64 (IE.bits BinOp.and IntKind.u64 (IE.shr IntKind.u64 (IE.var a) (IE.var b)) (IE.sub IntKind.u64 (IE.shl IntKind.u64 (IE.lit 1) (IE.var c)) (IE.lit 1)))) []))))) := by kernel_rfl

theorem bits_ok : PureOk P 20 fBits := by
  refine pure_of (func_sound (un := fun _ => 0) G0_ok Try.func20) ?_
  intro args p v hF hp
  unfold fBits at hF
  split at hF
  · rename_i x lo n
    simp only [Option.some.injEq, Prod.mk.injEq] at hF; obtain ⟨rfl, rfl⟩ := hF
    refine ⟨[.int .u64 (.var x.den), .int .i64 (.var lo.den), .int .i64 (.var n.den)], rfl, by simp [SV.wfL, SV.wf], by simp [SV.wfL, SV.wf], trivial, ?_⟩
    simp [Holds, andS_den, cmpS_den, cmpI_eql, cmpI_neq, cmpI_lss, cmpI_leq, cmpI_gtr, cmpI_geq, IE.den] at hp
    rw [bits_run]
    have h1 : ¬ lo.den < 0 := by omega
    have h2 : ¬ 63 < lo.den := by omega
    have h3 : ¬ n.den < 1 := by omega
    have h4 : ¬ 63 < n.den := by omega
    have h5 : 0 ≤ lo.den := by omega
    have h6 : 0 ≤ n.den := by omega
    simp [BE.den, IE.den, cmpI_eql, cmpI_neq, cmpI_lss, cmpI_leq, cmpI_gtr, cmpI_geq, SV.den, two_den, h1, h2, h3, h4, h5, h6]
  · simp at hF

/-! Does an immediate fit? -/
def fitsB : Nat → Int → Bool
  | 1, d => decide (0 ≤ d) && decide (d < 1048576)
  | 2, d | 5, d => decide (-2048 ≤ d) && decide (d < 2048)
  | 3, d => decide (0 ≤ d) && decide (d < 64)
  | 4, d => decide (0 ≤ d) && decide (d < 32)
  | 7, d => decide (-4096 ≤ d) && decide (d < 4096) && decide (d % 2 = 0)
  | 8, d => decide (-1048576 ≤ d) && decide (d < 1048576) && decide (d % 2 = 0)
  | _, d => decide (d = 0)

def fFits (form : Nat) : PureFn
  | [.agg [], .int .i64 d] => some (some (.var (inI64 d.den)), .bool (.var (fitsB form d.den)))
  | _ => none
def fFitsSh : PureFn
  | [.agg [.int .i64 (.lit 6)], .int .i64 d] => some (some (.var (inI64 d.den)), .bool (.var (fitsB 3 d.den)))
  | [.agg [.int .i64 (.lit 5)], .int .i64 d] => some (some (.var (inI64 d.den)), .bool (.var (fitsB 4 d.den)))
  | _ => none

theorem shl_u64 (x : Int) (n : Nat) (hn : n ≤ 64) : shlI .u64 x n = x * 2 ^ n % 18446744073709551616 := by rw [shl_mul .u64 x n hn, wrap_u64]
theorem shr_i64 (x : Int) (n : Nat) (hn : n ≤ 64) : shrI .i64 x n = x / 2 ^ n := shr_ediv .i64 x n hn

theorem sext12 (a : Int) (h : inI64 a = true) : (shrI .i64 (IntKind.i64.wrap (shlI .u64 (IntKind.u64.wrap a) 52)) 52 = a) ↔ -2048 ≤ a ∧ a < 2048 := by
  rw [inI64_iff] at h
  rw [show (52 : Int) = ((52 : Nat) : Int) from rfl, shl_u64 _ 52 (by decide), shr_i64 _ 52 (by decide), wrap_i64, wrap_u64]
  split <;> omega
theorem sext13 (a : Int) (h : inI64 a = true) : (shrI .i64 (IntKind.i64.wrap (shlI .u64 (IntKind.u64.wrap a) 51)) 51 = a) ↔ -4096 ≤ a ∧ a < 4096 := by
  rw [inI64_iff] at h
  rw [show (51 : Int) = ((51 : Nat) : Int) from rfl, shl_u64 _ 51 (by decide), shr_i64 _ 51 (by decide), wrap_i64, wrap_u64]
  split <;> omega
theorem sext21 (a : Int) (h : inI64 a = true) : (shrI .i64 (IntKind.i64.wrap (shlI .u64 (IntKind.u64.wrap a) 43)) 43 = a) ↔ -1048576 ≤ a ∧ a < 1048576 := by
  rw [inI64_iff] at h
  rw [show (43 : Int) = ((43 : Nat) : Int) from rfl, shl_u64 _ 43 (by decide), shr_i64 _ 43 (by decide), wrap_i64, wrap_u64]
  split <;> omega
theorem tmod2 (a : Int) : a.tmod 2 = 0 ↔ a % 2 = 0 := ⟨fun h => Int.emod_eq_zero_of_dvd (Int.dvd_of_tmod_eq_zero h), fun h => Int.tmod_eq_zero_of_dvd (Int.dvd_of_emod_eq_zero h)⟩

theorem fits_upper (a : Int) (Q : SV → Prop) : sxFunc P G0 (fun _ => 0) Try.f62 [.agg [], .int .i64 (.var a)] [] (fun v _ => Q v) =
    ((BE.den (BE.cmp BinOp.geq (IE.var a) (IE.lit 0)) = true → Q (SV.bool (BE.cmp BinOp.lss (IE.var a) (IE.lit 1048576)))) ∧ (BE.den (BE.cmp BinOp.geq (IE.var a) (IE.lit 0)) = false → Q (SV.bool (BE.lit false)))) := by kernel_rfl
theorem fits_short (a : Int) (Q : SV → Prop) : sxFunc P G0 (fun _ => 0) Try.f67 [.agg [], .int .i64 (.var a)] [] (fun v _ => Q v) =
    Q (SV.bool (BE.cmp BinOp.eql (IE.shr IntKind.i64 (IE.conv IntKind.i64 (IE.shl IntKind.u64 (IE.conv IntKind.u64 (IE.var a)) (IE.lit 52))) (IE.lit 52)) (IE.var a))) := by kernel_rfl
theorem fits_store (a : Int) (Q : SV → Prop) : sxFunc P G0 (fun _ => 0) Try.f78 [.agg [], .int .i64 (.var a)] [] (fun v _ => Q v) =
    Q (SV.bool (BE.cmp BinOp.eql (IE.shr IntKind.i64 (IE.conv IntKind.i64 (IE.shl IntKind.u64 (IE.conv IntKind.u64 (IE.var a)) (IE.lit 52))) (IE.lit 52)) (IE.var a))) := by kernel_rfl
theorem fits_shift6 (a : Int) (Q : SV → Prop) : sxFunc P G0 (fun _ => 0) Try.f73 [.agg [.int .i64 (.lit 6)], .int .i64 (.var a)] [] (fun v _ => Q v) =
    ((BE.den (BE.cmp BinOp.geq (IE.var a) (IE.lit 0)) = true → Q (SV.bool (BE.cmp BinOp.lss (IE.var a) (IE.lit 64)))) ∧ (BE.den (BE.cmp BinOp.geq (IE.var a) (IE.lit 0)) = false → Q (SV.bool (BE.lit false)))) := by kernel_rfl
theorem fits_shift5 (a : Int) (Q : SV → Prop) : sxFunc P G0 (fun _ => 0) Try.f73 [.agg [.int .i64 (.lit 5)], .int .i64 (.var a)] [] (fun v _ => Q v) =
    ((BE.den (BE.cmp BinOp.geq (IE.var a) (IE.lit 0)) = true → Q (SV.bool (BE.cmp BinOp.lss (IE.var a) (IE.lit 32)))) ∧ (BE.den (BE.cmp BinOp.geq (IE.var a) (IE.lit 0)) = false → Q (SV.bool (BE.lit false)))) := by kernel_rfl
theorem fits_plain (a : Int) (Q : SV → Prop) : sxFunc P G0 (fun _ => 0) Try.f83 [.agg [], .int .i64 (.var a)] [] (fun v _ => Q v) =
    Q (SV.bool (BE.cmp BinOp.eql (IE.var a) (IE.lit 0))) := by kernel_rfl
theorem fits_branch (a : Int) (Q : SV → Prop) : sxFunc P G0 (fun _ => 0) Try.f88 [.agg [], .int .i64 (.var a)] [] (fun v _ => Q v) =
    ((BE.den (BE.cmp BinOp.eql (IE.shr IntKind.i64 (IE.conv IntKind.i64 (IE.shl IntKind.u64 (IE.conv IntKind.u64 (IE.var a)) (IE.lit 51))) (IE.lit 51)) (IE.var a)) = true → Q (SV.bool (BE.cmp BinOp.eql (IE.rem (IE.var a) (IE.lit 2)) (IE.lit 0)))) ∧
     (BE.den (BE.cmp BinOp.eql (IE.shr IntKind.i64 (IE.conv IntKind.i64 (IE.shl IntKind.u64 (IE.conv IntKind.u64 (IE.var a)) (IE.lit 51))) (IE.lit 51)) (IE.var a)) = false → Q (SV.bool (BE.lit false)))) := by kernel_rfl
theorem fits_jump (a : Int) (Q : SV → Prop) : sxFunc P G0 (fun _ => 0) Try.f93 [.agg [], .int .i64 (.var a)] [] (fun v _ => Q v) =
    ((BE.den (BE.cmp BinOp.eql (IE.shr IntKind.i64 (IE.conv IntKind.i64 (IE.shl IntKind.u64 (IE.conv IntKind.u64 (IE.var a)) (IE.lit 43))) (IE.lit 43)) (IE.var a)) = true → Q (SV.bool (BE.cmp BinOp.eql (IE.rem (IE.var a) (IE.lit 2)) (IE.lit 0)))) ∧
     (BE.den (BE.cmp BinOp.eql (IE.shr IntKind.i64 (IE.conv IntKind.i64 (IE.shl IntKind.u64 (IE.conv IntKind.u64 (IE.var a)) (IE.lit 43))) (IE.lit 43)) (IE.var a)) = false → Q (SV.bool (BE.lit false)))) := by kernel_rfl

theorem bool_val {a b : Bool} (h : a = b) : ∀ ν, (SV.bool (.var a)).den ν = (SV.bool (.var b)).den ν := fun _ => by rw [h]
theorem bool_eq {a : BE} {b : Bool} (h : a.den = b) : ∀ ν, (SV.bool a).den ν = (SV.bool (.var b)).den ν := fun ν => by simp only [SV.den, BE.den, h]

/-- What a method 'fits' says, out of its run. -/
theorem fits_of {f : FuncId} {fn : Func} (hf : P.funcs[f]? = some fn) {F : PureFn} {recv : SV} {form : Nat} (hrecv : recv.wf fun _ => False)
    (hF : ∀ args p v, F args = some (p, v) → ∃ d, args = [recv, .int .i64 d] ∧ p = some (.var (inI64 d.den)) ∧ v = .bool (.var (fitsB form d.den)))
    (h : ∀ a, inI64 a = true → sxFunc P G0 (fun _ => 0) fn [recv, .int .i64 (.var a)] [] (fun v _ => ∀ ν, v.den ν = (SV.bool (.var (fitsB form a))).den ν)) : PureOk P f F := by
  refine pure_of (func_sound (un := fun _ => 0) G0_ok hf) ?_
  intro args p v hF' hp
  obtain ⟨d, rfl, rfl, rfl⟩ := hF args p v hF'
  exact ⟨[recv, .int .i64 (.var d.den)], rfl, ⟨hrecv, trivial, trivial⟩, ⟨hrecv, trivial, trivial⟩, trivial, h d.den hp⟩

theorem fFits_inv (form : Nat) : ∀ args p v, fFits form args = some (p, v) → ∃ d, args = [.agg [], .int .i64 d] ∧ p = some (.var (inI64 d.den)) ∧ v = .bool (.var (fitsB form d.den)) := by
  intro args p v h
  unfold fFits at h
  split at h
  · rename_i d
    simp only [Option.some.injEq, Prod.mk.injEq] at h
    exact ⟨d, rfl, h.1.symm, h.2.symm⟩
  · simp at h

theorem agg0 : (SV.agg []).wf fun _ => False := trivial

theorem fits_upper_ok : PureOk P 62 (fFits 1) := by
  refine fits_of Try.func62 agg0 (fFits_inv 1) fun a ha => ?_
  rw [fits_upper]
  by_cases h : 0 ≤ a <;> simp [SV.den, BE.den, IE.den, cmpI_geq, cmpI_lss, fitsB, h]
theorem fits_short_ok : PureOk P 67 (fFits 2) := by
  refine fits_of Try.func67 agg0 (fFits_inv 2) fun a ha => ?_
  rw [fits_short]
  refine bool_eq ?_
  simp only [BE.den, IE.den, cmpI_eql, sext12 a ha, fitsB]
  simp
theorem fits_store_ok : PureOk P 78 (fFits 5) := by
  refine fits_of Try.func78 agg0 (fFits_inv 5) fun a ha => ?_
  rw [fits_store]
  refine bool_eq ?_
  simp only [BE.den, IE.den, cmpI_eql, sext12 a ha, fitsB]
  simp
theorem fits_plain_ok : PureOk P 83 (fFits 6) := by
  refine fits_of Try.func83 agg0 (fFits_inv 6) fun a ha => ?_
  rw [fits_plain]
  refine bool_eq ?_
  simp only [BE.den, IE.den, cmpI_eql, fitsB]
theorem fits_branch_ok : PureOk P 88 (fFits 7) := by
  refine fits_of Try.func88 agg0 (fFits_inv 7) fun a ha => ?_
  rw [fits_branch]
  simp only [SV.den, BE.den, IE.den, cmpI_eql, sext13 a ha, fitsB, tmod2]
  by_cases h : -4096 ≤ a ∧ a < 4096
  · simp [h]
  · simp only [h]
    refine ⟨fun hh => by simp at hh, fun _ ν => ?_⟩
    have : (decide (-4096 ≤ a) && decide (a < 4096)) = false := by simpa using h
    rw [this]; rfl
theorem fits_jump_ok : PureOk P 93 (fFits 8) := by
  refine fits_of Try.func93 agg0 (fFits_inv 8) fun a ha => ?_
  rw [fits_jump]
  simp only [SV.den, BE.den, IE.den, cmpI_eql, sext21 a ha, fitsB, tmod2]
  by_cases h : -1048576 ≤ a ∧ a < 1048576
  · simp [h]
  · simp only [h]
    refine ⟨fun hh => by simp at hh, fun _ ν => ?_⟩
    have : (decide (-1048576 ≤ a) && decide (a < 1048576)) = false := by simpa using h
    rw [this]; rfl
theorem fits_shift_ok : PureOk P 73 fFitsSh := by
  refine pure_of (func_sound (un := fun _ => 0) G0_ok Try.func73) ?_
  intro args p v hF hp
  unfold fFitsSh at hF
  split at hF
  · rename_i d
    simp only [Option.some.injEq, Prod.mk.injEq] at hF; obtain ⟨rfl, rfl⟩ := hF
    refine ⟨[.agg [.int .i64 (.lit 6)], .int .i64 (.var d.den)], rfl, by simp [SV.wfL, SV.wf], by simp [SV.wfL, SV.wf], trivial, ?_⟩
    rw [fits_shift6]
    by_cases h : 0 ≤ d.den <;> simp [SV.den, BE.den, IE.den, cmpI_geq, cmpI_lss, fitsB, h]
  · rename_i d
    simp only [Option.some.injEq, Prod.mk.injEq] at hF; obtain ⟨rfl, rfl⟩ := hF
    refine ⟨[.agg [.int .i64 (.lit 5)], .int .i64 (.var d.den)], rfl, by simp [SV.wfL, SV.wf], by simp [SV.wfL, SV.wf], trivial, ?_⟩
    rw [fits_shift5]
    by_cases h : 0 ≤ d.den <;> simp [SV.den, BE.den, IE.den, cmpI_geq, cmpI_lss, fitsB, h]
  · simp at hF

/-- What is known of package rv's small functions. -/
def rvT : List (FuncId × Cal) := [(26, .pure fReg), (20, .pure fBits), (62, .pure (fFits 1)), (67, .pure (fFits 2)), (73, .pure fFitsSh),
  (78, .pure (fFits 5)), (83, .pure (fFits 6)), (88, .pure (fFits 7)), (93, .pure (fFits 8))]
theorem rvT_ok : GammaOk P (table rvT) := by
  refine table_ok fun p hp => ?_
  simp only [rvT, List.mem_cons, List.not_mem_nil, or_false] at hp
  rcases hp with rfl | rfl | rfl | rfl | rfl | rfl | rfl | rfl | rfl
  · exact reg_ok
  · exact bits_ok
  · exact fits_upper_ok
  · exact fits_short_ok
  · exact fits_shift_ok
  · exact fits_store_ok
  · exact fits_plain_ok
  · exact fits_branch_ok
  · exact fits_jump_ok

noncomputable def G1 : FuncId → Option Cal := inl P (fun _ _ => 40) (table rvT) 6
theorem G1_ok : GammaOk P G1 := inl_ok rvT_ok 6

end Go.Proofs.Ytiljkmcahkphiaa.Rv
