/- What the reader's place in memory is. -/
import Derived.Test.YtajcmjjgnbaahaaAd2
namespace Go.Proofs.Ytajcmjjgnbaahaa.Amd
open Go Go.Proofs.Ytajcmjjgnbaahaa.Sx Go.RowKit
set_option linter.unusedVariables false
set_option linter.unusedSimpArgs false

theorem memory_nf (g : Nat → Int) (len cap : Nat) (a p : Int) (b : Bool) (v1 v2 v3 : Int) (v4 : Bool) (a' : Int) (b' : Bool) : sxFunc P R2 (fun _ => 40) Try.f55 [.ptr 1 0] [rdRow g cap, rdCells len cap a p b] (rdEnd g len cap p (.tuple [.int .i64 (.var v1), .int .i64 (.var v2), .int .i64 (.var v3), .bool (.var v4)]) a' b') =
    ((BE.den (BE.cmp BinOp.lss (IE.var a) (IE.var (↑len : Int))) = true → BE.den (BE.ite (BE.var (decide (len ≤ cap ∧ 0 + cap ≤ cap))) (BE.var (decide (0 ≤ a ∧ a < (↑len : Int)))) (BE.lit false)) = true ∧ decide (0 + Int.toNat a + 1 ≤ cap) = true ∧ (BE.den (BE.cmp BinOp.eql (IE.shr IntKind.u8 (IE.var (g (0 + Int.toNat a))) (IE.lit 6)) (IE.lit 2)) = true → BE.den (BE.ite (BE.var (decide (0 + cap ≤ cap))) (BE.var (decide (len ≤ cap))) (BE.lit false)) = true ∧ ((∃ (g_1 : Nat → Int), List.map Col.nrm (shiftAll (NE.lit 0) [col8 g]) = [Col.int IntKind.u8 fun e ↦ IE.var (g_1 e)]) ∧ RGood (g) len cap a p ∧ True) ∧ (BE.den (BE.cmp BinOp.eql (IE.bits BinOp.and IntKind.i64 (IE.var (paB (g) len a p)) (IE.lit 7)) (IE.lit 4)) = true → BE.den (BE.ite (BE.var (decide (0 + cap ≤ cap))) (BE.var (decide (len ≤ cap))) (BE.lit false)) = true ∧ ((∃ (g_1 : Nat → Int), List.map Col.nrm (shiftAll (NE.lit 0) [col8 g]) = [Col.int IntKind.u8 fun e ↦ IE.var (g_1 e)]) ∧ RGood (g) len cap (nxA len a) p ∧ True) ∧ BE.den (BE.ite (BE.var (decide (0 + cap ≤ cap))) (BE.var (decide (len ≤ cap))) (BE.lit false)) = true ∧ ((∃ (g_1 : Nat → Int), List.map Col.nrm (shiftAll (NE.lit 0) [col8 g]) = [Col.int IntKind.u8 fun e ↦ IE.var (g_1 e)]) ∧ RGood (g) len cap (nxA len (nxA len a)) p ∧ True) ∧ paR (g) len a p = v1 ∧ paB (g) len a p = v2 ∧ nuV (g) len (nxA len (nxA len a)) (BE.den (BE.cmp BinOp.eql (IE.shr IntKind.u8 (IE.var (g (0 + Int.toNat a))) (IE.lit 6)) (IE.lit 2))) = v3 ∧ BE.den (BE.cmp BinOp.eql (IE.shr IntKind.u8 (IE.var (g (0 + Int.toNat a))) (IE.lit 6)) (IE.lit 2)) = v4 ∧ len = len ∧ cap = cap ∧ nuA len (nxA len (nxA len a)) (BE.den (BE.cmp BinOp.eql (IE.shr IntKind.u8 (IE.var (g (0 + Int.toNat a))) (IE.lit 6)) (IE.lit 2))) = a' ∧ p = p ∧ nuB len (nxA len (nxA len a)) (waF (g) len (nxA len a) (paF (g) len a b 2) 36) (BE.den (BE.cmp BinOp.eql (IE.shr IntKind.u8 (IE.var (g (0 + Int.toNat a))) (IE.lit 6)) (IE.lit 2))) = b' ∧ cap = cap ∧ (∀ (e : Nat), e < cap → g e = g e) ∧ True) ∧ (BE.den (BE.cmp BinOp.eql (IE.bits BinOp.and IntKind.i64 (IE.var (paB (g) len a p)) (IE.lit 7)) (IE.lit 4)) = false → BE.den (BE.ite (BE.var (decide (0 + cap ≤ cap))) (BE.var (decide (len ≤ cap))) (BE.lit false)) = true ∧ ((∃ (g_1 : Nat → Int), List.map Col.nrm (shiftAll (NE.lit 0) [col8 g]) = [Col.int IntKind.u8 fun e ↦ IE.var (g_1 e)]) ∧ RGood (g) len cap (nxA len a) p ∧ True) ∧ paR (g) len a p = v1 ∧ paB (g) len a p = v2 ∧ nuV (g) len (nxA len a) (BE.den (BE.cmp BinOp.eql (IE.shr IntKind.u8 (IE.var (g (0 + Int.toNat a))) (IE.lit 6)) (IE.lit 2))) = v3 ∧ BE.den (BE.cmp BinOp.eql (IE.shr IntKind.u8 (IE.var (g (0 + Int.toNat a))) (IE.lit 6)) (IE.lit 2)) = v4 ∧ len = len ∧ cap = cap ∧ nuA len (nxA len a) (BE.den (BE.cmp BinOp.eql (IE.shr IntKind.u8 (IE.var (g (0 + Int.toNat a))) (IE.lit 6)) (IE.lit 2))) = a' ∧ p = p ∧ nuB len (nxA len a) (paF (g) len a b 2) (BE.den (BE.cmp BinOp.eql (IE.shr IntKind.u8 (IE.var (g (0 + Int.toNat a))) (IE.lit 6)) (IE.lit 2))) = b' ∧ cap = cap ∧ (∀ (e : Nat), e < cap → g e = g e) ∧ True)) ∧ (BE.den (BE.cmp BinOp.eql (IE.shr IntKind.u8 (IE.var (g (0 + Int.toNat a))) (IE.lit 6)) (IE.lit 2)) = false → BE.den (BE.ite (BE.var (decide (0 + cap ≤ cap))) (BE.var (decide (len ≤ cap))) (BE.lit false)) = true ∧ ((∃ (g_1 : Nat → Int), List.map Col.nrm (shiftAll (NE.lit 0) [col8 g]) = [Col.int IntKind.u8 fun e ↦ IE.var (g_1 e)]) ∧ RGood (g) len cap a p ∧ True) ∧ (BE.den (BE.cmp BinOp.eql (IE.bits BinOp.and IntKind.i64 (IE.var (paB (g) len a p)) (IE.lit 7)) (IE.lit 4)) = true → BE.den (BE.ite (BE.var (decide (0 + cap ≤ cap))) (BE.var (decide (len ≤ cap))) (BE.lit false)) = true ∧ ((∃ (g_1 : Nat → Int), List.map Col.nrm (shiftAll (NE.lit 0) [col8 g]) = [Col.int IntKind.u8 fun e ↦ IE.var (g_1 e)]) ∧ RGood (g) len cap (nxA len a) p ∧ True) ∧ BE.den (BE.ite (BE.var (decide (0 + cap ≤ cap))) (BE.var (decide (len ≤ cap))) (BE.lit false)) = true ∧ ((∃ (g_1 : Nat → Int), List.map Col.nrm (shiftAll (NE.lit 0) [col8 g]) = [Col.int IntKind.u8 fun e ↦ IE.var (g_1 e)]) ∧ RGood (g) len cap (nxA len (nxA len a)) p ∧ True) ∧ paR (g) len a p = v1 ∧ paB (g) len a p = v2 ∧ nuV (g) len (nxA len (nxA len a)) (BE.den (BE.cmp BinOp.eql (IE.shr IntKind.u8 (IE.var (g (0 + Int.toNat a))) (IE.lit 6)) (IE.lit 2))) = v3 ∧ BE.den (BE.cmp BinOp.eql (IE.shr IntKind.u8 (IE.var (g (0 + Int.toNat a))) (IE.lit 6)) (IE.lit 2)) = v4 ∧ len = len ∧ cap = cap ∧ nuA len (nxA len (nxA len a)) (BE.den (BE.cmp BinOp.eql (IE.shr IntKind.u8 (IE.var (g (0 + Int.toNat a))) (IE.lit 6)) (IE.lit 2))) = a' ∧ p = p ∧ nuB len (nxA len (nxA len a)) (waF (g) len (nxA len a) (paF (g) len a b 1) 36) (BE.den (BE.cmp BinOp.eql (IE.shr IntKind.u8 (IE.var (g (0 + Int.toNat a))) (IE.lit 6)) (IE.lit 2))) = b' ∧ cap = cap ∧ (∀ (e : Nat), e < cap → g e = g e) ∧ True) ∧ (BE.den (BE.cmp BinOp.eql (IE.bits BinOp.and IntKind.i64 (IE.var (paB (g) len a p)) (IE.lit 7)) (IE.lit 4)) = false → BE.den (BE.ite (BE.var (decide (0 + cap ≤ cap))) (BE.var (decide (len ≤ cap))) (BE.lit false)) = true ∧ ((∃ (g_1 : Nat → Int), List.map Col.nrm (shiftAll (NE.lit 0) [col8 g]) = [Col.int IntKind.u8 fun e ↦ IE.var (g_1 e)]) ∧ RGood (g) len cap (nxA len a) p ∧ True) ∧ paR (g) len a p = v1 ∧ paB (g) len a p = v2 ∧ nuV (g) len (nxA len a) (BE.den (BE.cmp BinOp.eql (IE.shr IntKind.u8 (IE.var (g (0 + Int.toNat a))) (IE.lit 6)) (IE.lit 2))) = v3 ∧ BE.den (BE.cmp BinOp.eql (IE.shr IntKind.u8 (IE.var (g (0 + Int.toNat a))) (IE.lit 6)) (IE.lit 2)) = v4 ∧ len = len ∧ cap = cap ∧ nuA len (nxA len a) (BE.den (BE.cmp BinOp.eql (IE.shr IntKind.u8 (IE.var (g (0 + Int.toNat a))) (IE.lit 6)) (IE.lit 2))) = a' ∧ p = p ∧ nuB len (nxA len a) (paF (g) len a b 1) (BE.den (BE.cmp BinOp.eql (IE.shr IntKind.u8 (IE.var (g (0 + Int.toNat a))) (IE.lit 6)) (IE.lit 2))) = b' ∧ cap = cap ∧ (∀ (e : Nat), e < cap → g e = g e) ∧ True))) ∧ (BE.den (BE.cmp BinOp.lss (IE.var a) (IE.var (↑len : Int))) = false → BE.den (BE.ite (BE.var (decide (0 + cap ≤ cap))) (BE.var (decide (len ≤ cap))) (BE.lit false)) = true ∧ ((∃ (g_1 : Nat → Int), List.map Col.nrm (shiftAll (NE.lit 0) [col8 g]) = [Col.int IntKind.u8 fun e ↦ IE.var (g_1 e)]) ∧ RGood (g) len cap a p ∧ True) ∧ (BE.den (BE.cmp BinOp.eql (IE.bits BinOp.and IntKind.i64 (IE.var (paB (g) len a p)) (IE.lit 7)) (IE.lit 4)) = true → BE.den (BE.ite (BE.var (decide (0 + cap ≤ cap))) (BE.var (decide (len ≤ cap))) (BE.lit false)) = true ∧ ((∃ (g_1 : Nat → Int), List.map Col.nrm (shiftAll (NE.lit 0) [col8 g]) = [Col.int IntKind.u8 fun e ↦ IE.var (g_1 e)]) ∧ RGood (g) len cap (nxA len a) p ∧ True) ∧ BE.den (BE.ite (BE.var (decide (0 + cap ≤ cap))) (BE.var (decide (len ≤ cap))) (BE.lit false)) = true ∧ ((∃ (g_1 : Nat → Int), List.map Col.nrm (shiftAll (NE.lit 0) [col8 g]) = [Col.int IntKind.u8 fun e ↦ IE.var (g_1 e)]) ∧ RGood (g) len cap (nxA len (nxA len a)) p ∧ True) ∧ paR (g) len a p = v1 ∧ paB (g) len a p = v2 ∧ nuV (g) len (nxA len (nxA len a)) (BE.den (BE.lit false)) = v3 ∧ BE.den (BE.lit false) = v4 ∧ len = len ∧ cap = cap ∧ nuA len (nxA len (nxA len a)) (BE.den (BE.lit false)) = a' ∧ p = p ∧ nuB len (nxA len (nxA len a)) (waF (g) len (nxA len a) (paF (g) len a b 1) 36) (BE.den (BE.lit false)) = b' ∧ cap = cap ∧ (∀ (e : Nat), e < cap → g e = g e) ∧ True) ∧ (BE.den (BE.cmp BinOp.eql (IE.bits BinOp.and IntKind.i64 (IE.var (paB (g) len a p)) (IE.lit 7)) (IE.lit 4)) = false → BE.den (BE.ite (BE.var (decide (0 + cap ≤ cap))) (BE.var (decide (len ≤ cap))) (BE.lit false)) = true ∧ ((∃ (g_1 : Nat → Int), List.map Col.nrm (shiftAll (NE.lit 0) [col8 g]) = [Col.int IntKind.u8 fun e ↦ IE.var (g_1 e)]) ∧ RGood (g) len cap (nxA len a) p ∧ True) ∧ paR (g) len a p = v1 ∧ paB (g) len a p = v2 ∧ nuV (g) len (nxA len a) (BE.den (BE.lit false)) = v3 ∧ BE.den (BE.lit false) = v4 ∧ len = len ∧ cap = cap ∧ nuA len (nxA len a) (BE.den (BE.lit false)) = a' ∧ p = p ∧ nuB len (nxA len a) (paF (g) len a b 1) (BE.den (BE.lit false)) = b' ∧ cap = cap ∧ (∀ (e : Nat), e < cap → g e = g e) ∧ True))) := by kernel_rfl

def meL (g : Nat → Int) (len : Nat) (a : Int) : Bool := decide (nxV g len a / 64 = 2)
def meS (g : Nat → Int) (len : Nat) (a : Int) : Bool := decide (nxV g len a % 8 = 4)
def meQ (g : Nat → Int) (len : Nat) (a : Int) : Int := if meS g len a = true then nxA len (nxA len a) else nxA len a
def meF (g : Nat → Int) (len : Nat) (a : Int) (b : Bool) : Bool :=
  if meS g len a = true then waF g len (nxA len a) (paF g len a b (if meL g len a = true then 2 else 1)) 36 else paF g len a b (if meL g len a = true then 2 else 1)
def meV (g : Nat → Int) (len : Nat) (a : Int) : Int := nuV g len (meQ g len a) (meL g len a)
def meA (g : Nat → Int) (len : Nat) (a : Int) : Int := nuA len (meQ g len a) (meL g len a)
def meB (g : Nat → Int) (len : Nat) (a : Int) (b : Bool) : Bool := nuB len (meQ g len a) (meF g len a b) (meL g len a)
abbrev memoryM : SpecFn := mtSpec rdTy rdK [] (rdPre arU) (rdOuts arU (fun g len a p _ _ => .tuple [.int .i64 (.var (paR g len a p)), .int .i64 (.var (paB g len a p)), .int .i64 (.var (meV g len a)), .bool (.var (meL g len a))]) (fun g len a p b _ => rdCs (meA g len a) p (meB g len a b)))
abbrev memoryG : Guess := mtGuess rdTy rdK [] (rdOuts arU (fun g len a p _ _ => .tuple [.int .i64 (.var (paR g len a p)), .int .i64 (.var (paB g len a p)), .int .i64 (.var (meV g len a)), .bool (.var (meL g len a))]) (fun g len a p b _ => rdCs (meA g len a) p (meB g len a b)))
theorem paB_bits (g : Nat → Int) (len : Nat) (a p : Int) : BE.den (BE.cmp BinOp.eql (IE.bits BinOp.and IntKind.i64 (IE.var (paB g len a p)) (IE.lit 7)) (IE.lit 4)) = meS g len a := by
  have : ∀ n : Fin 16, bitsI .and .i64 ((n.val : Nat) : Int) 7 = ((n.val % 8 : Nat) : Int) := by decide
  have hB := hiB_or p
  have h0 : 0 ≤ paB g len a p ∧ paB g len a p < 16 := by unfold paB; omega
  have h := this ⟨(paB g len a p).toNat, by omega⟩
  simp only [Int.toNat_of_nonneg h0.1] at h
  simp only [BE.den, IE.den, cmpI_eql, meS]
  rw [h]
  congr 1
  have : (((paB g len a p).toNat % 8 : Nat) : Int) = paB g len a p % 8 := by omega
  rw [this]
  unfold paB
  exact propext ⟨fun h => by omega, fun h => by omega⟩
theorem memory_ok : SpecOk P 55 memoryM := by
  have hs := func_sound (un := fun _ => 40) R2_ok Try.func55
  refine meth_spec hs (by simp) (arS := fun _ => []) arU_S (posF := fun g len a _ _ _ => meA g len a) (badF := fun g len a _ b _ => meB g len a b) (fun _ _ _ _ _ _ => ⟨trivial, trivial, trivial, trivial, trivial⟩) (fun _ _ _ _ _ _ => rfl) ?_
  intro g len cap a p b x hg
  rw [memory_nf, paB_bits]
  have h0 := hg.pos0
  have h3 := hg.room
  refine ⟨fun h => ?_, fun h => ?_⟩
  · have h : a < len := by simpa [BE.den, IE.den, cmpI_lss] using h
    have e1 : BE.den (BE.cmp BinOp.eql (IE.shr IntKind.u8 (IE.var (g (0 + Int.toNat a))) (IE.lit 6)) (IE.lit 2)) = meL g len a := by
      simp only [BE.den, IE.den, cmpI_eql, meL]
      rw [show shrI .u8 (g (0 + a.toNat)) 6 = g (0 + a.toNat) / 2 ^ 6 from shr_u8 _ 6 (by decide)]
      unfold nxV
      rw [if_pos h, Nat.zero_add]; rfl
    rw [e1]
    refine ⟨ask_ix (by simp; omega) (by simp; omega), by simp; omega, fun hl => ?_, fun hl => ?_⟩
    · refine ⟨ask2 hg.room, preG hg, fun hs => ?_, fun hs => ?_⟩
      · rw [hl]
        exact ⟨ask2 hg.room, preG hg.next, ask2 hg.room, preG hg.next.next, rfl, rfl, by simp only [meV, meQ, hs, hl, if_true], rfl, rfl, rfl, by simp only [meA, meQ, hs, hl, if_true], rfl, by simp only [meB, meQ, meF, hs, hl, if_true], rfl, fun _ _ => rfl, trivial⟩
      · rw [hl]
        exact ⟨ask2 hg.room, preG hg.next, rfl, rfl, by simp only [meV, meQ, hs, hl, Bool.false_eq_true, if_false], rfl, rfl, rfl, by simp only [meA, meQ, hs, hl, Bool.false_eq_true, if_false], rfl, by simp only [meB, meQ, meF, hs, hl, if_true, Bool.false_eq_true, if_false], rfl, fun _ _ => rfl, trivial⟩
    · refine ⟨ask2 hg.room, preG hg, fun hs => ?_, fun hs => ?_⟩
      · rw [hl]
        exact ⟨ask2 hg.room, preG hg.next, ask2 hg.room, preG hg.next.next, rfl, rfl, by simp only [meV, meQ, hs, hl, if_true], rfl, rfl, rfl, by simp only [meA, meQ, hs, hl, if_true], rfl, by simp only [meB, meQ, meF, hs, hl, if_true, Bool.false_eq_true, if_false], rfl, fun _ _ => rfl, trivial⟩
      · rw [hl]
        exact ⟨ask2 hg.room, preG hg.next, rfl, rfl, by simp only [meV, meQ, hs, hl, Bool.false_eq_true, if_false], rfl, rfl, rfl, by simp only [meA, meQ, hs, hl, Bool.false_eq_true, if_false], rfl, by simp only [meB, meQ, meF, hs, hl, Bool.false_eq_true, if_false], rfl, fun _ _ => rfl, trivial⟩
  · have h : ¬ a < len := by simpa [BE.den, IE.den, cmpI_lss] using h
    have hv : nxV g len a = 0 := by unfold nxV; rw [if_neg h]
    have hl : meL g len a = false := by unfold meL; rw [hv]; rfl
    have hs : meS g len a = false := by unfold meS; rw [hv]; rfl
    refine ⟨ask2 hg.room, preG hg, fun hs' => absurd hs' (by rw [hs]; simp), fun _ => ?_⟩
    exact ⟨ask2 hg.room, preG hg.next, rfl, rfl, by simp only [meV, meQ, hs, hl, BE.den, Bool.false_eq_true, if_false], by rw [hl]; rfl, rfl, rfl, by simp only [meA, meQ, hs, hl, BE.den, Bool.false_eq_true, if_false], rfl, by simp only [meB, meQ, meF, hs, hl, BE.den, Bool.false_eq_true, if_false], rfl, fun _ _ => rfl, trivial⟩

def rdT3 : List (FuncId × Cal) := (55, .spec memoryM memoryG) :: rdT2
theorem rdT3_ok : GammaOk P (table rdT3) := table_cons memory_ok rdT2_ok
noncomputable def R3 : FuncId → Option Cal := inl P (fun _ _ => 40) (table rdT3) 6
theorem R3_ok : GammaOk P R3 := inl_ok rdT3_ok 6
end Go.Proofs.Ytajcmjjgnbaahaa.Amd
