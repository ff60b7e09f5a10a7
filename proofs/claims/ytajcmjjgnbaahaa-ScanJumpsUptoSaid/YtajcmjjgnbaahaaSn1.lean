/- The number of an instruction, as a pure function. -/
import Derived.Test.YtajcmjjgnbaahaaAl1
namespace Go.Proofs.Ytajcmjjgnbaahaa.Amd
open Go Go.Proofs.Ytajcmjjgnbaahaa.Sx Go.RowKit
set_option linter.unusedVariables false
set_option linter.unusedSimpArgs false

def rvIn (op rd r1 r2 imm : Int) : SV := .agg [.int .i64 (.var op), .int .i64 (.var rd), .int .i64 (.var r1), .int .i64 (.var r2), .int .i64 (.var imm)]
theorem numA_nf (x : AI) (Q : SV → Prop) : sxFunc P A0 (fun _ => 40) Try.f50 [.iface 25 (xIn x)] [] (fun v _ => Q v) =
    ((BE.den (BE.cmp BinOp.eql (IE.var (AI.op x)) (IE.lit 3)) = true → Q (SV.tuple [SV.int IntKind.i64 (IE.var (AI.disp x)), SV.bool (BE.lit true)])) ∧ (BE.den (BE.cmp BinOp.eql (IE.var (AI.op x)) (IE.lit 3)) = false → (BE.den (BE.cmp BinOp.eql (IE.var (AI.op x)) (IE.lit 4)) = true → Q (SV.tuple [SV.int IntKind.i64 (IE.var (AI.disp x)), SV.bool (BE.lit true)])) ∧ (BE.den (BE.cmp BinOp.eql (IE.var (AI.op x)) (IE.lit 4)) = false → (BE.den (BE.cmp BinOp.eql (IE.var (AI.op x)) (IE.lit 1)) = true → Q (SV.tuple [SV.int IntKind.i64 (IE.var (AI.imm x)), SV.bool (BE.lit true)])) ∧ (BE.den (BE.cmp BinOp.eql (IE.var (AI.op x)) (IE.lit 1)) = false → (BE.den (BE.cmp BinOp.eql (IE.var (AI.op x)) (IE.lit 14)) = true → Q (SV.tuple [SV.int IntKind.i64 (IE.var (AI.imm x)), SV.bool (BE.lit true)])) ∧ (BE.den (BE.cmp BinOp.eql (IE.var (AI.op x)) (IE.lit 14)) = false → (BE.den (BE.cmp BinOp.eql (IE.var (AI.op x)) (IE.lit 15)) = true → Q (SV.tuple [SV.int IntKind.i64 (IE.var (AI.imm x)), SV.bool (BE.lit true)])) ∧ (BE.den (BE.cmp BinOp.eql (IE.var (AI.op x)) (IE.lit 15)) = false → (BE.den (BE.cmp BinOp.eql (IE.var (AI.op x)) (IE.lit 16)) = true → Q (SV.tuple [SV.int IntKind.i64 (IE.var (AI.imm x)), SV.bool (BE.lit true)])) ∧ (BE.den (BE.cmp BinOp.eql (IE.var (AI.op x)) (IE.lit 16)) = false → (BE.den (BE.cmp BinOp.eql (IE.var (AI.op x)) (IE.lit 17)) = true → Q (SV.tuple [SV.int IntKind.i64 (IE.var (AI.imm x)), SV.bool (BE.lit true)])) ∧ (BE.den (BE.cmp BinOp.eql (IE.var (AI.op x)) (IE.lit 17)) = false → (BE.den (BE.cmp BinOp.eql (IE.var (AI.op x)) (IE.lit 25)) = true → Q (SV.tuple [SV.int IntKind.i64 (IE.var (AI.imm x)), SV.bool (BE.lit true)])) ∧ (BE.den (BE.cmp BinOp.eql (IE.var (AI.op x)) (IE.lit 25)) = false → (BE.den (BE.cmp BinOp.eql (IE.var (AI.op x)) (IE.lit 26)) = true → Q (SV.tuple [SV.int IntKind.i64 (IE.var (AI.imm x)), SV.bool (BE.lit true)])) ∧ (BE.den (BE.cmp BinOp.eql (IE.var (AI.op x)) (IE.lit 26)) = false → Q (SV.tuple [SV.int IntKind.i64 (IE.lit 0), SV.bool (BE.lit false)]))))))))))) := by kernel_rfl
theorem numR_nf (op rd r1 r2 imm : Int) (Q : SV → Prop) : sxFunc P A0 (fun _ => 40) Try.f50 [.iface 133 (rvIn op rd r1 r2 imm)] [] (fun v _ => Q v) =
    ((BE.den (BE.cmp BinOp.lss (IE.var op) (IE.lit 16)) = true → Q (SV.tuple [SV.int IntKind.i64 (IE.var imm), SV.bool (BE.lit true)])) ∧ (BE.den (BE.cmp BinOp.lss (IE.var op) (IE.lit 16)) = false → Q (SV.tuple [SV.int IntKind.i64 (IE.var imm), SV.bool (BE.cmp BinOp.gtr (IE.var op) (IE.lit 28))]))) := by kernel_rfl

/-- The number of an instruction, and whether it has one. -/
def numA (y : AI) : Int × Bool :=
  if y.op = 3 ∨ y.op = 4 then (y.disp, true) else if y.op = 1 ∨ y.op = 14 ∨ y.op = 15 ∨ y.op = 16 ∨ y.op = 17 ∨ y.op = 25 ∨ y.op = 26 then (y.imm, true) else (0, false)
def numR (op imm : Int) : Int × Bool := (imm, decide (op < 16 ∨ 28 < op))
def numSV (z : Int × Bool) : SV := .tuple [.int .i64 (.var (Prod.fst z)), .bool (.var (Prod.snd z))]
def nmF : PureFn := fun args => match args with
  | [.iface ty (.agg [.int .i64 op, .bool w, .bool l, .int .i64 d, .int .i64 s, .int .i64 dp, .int .i64 im, .int .i64 cc])] => if Nat.beq ty 25 = true then some (none, numSV (numA ⟨op.den, w.den, l.den, d.den, s.den, dp.den, im.den, cc.den⟩)) else none
  | [.iface ty (.agg [.int .i64 op, .int .i64 _, .int .i64 _, .int .i64 _, .int .i64 im])] => if Nat.beq ty 133 = true then some (none, numSV (numR op.den im.den)) else none
  | _ => none
theorem number_pure : PureOk P 50 nmF := by
  have hs := func_sound (un := fun _ => 40) A0_ok Try.func50
  refine pure_of hs ?_
  intro args p v hF hp
  unfold nmF at hF
  split at hF
  · rename_i ty op w l d s dp im cc
    split at hF
    · rename_i hty
      obtain rfl := Nat.eq_of_beq_eq_true hty
      simp only [Option.some.injEq, Prod.mk.injEq] at hF
      obtain ⟨rfl, rfl⟩ := hF
      refine ⟨[.iface 25 (xIn ⟨op.den, w.den, l.den, d.den, s.den, dp.den, im.den, cc.den⟩)], rfl, ⟨⟨trivial, trivial, trivial, trivial, trivial, trivial, trivial, trivial, trivial⟩, trivial⟩, ⟨⟨trivial, trivial, trivial, trivial, trivial, trivial, trivial, trivial, trivial⟩, trivial⟩, ⟨trivial, trivial, trivial⟩, ?_⟩
      rw [numA_nf]
      generalize (⟨op.den, w.den, l.den, d.den, s.den, dp.den, im.den, cc.den⟩ : AI) = x
      simp only [d_eql, decide_eq_true_eq, decide_eq_false_iff_not]
      refine ⟨fun h ν => ?_, fun n3 => ?_⟩
      · rw [show numA x = (x.disp, true) by unfold numA; simp [h]]; rfl
      refine ⟨fun h ν => ?_, fun n4 => ?_⟩
      · rw [show numA x = (x.disp, true) by unfold numA; simp [h]]; rfl
      refine ⟨fun h ν => ?_, fun n1 => ?_⟩
      · rw [show numA x = (x.imm, true) by unfold numA; simp [h]]; rfl
      refine ⟨fun h ν => ?_, fun n14 => ?_⟩
      · rw [show numA x = (x.imm, true) by unfold numA; simp [h]]; rfl
      refine ⟨fun h ν => ?_, fun n15 => ?_⟩
      · rw [show numA x = (x.imm, true) by unfold numA; simp [h]]; rfl
      refine ⟨fun h ν => ?_, fun n16 => ?_⟩
      · rw [show numA x = (x.imm, true) by unfold numA; simp [h]]; rfl
      refine ⟨fun h ν => ?_, fun n17 => ?_⟩
      · rw [show numA x = (x.imm, true) by unfold numA; simp [h]]; rfl
      refine ⟨fun h ν => ?_, fun n25 => ?_⟩
      · rw [show numA x = (x.imm, true) by unfold numA; simp [h]]; rfl
      refine ⟨fun h ν => ?_, fun n26 => ?_⟩
      · rw [show numA x = (x.imm, true) by unfold numA; simp [h]]; rfl
      · intro ν
        rw [show numA x = (0, false) by unfold numA; rw [if_neg (by omega), if_neg (by omega)]]; rfl
    · simp at hF
  · rename_i ty op a b c im
    split at hF
    · rename_i hty
      obtain rfl := Nat.eq_of_beq_eq_true hty
      simp only [Option.some.injEq, Prod.mk.injEq] at hF
      obtain ⟨rfl, rfl⟩ := hF
      refine ⟨[.iface 133 (rvIn op.den a.den b.den c.den im.den)], rfl, ⟨⟨trivial, trivial, trivial, trivial, trivial, trivial⟩, trivial⟩, ⟨⟨trivial, trivial, trivial, trivial, trivial, trivial⟩, trivial⟩, ⟨trivial, trivial, trivial⟩, ?_⟩
      rw [numR_nf]
      refine ⟨fun h ν => ?_, fun h ν => ?_⟩
      · have h : op.den < 16 := by rw [d_lss] at h; simpa using h
        rw [show numR op.den im.den = (im.den, true) by unfold numR; simp [h]]; rfl
      · have h : ¬ op.den < 16 := by rw [d_lss] at h; simpa using h
        have e : numR op.den im.den = (im.den, decide (28 < op.den)) := by unfold numR; simp [h]
        rw [e]
        show Value.tuple #[.int .i64 im.den, .bool (BE.den (BE.cmp BinOp.gtr (IE.var op.den) (IE.lit 28)))] = _
        rw [d_gtr]; rfl
    · simp at hF
  · simp at hF
end Go.Proofs.Ytajcmjjgnbaahaa.Amd
