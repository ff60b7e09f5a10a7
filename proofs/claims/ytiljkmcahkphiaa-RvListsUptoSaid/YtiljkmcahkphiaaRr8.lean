/- What the document's Decode makes of a word: its rounds. -/
import Derived.Test.YtiljkmcahkphiaaRr6
import Derived.Test.YtiljkmcahkphiaaRv7
namespace Go.Proofs.Ytiljkmcahkphiaa.Rv
open Go Go.Proofs.Ytiljkmcahkphiaa.Sx Go.RowKit
set_option linter.unusedVariables false
set_option linter.unusedSimpArgs false

def rr0 : RvRow := ⟨0, 0, 0, 0, 0, []⟩
noncomputable def rdCode : Code := (Try.f9.body).getD .skip
def rdLive : List Nat := [0, 2, 3, 4, 5]
noncomputable def rdTmps (w k : Int) : List SV := setAt (setAt (setAt (setAt (setAt (List.replicate Try.f9.ntmps SV.undef) 0 (.int .u32 (.var w))) 2 (.ptr 0 0)) 3 (.int .i64 (.lit 0))) 4 (.slice 1 0 (.lit 34) (.lit 34))) 5 (.int .i64 (.lit k))
noncomputable def rrCells : List SV := rrRows.flatMap fun r => match rrRowSV r with | .agg l => l | _ => []
noncomputable def rdHp : List SObj := [.cells [.int .i64 (.lit 0), .int .i64 (.lit 0), .int .i64 (.lit 0), .int .i64 (.lit 0), .int .i64 (.lit 0)] 26, .cells rrCells 39]
noncomputable def rdSt (w k : Int) (u : Nat → Value) : St := { tmps := forget rdLive u 0 (rdTmps w k), hp := rdHp }
def rdUn : Nat → Plan := fun n => if n = 0 then 0 else 40
noncomputable def rdBody (σ : St) (K : SExit → St → Prop) : Prop :=
  match (loopIn rdCode 0)[0]? with
  | some (b, c) => sxCode P H4 rdUn 0 c b σ K
  | none => False
noncomputable def rdK (Q : SV → Prop) : SExit → St → Prop := (ctxK (sxCode P H4 rdUn 0) rdCode 0 (endK Try.f9 Q)).getD fun _ _ => False

def rdReg (named : Bool) (w : Int) (lo : Nat) : IE := match named with | true => .var (w / 2 ^ lo % 2 ^ 5) | false => .lit 0
def rdEnc (r : RvRow) (w : Int) : Int × Int := rvEnc r.op (rdReg (names r.form).1 w 7).den (rdReg (names r.form).2.1 w 15).den (rdReg (names r.form).2.2 w 20).den (immD r.form w)
def rdFound (r : RvRow) (w : Int) : SV := .tuple [.agg [.int .i64 (.lit r.op), .int .i64 (rdReg (names r.form).1 w 7), .int .i64 (rdReg (names r.form).2.1 w 15), .int .i64 (rdReg (names r.form).2.2 w 20), .int .i64 (.var (immD r.form w))], .int .i64 (.lit 0)]
def rdMiss (r : RvRow) (w : Int) : BE := .cmp .neq (.conv .u32 (.var (w / 2 ^ 0 % 2 ^ 7))) (.lit r.code)
def rdAsk (b named : Bool) (R : Prop) : Prop := match named with | true => BE.den (.var b) = true ∧ R | false => R
def rdHit (r : RvRow) (w : Int) (N : Prop) (Q : SV → Prop) : Prop :=
  BE.den (.var (inU32 w)) = true ∧ rdAsk (inU32 w) (names r.form).1 (rdAsk (inU32 w) (names r.form).2.1 (rdAsk (inU32 w) (names r.form).2.2 (BE.den (.var (inI64 (immD r.form w))) = true ∧
    (BE.den (.cmp .eql (.var (rdEnc r w).2) (.lit 0)) = true → (BE.den (.cmp .eql (.var (rdEnc r w).1) (.var w)) = true → Q (rdFound r w)) ∧ (BE.den (.cmp .eql (.var (rdEnc r w).1) (.var w)) = false → N)) ∧
    (BE.den (.cmp .eql (.var (rdEnc r w).2) (.lit 0)) = false → N))))

/-- One round. -/
def RdRound (w : Int) (u : Nat → Value) (Q : SV → Prop) (R : St → Prop) (k : Nat) : Prop :=
  rdBody (rdSt w (k : Int) u) (thenS (fun σ => headK 0 rdLive σ R) (rdK Q)) =
    (BE.den (.var (inU32 w)) = true ∧ (BE.den (rdMiss (rrRows.getD k rr0) w) = true → ∀ u, R (rdSt w ((k + 1 : Nat) : Int) u)) ∧ (BE.den (rdMiss (rrRows.getD k rr0) w) = false → rdHit (rrRows.getD k rr0) w (∀ u, R (rdSt w ((k + 1 : Nat) : Int) u)) Q))

theorem rd_start (w : Int) (Q : SV → Prop) : sxFunc P H4 rdUn Try.f9 [.int .u32 (.var w)] [] (fun v _ => Q v) =
    ∃ (live : List Nat) (I : St → Prop) (μ : St → Nat), headK 0 live { tmps := setAt (rdTmps w 0) 12 (.slice 1 0 (.lit 34) (.lit 34)), hp := rdHp } I ∧
      ∀ σ', I σ' → rdBody σ' (thenS (fun σ'' => headK 0 live σ'' fun σ3 => I σ3 ∧ μ σ3 < μ σ') (rdK Q)) := by kernel_rfl

theorem rd_0 (w : Int) (u : Nat → Value) (Q : SV → Prop) (R : St → Prop) : RdRound w u Q R 0 := by
  unfold RdRound; kernel_rfl
theorem rd_1 (w : Int) (u : Nat → Value) (Q : SV → Prop) (R : St → Prop) : RdRound w u Q R 1 := by
  unfold RdRound; kernel_rfl
theorem rd_2 (w : Int) (u : Nat → Value) (Q : SV → Prop) (R : St → Prop) : RdRound w u Q R 2 := by
  unfold RdRound; kernel_rfl
theorem rd_3 (w : Int) (u : Nat → Value) (Q : SV → Prop) (R : St → Prop) : RdRound w u Q R 3 := by
  unfold RdRound; kernel_rfl
theorem rd_4 (w : Int) (u : Nat → Value) (Q : SV → Prop) (R : St → Prop) : RdRound w u Q R 4 := by
  unfold RdRound; kernel_rfl
theorem rd_5 (w : Int) (u : Nat → Value) (Q : SV → Prop) (R : St → Prop) : RdRound w u Q R 5 := by
  unfold RdRound; kernel_rfl
theorem rd_6 (w : Int) (u : Nat → Value) (Q : SV → Prop) (R : St → Prop) : RdRound w u Q R 6 := by
  unfold RdRound; kernel_rfl
theorem rd_7 (w : Int) (u : Nat → Value) (Q : SV → Prop) (R : St → Prop) : RdRound w u Q R 7 := by
  unfold RdRound; kernel_rfl
theorem rd_8 (w : Int) (u : Nat → Value) (Q : SV → Prop) (R : St → Prop) : RdRound w u Q R 8 := by
  unfold RdRound; kernel_rfl
theorem rd_9 (w : Int) (u : Nat → Value) (Q : SV → Prop) (R : St → Prop) : RdRound w u Q R 9 := by
  unfold RdRound; kernel_rfl
theorem rd_10 (w : Int) (u : Nat → Value) (Q : SV → Prop) (R : St → Prop) : RdRound w u Q R 10 := by
  unfold RdRound; kernel_rfl
theorem rd_11 (w : Int) (u : Nat → Value) (Q : SV → Prop) (R : St → Prop) : RdRound w u Q R 11 := by
  unfold RdRound; kernel_rfl
theorem rd_12 (w : Int) (u : Nat → Value) (Q : SV → Prop) (R : St → Prop) : RdRound w u Q R 12 := by
  unfold RdRound; kernel_rfl
theorem rd_13 (w : Int) (u : Nat → Value) (Q : SV → Prop) (R : St → Prop) : RdRound w u Q R 13 := by
  unfold RdRound; kernel_rfl
theorem rd_14 (w : Int) (u : Nat → Value) (Q : SV → Prop) (R : St → Prop) : RdRound w u Q R 14 := by
  unfold RdRound; kernel_rfl
theorem rd_15 (w : Int) (u : Nat → Value) (Q : SV → Prop) (R : St → Prop) : RdRound w u Q R 15 := by
  unfold RdRound; kernel_rfl
theorem rd_16 (w : Int) (u : Nat → Value) (Q : SV → Prop) (R : St → Prop) : RdRound w u Q R 16 := by
  unfold RdRound; kernel_rfl
theorem rd_17 (w : Int) (u : Nat → Value) (Q : SV → Prop) (R : St → Prop) : RdRound w u Q R 17 := by
  unfold RdRound; kernel_rfl
theorem rd_18 (w : Int) (u : Nat → Value) (Q : SV → Prop) (R : St → Prop) : RdRound w u Q R 18 := by
  unfold RdRound; kernel_rfl
theorem rd_19 (w : Int) (u : Nat → Value) (Q : SV → Prop) (R : St → Prop) : RdRound w u Q R 19 := by
  unfold RdRound; kernel_rfl
theorem rd_20 (w : Int) (u : Nat → Value) (Q : SV → Prop) (R : St → Prop) : RdRound w u Q R 20 := by
  unfold RdRound; kernel_rfl
theorem rd_21 (w : Int) (u : Nat → Value) (Q : SV → Prop) (R : St → Prop) : RdRound w u Q R 21 := by
  unfold RdRound; kernel_rfl
theorem rd_22 (w : Int) (u : Nat → Value) (Q : SV → Prop) (R : St → Prop) : RdRound w u Q R 22 := by
  unfold RdRound; kernel_rfl
theorem rd_23 (w : Int) (u : Nat → Value) (Q : SV → Prop) (R : St → Prop) : RdRound w u Q R 23 := by
  unfold RdRound; kernel_rfl
theorem rd_24 (w : Int) (u : Nat → Value) (Q : SV → Prop) (R : St → Prop) : RdRound w u Q R 24 := by
  unfold RdRound; kernel_rfl
theorem rd_25 (w : Int) (u : Nat → Value) (Q : SV → Prop) (R : St → Prop) : RdRound w u Q R 25 := by
  unfold RdRound; kernel_rfl
theorem rd_26 (w : Int) (u : Nat → Value) (Q : SV → Prop) (R : St → Prop) : RdRound w u Q R 26 := by
  unfold RdRound; kernel_rfl
theorem rd_27 (w : Int) (u : Nat → Value) (Q : SV → Prop) (R : St → Prop) : RdRound w u Q R 27 := by
  unfold RdRound; kernel_rfl
theorem rd_28 (w : Int) (u : Nat → Value) (Q : SV → Prop) (R : St → Prop) : RdRound w u Q R 28 := by
  unfold RdRound; kernel_rfl
theorem rd_29 (w : Int) (u : Nat → Value) (Q : SV → Prop) (R : St → Prop) : RdRound w u Q R 29 := by
  unfold RdRound; kernel_rfl
theorem rd_30 (w : Int) (u : Nat → Value) (Q : SV → Prop) (R : St → Prop) : RdRound w u Q R 30 := by
  unfold RdRound; kernel_rfl
theorem rd_31 (w : Int) (u : Nat → Value) (Q : SV → Prop) (R : St → Prop) : RdRound w u Q R 31 := by
  unfold RdRound; kernel_rfl
theorem rd_32 (w : Int) (u : Nat → Value) (Q : SV → Prop) (R : St → Prop) : RdRound w u Q R 32 := by
  unfold RdRound; kernel_rfl
theorem rd_33 (w : Int) (u : Nat → Value) (Q : SV → Prop) (R : St → Prop) : RdRound w u Q R 33 := by
  unfold RdRound; kernel_rfl
theorem rd_34 (w : Int) (u : Nat → Value) (Q : SV → Prop) (R : St → Prop) : rdBody (rdSt w 34 u) (thenS (fun σ => headK 0 rdLive σ R) (rdK Q)) = Q noneD := by kernel_rfl
end Go.Proofs.Ytiljkmcahkphiaa.Rv
