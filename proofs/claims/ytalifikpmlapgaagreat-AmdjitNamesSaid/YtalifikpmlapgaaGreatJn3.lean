/- The machine code that AmdjitNames makes: Jit, told once. -/
import Derived.Test.YtalifikpmlapgaaGreatJn2
namespace Go.Proofs.YtalifikpmlapgaaGreat.jitNames
open Go Go.RowKit Go.Proofs.YtalifikpmlapgaaGreat.Sx
set_option linter.unusedVariables false

noncomputable def G2 : FuncId → Option Cal := inl P (fun _ _ => .plain 60) (table T2l) 12
theorem G2_ok : GammaOk P G2 := inl_ok T2_ok 12
def jitHp : List SObj := [.cells [.int .i64 (.lit 1), .int .i64 (.lit 0), .int .i64 (.lit 0), .int .i64 (.lit 0), .int .u32 (.lit 7), .int .i64 (.lit 0), .int .i64 (.lit 0), .int .i64 (.lit 19), .int .i64 (.lit 0), .int .i64 (.lit 0), .int .i64 (.lit 0), .int .u32 (.lit 0), .int .i64 (.lit 0), .int .i64 (.lit 0)] 46, .cells [.int .i64 (.lit 1), .slice 0 0 (.lit 2) (.lit 2)] 24, .cells [.bool (.lit false), .int .i64 (.lit 0)] 48]
def codeOf : SObj := .grown 1 ([49, 246, 190, 7, 0, 0, 0, 137, 240, 195].map fun n => .int .u8 (.lit n))
def jitEx : Ex where
  args := [.agg [.int .i64 (.lit 1), .slice 0 0 (.lit 2) (.lit 2)], .slice 2 0 (.lit 1) (.lit 1)]
  hp := jitHp
  val := .tuple [.agg [.sliceG 3 1 0 10, .int .i64 (.lit 0), .int .i64 (.lit 4)], .int .i64 (.lit 0)]
  out := jitHp ++ [codeOf]
  keep := [130]
def codeCells : List SV := [49, 246, 190, 7, 0, 0, 0, 137, 240, 195].map fun n => .int .u8 (.lit n)
theorem jit_run : sxFunc P G2 (fun _ => .plain 60) Tryz.f25 jitEx.args jitEx.hp (exDone jitEx) = (((((((((True ∧ True ∧ True) ∧ True ∧ True ∧ True) ∧ True ∧ True) ∧ True ∧ True ∧ True) ∧ True ∧ True) ∧ True ∧ True ∧ True) ∧ True ∧ True) ∧ True ∧ True) ∧ True ∧ True) := by kernel_rfl
theorem jit_ok : SpecOk P 25 (exSpec [jitEx]) := by
  refine exSpec_ok (func_sound (un := fun _ => .plain 60) G2_ok Tryz.func25) fun c hc => ?_
  simp only [List.mem_singleton] at hc; subst hc
  rw [jit_run]
  simp
noncomputable def R0 : FuncId → Option Cal := inl P (fun _ _ => .plain 70) (fun _ => none) 12
theorem R0_ok : GammaOk P R0 := inl_ok none_ok 12
end Go.Proofs.YtalifikpmlapgaaGreat.jitNames
