/- The machine code that AmdjitNames makes: its four instructions, told once. -/
import Derived.Test.YtalifikpmlapgaaGreatJn1
import Derived.Test.YtalifikpmlapgaaGreatSxe
namespace Go.Proofs.YtalifikpmlapgaaGreat.jitNames
open Go Go.RowKit Go.Proofs.YtalifikpmlapgaaGreat.Sx
set_option linter.unusedVariables false

def ins (op d s imm : Int) : SV := .agg [.int .i64 (.lit op), .bool (.lit false), .bool (.lit false), .int .i64 (.lit d), .int .i64 (.lit s), .int .i64 (.lit 0), .int .i64 (.lit imm), .int .i64 (.lit 0)]
def encCl (op d s imm : Int) (l : List Int) : Cl where
  args := [ins op d s imm]
  gs := []
  val := .tuple [.sliceG 0 1 0 l.length, .int .i64 (.lit 0)]
  new := [.grown 1 (l.map fun n => .int .u8 (.lit n))]
def c1 : Cl := encCl 9 6 6 0 [49, 246]
def c2 : Cl := encCl 1 6 0 7 [190, 7, 0, 0, 0]
def c3 : Cl := encCl 2 0 6 0 [137, 240]
def c4 : Cl := encCl 27 0 0 0 [195]
theorem run1 : sxFunc P G1 (fun _ => .plain 60) Tryz.f134 c1.args (gsHp c1.gs) (clDone [8] c1.val c1.new) = (True ∧ True) := by kernel_rfl
theorem run2 : sxFunc P G1 (fun _ => .plain 60) Tryz.f134 c2.args (gsHp c2.gs) (clDone [8] c2.val c2.new) = (True ∧ True) := by kernel_rfl
theorem run3 : sxFunc P G1 (fun _ => .plain 60) Tryz.f134 c3.args (gsHp c3.gs) (clDone [8] c3.val c3.new) = (True ∧ True) := by kernel_rfl
theorem run4 : sxFunc P G1 (fun _ => .plain 60) Tryz.f134 c4.args (gsHp c4.gs) (clDone [6] c4.val c4.new) = (True ∧ True) := by kernel_rfl
noncomputable def encS : SpecFn := clSpec [c1, c2, c3, c4] (sxFunc P G1 (fun _ => .plain 60) Tryz.f134)
theorem enc_ok : SpecOk P 134 encS := by
  have hs := func_sound (un := fun _ => .plain 60) G1_ok Tryz.func134
  refine clSpec_ok hs hs fun c hc => ?_
  simp only [List.mem_cons, List.not_mem_nil, or_false] at hc
  rcases hc with rfl | rfl | rfl | rfl
  · exact ⟨[8], by rw [run1]; exact ⟨trivial, trivial⟩⟩
  · exact ⟨[8], by rw [run2]; exact ⟨trivial, trivial⟩⟩
  · exact ⟨[8], by rw [run3]; exact ⟨trivial, trivial⟩⟩
  · exact ⟨[6], by rw [run4]; exact ⟨trivial, trivial⟩⟩
noncomputable def T2l : List (FuncId × Cal) := [(134, .spec encS (clGuess [c1, c2, c3, c4] fun _ _ => none)), (200, .spec formsS (clGuess [formsCl] fun _ _ => none))]
theorem T2_ok : GammaOk P (table T2l) := table_ok fun p hp => by
  simp only [T2l, List.mem_cons, List.not_mem_nil, or_false] at hp
  rcases hp with rfl | rfl
  · exact enc_ok
  · exact forms_ok
end Go.Proofs.YtalifikpmlapgaaGreat.jitNames
