/- The document's Decode of AmdjitNames' code, told once each. -/
import Derived.Test.YtalifikpmlapgaaGreatJn4
import Derived.Test.YtalifikpmlapgaaGreatJn5
namespace Go.Proofs.YtalifikpmlapgaaGreat.jitNames
open Go Go.RowKit Go.Proofs.YtalifikpmlapgaaGreat.Sx
set_option linter.unusedVariables false
noncomputable def T3l : List (FuncId × Cal) := [(211, .spec rencS (clGuess eAll fun _ _ => none)), (147, .spec rgS (rcGuess gAll fun _ _ => none))]
theorem T3_ok : GammaOk P (table T3l) := table_ok fun p hp => by
  simp only [T3l, List.mem_cons, List.not_mem_nil, or_false] at hp
  rcases hp with rfl | rfl
  · exact renc_ok
  · exact rg_ok
noncomputable def R1 : FuncId → Option Cal := inl P (fun _ _ => .plain 70) (table T3l) 12
theorem R1_ok : GammaOk P R1 := inl_ok T3_ok 12
def decRc (at_ op d s imm end_ : Int) : Rc where
  sz := 1
  st := 0
  len := 10
  cells := codeCells
  rest := [.int .i64 (.lit at_)]
  val := .tuple [ins op d s imm, .int .i64 (.lit end_), .int .i64 (.lit 0)]
  new := []
def d0 : Rc := decRc 0 9 6 6 0 2
def d1 : Rc := decRc 2 1 6 0 7 7
def d2 : Rc := decRc 7 2 0 6 0 9
def d3 : Rc := decRc 9 27 0 0 0 10
theorem dr0 : sxFunc P R1 (fun _ => .plain 70) Tryz.f71 (rcArgs d0) (rcHp d0) (rcDone d0 []) = True := by kernel_rfl
theorem dr1 : sxFunc P R1 (fun _ => .plain 70) Tryz.f71 (rcArgs d1) (rcHp d1) (rcDone d1 []) = True := by kernel_rfl
theorem dr2 : sxFunc P R1 (fun _ => .plain 70) Tryz.f71 (rcArgs d2) (rcHp d2) (rcDone d2 []) = True := by kernel_rfl
theorem dr3 : sxFunc P R1 (fun _ => .plain 70) Tryz.f71 (rcArgs d3) (rcHp d3) (rcDone d3 []) = True := by kernel_rfl
noncomputable def decS : SpecFn := rcSpec [d0, d1, d2, d3] (sxFunc P R1 (fun _ => .plain 70) Tryz.f71)
theorem dec_ok : SpecOk P 71 decS := by
  have hs := func_sound (un := fun _ => .plain 70) R1_ok Tryz.func71
  refine rcSpec_ok hs hs fun c hc => ?_
  simp only [List.mem_cons, List.not_mem_nil, or_false] at hc
  rcases hc with rfl | rfl | rfl | rfl
  · exact ⟨[], by rw [dr0]; simp⟩
  · exact ⟨[], by rw [dr1]; simp⟩
  · exact ⟨[], by rw [dr2]; simp⟩
  · exact ⟨[], by rw [dr3]; simp⟩
noncomputable def T4l : List (FuncId × Cal) := [(25, .spec (exSpec [jitEx]) (exGuess [jitEx])), (71, .spec decS (rcGuess [d0, d1, d2, d3] fun _ _ => none))]
theorem T4_ok : GammaOk P (table T4l) := table_ok fun p hp => by
  simp only [T4l, List.mem_cons, List.not_mem_nil, or_false] at hp
  rcases hp with rfl | rfl
  · exact jit_ok
  · exact dec_ok
noncomputable def R2 : FuncId → Option Cal := inl P (fun _ _ => .plain 70) (table T4l) 12
theorem R2_ok : GammaOk P R2 := inl_ok T4_ok 12
end Go.Proofs.YtalifikpmlapgaaGreat.jitNames
