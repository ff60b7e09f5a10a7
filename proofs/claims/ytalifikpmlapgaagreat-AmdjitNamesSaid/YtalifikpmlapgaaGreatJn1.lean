/- The machine code that AmdjitNames makes: the table of operations, told once. -/
import Derived.WalkKit
import Derived.Test.YtalifikpmlapgaaGreatChecked
import Derived.Test.YtalifikpmlapgaaGreatSxk
import Derived.KernelRfl
namespace Go.Proofs.YtalifikpmlapgaaGreat.jitNames
open Go Go.RowKit Go.Proofs.YtalifikpmlapgaaGreat.Sx
set_option linter.unusedVariables false

noncomputable abbrev P := Go.Proofs.Tryz.prog
noncomputable def G0 : FuncId → Option Cal := inl P (fun _ _ => .plain 60) (fun _ => none) 12
theorem G0_ok : GammaOk P G0 := inl_ok none_ok 12
def formKs : List SV := [.int .i64 (.lit 1), .int .i64 (.lit 3), .int .i64 (.lit 4), .int .i64 (.lit 13), .int .i64 (.lit 23), .int .i64 (.lit 24), .int .i64 (.lit 25), .int .i64 (.lit 26), .int .i64 (.lit 27), .int .i64 (.lit 2), .int .i64 (.lit 5), .int .i64 (.lit 6), .int .i64 (.lit 7), .int .i64 (.lit 8), .int .i64 (.lit 9), .int .i64 (.lit 10), .int .i64 (.lit 11), .int .i64 (.lit 12), .int .i64 (.lit 14), .int .i64 (.lit 17), .int .i64 (.lit 15), .int .i64 (.lit 16), .int .i64 (.lit 19), .int .i64 (.lit 18), .int .i64 (.lit 20), .int .i64 (.lit 21), .int .i64 (.lit 22)]
def formVs : List SV := [.iface 365 (.agg []), .iface 372 (.agg []), .iface 373 (.agg []), .iface 400 (.agg []), .iface 368 (.agg [.int .i64 (.lit 23), .int .u8 (.lit 80)]), .iface 368 (.agg [.int .i64 (.lit 24), .int .u8 (.lit 88)]), .iface 370 (.agg []), .iface 369 (.agg []), .iface 371 (.agg []), .iface 376 (.agg [.int .i64 (.lit 2), .int .u8 (.lit 137)]), .iface 376 (.agg [.int .i64 (.lit 5), .int .u8 (.lit 1)]), .iface 376 (.agg [.int .i64 (.lit 6), .int .u8 (.lit 9)]), .iface 376 (.agg [.int .i64 (.lit 7), .int .u8 (.lit 33)]), .iface 376 (.agg [.int .i64 (.lit 8), .int .u8 (.lit 41)]), .iface 376 (.agg [.int .i64 (.lit 9), .int .u8 (.lit 49)]), .iface 376 (.agg [.int .i64 (.lit 10), .int .u8 (.lit 57)]), .iface 376 (.agg [.int .i64 (.lit 11), .int .u8 (.lit 133)]), .iface 376 (.agg [.int .i64 (.lit 12), .int .u8 (.lit 135)]), .iface 380 (.agg [.int .i64 (.lit 14), .int .i64 (.lit 0)]), .iface 380 (.agg [.int .i64 (.lit 17), .int .i64 (.lit 4)]), .iface 380 (.agg [.int .i64 (.lit 15), .int .i64 (.lit 5)]), .iface 380 (.agg [.int .i64 (.lit 16), .int .i64 (.lit 7)]), .iface 384 (.agg [.int .i64 (.lit 19), .int .u8 (.lit 247), .int .i64 (.lit 2)]), .iface 384 (.agg [.int .i64 (.lit 18), .int .u8 (.lit 247), .int .i64 (.lit 3)]), .iface 384 (.agg [.int .i64 (.lit 20), .int .u8 (.lit 247), .int .i64 (.lit 6)]), .iface 384 (.agg [.int .i64 (.lit 21), .int .u8 (.lit 211), .int .i64 (.lit 4)]), .iface 384 (.agg [.int .i64 (.lit 22), .int .u8 (.lit 211), .int .i64 (.lit 5)])]
def formsCl : Cl where
  args := []
  gs := []
  val := .mapv 0
  new := [.map formKs formVs]
theorem forms_run : sxFunc P G0 (fun _ => .plain 60) Tryz.f200 formsCl.args (gsHp formsCl.gs) (clDone [0] formsCl.val formsCl.new) = True := by kernel_rfl
noncomputable def formsS : SpecFn := clSpec [formsCl] (sxFunc P G0 (fun _ => .plain 60) Tryz.f200)
theorem forms_ok : SpecOk P 200 formsS := by
  have hs := func_sound (un := fun _ => .plain 60) G0_ok Tryz.func200
  refine clSpec_ok hs hs fun c hc => ?_
  simp only [List.mem_singleton] at hc; subst hc
  refine Exists.intro [0] ?_
  rw [forms_run]
  trivial
noncomputable def T1 : FuncId → Option Cal := table [(200, .spec formsS (clGuess [formsCl] fun _ _ => none))]
theorem T1_ok : GammaOk P T1 := table_ok fun p hp => by
  simp only [List.mem_singleton] at hp; subst hp
  exact forms_ok
noncomputable def G1 : FuncId → Option Cal := inl P (fun _ _ => .plain 60) T1 12
theorem G1_ok : GammaOk P G1 := inl_ok T1_ok 12
end Go.Proofs.YtalifikpmlapgaaGreat.jitNames
