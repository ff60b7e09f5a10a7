/- Show of both sides, of what may not be: nothing. -/
import Derived.Test.YtajcmjjgnbaahaaDoorSw1
import Derived.Test.YtajcmjjgnbaahaaDoorAm5
import Derived.Test.YtajcmjjgnbaahaaDoorRe6
namespace Go.Proofs.YtajcmjjgnbaahaaDoor.Amd
open Go Go.Proofs.YtajcmjjgnbaahaaDoor.Sx Go.RowKit
set_option linter.unusedVariables false
set_option linter.unusedSimpArgs false
def encPreE : Ins -> List SV -> Prop := fun ins pl => match ins, pl with
  | [], [.agg [.int .i64 op, .bool w, .bool l, .int .i64 d, .int .i64 s, .int .i64 dp, .int .i64 im, .int .i64 cc]] => amdErr ⟨op.den, w.den, l.den, d.den, s.den, dp.den, im.den, cc.den⟩ ≠ 0
  | _, _ => False
def encOutsE : Ins -> List SV -> List Out := fun ins pl => match ins, pl with
  | [], [.agg [.int .i64 op, .bool w, .bool l, .int .i64 d, .int .i64 s, .int .i64 dp, .int .i64 im, .int .i64 cc]] => [.one (fun _ => .tuple [.nils, .int .i64 (.var (amdErr ⟨op.den, w.den, l.den, d.den, s.den, dp.den, im.den, cc.den⟩))]) [] []]
  | _, _ => []
abbrev encSE : SpecFn := rdSpec [.plain] encPreE encOutsE
abbrev encGE : Guess := rdGuess [.plain] encOutsE
theorem encSE_ok {f : FuncId} (h : SpecOk P f encM) : SpecOk P f encSE := by
  intro B ν hp w args K h1 h2 h3 hx
  refine h B ν hp w args K h1 h2 h3 ?_
  match args with
  | [] => exact hx
  | _ :: _ :: _ => exact hx
  | [x] =>
    simp only [rdSpec, viewArgs, asksP, withIns] at hx ⊢
    split at hx
    · rename_i ho
      rw [if_pos ho]
      obtain ⟨hp1, hp2⟩ := hx
      unfold encPreE at hp1
      split at hp1
      · rename_i he
        simp only [List.cons.injEq, and_true] at he
        subst he
        exact ⟨trivial, fun b hb => absurd hb.err hp1, fun b _ => hp2⟩
      · exact hp1.elim
    · rename_i ho
      rw [if_neg ho]; exact hx
noncomputable def aeT : List (FuncId × Cal) := [(sureId 15 true, .pure fun _ => none), (7, .spec encSE encGE), (9, .spec encSE encGE)]
theorem aeT_ok : GammaOk P (table aeT) := table_cons none_cal (table_cons (spec_cal (encSE_ok encode_ok)) (table_cons (spec_cal (encSE_ok rencode_ok)) fun g s h => by simp [table] at h))
noncomputable def AE : FuncId -> Option Cal := inl P (fun _ _ => .plain 40) (table aeT) 6
theorem AE_ok : GammaOk P AE := inl_ok aeT_ok 6
theorem aerr_nf (x : AI) (Q : SV -> Prop) : sxFunc P AE (fun _ => .plain 40) Tryd.f8 [xIn x] hpT (fun v _ => Q v) =
    ((amdErr { op := AI.op x, wide := AI.wide x, long := AI.long x, d := AI.d x, s := AI.s x, disp := AI.disp x, imm := AI.imm x, cc := AI.cc x } = 0 -> False) /\ BE.den (.cmp .neq (.var (amdErr { op := AI.op x, wide := AI.wide x, long := AI.long x, d := AI.d x, s := AI.s x, disp := AI.disp x, imm := AI.imm x, cc := AI.cc x })) (.lit 0)) = true /\ Q (SV.str { data := #[] })) := by kernel_rfl
theorem rerr_nf (x : AI) (Q : SV -> Prop) : sxFunc P AE (fun _ => .plain 40) Tryd.f11 [xIn x] hpT (fun v _ => Q v) =
    ((amdErr { op := AI.op x, wide := AI.wide x, long := AI.long x, d := AI.d x, s := AI.s x, disp := AI.disp x, imm := AI.imm x, cc := AI.cc x } = 0 -> False) /\ BE.den (.cmp .neq (.var (amdErr { op := AI.op x, wide := AI.wide x, long := AI.long x, d := AI.d x, s := AI.s x, disp := AI.disp x, imm := AI.imm x, cc := AI.cc x })) (.lit 0)) = true /\ Q (SV.str { data := #[] })) := by kernel_rfl
end Go.Proofs.YtajcmjjgnbaahaaDoor.Amd
