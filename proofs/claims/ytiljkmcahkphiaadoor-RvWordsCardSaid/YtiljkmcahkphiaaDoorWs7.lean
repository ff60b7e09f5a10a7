/- Show of both sides as a told call: the same text of the same numbers. -/
import Derived.Test.YtiljkmcahkphiaaDoorWs1
import Derived.Test.YtiljkmcahkphiaaDoorWs2
import Derived.Test.YtiljkmcahkphiaaDoorWs4
import Derived.Test.YtiljkmcahkphiaaDoorWs5
import Derived.Test.YtiljkmcahkphiaaDoorWs6
namespace Go.Proofs.YtiljkmcahkphiaaDoor.Rv
open Go Go.Proofs.YtiljkmcahkphiaaDoor.Sx Go.RowKit
set_option linter.unusedVariables false
set_option linter.unusedSimpArgs false

theorem sh_none (n a b c d : Int) (Q : SV → Prop) : sxFunc P GS (fun _ => .plain 40) Tryd.f7 (rvArg (.var n) a b c d) hpT (fun v _ => Q v) = (BE.den (.var (rowOf rvRows n).isNone) = true ∧ Q (.str ⟨#[63]⟩)) := by kernel_rfl
theorem rsh_none (n a b c d : Int) (Q : SV → Prop) : sxFunc P GR (fun _ => .plain 40) Tryd.f8 (rvArg (.var n) a b c d) hpT (fun v _ => Q v) = (BE.den (.var (rowOf rrRows n).isNone) = true ∧ Q (.str ⟨#[63]⟩)) := by kernel_rfl

theorem show_run (r : RvRow) (hr : r ∈ rvRows) (a b c d : Int) (Q : SV → Prop) : sxFunc P GS (fun _ => .plain 40) Tryd.f7 (rvArg (.lit r.op) a b c d) hpT (fun v _ => Q v) = rvShowR r a b c d Q := by
  simp only [rvRows, List.mem_cons, List.not_mem_nil, or_false] at hr
  rcases hr with rfl | rfl | rfl | rfl | rfl | rfl | rfl | rfl | rfl | rfl | rfl | rfl | rfl | rfl | rfl | rfl | rfl | rfl | rfl | rfl | rfl | rfl | rfl | rfl | rfl | rfl | rfl | rfl | rfl | rfl | rfl | rfl | rfl | rfl
  · exact sh_0 a b c d Q
  · exact sh_1 a b c d Q
  · exact sh_2 a b c d Q
  · exact sh_3 a b c d Q
  · exact sh_4 a b c d Q
  · exact sh_5 a b c d Q
  · exact sh_6 a b c d Q
  · exact sh_7 a b c d Q
  · exact sh_8 a b c d Q
  · exact sh_9 a b c d Q
  · exact sh_10 a b c d Q
  · exact sh_11 a b c d Q
  · exact sh_12 a b c d Q
  · exact sh_13 a b c d Q
  · exact sh_14 a b c d Q
  · exact sh_15 a b c d Q
  · exact sh_16 a b c d Q
  · exact sh_17 a b c d Q
  · exact sh_18 a b c d Q
  · exact sh_19 a b c d Q
  · exact sh_20 a b c d Q
  · exact sh_21 a b c d Q
  · exact sh_22 a b c d Q
  · exact sh_23 a b c d Q
  · exact sh_24 a b c d Q
  · exact sh_25 a b c d Q
  · exact sh_26 a b c d Q
  · exact sh_27 a b c d Q
  · exact sh_28 a b c d Q
  · exact sh_29 a b c d Q
  · exact sh_30 a b c d Q
  · exact sh_31 a b c d Q
  · exact sh_32 a b c d Q
  · exact sh_33 a b c d Q

theorem rshow_run (r : RvRow) (hr : r ∈ rvRows) (a b c d : Int) (Q : SV → Prop) : sxFunc P GR (fun _ => .plain 40) Tryd.f8 (rvArg (.lit r.op) a b c d) hpT (fun v _ => Q v) = refShowR r a b c d Q := by
  simp only [rvRows, List.mem_cons, List.not_mem_nil, or_false] at hr
  rcases hr with rfl | rfl | rfl | rfl | rfl | rfl | rfl | rfl | rfl | rfl | rfl | rfl | rfl | rfl | rfl | rfl | rfl | rfl | rfl | rfl | rfl | rfl | rfl | rfl | rfl | rfl | rfl | rfl | rfl | rfl | rfl | rfl | rfl | rfl
  · exact rsh_0 a b c d Q
  · exact rsh_1 a b c d Q
  · exact rsh_2 a b c d Q
  · exact rsh_3 a b c d Q
  · exact rsh_4 a b c d Q
  · exact rsh_5 a b c d Q
  · exact rsh_6 a b c d Q
  · exact rsh_7 a b c d Q
  · exact rsh_8 a b c d Q
  · exact rsh_9 a b c d Q
  · exact rsh_10 a b c d Q
  · exact rsh_11 a b c d Q
  · exact rsh_12 a b c d Q
  · exact rsh_13 a b c d Q
  · exact rsh_14 a b c d Q
  · exact rsh_15 a b c d Q
  · exact rsh_16 a b c d Q
  · exact rsh_17 a b c d Q
  · exact rsh_18 a b c d Q
  · exact rsh_19 a b c d Q
  · exact rsh_20 a b c d Q
  · exact rsh_21 a b c d Q
  · exact rsh_22 a b c d Q
  · exact rsh_23 a b c d Q
  · exact rsh_24 a b c d Q
  · exact rsh_25 a b c d Q
  · exact rsh_26 a b c d Q
  · exact rsh_27 a b c d Q
  · exact rsh_28 a b c d Q
  · exact rsh_29 a b c d Q
  · exact rsh_30 a b c d Q
  · exact rsh_31 a b c d Q
  · exact rsh_32 a b c d Q
  · exact rsh_33 a b c d Q

def showF : TabFn
  | [.agg [.int .i64 n, .int .i64 a, .int .i64 b, .int .i64 c, .int .i64 d]] => some (Sx.inI64 a.den ∧ Sx.inI64 b.den ∧ Sx.inI64 c.den ∧ Sx.inI64 d.den, .strE (showV n.den a.den b.den c.den d.den))
  | _ => none

theorem rvArg_den (e : IE) (n a b c d : IE) (he : e.den = n.den) (ν : Nat → Pl) : SV.denL nu0 (rvArg e a.den b.den c.den d.den) = SV.denL ν [.agg [.int .i64 n, .int .i64 a, .int .i64 b, .int .i64 c, .int .i64 d]] := by
  simp [rvArg, SV.denL, SV.den, IE.den, he]

set_option maxRecDepth 100000 in
theorem show_ok : SpecOk P 7 (tabSpec 0 showF) := by
  refine tab_of gTens (func_sound (un := fun _ => .plain 40) GS_ok Tryd.func7) ?_
  intro args p v hF hp
  unfold showF at hF
  split at hF
  · rename_i n a b c d
    simp only [Option.some.injEq, Prod.mk.injEq] at hF
    obtain ⟨rfl, rfl⟩ := hF
    obtain ⟨ha, hb, hc, hd⟩ := hp
    cases h : rowOf rvRows n.den with
    | some r =>
      obtain ⟨hr, hop⟩ := rowOf_some h
      refine ⟨rvArg (.lit r.op) a.den b.den c.den d.den, rvArg_den _ n a b c d hop, by simp [rvArg, SV.wfL, SV.wf], by simp [SV.wf], ?_⟩
      have e0 := show_run r hr a.den b.den c.den d.den (fun v' => ∀ ν, v'.den ν = (SV.strE (showV n.den a.den b.den c.den d.den)).den nu0)
      refine e0.mpr (rvShowR_of r hr _ _ _ _ ha hb hc hd fun ν => ?_)
      simp [SV.den, showV, h]
    | none =>
      refine ⟨rvArg (.var n.den) a.den b.den c.den d.den, rvArg_den _ n a b c d rfl, by simp [rvArg, SV.wfL, SV.wf], by simp [SV.wf], ?_⟩
      have e0 := sh_none n.den a.den b.den c.den d.den (fun v' => ∀ ν, v'.den ν = (SV.strE (showV n.den a.den b.den c.den d.den)).den nu0)
      refine e0.mpr ⟨by simp [BE.den, h], fun ν => ?_⟩
      simp [SV.den, showV, h]
  · simp at hF

set_option maxRecDepth 100000 in
theorem rshow_ok : SpecOk P 8 (tabSpec 0 showF) := by
  refine tab_of gTens (func_sound (un := fun _ => .plain 40) GR_ok Tryd.func8) ?_
  intro args p v hF hp
  unfold showF at hF
  split at hF
  · rename_i n a b c d
    simp only [Option.some.injEq, Prod.mk.injEq] at hF
    obtain ⟨rfl, rfl⟩ := hF
    obtain ⟨ha, hb, hc, hd⟩ := hp
    cases h : rowOf rvRows n.den with
    | some r =>
      obtain ⟨hr, hop⟩ := rowOf_some h
      refine ⟨rvArg (.lit r.op) a.den b.den c.den d.den, rvArg_den _ n a b c d hop, by simp [rvArg, SV.wfL, SV.wf], by simp [SV.wf], ?_⟩
      have e0 := rshow_run r hr a.den b.den c.den d.den (fun v' => ∀ ν, v'.den ν = (SV.strE (showV n.den a.den b.den c.den d.den)).den nu0)
      refine e0.mpr (refShowR_of r hr _ _ _ _ ha hb hc hd fun ν => ?_)
      simp [SV.den, showV, h]
    | none =>
      refine ⟨rvArg (.var n.den) a.den b.den c.den d.den, rvArg_den _ n a b c d rfl, by simp [rvArg, SV.wfL, SV.wf], by simp [SV.wf], ?_⟩
      have e0 := rsh_none n.den a.den b.den c.den d.den (fun v' => ∀ ν, v'.den ν = (SV.strE (showV n.den a.den b.den c.den d.den)).den nu0)
      refine e0.mpr ⟨by simp [BE.den, rowOf_rr, h], fun ν => ?_⟩
      simp [SV.den, showV, h]
  · simp at hF
end Go.Proofs.YtiljkmcahkphiaaDoor.Rv
