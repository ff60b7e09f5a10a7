/- What the writer's small methods do: a wide operation, a register, an error. -/
import Derived.Test.YtajcmjjgnbaahaaDoorChecked
import Derived.Test.YtajcmjjgnbaahaaDoorSxc
import Derived.Test.YtajcmjjgnbaahaaDoorAp1
import Derived.Test.YtajcmjjgnbaahaaDoorSxo
import Derived.KernelRfl
namespace Go.Proofs.YtajcmjjgnbaahaaDoor.Amd
open Go Go.Proofs.YtajcmjjgnbaahaaDoor.Sx Go.RowKit
set_option linter.unusedVariables false
set_option linter.unusedSimpArgs false
noncomputable abbrev P := Go.Proofs.Tryd.prog
noncomputable def A0 : FuncId -> Option Cal := inl P (fun _ _ => 40) (fun _ => none) 6
theorem A0_ok : GammaOk P A0 := inl_ok none_ok 6
def wrCells (p : Int) (vb : Value) (e : Int) : SObj := .cells [.int .u8 (.var p), .val vb, .int .i64 (.var e)] 48
def wrEnd (v' : SV) (p : Int) (vb : Value) (e : Int) : SV -> List SObj -> Prop := fun v hp => simAt 1 1 { tmps := [v], hp := hp } [(0, v')] [wrCells p vb e]
theorem fails_run (p e r p' e' : Int) (vb : Value) : sxFunc P A0 (fun _ => 40) Tryd.f90 [.ptr 0 0, .int .i64 (.var r)] [wrCells p vb e] (wrEnd (.tuple []) p' vb e') =
    ((BE.den (.cmp .eql (.var e) (.lit 0)) = true -> p = p' /\ vb = vb /\ r = e' /\ True) /\ (BE.den (.cmp .eql (.var e) (.lit 0)) = false -> (BE.den (.cmp .lss (.var r) (.var e)) = true -> p = p' /\ vb = vb /\ r = e' /\ True) /\ (BE.den (.cmp .lss (.var r) (.var e)) = false -> p = p' /\ vb = vb /\ e = e' /\ True))) := by kernel_rfl
theorem reg_run (p e r b p' e' v' : Int) (vb : Value) : sxFunc P A0 (fun _ => 40) Tryd.f89 [.ptr 0 0, .int .i64 (.var r), .int .u8 (.var b)] [wrCells p vb e] (wrEnd (.int .u8 (.var v')) p' vb e') =
    ((BE.den (.cmp .lss (.var r) (.lit 0)) = true -> (BE.den (.cmp .eql (.var e) (.lit 0)) = true -> 0 = v' /\ p = p' /\ vb = vb /\ 182 = e' /\ True) /\ (BE.den (.cmp .eql (.var e) (.lit 0)) = false -> (BE.den (.cmp .lss (.lit 182) (.var e)) = true -> 0 = v' /\ p = p' /\ vb = vb /\ 182 = e' /\ True) /\ (BE.den (.cmp .lss (.lit 182) (.var e)) = false -> 0 = v' /\ p = p' /\ vb = vb /\ e = e' /\ True))) /\ (BE.den (.cmp .lss (.var r) (.lit 0)) = false -> (BE.den (.cmp .gtr (.var r) (.lit 15)) = true -> (BE.den (.cmp .eql (.var e) (.lit 0)) = true -> 0 = v' /\ p = p' /\ vb = vb /\ 182 = e' /\ True) /\ (BE.den (.cmp .eql (.var e) (.lit 0)) = false -> (BE.den (.cmp .lss (.lit 182) (.var e)) = true -> 0 = v' /\ p = p' /\ vb = vb /\ 182 = e' /\ True) /\ (BE.den (.cmp .lss (.lit 182) (.var e)) = false -> 0 = v' /\ p = p' /\ vb = vb /\ e = e' /\ True))) /\ (BE.den (.cmp .gtr (.var r) (.lit 15)) = false -> (BE.den (.cmp .gtr (.var r) (.lit 7)) = true -> IE.den (.conv .u8 (.bits .and .i64 (.var r) (.lit 7))) = v' /\ IE.den (.bits .or .u8 (.var p) (.var b)) = p' /\ vb = vb /\ e = e' /\ True) /\ (BE.den (.cmp .gtr (.var r) (.lit 7)) = false -> IE.den (.conv .u8 (.bits .and .i64 (.var r) (.lit 7))) = v' /\ p = p' /\ vb = vb /\ e = e' /\ True)))) := by kernel_rfl
theorem wide_run (p e p' e' : Int) (is : Bool) (vb : Value) : sxFunc P A0 (fun _ => 40) Tryd.f86 [.ptr 0 0, .bool (.var is)] [wrCells p vb e] (wrEnd (.tuple []) p' vb e') =
    ((is = true -> IE.den (.bits .or .u8 (.var p) (.lit 8)) = p' /\ vb = vb /\ e = e' /\ True) /\ (is = false -> p = p' /\ vb = vb /\ e = e' /\ True)) := by kernel_rfl
def wrK : List ArgK := [.plain, .held, .plain]
def failI (e r : Int) : Int := if e = 0 ∨ r < e then r else e
def regP (p r b : Int) : Int := if badReg r = false /\ 7 < r then bitsI .or .u8 p b else p
def regE (e r : Int) : Int := if badReg r then failI e 182 else e
def regV (r : Int) : Int := if badReg r then 0 else IntKind.u8.wrap (bitsI .and .i64 r 7)
def failsPre : Ins -> List SV -> Ins -> List SV -> Prop := fun _ pl _ pl' => match pl, pl' with
  | [.int .u8 _, .int .i64 _], [.int .i64 _] => True
  | _, _ => False
def failsOuts : Ins -> List SV -> Ins -> List SV -> List Out := fun _ pl _ pl' => match pl, pl' with
  | [.int .u8 p, .int .i64 e], [.int .i64 r] => [.one (fun _ => .tuple []) [] [.int .u8 (.var p.den), .int .i64 (.var (failI e.den r.den))]]
  | _, _ => []
def regPre : Ins -> List SV -> Ins -> List SV -> Prop := fun _ pl _ pl' => match pl, pl' with
  | [.int .u8 _, .int .i64 _], [.int .i64 _, .int .u8 _] => True
  | _, _ => False
def regOuts : Ins -> List SV -> Ins -> List SV -> List Out := fun _ pl _ pl' => match pl, pl' with
  | [.int .u8 p, .int .i64 e], [.int .i64 r, .int .u8 b] => [.one (fun _ => .int .u8 (.var (regV r.den))) [] [.int .u8 (.var (regP p.den r.den b.den)), .int .i64 (.var (regE e.den r.den))]]
  | _, _ => []
def widePre : Ins -> List SV -> Ins -> List SV -> Prop := fun _ pl _ pl' => match pl, pl' with
  | [.int .u8 _, .int .i64 _], [.bool _] => True
  | _, _ => False
def wideOuts : Ins -> List SV -> Ins -> List SV -> List Out := fun _ pl _ pl' => match pl, pl' with
  | [.int .u8 p, .int .i64 e], [.bool is] => [.one (fun _ => .tuple []) [] [.int .u8 (.var (if is.den then bitsI .or .u8 p.den 8 else p.den)), .int .i64 (.var e.den)]]
  | _, _ => []
theorem movable_closed {v : SV} {k : Nat} (h : v.wf fun _ => False) : Movable (fun _ => v) k :=
  ⟨fun _ _ _ _ _ => wf0_den _ _ h, fun _ _ _ => wf_mono (fun _ h => h.elim) _ h⟩
theorem ins_plain : ∀ {ks : List ArgK} {ins : Ins}, InsOk ks ins -> (∀ sz zs, ArgK.rows sz zs ∉ ks) -> ins = []
  | [], [], _, _ => rfl
  | .plain :: ks, ins, h, hn => ins_plain (ks := ks) (ins := ins) h fun sz zs hm => hn sz zs (List.mem_cons_of_mem _ hm)
  | .held :: ks, ins, h, hn => ins_plain (ks := ks) (ins := ins) h fun sz zs hm => hn sz zs (List.mem_cons_of_mem _ hm)
  | .rows sz zs :: ks, ins, h, hn => absurd (List.mem_cons_self ..) (hn sz zs)
theorem table_cons {P : Program} {f : FuncId} {c : Cal} {l : List (FuncId × Cal)} (h : CalOk P f c) (hl : GammaOk P (table l)) : GammaOk P (table ((f, c) :: l)) := by
  intro g c' hg
  unfold table at hg
  split at hg
  · rename_i e; subst e; simp only [Option.some.injEq] at hg; subst hg; exact h
  · exact hl g c' hg
theorem one_of {α : Type} {u : List α} (h : u.length = 1) : ∃ v, u = [v] := List.length_eq_one_iff.1 h
theorem failsPre_of {ins : Ins} {pl : List SV} {ins' : Ins} {pl' : List SV} (h : failsPre ins pl ins' pl') : ∃ p e r, pl = [.int .u8 p, .int .i64 e] /\ pl' = [.int .i64 r] := by
  unfold failsPre at h
  split at h
  · exact ⟨_, _, _, rfl, rfl⟩
  · exact h.elim
theorem regPre_of {ins : Ins} {pl : List SV} {ins' : Ins} {pl' : List SV} (h : regPre ins pl ins' pl') : ∃ p e r b, pl = [.int .u8 p, .int .i64 e] /\ pl' = [.int .i64 r, .int .u8 b] := by
  unfold regPre at h
  split at h
  · exact ⟨_, _, _, _, rfl, rfl⟩
  · exact h.elim
theorem widePre_of {ins : Ins} {pl : List SV} {ins' : Ins} {pl' : List SV} (h : widePre ins pl ins' pl') : ∃ p e is, pl = [.int .u8 p, .int .i64 e] /\ pl' = [.bool is] := by
  unfold widePre at h
  split at h
  · exact ⟨_, _, _, rfl, rfl⟩
  · exact h.elim
theorem fails_spec {f : FuncId} {s : SpecFn} (hs : SpecOk P f s) (hrun : ∀ (p e r : Int) (vb : Value), s [.ptr 0 0, .int .i64 (.var r)] [wrCells p vb e] (wrEnd (.tuple []) p vb (failI e r))) : SpecOk P f (mtSpec 48 wrK [.plain] failsPre failsOuts) := by
  refine mt_ok hs (fun sz zs h => by simp [wrK] at h) ?_ ?_
  · intro ins pl ins' pl' o ho
    unfold failsOuts at ho
    split at ho
    · simp only [List.mem_singleton] at ho; subst ho
      exact ⟨movable_closed (by simp [SV.wf, SV.wfL]), rfl, by simp [SV.wf, SV.wfL]⟩
    · simp at ho
  · intro ins pl ins' pl' u hi hi' hu hw hw' hp
    obtain ⟨p, e, r, rfl, rfl⟩ := failsPre_of hp
    have e1 : ins = [] := ins_plain hi fun sz zs h => by simp [wrK] at h
    have e2 : ins' = [] := ins_plain hi' fun sz zs h => by simp at h
    subst e1
    subst e2
    obtain ⟨vb, hv⟩ := one_of hu
    subst hv
    exact hrun p.den e.den r.den vb
theorem fails_ok : SpecOk P 90 (mtSpec 48 wrK [.plain] failsPre failsOuts) := by
  have h := func_sound (un := fun _ => 40) A0_ok Tryd.func90
  refine fails_spec h ?_
  intro p e r vb
  rw [fails_run]
  simp only [BE.den, IE.den, cmpI_eql, cmpI_lss, cmpI_gtr, decide_eq_true_eq, decide_eq_false_iff_not, failI]
  grind
theorem reg_spec {f : FuncId} {s : SpecFn} (hs : SpecOk P f s) (hrun : ∀ (p e r b : Int) (vb : Value), s [.ptr 0 0, .int .i64 (.var r), .int .u8 (.var b)] [wrCells p vb e] (wrEnd (.int .u8 (.var (regV r))) (regP p r b) vb (regE e r))) : SpecOk P f (mtSpec 48 wrK [.plain, .plain] regPre regOuts) := by
  refine mt_ok hs (fun sz zs h => by simp [wrK] at h) ?_ ?_
  · intro ins pl ins' pl' o ho
    unfold regOuts at ho
    split at ho
    · simp only [List.mem_singleton] at ho; subst ho
      exact ⟨movable_closed (by simp [SV.wf, SV.wfL]), rfl, by simp [SV.wf, SV.wfL]⟩
    · simp at ho
  · intro ins pl ins' pl' u hi hi' hu hw hw' hp
    obtain ⟨p, e, r, b, rfl, rfl⟩ := regPre_of hp
    have e1 : ins = [] := ins_plain hi fun sz zs h => by simp [wrK] at h
    have e2 : ins' = [] := ins_plain hi' fun sz zs h => by simp at h
    subst e1
    subst e2
    obtain ⟨vb, hv⟩ := one_of hu
    subst hv
    exact hrun p.den e.den r.den b.den vb
theorem reg_ok : SpecOk P 89 (mtSpec 48 wrK [.plain, .plain] regPre regOuts) := by
  have h := func_sound (un := fun _ => 40) A0_ok Tryd.func89
  refine reg_spec h ?_
  intro p e r b vb
  rw [reg_run]
  simp only [BE.den, IE.den, cmpI_eql, cmpI_lss, cmpI_gtr, decide_eq_true_eq, decide_eq_false_iff_not, failI, regV, regP, regE, badReg]
  grind
theorem wide_spec {f : FuncId} {s : SpecFn} (hs : SpecOk P f s) (hrun : ∀ (p e : Int) (is : Bool) (vb : Value), s [.ptr 0 0, .bool (.var is)] [wrCells p vb e] (wrEnd (.tuple []) (if is then bitsI .or .u8 p 8 else p) vb e)) : SpecOk P f (mtSpec 48 wrK [.plain] widePre wideOuts) := by
  refine mt_ok hs (fun sz zs h => by simp [wrK] at h) ?_ ?_
  · intro ins pl ins' pl' o ho
    unfold wideOuts at ho
    split at ho
    · simp only [List.mem_singleton] at ho; subst ho
      exact ⟨movable_closed (by simp [SV.wf, SV.wfL]), rfl, by simp [SV.wf, SV.wfL]⟩
    · simp at ho
  · intro ins pl ins' pl' u hi hi' hu hw hw' hp
    obtain ⟨p, e, is, rfl, rfl⟩ := widePre_of hp
    have e1 : ins = [] := ins_plain hi fun sz zs h => by simp [wrK] at h
    have e2 : ins' = [] := ins_plain hi' fun sz zs h => by simp at h
    subst e1
    subst e2
    obtain ⟨vb, hv⟩ := one_of hu
    subst hv
    exact hrun p.den e.den is.den vb
theorem wide_ok : SpecOk P 86 (mtSpec 48 wrK [.plain] widePre wideOuts) := by
  have h := func_sound (un := fun _ => 40) A0_ok Tryd.func86
  refine wide_spec h ?_
  intro p e is vb
  rw [wide_run]
  simp only [BE.den, IE.den]
  grind
def amT : List (FuncId × Cal) :=
  [(90, .spec (mtSpec 48 wrK [.plain] failsPre failsOuts) (mtGuess 48 wrK [.plain] failsOuts)),
   (89, .spec (mtSpec 48 wrK [.plain, .plain] regPre regOuts) (mtGuess 48 wrK [.plain, .plain] regOuts)),
   (86, .spec (mtSpec 48 wrK [.plain] widePre wideOuts) (mtGuess 48 wrK [.plain] wideOuts)),
   (15, .spec (sxFunc P A0 (fun _ => 40) Tryd.f15) fun _ _ => none)]
theorem amT_ok : GammaOk P (table amT) :=
  table_cons fails_ok (table_cons reg_ok (table_cons wide_ok (table_cons (func_sound A0_ok Tryd.func15) (fun g s h => by simp [table] at h))))
noncomputable def A1 : FuncId -> Option Cal := inl P (fun _ _ => 40) (table amT) 6
theorem A1_ok : GammaOk P A1 := inl_ok amT_ok 6
end Go.Proofs.YtajcmjjgnbaahaaDoor.Amd
