/- An instruction of any code: its contract; Decode's run. -/
import Derived.Test.YtajcmjjgnbaahaaAd5
import Derived.Test.YtajcmjjgnbaahaaSxq
namespace Go.Proofs.Ytajcmjjgnbaahaa.Amd
open Go Go.Proofs.Ytajcmjjgnbaahaa.Sx Go.RowKit
set_option linter.unusedVariables false
set_option linter.unusedSimpArgs false

structure CodeOk (b : Bool) (c : Int) : Prop where
  nb : b = false
  c0 : 0 ≤ c
  c1 : c < 256
def insPre : Ins → List SV → Ins → List SV → Prop := fun ins pl _ pl' => match ins, pl, pl' with
  | [(cs, len, cap)], [.int .i64 a, .int .u8 p, .bool b], [.int .u8 c] => (∃ g : Nat → Int, cs = [.int .u8 fun e => .var (g e)]) ∧ RGood (colG cs) len cap a.den p.den ∧ CodeOk b.den c.den
  | _, _, _ => False
def insOuts : Ins → List SV → Ins → List SV → List Out := fun ins pl _ pl' => match ins, pl, pl' with
  | [(cs, len, _)], [.int .i64 a, .int .u8 p, .bool _], [.int .u8 c] => [.any InR (insPost (colG cs) len p.den c.den a.den) (fun r _ => ySV (InR.y r)) (fun _ => []) (fun r => rdCs (InR.pos r) p.den (InR.bad r))]
  | _, _, _ => []
theorem insPre_of {ins : Ins} {pl : List SV} {ins' : Ins} {pl' : List SV} (h : insPre ins pl ins' pl') :
    ∃ (g : Nat → Int) (len cap : Nat) (a p : IE) (b : BE) (c : IE), ins = [([.int .u8 fun e => .var (g e)], len, cap)] ∧ pl = [.int .i64 a, .int .u8 p, .bool b] ∧ pl' = [.int .u8 c] ∧ RGood g len cap a.den p.den ∧ CodeOk b.den c.den := by
  unfold insPre at h
  split at h
  · obtain ⟨⟨g, rfl⟩, h2, h3⟩ := h
    exact ⟨g, _, _, _, _, _, _, rfl, rfl, rfl, h2, h3⟩
  · exact h.elim
theorem ins_spec {f : FuncId} {s : SpecFn} (hs : SpecOk P f s)
    (h : ∀ (g : Nat → Int) (len cap : Nat) (a p c : Int), RGood g len cap a p → 0 ≤ c → c < 256 → s [.ptr 1 0, .int .u8 (.var c)] [rdRow g cap, rdCells len cap a p false] (insEnd (insPost g len p c a) g len cap p)) :
    SpecOk P f (mtSpec rdTy rdK [.plain] insPre insOuts) := by
  refine mt_ok hs (fun sz zs hm => ?_) ?_ ?_
  · simp [rdK] at hm; obtain ⟨rfl, rfl⟩ := hm; rfl
  · intro ins pl ins' pl' o ho
    unfold insOuts at ho
    split at ho
    · simp only [List.mem_singleton] at ho; subst ho
      exact fun r => ⟨movable_closed (by simp [ySV, SV.wf, SV.wfL]), rfl, by simp [rdCs, SV.wf, SV.wfL]⟩
    · simp at ho
  · intro ins pl ins' pl' u hi hi' hu hw hw' hp
    obtain ⟨g, len, cap, a, p, b, c, rfl, rfl, rfl, hg, hc⟩ := insPre_of hp
    have e2 : ins' = [] := ins_plain hi' fun sz zs h => by simp at h
    subst e2
    have hr := h g len cap a.den p.den c.den hg hc.c0 hc.c1
    have hb := hc.nb
    rw [← hb] at hr
    exact hr
theorem shr6_lit {x : Int} : BE.den (BE.cmp BinOp.neq (IE.shr IntKind.u8 (IE.var x) (IE.lit 6)) (IE.lit 3)) = !decide (x / 64 = 3) := shr6_den (mm := 3)
theorem lit_args {c k : Int} (h : c = k) : (∀ ν, SV.denL ν [.ptr 1 0, .int .u8 (.lit k)] = SV.denL ν [.ptr 1 0, .int .u8 (.var c)]) ∧ ∀ n, SV.wfL n [.ptr 1 0, .int .u8 (.var c)] → SV.wfL n [.ptr 1 0, .int .u8 (.lit k)] := by
  subst h
  exact ⟨fun ν => rfl, fun n h => ⟨h.1, trivial, trivial⟩⟩

theorem ins_ok : SpecOk P 26 (mtSpec rdTy rdK [.plain] insPre insOuts) := by
  have h4 := func_sound (un := fun _ => 40) R4_ok Try.func26
  have h3 := func_sound (un := fun _ => 40) R3_ok Try.func26
  have h5 := func_sound (un := fun _ => 40) R5_ok Try.func26
  refine ins_spec (or_ok h4 (or_ok (ret_ok h3) (ret_ok h5))) ?_
  intro g len cap a p c hg hc0 hc1
  have A : askA len cap := ask2 hg.room
  have B : preP g len cap a p := preG hg
  have B1 : preP g len cap (nxA len a) p := preG hg.next
  have e0 := hg.pos0
  have e1 := hg.pos1
  have e2 := hg.small
  have ha : ahead g len a.toNat = nxV g len a := by
    unfold nxV ahead
    by_cases h : a < len
    · rw [if_pos h, if_pos (by omega)]
    · rw [if_neg h, if_neg (by omega)]
  by_cases h235 : c = 235
  · obtain ⟨w1, w2⟩ := lit_args h235
    refine .inr (.inl ⟨_, w1, w2 _, ?_⟩)
    rw [ins_235]
    subst h235
    exact ⟨A, B, A, B, A, B, leaf_of (lf_jmp hg rfl (by unfold decC; simp))⟩
  by_cases h137 : c = 137
  · obtain ⟨w1, w2⟩ := lit_args h137
    refine .inr (.inl ⟨_, w1, w2 _, ?_⟩)
    rw [ins_137]
    subst h137
    rw [shr6_lit]
    refine ⟨A, B, A, B, fun h => ⟨A, B, ?_⟩, fun h => ⟨A, B, ?_⟩⟩
    · have h : ¬ nxV g len a / 64 = 3 := by simpa using h
      exact leaf_of (lf_store hg (by unfold decC; simp [ha, h]))
    · have h : nxV g len a / 64 = 3 := by simpa using h
      exact leaf_of (lf_two hg (by decide) (by unfold decC; simp [ha, h]))
  by_cases h131 : c = 131
  · obtain ⟨w1, w2⟩ := lit_args h131
    refine .inr (.inr ⟨_, w1, w2 _, ?_⟩)
    rw [ins_131]
    subst h131
    simp only [nB_eq hg, decide_eq_true_eq, decide_eq_false_iff_not]
    refine ⟨A, B, fun h => ?_, fun k0 => ⟨fun h => ?_, fun k1 => ⟨fun h => ?_, fun k2 => ⟨fun h => ?_, fun k3 => ?_⟩⟩⟩⟩
    · have L := leaf_of (g := g) (len := len) (cap := cap) (p := p) (lf_imm (op := 14) hg (long := false) rfl (by decide) (show decC g len p 131 a.toNat = dImm g len 14 p 131 a.toNat by unfold decC; simp [← h]))
      repeat' with_reducible apply And.intro
      all_goals first | exact A | exact B | exact B1 | exact L
    · have L := leaf_of (g := g) (len := len) (cap := cap) (p := p) (lf_imm (op := 17) hg (long := false) rfl (by decide) (show decC g len p 131 a.toNat = dImm g len 17 p 131 a.toNat by unfold decC; simp [← h]))
      repeat' with_reducible apply And.intro
      all_goals first | exact A | exact B | exact B1 | exact L
    · have L := leaf_of (g := g) (len := len) (cap := cap) (p := p) (lf_imm (op := 15) hg (long := false) rfl (by decide) (show decC g len p 131 a.toNat = dImm g len 15 p 131 a.toNat by unfold decC; simp [← h]))
      repeat' with_reducible apply And.intro
      all_goals first | exact A | exact B | exact B1 | exact L
    · have L := leaf_of (g := g) (len := len) (cap := cap) (p := p) (lf_imm (op := 16) hg (long := false) rfl (by decide) (show decC g len p 131 a.toNat = dImm g len 16 p 131 a.toNat by unfold decC; simp [← h]))
      repeat' with_reducible apply And.intro
      all_goals first | exact A | exact B | exact B1 | exact L
    · refine leaf_of (lf_none hg rfl ?_)
      unfold decC
      simp [Ne.symm k0, Ne.symm k1, Ne.symm k2, Ne.symm k3]
  by_cases h129 : c = 129
  · obtain ⟨w1, w2⟩ := lit_args h129
    refine .inr (.inr ⟨_, w1, w2 _, ?_⟩)
    rw [ins_129]
    subst h129
    simp only [nB_eq hg, decide_eq_true_eq, decide_eq_false_iff_not]
    refine ⟨A, B, fun h => ?_, fun k0 => ⟨fun h => ?_, fun k1 => ⟨fun h => ?_, fun k2 => ⟨fun h => ?_, fun k3 => ?_⟩⟩⟩⟩
    · have L := leaf_of (g := g) (len := len) (cap := cap) (p := p) (lf_imm (op := 14) hg (long := true) rfl (by decide) (show decC g len p 129 a.toNat = dImm g len 14 p 129 a.toNat by unfold decC; simp [← h]))
      repeat' with_reducible apply And.intro
      all_goals first | exact A | exact B | exact B1 | exact L
    · have L := leaf_of (g := g) (len := len) (cap := cap) (p := p) (lf_imm (op := 17) hg (long := true) rfl (by decide) (show decC g len p 129 a.toNat = dImm g len 17 p 129 a.toNat by unfold decC; simp [← h]))
      repeat' with_reducible apply And.intro
      all_goals first | exact A | exact B | exact B1 | exact L
    · have L := leaf_of (g := g) (len := len) (cap := cap) (p := p) (lf_imm (op := 15) hg (long := true) rfl (by decide) (show decC g len p 129 a.toNat = dImm g len 15 p 129 a.toNat by unfold decC; simp [← h]))
      repeat' with_reducible apply And.intro
      all_goals first | exact A | exact B | exact B1 | exact L
    · have L := leaf_of (g := g) (len := len) (cap := cap) (p := p) (lf_imm (op := 16) hg (long := true) rfl (by decide) (show decC g len p 129 a.toNat = dImm g len 16 p 129 a.toNat by unfold decC; simp [← h]))
      repeat' with_reducible apply And.intro
      all_goals first | exact A | exact B | exact B1 | exact L
    · refine leaf_of (lf_none hg rfl ?_)
      unfold decC
      simp [Ne.symm k0, Ne.symm k1, Ne.symm k2, Ne.symm k3]
  by_cases h247 : c = 247
  · obtain ⟨w1, w2⟩ := lit_args h247
    refine .inr (.inl ⟨_, w1, w2 _, ?_⟩)
    rw [ins_247]
    subst h247
    simp only [nB_eq hg, decide_eq_true_eq, decide_eq_false_iff_not]
    refine ⟨A, B, fun h => ⟨A, B, A, B, leaf_of (lf_one hg (by decide) (by unfold decC; simp [← h]))⟩, fun k0 => ⟨fun h => ⟨A, B, A, B, leaf_of (lf_one hg (by decide) (by unfold decC; simp [← h]))⟩, fun k1 => ⟨fun h => ⟨A, B, A, B, leaf_of (lf_one hg (by decide) (by unfold decC; simp [← h]))⟩, fun k2 => ?_⟩⟩⟩
    refine leaf_of (lf_none hg rfl ?_)
    unfold decC
    simp [Ne.symm k0, Ne.symm k1, Ne.symm k2]
  by_cases h211 : c = 211
  · obtain ⟨w1, w2⟩ := lit_args h211
    refine .inr (.inl ⟨_, w1, w2 _, ?_⟩)
    rw [ins_211]
    subst h211
    simp only [nB_eq hg, decide_eq_true_eq, decide_eq_false_iff_not]
    refine ⟨A, B, fun h => ⟨A, B, A, B, leaf_of (lf_one hg (by decide) (by unfold decC; simp [← h]))⟩, fun k0 => ⟨fun h => ⟨A, B, A, B, leaf_of (lf_one hg (by decide) (by unfold decC; simp [← h]))⟩, fun k1 => ?_⟩⟩
    refine leaf_of (lf_none hg rfl ?_)
    unfold decC
    simp [Ne.symm k0, Ne.symm k1]
  left
  rw [ins_nf]
  have hrest : ¬ (c = 15 ∧ a.toNat < len) → restP g len cap a p false c (insPost g len p c a) := fun h => rest_holds hg hc0 hc1 h h235 h137 h131 h129 h247 h211
  refine ⟨A, B, fun h => ⟨fun hl => ?_, fun hl => ?_⟩, fun h => ?_⟩
  · have h : c = 15 := by rw [c_eql] at h; simpa using h
    have hl : a < len := by simpa [BE.den, IE.den, cmpI_lss] using hl
    subst h
    rw [sub1_eq e0 (by omega), at1_eq e0 (by omega), add1_eq e0 (by omega)]
    have hx := hg.byte a.toNat (by omega)
    have hg1 : RGood g len cap (a + 1) p := ⟨hg.room, hg.small, by omega, by omega, hg.p0, hg.p1, hg.byte⟩
    have B2 : preP g len cap (a + 1) p := preG hg1
    have et : (a + 1).toNat = a.toNat + 1 := by omega
    simp only [c_eql, c_240 hx.1 hx.2, c_cc2 hx.1 hx.2, c_cc7 hx.1 hx.2, cc_eq hx.1 hx.2, ge_eq, decide_eq_true_eq, decide_eq_false_iff_not]
    have hj : g a.toNat / 16 * 16 = 128 → decC g len p 15 a.toNat = dJcc g len p (g a.toNat % 16) true (a + 1).toNat := fun h => by
      unfold decC; rw [if_pos ⟨rfl, by omega⟩, if_neg (by omega), if_pos (by omega), et]
    refine ⟨ask_ix (by simp; have := hg.room; omega) (by simp; omega), by have := hg.room; omega, fun h => ⟨A, B2, leaf_of (lf_imul hg (by unfold decC; rw [if_pos ⟨rfl, by omega⟩, if_pos h]))⟩, fun k1 => ⟨fun h => ?_, fun k2 => ?_⟩⟩
    · have hl : decide (128 ≤ g a.toNat) = true := by simp; omega
      rw [hl]
      refine ⟨A, B2, fun hn => ⟨A, B2, leaf_of (lf_jccN hg (hj h) (.inl (noF15_t hg hn)) true)⟩, fun hn => ⟨fun h2 => ⟨A, B2, leaf_of (lf_jccN hg (hj h) (.inr h2) true)⟩, fun h2 => ⟨A, B2, leaf_of (lf_jccY hg (by omega) (noF15_f hg hn) (by omega) (hj h))⟩⟩⟩
    · refine leaf_of (lf_none hg rfl ?_)
      unfold decC; rw [if_pos ⟨rfl, by omega⟩, if_neg k1, if_neg (by omega)]
  · have hl : ¬ a < len := by simpa [BE.den, IE.den, cmpI_lss] using hl
    exact hrest fun h => hl (by omega)
  · have h : ¬ c = 15 := by rw [c_eql] at h; simpa using h
    exact hrest fun h' => h h'.1

abbrev insM : SpecFn := mtSpec rdTy rdK [.plain] insPre insOuts
def rdT6 : List (FuncId × Cal) := (26, .spec insM fun _ _ => none) :: rdT3
theorem rdT6_ok : GammaOk P (table rdT6) := table_cons ins_ok rdT3_ok
noncomputable def R6 : FuncId → Option Cal := inl P (fun _ _ => 40) (table rdT6) 6
theorem R6_ok : GammaOk P R6 := inl_ok rdT6_ok 6
def decEnd (g : Nat → Int) (cap : Nat) (y' : AI) (n' e' : Int) : SV → List SObj → Prop := fun v hp => simAt 1 1 { tmps := [v], hp := hp } [(0, .tuple [ySV y', .int .i64 (.var n'), .int .i64 (.var e')])] [rdRow g cap]
end Go.Proofs.Ytajcmjjgnbaahaa.Amd
