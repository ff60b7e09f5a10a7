/- Do bytes begin with those of an instruction: its run, its contract. -/
import Derived.Test.YtajcmjjgnbaahaaRe6
import Derived.Test.YtajcmjjgnbaahaaRg1
namespace Go.Proofs.Ytajcmjjgnbaahaa.Amd
open Go Go.Proofs.Ytajcmjjgnbaahaa.Sx Go.RowKit
set_option linter.unusedVariables false
set_option linter.unusedSimpArgs false

def smT : List (FuncId × Cal) := [(48, .spec encM encG)]
theorem smT_ok : GammaOk P (table smT) := table_cons (spec_cal rencode_ok) fun g s h => by simp [table] at h
noncomputable def SM : FuncId → Option Cal := inl P (fun _ _ => 40) (table smT) 4
theorem SM_ok : GammaOk P SM := inl_ok smT_ok 4
/-- The loop over the bytes: those that were written, how far. -/
structure SmSt where
  c : Nat
  w : Nat → Int
  i : Nat
def smSlots (n : Nat) (q : Int) (len cap : Nat) (a : SmSt) : List (Nat × SV) := [(0, slA 0 len cap), (1, .int .i64 (.var q)), (8, .sliceE false 1 1 (.lit 0) (.var n) (.var (SmSt.c a))), (10, .int .i64 (.var (SmSt.i a)))]
def smHp (g : Nat → Int) (cap : Nat) (a : SmSt) : List SObj := [rdRow g cap, .row true false [.int .u8 fun e => .var (SmSt.w a e)] (.var (SmSt.c a))]
def smEnd (g : Nat → Int) (cap : Nat) (v : Int) (ok : Bool) : SV → List SObj → Prop :=
  fun w hp => simAt 1 1 { tmps := [w], hp := hp } [(0, .tuple [.int .i64 (.var v), .bool (.var ok)])] [rdRow g cap]
/-- The same instruction, as its cells tell it. -/
def xE (x : AI) : AI := ⟨AI.op x, AI.wide x, AI.long x, AI.d x, AI.s x, AI.disp x, AI.imm x, AI.cc x⟩
def smBody (g : Nat → Int) (len cap : Nat) (q : Int) (x : AI) (I : SmSt → Prop) (M : SmSt → Nat) (v : Int) (ok : Bool) : Prop :=
  ∀ (u : Nat → Value) (a : SmSt), I a → (BE.den (BE.cmp BinOp.lss (IE.var (↑(SmSt.i a) : Int)) (IE.var (↑(List.length (amdBytes x)) : Int))) = true → decide (0 ≤ (↑(SmSt.i a) : Int) ∧ (↑(SmSt.i a) : Int) < (↑(List.length (amdBytes x)) : Int)) = true ∧ decide (0 + Int.toNat (↑(SmSt.i a) : Int) + 1 ≤ SmSt.c a) = true ∧ BE.den (BE.ite (BE.var (decide (len ≤ cap ∧ 0 + cap ≤ cap))) (BE.var (decide (0 ≤ IE.den (IE.add IntKind.i64 (IE.var q) (IE.var (↑(SmSt.i a) : Int))) ∧ IE.den (IE.add IntKind.i64 (IE.var q) (IE.var (↑(SmSt.i a) : Int))) < (↑len : Int)))) (BE.lit false)) = true ∧ decide (0 + Int.toNat (IE.den (IE.add IntKind.i64 (IE.var q) (IE.var (↑(SmSt.i a) : Int)))) + 1 ≤ cap) = true ∧ (BE.den (BE.cmp BinOp.neq (IE.var (SmSt.w a (0 + Int.toNat (↑(SmSt.i a) : Int)))) (IE.var (g (0 + Int.toNat (IE.den (IE.add IntKind.i64 (IE.var q) (IE.var (↑(SmSt.i a) : Int)))))))) = true → 0 = v ∧ BE.den (BE.lit false) = ok ∧ cap = cap ∧ (∀ (e : Nat), e < cap → g e = g e) ∧ True) ∧ (BE.den (BE.cmp BinOp.neq (IE.var (SmSt.w a (0 + Int.toNat (↑(SmSt.i a) : Int)))) (IE.var (g (0 + Int.toNat (IE.den (IE.add IntKind.i64 (IE.var q) (IE.var (↑(SmSt.i a) : Int)))))))) = false → ∃ a', I a' ∧ Nat.le (Nat.succ (M a')) (M a) ∧ len = len ∧ cap = cap ∧ q = q ∧ List.length (amdBytes x) = List.length (amdBytes x) ∧ SmSt.c a = SmSt.c a' ∧ IE.den (IE.add IntKind.i64 (IE.var (↑(SmSt.i a) : Int)) (IE.lit 1)) = (↑(SmSt.i a') : Int) ∧ cap = cap ∧ (∀ (e : Nat), e < cap → g e = g e) ∧ SmSt.c a = SmSt.c a' ∧ (∀ (e : Nat), e < SmSt.c a' → SmSt.w a e = SmSt.w a' e) ∧ True)) ∧ (BE.den (BE.cmp BinOp.lss (IE.var (↑(SmSt.i a) : Int)) (IE.var (↑(List.length (amdBytes x)) : Int))) = false → IE.den (IE.add IntKind.i64 (IE.var q) (IE.var (↑(List.length (amdBytes x)) : Int))) = v ∧ BE.den (BE.lit true) = ok ∧ cap = cap ∧ (∀ (e : Nat), e < cap → g e = g e) ∧ True)
theorem same_nf (g : Nat → Int) (len cap : Nat) (q : Int) (x : AI) (I : SmSt → Prop) (M : SmSt → Nat) (v : Int) (ok : Bool) : sxFunc P SM (fun _ => annA SmSt (smSlots (amdBytes x).length q len cap) (smHp g cap) I M) Try.f29 [slA 0 len cap, .int .i64 (.var q), xIn x] [rdRow g cap] (smEnd g cap v ok) =
    (True ∧ (∀ (b : Nat × (Nat → Int)), EncO (xE x) b → (BE.den (BE.cmp BinOp.gtr (IE.var (↑(List.length (amdBytes (xE x))) : Int)) (IE.sub IntKind.i64 (IE.var (↑len : Int)) (IE.var q))) = true → 0 = v ∧ BE.den (BE.lit false) = ok ∧ cap = cap ∧ (∀ (e : Nat), e < cap → g e = g e) ∧ True) ∧ (BE.den (BE.cmp BinOp.gtr (IE.var (↑(List.length (amdBytes (xE x))) : Int)) (IE.sub IntKind.i64 (IE.var (↑len : Int)) (IE.var q))) = false → (∃ a, I a ∧ len = len ∧ cap = cap ∧ q = q ∧ List.length (amdBytes (xE x)) = List.length (amdBytes x) ∧ Prod.fst b = SmSt.c a ∧ 0 = (↑(SmSt.i a) : Int) ∧ cap = cap ∧ (∀ (e : Nat), e < cap → g e = g e) ∧ Prod.fst b = SmSt.c a ∧ (∀ (e : Nat), e < SmSt.c a → Prod.snd b e = SmSt.w a e) ∧ True) ∧ smBody g len cap q x I M v ok ∧ ∀ (u : Nat → Value) (b : Unit), False → False)) ∧ ∀ (b : Unit), amdErr (xE x) ≠ 0 → (BE.den (BE.cmp BinOp.neq (IE.var (amdErr (xE x))) (IE.lit 0)) = true → 0 = v ∧ BE.den (BE.lit false) = ok ∧ cap = cap ∧ (∀ (e : Nat), e < cap → g e = g e) ∧ True) ∧ (BE.den (BE.cmp BinOp.neq (IE.var (amdErr (xE x))) (IE.lit 0)) = false → (BE.den (BE.cmp BinOp.gtr (IE.lit 0) (IE.sub IntKind.i64 (IE.var (↑len : Int)) (IE.var q))) = true → 0 = v ∧ BE.den (BE.lit false) = ok ∧ cap = cap ∧ (∀ (e : Nat), e < cap → g e = g e) ∧ True) ∧ (BE.den (BE.cmp BinOp.gtr (IE.lit 0) (IE.sub IntKind.i64 (IE.var (↑len : Int)) (IE.var q))) = false → (∃ a, I a ∧ len = len ∧ cap = cap ∧ q = q ∧ StuckAt 65) ∧ smBody g len cap q x I M v ok ∧ ∀ (u : Nat → Value) (b : Unit), False → False))) := by kernel_rfl
def readsB (g : Nat → Int) : Nat → List Int → Bool
  | _, [] => true
  | i, c :: r => decide (g i = c) && readsB g (i + 1) r
theorem readsB_iff {g : Nat → Int} : ∀ {l : List Int} {i : Nat}, readsB g i l = true ↔ reads g i l
  | [], i => by simp [readsB, reads]
  | c :: r, i => by simp [readsB, reads, readsB_iff (l := r)]
/-- Does it stand there? -/
def smV (g : Nat → Int) (len : Nat) (q : Int) (x : AI) : Bool := decide (amdErr x = 0) && (decide (q.toNat + (amdBytes x).length ≤ len) && readsB g q.toNat (amdBytes x))
def smE (g : Nat → Int) (len : Nat) (q : Int) (x : AI) : Int := if smV g len q x = true then q + (amdBytes x).length else 0
theorem smV_iff {g : Nat → Int} {len j : Nat} {x : AI} : smV g len (j : Int) x = true ↔ amdErr x = 0 ∧ j + (amdBytes x).length ≤ len ∧ reads g j (amdBytes x) := by
  unfold smV
  rw [Bool.and_eq_true, Bool.and_eq_true, decide_eq_true_eq, decide_eq_true_eq, readsB_iff, Int.toNat_natCast]
def smPre : Ins → List SV → Prop := fun ins pl => match ins, pl with
  | [(cs, len, cap)], [.int .i64 q, .agg [.int .i64 _, .bool _, .bool _, .int .i64 _, .int .i64 _, .int .i64 _, .int .i64 _, .int .i64 _]] => (∃ g : Nat → Int, cs = [.int .u8 fun e => .var (g e)]) ∧ BGood (colG cs) len cap ∧ 0 ≤ q.den ∧ q.den ≤ len
  | _, _ => False
def smOuts : Ins → List SV → List Out := fun ins pl => match ins, pl with
  | [(cs, len, _)], [.int .i64 q, .agg [.int .i64 op, .bool w, .bool l, .int .i64 d, .int .i64 s, .int .i64 dp, .int .i64 im, .int .i64 cc]] =>
    [.one (fun _ => .tuple [.int .i64 (.var (smE (colG cs) len q.den ⟨op.den, w.den, l.den, d.den, s.den, dp.den, im.den, cc.den⟩)), .bool (.var (smV (colG cs) len q.den ⟨op.den, w.den, l.den, d.den, s.den, dp.den, im.den, cc.den⟩))]) [] []]
  | _, _ => []
theorem smPre_of {ins : Ins} {pl : List SV} (h : smPre ins pl) : ∃ (g : Nat → Int) (len cap : Nat) (q op : IE) (w l : BE) (d s dp im cc : IE), ins = [([.int .u8 fun e => .var (g e)], len, cap)] ∧
    pl = [.int .i64 q, .agg [.int .i64 op, .bool w, .bool l, .int .i64 d, .int .i64 s, .int .i64 dp, .int .i64 im, .int .i64 cc]] ∧ BGood g len cap ∧ 0 ≤ q.den ∧ q.den ≤ len := by
  unfold smPre at h
  split at h
  · obtain ⟨⟨g, rfl⟩, h2, h3⟩ := h
    exact ⟨g, _, _, _, _, _, _, _, _, _, _, _, rfl, rfl, h2, h3⟩
  · exact h.elim
theorem sm_spec {f : FuncId} {s : SpecFn} (hs : SpecOk P f s)
    (h : ∀ (g : Nat → Int) (len cap j : Nat) (x : AI), BGood g len cap → j ≤ len → s [slA 0 len cap, .int .i64 (.var j), xIn x] [rdRow g cap] (smEnd g cap (smE g len j x) (smV g len j x))) :
    SpecOk P f (rdSpec [.rows 1 zz1, .plain, .plain] smPre smOuts) := by
  refine rd_ok hs (fun sz zs h => by simp at h; obtain ⟨rfl, rfl⟩ := h; rfl) ?_ ?_
  · intro ins pl o ho
    unfold smOuts at ho
    split at ho
    · simp only [List.mem_singleton] at ho; subst ho
      exact ⟨movable_closed (by simp [SV.wf, SV.wfL]), rfl, by simp [SV.wfL]⟩
    · simp at ho
  · intro ins pl u hi hw hp
    obtain ⟨g, len, cap, q, op, w, l, d, s, dp, im, cc, rfl, rfl, h1, h2, h3⟩ := smPre_of hp
    obtain ⟨j, hj⟩ := Int.eq_ofNat_of_zero_le h2
    have := h g len cap j ⟨op.den, w.den, l.den, d.den, s.den, dp.den, im.den, cc.den⟩ h1 (by omega)
    rw [← hj] at this
    exact this
def smInv (g : Nat → Int) (len j : Nat) (x : AI) (a : SmSt) : Prop :=
  amdErr x = 0 ∧ j + (amdBytes x).length ≤ len ∧ a.i ≤ (amdBytes x).length ∧ (amdBytes x).length ≤ a.c ∧ (∀ e, e < (amdBytes x).length → a.w e = (amdBytes x).getD e 0) ∧ ∀ e, e < a.i → g (j + e) = (amdBytes x).getD e 0
theorem sm_no {g : Nat → Int} {len j : Nat} {x : AI} {cap : Nat} (h : ¬ (amdErr x = 0 ∧ j + (amdBytes x).length ≤ len ∧ reads g j (amdBytes x))) : 0 = smE g len j x ∧ BE.den (BE.lit false) = smV g len j x ∧ cap = cap ∧ (∀ (e : Nat), e < cap → g e = g e) ∧ True := by
  have hf : smV g len j x = false := by
    cases hv : smV g len j x with
    | false => rfl
    | true => exact absurd (smV_iff.1 hv) h
  refine ⟨?_, hf.symm, rfl, fun _ _ => rfl, trivial⟩
  unfold smE; rw [hf]; rfl
theorem smBody_ok {g : Nat → Int} {len cap j : Nat} {x : AI} (hg : BGood g len cap) : smBody g len cap (j : Int) x (smInv g len j x) (fun a => (amdBytes x).length - a.i) (smE g len j x) (smV g len j x) := by
  rintro _ ⟨c, w, i⟩ ⟨i1, i2, i3, i4, i5, i6⟩
  dsimp only at i1 i2 i3 i4 i5 i6 ⊢
  have hsm := hg.small
  have hrm := hg.room
  refine ⟨fun hlt => ?_, fun hge => ?_⟩
  · have hlt : (i : Int) < ((amdBytes x).length : Int) := by simpa [BE.den, IE.den, cmpI_lss] using hlt
    have hi : i < (amdBytes x).length := by omega
    have e1 : IE.den (IE.add IntKind.i64 (IE.var (j : Int)) (IE.var (i : Int))) = ((j + i : Nat) : Int) := by
      simp only [IE.den]; rw [wrap_i64_in (by omega) (by omega)]; omega
    have t1 : 0 + Int.toNat ((j + i : Nat) : Int) = j + i := by omega
    have t2 : 0 + Int.toNat ((i : Nat) : Int) = i := by omega
    rw [e1, t1, t2]
    refine ⟨decide_eq_true ⟨by omega, hlt⟩, decide_eq_true (by omega), ask_in hrm (by omega) (by omega), decide_eq_true (by omega), fun hn => ?_, fun hn => ?_⟩
    · have hn : ¬ w i = g (j + i) := by simpa [BE.den, IE.den, cmpI_neq] using hn
      refine sm_no fun ⟨_, _, hr⟩ => hn ?_
      rw [i5 i hi]; exact (reads_get hr i hi).symm
    · have hn : w i = g (j + i) := by simpa [BE.den, IE.den, cmpI_neq] using hn
      have e2 : IE.den (IE.add IntKind.i64 (IE.var (i : Int)) (IE.lit 1)) = ((i + 1 : Nat) : Int) := by
        simp only [IE.den]; rw [wrap_i64_in (by omega) (by omega)]; omega
      refine ⟨⟨c, w, i + 1⟩, ⟨i1, i2, hi, i4, i5, fun e he => ?_⟩, ?_, rfl, rfl, rfl, rfl, rfl, e2, rfl, fun _ _ => rfl, rfl, fun _ _ => rfl, trivial⟩
      · have he : e < i + 1 := he
        by_cases h : e < i
        · exact i6 e h
        · obtain rfl : e = i := by omega
          rw [← hn, i5 e hi]
      · show (amdBytes x).length - (i + 1) + 1 ≤ (amdBytes x).length - i
        omega
  · have hge : ¬ (i : Int) < ((amdBytes x).length : Int) := by simpa [BE.den, IE.den, cmpI_lss] using hge
    have hi : i = (amdBytes x).length := by omega
    have ht : smV g len j x = true := smV_iff.2 ⟨i1, i2, reads_of fun e he => i6 e (by omega)⟩
    have e1 : IE.den (IE.add IntKind.i64 (IE.var (j : Int)) (IE.var ((amdBytes x).length : Int))) = (j : Int) + (amdBytes x).length := by
      simp only [IE.den]; rw [wrap_i64_in (by omega) (by omega)]
    refine ⟨?_, ht.symm, rfl, fun _ _ => rfl, trivial⟩
    rw [e1]; unfold smE; rw [if_pos ht]
theorem n_ne0 {v : Int} (h : v ≠ 0) {p : Prop} (hn : BE.den (BE.cmp BinOp.neq (IE.var v) (IE.lit 0)) = false) : p := absurd (n0f hn) h
theorem rsame_ok : SpecOk P 29 (rdSpec [.rows 1 zz1, .plain, .plain] smPre smOuts) := by
  have hs := some_un fun un => func_sound (un := un) SM_ok Try.func29
  refine sm_spec hs ?_
  intro g len cap j x hg hj
  refine ⟨fun _ => annA SmSt (smSlots (amdBytes x).length j len cap) (smHp g cap) (smInv g len j x) (fun a => (amdBytes x).length - a.i), ?_⟩
  rw [same_nf]
  have hsm := hg.small
  have hx : xE x = x := rfl
  rw [hx]
  refine ⟨trivial, fun b hb => ⟨fun h => ?_, fun h => ?_⟩, fun b hb => ⟨fun h => ?_, fun h => n_ne0 hb h⟩⟩
  · rw [gtr_d, sub_q hsm (by omega) (by omega)] at h
    have h : ((len : Int) - j) < ((amdBytes x).length : Int) := of_decide_eq_true h
    exact sm_no fun ⟨_, h2, _⟩ => by omega
  · rw [gtr_d, sub_q hsm (by omega) (by omega)] at h
    have h : ¬ ((len : Int) - j) < ((amdBytes x).length : Int) := of_decide_eq_false h
    exact ⟨⟨⟨b.1, b.2, 0⟩, ⟨hb.err, by omega, Nat.zero_le _, hb.len, hb.cell, fun e he => absurd he (Nat.not_lt_zero e)⟩, rfl, rfl, rfl, rfl, rfl, rfl, rfl, fun _ _ => rfl, rfl, fun _ _ => rfl, trivial⟩, smBody_ok hg, fun _ _ h => h⟩
  · exact sm_no fun ⟨h1, _⟩ => hb h1
end Go.Proofs.Ytajcmjjgnbaahaa.Amd
