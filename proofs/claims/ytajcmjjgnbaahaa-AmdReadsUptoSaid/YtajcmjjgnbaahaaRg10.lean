/- What bytes could be: the prefix, and the contract. -/
import Derived.Test.YtajcmjjgnbaahaaRg9
namespace Go.Proofs.Ytajcmjjgnbaahaa.Amd
open Go Go.Proofs.Ytajcmjjgnbaahaa.Sx Go.RowKit
set_option linter.unusedVariables false
set_option linter.unusedSimpArgs false

section
variable {g : Nat → Int} {len cap i : Nat} {op : Int} {f : Form} {b : FmP} {E : GuSt → Prop}
theorem q_lt (h : BE.den (BE.cmp BinOp.lss (IE.var (i : Int)) (IE.var (len : Int))) = true) : i < len := by
  simp only [BE.den, IE.den, cmpI_lss] at h; have := of_decide_eq_true h; omega
theorem q_ge (h : BE.den (BE.cmp BinOp.lss (IE.var (i : Int)) (IE.var (len : Int))) = false) : ¬ i < len := by
  simp only [BE.den, IE.den, cmpI_lss] at h; have := of_decide_eq_false h; omega
theorem qA (hg : BGood g len cap) (h : BE.den (BE.cmp BinOp.lss (IE.var (i : Int)) (IE.var (len : Int))) = true) : BE.den (BE.ite (BE.var (decide (len ≤ cap ∧ 0 + cap ≤ cap))) (BE.var (decide (0 ≤ (i : Int) ∧ (i : Int) < (len : Int)))) (BE.lit false)) = true := by
  have := q_lt h
  exact ask_in hg.room (by omega) (by omega)
theorem qB (hg : BGood g len cap) (h : BE.den (BE.cmp BinOp.lss (IE.var (i : Int)) (IE.var (len : Int))) = true) : decide (0 + Int.toNat (i : Int) + 1 ≤ cap) = true := by
  have := q_lt h; have := hg.room
  exact decide_eq_true (by omega)
theorem t_i : 0 + Int.toNat (i : Int) = i := by omega
theorem g64t (h : BE.den (BE.cmp BinOp.geq (IE.var (g (0 + Int.toNat (i : Int)))) (IE.lit 64)) = true) : 64 ≤ g i := by rw [c_geq, t_i] at h; exact of_decide_eq_true h
theorem l79t (h : BE.den (BE.cmp BinOp.leq (IE.var (g (0 + Int.toNat (i : Int)))) (IE.lit 79)) = true) : g i ≤ 79 := by rw [c_leq, t_i] at h; exact of_decide_eq_true h
theorem has_1 (h : BE.den (BE.cmp BinOp.lss (IE.var (i : Int)) (IE.var (len : Int))) = false) : gHas g len i = false := decide_eq_false fun hh => q_ge h hh.1
theorem has_2 (h : BE.den (BE.cmp BinOp.geq (IE.var (g (0 + Int.toNat (i : Int)))) (IE.lit 64)) = false) : gHas g len i = false := by
  rw [c_geq, t_i] at h; exact decide_eq_false fun hh => of_decide_eq_false h hh.2.1
theorem has_3 (h : BE.den (BE.cmp BinOp.leq (IE.var (g (0 + Int.toNat (i : Int)))) (IE.lit 79)) = false) : gHas g len i = false := by
  rw [c_leq, t_i] at h; exact decide_eq_false fun hh => of_decide_eq_false h hh.2.2
theorem has_t (h1 : BE.den (BE.cmp BinOp.lss (IE.var (i : Int)) (IE.var (len : Int))) = true) (h2 : BE.den (BE.cmp BinOp.geq (IE.var (g (0 + Int.toNat (i : Int)))) (IE.lit 64)) = true) (h3 : BE.den (BE.cmp BinOp.leq (IE.var (g (0 + Int.toNat (i : Int)))) (IE.lit 79)) = true) : gHas g len i = true :=
  decide_eq_true ⟨q_lt h1, g64t h2, l79t h3⟩
theorem nil_of (h : ¬ gpI g len i < len) : ∃ b, GuO g len i op f b ∧ GuR.n b = 0 ∧ GuR.c b = 0 ∧ cap = cap ∧ (∀ (e : Nat), e < cap → g e = g e) ∧ GuR.c b = 0 ∧ True :=
  ⟨⟨0, 0, fun _ => zI⟩, ⟨Nat.le_refl _, by decide, by rw [if_neg h], fun e he => absurd he (Nat.not_lt_zero e)⟩, rfl, rfl, rfl, fun _ _ => rfl, rfl, trivial⟩
theorem nil_n (hn : gHas g len i = false) (h : BE.den (BE.cmp BinOp.geq (IE.var (i : Int)) (IE.var (len : Int))) = true) : ∃ b, GuO g len i op f b ∧ GuR.n b = 0 ∧ GuR.c b = 0 ∧ cap = cap ∧ (∀ (e : Nat), e < cap → g e = g e) ∧ GuR.c b = 0 ∧ True := by
  refine nil_of ?_
  simp only [BE.den, IE.den, cmpI_geq] at h; have := of_decide_eq_true h
  unfold gpI; rw [hn]; simp only [Bool.false_eq_true, if_false]; omega
theorem add_q (hg : BGood g len cap) (hl : i < len) : IE.den (IE.add IntKind.i64 (IE.var (i : Int)) (IE.lit 1)) = ((i + 1 : Nat) : Int) := by
  have := hg.small
  simp only [IE.den]; rw [wrap_i64_in (by omega) (by omega)]; omega
theorem nil_p (h1 : BE.den (BE.cmp BinOp.lss (IE.var (i : Int)) (IE.var (len : Int))) = true) (h2 : BE.den (BE.cmp BinOp.geq (IE.var (g (0 + Int.toNat (i : Int)))) (IE.lit 64)) = true) (h3 : BE.den (BE.cmp BinOp.leq (IE.var (g (0 + Int.toNat (i : Int)))) (IE.lit 79)) = true)
    (hg : BGood g len cap) (h : BE.den (BE.cmp BinOp.geq (IE.add IntKind.i64 (IE.var (i : Int)) (IE.lit 1)) (IE.var (len : Int))) = true) : ∃ b, GuO g len i op f b ∧ GuR.n b = 0 ∧ GuR.c b = 0 ∧ cap = cap ∧ (∀ (e : Nat), e < cap → g e = g e) ∧ GuR.c b = 0 ∧ True := by
  refine nil_of ?_
  rw [geq_d, add_q hg (q_lt h1)] at h
  have h : (len : Int) ≤ ((i + 1 : Nat) : Int) := of_decide_eq_true h
  unfold gpI; rw [has_t h1 h2 h3]; simp only [if_true]; omega
theorem st_of {p : Nat} {wide : Bool} {r m : Int} (hg : BGood g len cap) (hp : p = gpI g len i) (hl : p < len) (hw : wide = hiW (gpP g len i)) (hr : r = hiR (gpP g len i)) (hm : m = hiB (gpP g len i)) : GuI g len cap i op f ⟨p, wide, r, m, 0, 0, fun _ => zI, b⟩ :=
  ⟨hg, hp, hl, hw, hr, hm, Nat.zero_le _, Nat.le_refl _, Nat.zero_le _, fun h => (by cases h), fun e he => absurd he (Nat.not_lt_zero e)⟩
theorem st_n (hg : BGood g len cap) (hE : ∀ a : GuSt, a.f = b → a.c = 0 → E a) (hn : gHas g len i = false) (h : BE.den (BE.cmp BinOp.geq (IE.var (i : Int)) (IE.var (len : Int))) = false) :
    ∃ a, GuI g len cap i op f a ∧ len = len ∧ cap = cap ∧ op = op ∧ (i : Int) = (GuSt.p a : Int) ∧ BE.den (BE.lit false) = GuSt.wide a ∧ 0 = GuSt.r a ∧ 0 = GuSt.m a ∧ GuSt.k a = 0 ∧ GuSt.c a = 0 ∧ 0 = (GuSt.k a : Int) ∧ cap = cap ∧ (∀ (e : Nat), e < cap → g e = g e) ∧ E a := by
  simp only [BE.den, IE.den, cmpI_geq] at h; have := of_decide_eq_false h
  have e1 : gpI g len i = i := by unfold gpI; rw [hn]; rfl
  have e2 : gpP g len i = 0 := by unfold gpP; rw [hn]; rfl
  exact ⟨⟨i, false, 0, 0, 0, 0, fun _ => zI, b⟩, st_of hg e1.symm (by omega) (by rw [e2]; rfl) (by rw [e2]; rfl) (by rw [e2]; rfl), rfl, rfl, rfl, rfl, rfl, rfl, rfl, rfl, rfl, rfl, rfl, fun _ _ => rfl, hE _ rfl rfl⟩
theorem bits_p {v : Int} (h0 : 64 ≤ v) (h1 : v ≤ 79) : BE.den (BE.cmp BinOp.neq (IE.bits BinOp.and IntKind.u8 (IE.var v) (IE.lit 8)) (IE.lit 0)) = hiW (v % 16) ∧
    (if BE.den (BE.cmp BinOp.neq (IE.bits BinOp.and IntKind.u8 (IE.var v) (IE.lit 4)) (IE.lit 0)) = true then 8 else 0) = hiR (v % 16) ∧ (if BE.den (BE.cmp BinOp.neq (IE.bits BinOp.and IntKind.u8 (IE.var v) (IE.lit 1)) (IE.lit 0)) = true then 8 else 0) = hiB (v % 16) := by
  have key : ∀ n : Fin 16, BE.den (BE.cmp BinOp.neq (IE.bits BinOp.and IntKind.u8 (IE.var (64 + ((n.val : Nat) : Int))) (IE.lit 8)) (IE.lit 0)) = hiW ((64 + ((n.val : Nat) : Int)) % 16) ∧
    (if BE.den (BE.cmp BinOp.neq (IE.bits BinOp.and IntKind.u8 (IE.var (64 + ((n.val : Nat) : Int))) (IE.lit 4)) (IE.lit 0)) = true then 8 else 0) = hiR ((64 + ((n.val : Nat) : Int)) % 16) ∧ (if BE.den (BE.cmp BinOp.neq (IE.bits BinOp.and IntKind.u8 (IE.var (64 + ((n.val : Nat) : Int))) (IE.lit 1)) (IE.lit 0)) = true then 8 else 0) = hiB ((64 + ((n.val : Nat) : Int)) % 16) := by decide +kernel
  have := key ⟨(v - 64).toNat, by omega⟩
  rw [show (64 + (((v - 64).toNat : Nat) : Int)) = v by omega] at this
  exact this
theorem st_p (hg : BGood g len cap) (hE : ∀ a : GuSt, a.f = b → a.c = 0 → E a) (h1 : BE.den (BE.cmp BinOp.lss (IE.var (i : Int)) (IE.var (len : Int))) = true) (h2 : BE.den (BE.cmp BinOp.geq (IE.var (g (0 + Int.toNat (i : Int)))) (IE.lit 64)) = true) (h3 : BE.den (BE.cmp BinOp.leq (IE.var (g (0 + Int.toNat (i : Int)))) (IE.lit 79)) = true)
    (b4 b1 : Bool) (h4 : BE.den (BE.cmp BinOp.neq (IE.bits BinOp.and IntKind.u8 (IE.var (g (0 + Int.toNat (i : Int)))) (IE.lit 4)) (IE.lit 0)) = b4) (h5 : BE.den (BE.cmp BinOp.neq (IE.bits BinOp.and IntKind.u8 (IE.var (g (0 + Int.toNat (i : Int)))) (IE.lit 1)) (IE.lit 0)) = b1)
    (h : BE.den (BE.cmp BinOp.geq (IE.add IntKind.i64 (IE.var (i : Int)) (IE.lit 1)) (IE.var (len : Int))) = false) :
    ∃ a, GuI g len cap i op f a ∧ len = len ∧ cap = cap ∧ op = op ∧ IE.den (IE.add IntKind.i64 (IE.var (i : Int)) (IE.lit 1)) = (GuSt.p a : Int) ∧ BE.den (BE.cmp BinOp.neq (IE.bits BinOp.and IntKind.u8 (IE.var (g (0 + Int.toNat (i : Int)))) (IE.lit 8)) (IE.lit 0)) = GuSt.wide a ∧
      (if b4 = true then 8 else 0) = GuSt.r a ∧ (if b1 = true then 8 else 0) = GuSt.m a ∧ GuSt.k a = 0 ∧ GuSt.c a = 0 ∧ 0 = (GuSt.k a : Int) ∧ cap = cap ∧ (∀ (e : Nat), e < cap → g e = g e) ∧ E a := by
  have hl := q_lt h1
  have h0 := has_t h1 h2 h3
  rw [geq_d, add_q hg hl] at h
  have h : ¬ (len : Int) ≤ ((i + 1 : Nat) : Int) := of_decide_eq_false h
  have hb := bits_p (g64t h2) (l79t h3)
  rw [t_i] at h4 h5 ⊢
  have e1 : gpI g len i = i + 1 := by unfold gpI; rw [h0]; rfl
  have e2 : gpP g len i = g i % 16 := by unfold gpP; rw [h0]; rfl
  subst h4
  subst h5
  exact ⟨⟨i + 1, _, _, _, 0, 0, fun _ => zI, b⟩, st_of hg e1.symm (by omega) (by rw [e2]; exact hb.1) (by rw [e2]; exact hb.2.1) (by rw [e2]; exact hb.2.2), rfl, rfl, rfl, add_q hg hl, rfl, rfl, rfl, rfl, rfl, rfl, rfl, fun _ _ => rfl, hE _ rfl rfl⟩
theorem guHead_ok (hg : BGood g len cap) (hE : ∀ a : GuSt, a.f = b → a.c = 0 → E a) {B : Prop} (hB : B) : guHead g len cap (i : Int) op (GuI g len cap i op f) (GuO g len i op f) E B := by
  unfold guHead
  exact ⟨fun h1 => ⟨(qA hg h1), (qB hg h1), fun h2 => ⟨(qA hg h1), (qB hg h1), fun h3 => ⟨(qA hg h1), (qB hg h1), (qA hg h1), (qB hg h1), fun h4 => ⟨(qA hg h1), (qB hg h1), fun h5 => ⟨fun h6 => (nil_p h1 h2 h3 hg h6), fun h7 => ⟨(st_p hg hE h1 h2 h3 true true h4 h5 h7), hB, fun _ _ h => h⟩⟩, fun h8 => ⟨fun h9 => (nil_p h1 h2 h3 hg h9), fun h10 => ⟨(st_p hg hE h1 h2 h3 true false h4 h8 h10), hB, fun _ _ h => h⟩⟩⟩, fun h11 => ⟨(qA hg h1), (qB hg h1), fun h12 => ⟨fun h13 => (nil_p h1 h2 h3 hg h13), fun h14 => ⟨(st_p hg hE h1 h2 h3 false true h11 h12 h14), hB, fun _ _ h => h⟩⟩, fun h15 => ⟨fun h16 => (nil_p h1 h2 h3 hg h16), fun h17 => ⟨(st_p hg hE h1 h2 h3 false false h11 h15 h17), hB, fun _ _ h => h⟩⟩⟩⟩, fun h18 => ⟨fun h19 => (nil_n (has_3 h18) h19), fun h20 => ⟨(st_n hg hE (has_3 h18) h20), hB, fun _ _ h => h⟩⟩⟩, fun h21 => ⟨fun h22 => (nil_n (has_2 h21) h22), fun h23 => ⟨(st_n hg hE (has_2 h21) h23), hB, fun _ _ h => h⟩⟩⟩, fun h24 => ⟨fun h25 => (nil_n (has_1 h24) h25), fun h26 => ⟨(st_n hg hE (has_1 h24) h26), hB, fun _ _ h => h⟩⟩⟩
end
theorem eW_ok (b : FmP) : ∀ a : GuSt, a.f = b → a.c = 0 → eW b a := fun a h hc => ⟨by rw [h], hc, trivial⟩
theorem eCW_ok (b : FmP) : ∀ a : GuSt, a.f = b → a.c = 0 → eCW b a := fun a h hc => ⟨by rw [h], eW_ok b a h hc⟩
theorem eNW_ok (b : FmP) : ∀ a : GuSt, a.f = b → a.c = 0 → eNW b a := fun a h hc => ⟨by rw [h], eW_ok b a h hc⟩
theorem eCNW_ok (b : FmP) : ∀ a : GuSt, a.f = b → a.c = 0 → eCNW b a := fun a h hc => ⟨by rw [h], eNW_ok b a h hc⟩
/-! The contract. -/
def GuOO (g : Nat → Int) (len i : Nat) (op : Int) (r : GuR) : Prop := ∃ f, formOf op = some f ∧ GuO g len i op f r
def guPre : Ins → List SV → Prop := fun ins pl => match ins, pl with
  | [(cs, len, cap)], [.int .i64 q, .int .i64 op] => (∃ g : Nat → Int, cs = [.int .u8 fun e => .var (g e)]) ∧ BGood (colG cs) len cap ∧ (0 ≤ q.den ∧ q.den ≤ len) ∧ 1 ≤ op.den ∧ op.den ≤ 27
  | _, _ => False
def guOuts : Ins → List SV → List Out := fun ins pl => match ins, pl with
  | [(cs, len, _)], [.int .i64 q, .int .i64 op] => [guOut (GuOO (colG cs) len q.den.toNat op.den)]
  | _, _ => []
theorem guPre_of {ins : Ins} {pl : List SV} (h : guPre ins pl) : ∃ (g : Nat → Int) (len cap : Nat) (q op : IE), ins = [([.int .u8 fun e => .var (g e)], len, cap)] ∧ pl = [.int .i64 q, .int .i64 op] ∧ BGood g len cap ∧ (0 ≤ q.den ∧ q.den ≤ len) ∧ 1 ≤ op.den ∧ op.den ≤ 27 := by
  unfold guPre at h
  split at h
  · obtain ⟨⟨g, rfl⟩, h2, h3⟩ := h
    exact ⟨g, _, _, _, _, rfl, rfl, h2, h3⟩
  · exact h.elim
theorem guOut_good (O : GuR → Prop) : (guOut O).good := by
  intro c
  refine ⟨⟨fun n m ν ν' h => ?_, fun n p h => ?_⟩, rfl, trivial⟩
  · have h0 := h 0 (by simp)
    simp only [Nat.add_zero] at h0
    simp [SV.den, h0]
  · exact h 0 (by simp)
theorem gu_spec {f : FuncId} {s : SpecFn} (hs : SpecOk P f s)
    (h : ∀ (g : Nat → Int) (len cap i : Nat) (op : Int), BGood g len cap → i ≤ len → 1 ≤ op → op ≤ 27 → s [slA 0 len cap, .int .i64 (.var i), .int .i64 (.var op)] [rdRow g cap] (guQ g cap (GuOO g len i op))) :
    SpecOk P f (rdSpec [.rows 1 zz1, .plain, .plain] guPre guOuts) := by
  refine rd_ok hs (fun sz zs h => by simp at h; obtain ⟨rfl, rfl⟩ := h; rfl) ?_ ?_
  · intro ins pl o ho
    unfold guOuts at ho
    split at ho
    · simp only [List.mem_singleton] at ho; subst ho; exact guOut_good _
    · simp at ho
  · intro ins pl u hi hw hp
    obtain ⟨g, len, cap, q, op, rfl, rfl, h1, h2, h3, h4⟩ := guPre_of hp
    obtain ⟨j, hj⟩ := Int.eq_ofNat_of_zero_le h2.1
    have e : q.den.toNat = j := by omega
    have := h g len cap j op.den h1 (by omega) h3 h4
    rw [← hj] at this
    show s _ _ (guQ g cap (GuOO g len q.den.toNat op.den))
    rw [e]
    exact this
/-- What implies what is asked. -/
def monoS (s : SpecFn) : SpecFn := fun args hp K => ∃ K' : SV → List SObj → Prop, (∀ v hp', K' v hp' → K v hp') ∧ s args hp K'
theorem mono_ok {f : FuncId} {s : SpecFn} (hs : SpecOk P f s) : SpecOk P f (monoS s) := by
  intro B ν hp w args K h1 h2 h3 ⟨K', hK, hx⟩
  refine (hs B ν hp w args K' h1 h2 h3 hx).mono ?_
  rintro e w' ⟨ν', v, hp', a, b, c, d, s, k, hk⟩
  exact ⟨ν', v, hp', a, b, c, d, s, k, hK _ _ hk⟩
theorem formOf_some {op : Int} (h1 : 1 ≤ op) (h2 : op ≤ 27) : formOf op ≠ none := by
  intro h
  have hc : op = 1 ∨ op = 2 ∨ op = 3 ∨ op = 4 ∨ op = 5 ∨ op = 6 ∨ op = 7 ∨ op = 8 ∨ op = 9 ∨ op = 10 ∨ op = 11 ∨ op = 12 ∨ op = 13 ∨ op = 14 ∨ op = 15 ∨ op = 16 ∨ op = 17 ∨ op = 18 ∨ op = 19 ∨ op = 20 ∨ op = 21 ∨ op = 22 ∨ op = 23 ∨ op = 24 ∨ op = 25 ∨ op = 26 ∨ op = 27 := by omega
  rcases hc with rfl | rfl | rfl | rfl | rfl | rfl | rfl | rfl | rfl | rfl | rfl | rfl | rfl | rfl | rfl | rfl | rfl | rfl | rfl | rfl | rfl | rfl | rfl | rfl | rfl | rfl | rfl <;> cases h
abbrev guSG : SpecFn := fun args hp K => ∃ G, GammaOk P G ∧ ∃ un, sxFunc P G un Try.f28 args hp K
theorem some_GU {f : FuncId} {fn : Func} (h : ∀ G, GammaOk P G → ∀ un, SpecOk P f (sxFunc P G un fn)) : SpecOk P f (fun args hp K => ∃ G, GammaOk P G ∧ ∃ un, sxFunc P G un fn args hp K) := by
  intro B ν hp w args K h1 h2 h3 ⟨G, hG, un, hx⟩
  exact h G hG un B ν hp w args K h1 h2 h3 hx
theorem guQ_mono {g : Nat → Int} {cap : Nat} {O O' : GuR → Prop} (h : ∀ r, O r → O' r) : ∀ {v hp}, guQ g cap O v hp → guQ g cap O' v hp := fun ⟨r, hr, hx⟩ => ⟨r, h r hr, hx⟩
theorem gq_1 {g : Nat → Int} {len cap i : Nat} {op : Int} {f : Form} (hg : BGood g len cap) (hf : formOf op = some f) (hk : kOf (some f) = 1) : guSG [slA 0 len cap, .int .i64 (.var i), .int .i64 (.var op)] [rdRow g cap] (guQ g cap (GuO g len i op f)) := by
  refine ⟨GU 1, GU_ok 1, fun _ => annA GuSt (guSlots op len cap) (guHp 1 g cap) (GuI g len cap i op f) (fun a => 2 - a.k), ?_⟩
  rw [guess_1]
  refine ⟨by rw [hf]; exact hk, fun b hb => ?_⟩
  rw [hf] at hb
  obtain rfl := Option.some.inj hb
  exact guHead_ok hg (eW_ok b) (bok_1 g len cap i op)
theorem gq_2 {g : Nat → Int} {len cap i : Nat} {op : Int} {f : Form} (hg : BGood g len cap) (hf : formOf op = some f) (hk : kOf (some f) = 2) : guSG [slA 0 len cap, .int .i64 (.var i), .int .i64 (.var op)] [rdRow g cap] (guQ g cap (GuO g len i op f)) := by
  refine ⟨GU 2, GU_ok 2, fun _ => annA GuSt (guSlots op len cap) (guHp 2 g cap) (GuI g len cap i op f) (fun a => 2 - a.k), ?_⟩
  rw [guess_2]
  refine ⟨by rw [hf]; exact hk, fun b hb => ?_⟩
  rw [hf] at hb
  obtain rfl := Option.some.inj hb
  exact guHead_ok hg (eCW_ok b) (bok_2 g len cap i op b.c)
theorem gq_3 {g : Nat → Int} {len cap i : Nat} {op : Int} {f : Form} (hg : BGood g len cap) (hf : formOf op = some f) (hk : kOf (some f) = 3) : guSG [slA 0 len cap, .int .i64 (.var i), .int .i64 (.var op)] [rdRow g cap] (guQ g cap (GuO g len i op f)) := by
  refine ⟨GU 3, GU_ok 3, fun _ => annA GuSt (guSlots op len cap) (guHp 3 g cap) (GuI g len cap i op f) (fun a => 2 - a.k), ?_⟩
  rw [guess_3]
  refine ⟨by rw [hf]; exact hk, fun b hb => ?_⟩
  rw [hf] at hb
  obtain rfl := Option.some.inj hb
  exact guHead_ok hg (eW_ok b) (bok_3 g len cap i op)
theorem gq_4 {g : Nat → Int} {len cap i : Nat} {op : Int} {f : Form} (hg : BGood g len cap) (hf : formOf op = some f) (hk : kOf (some f) = 4) : guSG [slA 0 len cap, .int .i64 (.var i), .int .i64 (.var op)] [rdRow g cap] (guQ g cap (GuO g len i op f)) := by
  refine ⟨GU 4, GU_ok 4, fun _ => annA GuSt (guSlots op len cap) (guHp 4 g cap) (GuI g len cap i op f) (fun a => 2 - a.k), ?_⟩
  rw [guess_4]
  refine ⟨by rw [hf]; exact hk, fun b hb => ?_⟩
  rw [hf] at hb
  obtain rfl := Option.some.inj hb
  exact guHead_ok hg (eW_ok b) (bok_4 g len cap i op)
theorem gq_5 {g : Nat → Int} {len cap i : Nat} {op : Int} {f : Form} (hg : BGood g len cap) (hf : formOf op = some f) (hk : kOf (some f) = 5) : guSG [slA 0 len cap, .int .i64 (.var i), .int .i64 (.var op)] [rdRow g cap] (guQ g cap (GuO g len i op f)) := by
  refine ⟨GU 5, GU_ok 5, fun _ => annA GuSt (guSlots op len cap) (guHp 5 g cap) (GuI g len cap i op f) (fun a => 2 - a.k), ?_⟩
  rw [guess_5]
  refine ⟨by rw [hf]; exact hk, fun b hb => ?_⟩
  rw [hf] at hb
  obtain rfl := Option.some.inj hb
  exact guHead_ok hg (eW_ok b) (bok_5 g len cap i op)
theorem gq_6 {g : Nat → Int} {len cap i : Nat} {op : Int} {f : Form} (hg : BGood g len cap) (hf : formOf op = some f) (hk : kOf (some f) = 6) : guSG [slA 0 len cap, .int .i64 (.var i), .int .i64 (.var op)] [rdRow g cap] (guQ g cap (GuO g len i op f)) := by
  refine ⟨GU 6, GU_ok 6, fun _ => annA GuSt (guSlots op len cap) (guHp 6 g cap) (GuI g len cap i op f) (fun a => 2 - a.k), ?_⟩
  rw [guess_6]
  refine ⟨by rw [hf]; exact hk, fun b hb => ?_⟩
  rw [hf] at hb
  obtain rfl := Option.some.inj hb
  exact guHead_ok hg (eNW_ok b) (bok_6 g len cap i op b.n)
theorem gq_7 {g : Nat → Int} {len cap i : Nat} {op : Int} {f : Form} (hg : BGood g len cap) (hf : formOf op = some f) (hk : kOf (some f) = 7) : guSG [slA 0 len cap, .int .i64 (.var i), .int .i64 (.var op)] [rdRow g cap] (guQ g cap (GuO g len i op f)) := by
  refine ⟨GU 7, GU_ok 7, fun _ => annA GuSt (guSlots op len cap) (guHp 7 g cap) (GuI g len cap i op f) (fun a => 2 - a.k), ?_⟩
  rw [guess_7]
  refine ⟨by rw [hf]; exact hk, fun b hb => ?_⟩
  rw [hf] at hb
  obtain rfl := Option.some.inj hb
  exact guHead_ok hg (eCNW_ok b) (bok_7 g len cap i op b.c b.n)
theorem gq_8 {g : Nat → Int} {len cap i : Nat} {op : Int} {f : Form} (hg : BGood g len cap) (hf : formOf op = some f) (hk : kOf (some f) = 8) : guSG [slA 0 len cap, .int .i64 (.var i), .int .i64 (.var op)] [rdRow g cap] (guQ g cap (GuO g len i op f)) := by
  refine ⟨GU 8, GU_ok 8, fun _ => annA GuSt (guSlots op len cap) (guHp 8 g cap) (GuI g len cap i op f) (fun a => 2 - a.k), ?_⟩
  rw [guess_8]
  refine ⟨by rw [hf]; exact hk, fun b hb => ?_⟩
  rw [hf] at hb
  obtain rfl := Option.some.inj hb
  exact guHead_ok hg (eCW_ok b) (bok_8 g len cap i op b.c)
theorem gq_9 {g : Nat → Int} {len cap i : Nat} {op : Int} {f : Form} (hg : BGood g len cap) (hf : formOf op = some f) (hk : kOf (some f) = 9) : guSG [slA 0 len cap, .int .i64 (.var i), .int .i64 (.var op)] [rdRow g cap] (guQ g cap (GuO g len i op f)) := by
  refine ⟨GU 9, GU_ok 9, fun _ => annA GuSt (guSlots op len cap) (guHp 9 g cap) (GuI g len cap i op f) (fun a => 2 - a.k), ?_⟩
  rw [guess_9]
  refine ⟨by rw [hf]; exact hk, fun b hb => ?_⟩
  rw [hf] at hb
  obtain rfl := Option.some.inj hb
  exact guHead_ok hg (eW_ok b) (bok_9 g len cap i op)
theorem gq_10 {g : Nat → Int} {len cap i : Nat} {op : Int} {f : Form} (hg : BGood g len cap) (hf : formOf op = some f) (hk : kOf (some f) = 10) : guSG [slA 0 len cap, .int .i64 (.var i), .int .i64 (.var op)] [rdRow g cap] (guQ g cap (GuO g len i op f)) := by
  refine ⟨GU 10, GU_ok 10, fun _ => annA GuSt (guSlots op len cap) (guHp 10 g cap) (GuI g len cap i op f) (fun a => 2 - a.k), ?_⟩
  rw [guess_10]
  refine ⟨by rw [hf]; exact hk, fun b hb => ?_⟩
  rw [hf] at hb
  obtain rfl := Option.some.inj hb
  exact guHead_ok hg (eW_ok b) (bok_10 g len cap i op)
theorem gq_11 {g : Nat → Int} {len cap i : Nat} {op : Int} {f : Form} (hg : BGood g len cap) (hf : formOf op = some f) (hk : kOf (some f) = 11) : guSG [slA 0 len cap, .int .i64 (.var i), .int .i64 (.var op)] [rdRow g cap] (guQ g cap (GuO g len i op f)) := by
  refine ⟨GU 11, GU_ok 11, fun _ => annA GuSt (guSlots op len cap) (guHp 11 g cap) (GuI g len cap i op f) (fun a => 2 - a.k), ?_⟩
  rw [guess_11]
  refine ⟨by rw [hf]; exact hk, fun b hb => ?_⟩
  rw [hf] at hb
  obtain rfl := Option.some.inj hb
  exact guHead_ok hg (eW_ok b) (bok_11 g len cap i op)
theorem rguess_ok : SpecOk P 28 (rdSpec [.rows 1 zz1, .plain, .plain] guPre guOuts) := by
  have hs : SpecOk P 28 guSG := some_GU fun G hG un => func_sound (un := un) hG Try.func28
  refine gu_spec (mono_ok hs) ?_
  intro g len cap i op hg hi h1 h2
  cases hf : formOf op with
  | none => exact absurd hf (formOf_some h1 h2)
  | some f =>
    refine ⟨guQ g cap (GuO g len i op f), fun v hp h => guQ_mono (fun r hr => ⟨f, hf, hr⟩) h, ?_⟩
    cases f with
    | movImm => exact gq_1 hg hf rfl
    | two c => exact gq_2 hg hf rfl
    | load => exact gq_3 hg hf rfl
    | store => exact gq_4 hg hf rfl
    | imul => exact gq_5 hg hf rfl
    | imm n => exact gq_6 hg hf rfl
    | one c n => exact gq_7 hg hf rfl
    | stack c => exact gq_8 hg hf rfl
    | jmp => exact gq_9 hg hf rfl
    | jcc => exact gq_10 hg hf rfl
    | ret => exact gq_11 hg hf rfl
end Go.Proofs.Ytajcmjjgnbaahaa.Amd
