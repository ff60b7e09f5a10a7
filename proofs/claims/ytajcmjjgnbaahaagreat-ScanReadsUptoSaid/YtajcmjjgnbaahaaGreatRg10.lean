/- What bytes could be: the prefix, and the contract. -/
import Derived.Test.YtajcmjjgnbaahaaGreatRg9
set_option linter.unusedVariables false
set_option linter.unusedSimpArgs false
namespace Go.Proofs.YtajcmjjgnbaahaaGreat.Amd
open Go Go.Proofs.YtajcmjjgnbaahaaGreat.Sx Go.RowKit
section
variable {g : Nat -> Int} {len cap i : Nat} {op : Int} {f : Form} {b : FmP} {E : GuSt -> Prop}
theorem q_lt (h : BE.den (BE.cmp BinOp.lss (IE.var (i : Int)) (IE.var (len : Int))) = true) : i < len := by
 simp only [BE.den, IE.den, zQ] at h; have := of_decide_eq_true h; omega
theorem q_ge (h : BE.den (BE.cmp BinOp.lss (IE.var (i : Int)) (IE.var (len : Int))) = false) : ¬ i < len := by
 simp only [BE.den, IE.den, zQ] at h; have := of_decide_eq_false h; omega
theorem qA (hg : BGood g len cap) (h : BE.den (BE.cmp BinOp.lss (IE.var (i : Int)) (IE.var (len : Int))) = true) : BE.den (BE.ite (BE.var (decide (len <= cap /\ 0 + cap <= cap))) (BE.var (decide (0 <= (i : Int) /\ (i : Int) < (len : Int)))) (BE.lit false)) = true := by
 have := q_lt h
 exact zEX hg.room (by omega) (by omega)
theorem qB (hg : BGood g len cap) (h : BE.den (BE.cmp BinOp.lss (IE.var (i : Int)) (IE.var (len : Int))) = true) : decide (0 + Int.toNat (i : Int) + 1 <= cap) = true := by
 have := q_lt h; have := hg.room
 exact decide_eq_true (by omega)
theorem t_i : 0 + Int.toNat (i : Int) = i := by omega
theorem g64t (h : BE.den (BE.cmp BinOp.geq (IE.var (g (0 + Int.toNat (i : Int)))) (IE.lit 64)) = true) : 64 <= g i := by rw [zTv, t_i] at h; exact of_decide_eq_true h
theorem l79t (h : BE.den (BE.cmp BinOp.leq (IE.var (g (0 + Int.toNat (i : Int)))) (IE.lit 79)) = true) : g i <= 79 := by rw [zNG, t_i] at h; exact of_decide_eq_true h
theorem zYx (h : BE.den (BE.cmp BinOp.lss (IE.var (i : Int)) (IE.var (len : Int))) = false) : gHas g len i = false := decide_eq_false fun hh => q_ge h hh.1
theorem zYw (h : BE.den (BE.cmp BinOp.geq (IE.var (g (0 + Int.toNat (i : Int)))) (IE.lit 64)) = false) : gHas g len i = false := by
 rw [zTv, t_i] at h; exact decide_eq_false fun hh => of_decide_eq_false h hh.2.1
theorem zYv (h : BE.den (BE.cmp BinOp.leq (IE.var (g (0 + Int.toNat (i : Int)))) (IE.lit 79)) = false) : gHas g len i = false := by
 rw [zNG, t_i] at h; exact decide_eq_false fun hh => of_decide_eq_false h hh.2.2
theorem zYt (h1 : BE.den (BE.cmp BinOp.lss (IE.var (i : Int)) (IE.var (len : Int))) = true) (h2 : BE.den (BE.cmp BinOp.geq (IE.var (g (0 + Int.toNat (i : Int)))) (IE.lit 64)) = true) (h3 : BE.den (BE.cmp BinOp.leq (IE.var (g (0 + Int.toNat (i : Int)))) (IE.lit 79)) = true) : gHas g len i = true :=
 decide_eq_true ⟨q_lt h1, g64t h2, l79t h3⟩
theorem zUO (h : ¬ gpI g len i < len) : ∃ b, GuO g len i op f b /\ GuR.n b = 0 /\ GuR.c b = 0 /\ cap = cap /\ (∀ (e : Nat), e < cap -> g e = g e) /\ GuR.c b = 0 /\ True :=
 ⟨⟨0, 0, fun _ => zI⟩, ⟨Nat.le_refl _, by decide, by rw [if_neg h], fun e he => absurd he (Nat.not_lt_zero e)⟩, rfl, rfl, rfl, fun _ _ => rfl, rfl, trivial⟩
theorem zVy (hn : gHas g len i = false) (h : BE.den (BE.cmp BinOp.geq (IE.var (i : Int)) (IE.var (len : Int))) = true) : ∃ b, GuO g len i op f b /\ GuR.n b = 0 /\ GuR.c b = 0 /\ cap = cap /\ (∀ (e : Nat), e < cap -> g e = g e) /\ GuR.c b = 0 /\ True := by
 refine zUO ?_
 simp only [BE.den, IE.den, zAG] at h; have := of_decide_eq_true h
 unfold gpI; rw [hn]; simp only [Bool.false_eq_true, if_false]; omega
theorem zW9 (hg : BGood g len cap) (hl : i < len) : IE.den (IE.add IntKind.i64 (IE.var (i : Int)) (IE.lit 1)) = ((i + 1 : Nat) : Int) := by
 have := hg.small
 simp only [IE.den]; rw [zE (by omega) (by omega)]; omega
theorem zTR (h1 : BE.den (BE.cmp BinOp.lss (IE.var (i : Int)) (IE.var (len : Int))) = true) (h2 : BE.den (BE.cmp BinOp.geq (IE.var (g (0 + Int.toNat (i : Int)))) (IE.lit 64)) = true) (h3 : BE.den (BE.cmp BinOp.leq (IE.var (g (0 + Int.toNat (i : Int)))) (IE.lit 79)) = true)
  (hg : BGood g len cap) (h : BE.den (BE.cmp BinOp.geq (IE.add IntKind.i64 (IE.var (i : Int)) (IE.lit 1)) (IE.var (len : Int))) = true) : ∃ b, GuO g len i op f b /\ GuR.n b = 0 /\ GuR.c b = 0 /\ cap = cap /\ (∀ (e : Nat), e < cap -> g e = g e) /\ GuR.c b = 0 /\ True := by
 refine zUO ?_
 rw [zTj, zW9 hg (q_lt h1)] at h
 have h : (len : Int) <= ((i + 1 : Nat) : Int) := of_decide_eq_true h
 unfold gpI; rw [zYt h1 h2 h3]; simp only [if_true]; omega
theorem zXU {p : Nat} {wide : Bool} {r m : Int} (hg : BGood g len cap) (hp : p = gpI g len i) (hl : p < len) (hw : wide = hiW (gpP g len i)) (hr : r = hiR (gpP g len i)) (hm : m = hiB (gpP g len i)) : GuI g len cap i op f ⟨p, wide, r, m, 0, 0, fun _ => zI, b⟩ :=
 ⟨hg, hp, hl, hw, hr, hm, Nat.zero_le _, Nat.le_refl _, Nat.zero_le _, fun h => (by cases h), fun e he => absurd he (Nat.not_lt_zero e)⟩
theorem st_n (hg : BGood g len cap) (hE : ∀ a : GuSt, a.f = b -> a.c = 0 -> E a) (hn : gHas g len i = false) (h : BE.den (BE.cmp BinOp.geq (IE.var (i : Int)) (IE.var (len : Int))) = false) :
  ∃ a, GuI g len cap i op f a /\ len = len /\ cap = cap /\ op = op /\ (i : Int) = (GuSt.p a : Int) /\ BE.den (BE.lit false) = GuSt.wide a /\ 0 = GuSt.r a /\ 0 = GuSt.m a /\ GuSt.k a = 0 /\ GuSt.c a = 0 /\ 0 = (GuSt.k a : Int) /\ cap = cap /\ (∀ (e : Nat), e < cap -> g e = g e) /\ E a := by
 simp only [BE.den, IE.den, zAG] at h; have := of_decide_eq_false h
 have e1 : gpI g len i = i := by unfold gpI; rw [hn]; rfl
 have e2 : gpP g len i = 0 := by unfold gpP; rw [hn]; rfl
 exact ⟨⟨i, false, 0, 0, 0, 0, fun _ => zI, b⟩, zXU hg e1.symm (by omega) (by rw [e2]; rfl) (by rw [e2]; rfl) (by rw [e2]; rfl), rfl, rfl, rfl, rfl, rfl, rfl, rfl, rfl, rfl, rfl, rfl, fun _ _ => rfl, hE _ rfl rfl⟩
theorem zZq {v : Int} (h0 : 64 <= v) (h1 : v <= 79) : BE.den (BE.cmp BinOp.neq (IE.bits BinOp.and IntKind.u8 (IE.var v) (IE.lit 8)) (IE.lit 0)) = hiW (v % 16) /\
  (if BE.den (BE.cmp BinOp.neq (IE.bits BinOp.and IntKind.u8 (IE.var v) (IE.lit 4)) (IE.lit 0)) = true then 8 else 0) = hiR (v % 16) /\ (if BE.den (BE.cmp BinOp.neq (IE.bits BinOp.and IntKind.u8 (IE.var v) (IE.lit 1)) (IE.lit 0)) = true then 8 else 0) = hiB (v % 16) := by
 have key : ∀ n : Fin 16, BE.den (BE.cmp BinOp.neq (IE.bits BinOp.and IntKind.u8 (IE.var (64 + ((n.val : Nat) : Int))) (IE.lit 8)) (IE.lit 0)) = hiW ((64 + ((n.val : Nat) : Int)) % 16) /\
  (if BE.den (BE.cmp BinOp.neq (IE.bits BinOp.and IntKind.u8 (IE.var (64 + ((n.val : Nat) : Int))) (IE.lit 4)) (IE.lit 0)) = true then 8 else 0) = hiR ((64 + ((n.val : Nat) : Int)) % 16) /\ (if BE.den (BE.cmp BinOp.neq (IE.bits BinOp.and IntKind.u8 (IE.var (64 + ((n.val : Nat) : Int))) (IE.lit 1)) (IE.lit 0)) = true then 8 else 0) = hiB ((64 + ((n.val : Nat) : Int)) % 16) := by decide +kernel
 have := key ⟨(v - 64).toNat, by omega⟩
 rw [show (64 + (((v - 64).toNat : Nat) : Int)) = v by omega] at this
 exact this
theorem st_p (hg : BGood g len cap) (hE : ∀ a : GuSt, a.f = b -> a.c = 0 -> E a) (h1 : BE.den (BE.cmp BinOp.lss (IE.var (i : Int)) (IE.var (len : Int))) = true) (h2 : BE.den (BE.cmp BinOp.geq (IE.var (g (0 + Int.toNat (i : Int)))) (IE.lit 64)) = true) (h3 : BE.den (BE.cmp BinOp.leq (IE.var (g (0 + Int.toNat (i : Int)))) (IE.lit 79)) = true)
  (b4 b1 : Bool) (h4 : BE.den (BE.cmp BinOp.neq (IE.bits BinOp.and IntKind.u8 (IE.var (g (0 + Int.toNat (i : Int)))) (IE.lit 4)) (IE.lit 0)) = b4) (h5 : BE.den (BE.cmp BinOp.neq (IE.bits BinOp.and IntKind.u8 (IE.var (g (0 + Int.toNat (i : Int)))) (IE.lit 1)) (IE.lit 0)) = b1)
  (h : BE.den (BE.cmp BinOp.geq (IE.add IntKind.i64 (IE.var (i : Int)) (IE.lit 1)) (IE.var (len : Int))) = false) :
  ∃ a, GuI g len cap i op f a /\ len = len /\ cap = cap /\ op = op /\ IE.den (IE.add IntKind.i64 (IE.var (i : Int)) (IE.lit 1)) = (GuSt.p a : Int) /\ BE.den (BE.cmp BinOp.neq (IE.bits BinOp.and IntKind.u8 (IE.var (g (0 + Int.toNat (i : Int)))) (IE.lit 8)) (IE.lit 0)) = GuSt.wide a /\
   (if b4 = true then 8 else 0) = GuSt.r a /\ (if b1 = true then 8 else 0) = GuSt.m a /\ GuSt.k a = 0 /\ GuSt.c a = 0 /\ 0 = (GuSt.k a : Int) /\ cap = cap /\ (∀ (e : Nat), e < cap -> g e = g e) /\ E a := by
 have hl := q_lt h1
 have h0 := zYt h1 h2 h3
 rw [zTj, zW9 hg hl] at h
 have h : ¬ (len : Int) <= ((i + 1 : Nat) : Int) := of_decide_eq_false h
 have hb := zZq (g64t h2) (l79t h3)
 rw [t_i] at h4 h5 ⊢
 have e1 : gpI g len i = i + 1 := by unfold gpI; rw [h0]; rfl
 have e2 : gpP g len i = g i % 16 := by unfold gpP; rw [h0]; rfl
 subst h4
 subst h5
 exact ⟨⟨i + 1, _, _, _, 0, 0, fun _ => zI, b⟩, zXU hg e1.symm (by omega) (by rw [e2]; exact hb.1) (by rw [e2]; exact hb.2.1) (by rw [e2]; exact hb.2.2), rfl, rfl, rfl, zW9 hg hl, rfl, rfl, rfl, rfl, rfl, rfl, rfl, fun _ _ => rfl, hE _ rfl rfl⟩
theorem zBC (hg : BGood g len cap) (hE : ∀ a : GuSt, a.f = b -> a.c = 0 -> E a) {B : Prop} (hB : B) : zDb g len cap (i : Int) op (GuI g len cap i op f) (GuO g len i op f) E B := by
 unfold zDb
 exact ⟨fun h1 => ⟨(qA hg h1), (qB hg h1), fun h2 => ⟨(qA hg h1), (qB hg h1), fun h3 => ⟨(qA hg h1), (qB hg h1), (qA hg h1), (qB hg h1), fun h4 => ⟨(qA hg h1), (qB hg h1), fun h5 => ⟨fun h6 => (zTR h1 h2 h3 hg h6), fun h7 => ⟨(st_p hg hE h1 h2 h3 true true h4 h5 h7), hB, fun _ _ h => h⟩⟩, fun h8 => ⟨fun h9 => (zTR h1 h2 h3 hg h9), fun h10 => ⟨(st_p hg hE h1 h2 h3 true false h4 h8 h10), hB, fun _ _ h => h⟩⟩⟩, fun h11 => ⟨(qA hg h1), (qB hg h1), fun h12 => ⟨fun h13 => (zTR h1 h2 h3 hg h13), fun h14 => ⟨(st_p hg hE h1 h2 h3 false true h11 h12 h14), hB, fun _ _ h => h⟩⟩, fun h15 => ⟨fun h16 => (zTR h1 h2 h3 hg h16), fun h17 => ⟨(st_p hg hE h1 h2 h3 false false h11 h15 h17), hB, fun _ _ h => h⟩⟩⟩⟩, fun h18 => ⟨fun h19 => (zVy (zYv h18) h19), fun h20 => ⟨(st_n hg hE (zYv h18) h20), hB, fun _ _ h => h⟩⟩⟩, fun h21 => ⟨fun h22 => (zVy (zYw h21) h22), fun h23 => ⟨(st_n hg hE (zYw h21) h23), hB, fun _ _ h => h⟩⟩⟩, fun h24 => ⟨fun h25 => (zVy (zYx h24) h25), fun h26 => ⟨(st_n hg hE (zYx h24) h26), hB, fun _ _ h => h⟩⟩⟩
end
theorem zKx (b : FmP) : ∀ a : GuSt, a.f = b -> a.c = 0 -> eW b a := fun a h hc => ⟨by rw [h], hc, trivial⟩
theorem zUe (b : FmP) : ∀ a : GuSt, a.f = b -> a.c = 0 -> eCW b a := fun a h hc => ⟨by rw [h], zKx b a h hc⟩
theorem zUd (b : FmP) : ∀ a : GuSt, a.f = b -> a.c = 0 -> eNW b a := fun a h hc => ⟨by rw [h], zKx b a h hc⟩
theorem zW1 (b : FmP) : ∀ a : GuSt, a.f = b -> a.c = 0 -> eCNW b a := fun a h hc => ⟨by rw [h], zUd b a h hc⟩
def GuOO (g : Nat -> Int) (len i : Nat) (op : Int) (r : GuR) : Prop := ∃ f, zA op = some f /\ GuO g len i op f r
def zRi : Ins -> List SV -> Prop := fun ins pl => match ins, pl with
 | [(cs, len, cap)], [.int .i64 q, .int .i64 op] => (∃ g : Nat -> Int, cs = [.int .u8 fun e => .var (g e)]) /\ BGood (colG cs) len cap /\ (0 <= q.den /\ q.den <= len) /\ 1 <= op.den /\ op.den <= 27
 | _, _ => False
def zLw : Ins -> List SV -> List Out := fun ins pl => match ins, pl with
 | [(cs, len, _)], [.int .i64 q, .int .i64 op] => [zWn (GuOO (colG cs) len q.den.toNat op.den)]
 | _, _ => []
theorem zTh {ins : Ins} {pl : List SV} (h : zRi ins pl) : ∃ (g : Nat -> Int) (len cap : Nat) (q op : IE), ins = [([.int .u8 fun e => .var (g e)], len, cap)] /\ pl = [.int .i64 q, .int .i64 op] /\ BGood g len cap /\ (0 <= q.den /\ q.den <= len) /\ 1 <= op.den /\ op.den <= 27 := by
 unfold zRi at h
 split at h
 ·obtain ⟨⟨g, rfl⟩, h2, h3⟩ := h
  exact ⟨g, _, _, _, _, rfl, rfl, h2, h3⟩
 ·exact h.elim
theorem zPX (O : GuR -> Prop) : (zWn O).good := by
 intro c
 refine ⟨⟨fun n m ν ν' h => ?_, fun n p h => ?_⟩, rfl, trivial⟩
 ·have h0 := h 0 (by simp)
  simp only [Nat.add_zero] at h0
  simp [SV.den, h0]
 ·exact h 0 (by simp)
theorem zWm {f : FuncId} {s : zl} (hs : zZ P f s)
  (h : ∀ (g : Nat -> Int) (len cap i : Nat) (op : Int), BGood g len cap -> i <= len -> 1 <= op -> op <= 27 -> s [slA 0 len cap, .int .i64 (.var i), .int .i64 (.var op)] [rdRow g cap] (guQ g cap (GuOO g len i op))) :
  zZ P f (zAK [.rows 1 zz1, .plain, .plain] zRi zLw) := by
 refine zH5 hs (fun sz zs h => by simp at h; obtain ⟨rfl, rfl⟩ := h; rfl) ?_ ?_
 ·intro ins pl o ho
  unfold zLw at ho
  split at ho
  ·simp only [List.mem_singleton] at ho; subst ho; exact zPX _
  ·simp at ho
 ·intro ins pl u hi hw hp
  obtain ⟨g, len, cap, q, op, rfl, rfl, h1, h2, h3, h4⟩ := zTh hp
  obtain ⟨j, hj⟩ := Int.eq_ofNat_of_zero_le h2.1
  have e : q.den.toNat = j := by omega
  have := h g len cap j op.den h1 (by omega) h3 h4
  rw [<- hj] at this
  show s _ _ (guQ g cap (GuOO g len q.den.toNat op.den))
  rw [e]
  exact this
def zav (s : zl) : zl := fun args hp K => ∃ K' : SV -> List SObj -> Prop, (∀ v hp', K' v hp' -> K v hp') /\ s args hp K'
theorem zV2 {f : FuncId} {s : zl} (hs : zZ P f s) : zZ P f (zav s) := by
 intro B ν hp w args K h1 h2 h3 ⟨K', hK, hx⟩
 refine (hs B ν hp w args K' h1 h2 h3 hx).mono ?_
 rintro e w' ⟨ν', v, hp', a, b, c, d, s, k, hk⟩
 exact ⟨ν', v, hp', a, b, c, d, s, k, hK _ _ hk⟩
theorem zNB {op : Int} (h1 : 1 <= op) (h2 : op <= 27) : zA op ≠ none := by
 intro h
 have hc : op = 1 ∨ op = 2 ∨ op = 3 ∨ op = 4 ∨ op = 5 ∨ op = 6 ∨ op = 7 ∨ op = 8 ∨ op = 9 ∨ op = 10 ∨ op = 11 ∨ op = 12 ∨ op = 13 ∨ op = 14 ∨ op = 15 ∨ op = 16 ∨ op = 17 ∨ op = 18 ∨ op = 19 ∨ op = 20 ∨ op = 21 ∨ op = 22 ∨ op = 23 ∨ op = 24 ∨ op = 25 ∨ op = 26 ∨ op = 27 := by omega
 rcases hc with rfl | rfl | rfl | rfl | rfl | rfl | rfl | rfl | rfl | rfl | rfl | rfl | rfl | rfl | rfl | rfl | rfl | rfl | rfl | rfl | rfl | rfl | rfl | rfl | rfl | rfl | rfl <;> cases h
abbrev guSG : zl := fun args hp K => ∃ G, zO P G /\ ∃ un, zH P G un Tryz.f23 args hp K
theorem zU7 {f : FuncId} {fn : Func} (h : ∀ G, zO P G -> ∀ un, zZ P f (zH P G un fn)) : zZ P f (fun args hp K => ∃ G, zO P G /\ ∃ un, zH P G un fn args hp K) := by
 intro B ν hp w args K h1 h2 h3 ⟨G, hG, un, hx⟩
 exact h G hG un B ν hp w args K h1 h2 h3 hx
theorem zTg {g : Nat -> Int} {cap : Nat} {O O' : GuR -> Prop} (h : ∀ r, O r -> O' r) : ∀ {v hp}, guQ g cap O v hp -> guQ g cap O' v hp := fun ⟨r, hr, hx⟩ => ⟨r, h r hr, hx⟩
theorem gq_1 {g : Nat -> Int} {len cap i : Nat} {op : Int} {f : Form} (hg : BGood g len cap) (hf : zA op = some f) (hk : kOf (some f) = 1) : guSG [slA 0 len cap, .int .i64 (.var i), .int .i64 (.var op)] [rdRow g cap] (guQ g cap (GuO g len i op f)) := by
 refine ⟨GU 1, zIv 1, fun _ => annA GuSt (zAf op len cap) (guHp 1 g cap) (GuI g len cap i op f) (fun a => 2 - a.k), ?_⟩
 rw [zWl]
 refine ⟨by rw [hf]; exact hk, fun b hb => ?_⟩
 rw [hf] at hb
 obtain rfl := Option.some.inj hb
 exact zBC hg (zKx b) (zbT g len cap i op)
theorem gq_2 {g : Nat -> Int} {len cap i : Nat} {op : Int} {f : Form} (hg : BGood g len cap) (hf : zA op = some f) (hk : kOf (some f) = 2) : guSG [slA 0 len cap, .int .i64 (.var i), .int .i64 (.var op)] [rdRow g cap] (guQ g cap (GuO g len i op f)) := by
 refine ⟨GU 2, zIv 2, fun _ => annA GuSt (zAf op len cap) (guHp 2 g cap) (GuI g len cap i op f) (fun a => 2 - a.k), ?_⟩
 rw [zWk]
 refine ⟨by rw [hf]; exact hk, fun b hb => ?_⟩
 rw [hf] at hb
 obtain rfl := Option.some.inj hb
 exact zBC hg (zUe b) (zbS g len cap i op b.c)
theorem gq_3 {g : Nat -> Int} {len cap i : Nat} {op : Int} {f : Form} (hg : BGood g len cap) (hf : zA op = some f) (hk : kOf (some f) = 3) : guSG [slA 0 len cap, .int .i64 (.var i), .int .i64 (.var op)] [rdRow g cap] (guQ g cap (GuO g len i op f)) := by
 refine ⟨GU 3, zIv 3, fun _ => annA GuSt (zAf op len cap) (guHp 3 g cap) (GuI g len cap i op f) (fun a => 2 - a.k), ?_⟩
 rw [zWj]
 refine ⟨by rw [hf]; exact hk, fun b hb => ?_⟩
 rw [hf] at hb
 obtain rfl := Option.some.inj hb
 exact zBC hg (zKx b) (zbR g len cap i op)
theorem gq_4 {g : Nat -> Int} {len cap i : Nat} {op : Int} {f : Form} (hg : BGood g len cap) (hf : zA op = some f) (hk : kOf (some f) = 4) : guSG [slA 0 len cap, .int .i64 (.var i), .int .i64 (.var op)] [rdRow g cap] (guQ g cap (GuO g len i op f)) := by
 refine ⟨GU 4, zIv 4, fun _ => annA GuSt (zAf op len cap) (guHp 4 g cap) (GuI g len cap i op f) (fun a => 2 - a.k), ?_⟩
 rw [zWi]
 refine ⟨by rw [hf]; exact hk, fun b hb => ?_⟩
 rw [hf] at hb
 obtain rfl := Option.some.inj hb
 exact zBC hg (zKx b) (zbQ g len cap i op)
theorem gq_5 {g : Nat -> Int} {len cap i : Nat} {op : Int} {f : Form} (hg : BGood g len cap) (hf : zA op = some f) (hk : kOf (some f) = 5) : guSG [slA 0 len cap, .int .i64 (.var i), .int .i64 (.var op)] [rdRow g cap] (guQ g cap (GuO g len i op f)) := by
 refine ⟨GU 5, zIv 5, fun _ => annA GuSt (zAf op len cap) (guHp 5 g cap) (GuI g len cap i op f) (fun a => 2 - a.k), ?_⟩
 rw [zWh]
 refine ⟨by rw [hf]; exact hk, fun b hb => ?_⟩
 rw [hf] at hb
 obtain rfl := Option.some.inj hb
 exact zBC hg (zKx b) (zbP g len cap i op)
theorem gq_6 {g : Nat -> Int} {len cap i : Nat} {op : Int} {f : Form} (hg : BGood g len cap) (hf : zA op = some f) (hk : kOf (some f) = 6) : guSG [slA 0 len cap, .int .i64 (.var i), .int .i64 (.var op)] [rdRow g cap] (guQ g cap (GuO g len i op f)) := by
 refine ⟨GU 6, zIv 6, fun _ => annA GuSt (zAf op len cap) (guHp 6 g cap) (GuI g len cap i op f) (fun a => 2 - a.k), ?_⟩
 rw [zWg]
 refine ⟨by rw [hf]; exact hk, fun b hb => ?_⟩
 rw [hf] at hb
 obtain rfl := Option.some.inj hb
 exact zBC hg (zUd b) (zbO g len cap i op b.n)
theorem gq_7 {g : Nat -> Int} {len cap i : Nat} {op : Int} {f : Form} (hg : BGood g len cap) (hf : zA op = some f) (hk : kOf (some f) = 7) : guSG [slA 0 len cap, .int .i64 (.var i), .int .i64 (.var op)] [rdRow g cap] (guQ g cap (GuO g len i op f)) := by
 refine ⟨GU 7, zIv 7, fun _ => annA GuSt (zAf op len cap) (guHp 7 g cap) (GuI g len cap i op f) (fun a => 2 - a.k), ?_⟩
 rw [zWf]
 refine ⟨by rw [hf]; exact hk, fun b hb => ?_⟩
 rw [hf] at hb
 obtain rfl := Option.some.inj hb
 exact zBC hg (zW1 b) (zbN g len cap i op b.c b.n)
theorem gq_8 {g : Nat -> Int} {len cap i : Nat} {op : Int} {f : Form} (hg : BGood g len cap) (hf : zA op = some f) (hk : kOf (some f) = 8) : guSG [slA 0 len cap, .int .i64 (.var i), .int .i64 (.var op)] [rdRow g cap] (guQ g cap (GuO g len i op f)) := by
 refine ⟨GU 8, zIv 8, fun _ => annA GuSt (zAf op len cap) (guHp 8 g cap) (GuI g len cap i op f) (fun a => 2 - a.k), ?_⟩
 rw [zWe]
 refine ⟨by rw [hf]; exact hk, fun b hb => ?_⟩
 rw [hf] at hb
 obtain rfl := Option.some.inj hb
 exact zBC hg (zUe b) (zbM g len cap i op b.c)
theorem gq_9 {g : Nat -> Int} {len cap i : Nat} {op : Int} {f : Form} (hg : BGood g len cap) (hf : zA op = some f) (hk : kOf (some f) = 9) : guSG [slA 0 len cap, .int .i64 (.var i), .int .i64 (.var op)] [rdRow g cap] (guQ g cap (GuO g len i op f)) := by
 refine ⟨GU 9, zIv 9, fun _ => annA GuSt (zAf op len cap) (guHp 9 g cap) (GuI g len cap i op f) (fun a => 2 - a.k), ?_⟩
 rw [zWd]
 refine ⟨by rw [hf]; exact hk, fun b hb => ?_⟩
 rw [hf] at hb
 obtain rfl := Option.some.inj hb
 exact zBC hg (zKx b) (zbL g len cap i op)
theorem za0 {g : Nat -> Int} {len cap i : Nat} {op : Int} {f : Form} (hg : BGood g len cap) (hf : zA op = some f) (hk : kOf (some f) = 10) : guSG [slA 0 len cap, .int .i64 (.var i), .int .i64 (.var op)] [rdRow g cap] (guQ g cap (GuO g len i op f)) := by
 refine ⟨GU 10, zIv 10, fun _ => annA GuSt (zAf op len cap) (guHp 10 g cap) (GuI g len cap i op f) (fun a => 2 - a.k), ?_⟩
 rw [zTf]
 refine ⟨by rw [hf]; exact hk, fun b hb => ?_⟩
 rw [hf] at hb
 obtain rfl := Option.some.inj hb
 exact zBC hg (zKx b) (zZp g len cap i op)
theorem zaz {g : Nat -> Int} {len cap i : Nat} {op : Int} {f : Form} (hg : BGood g len cap) (hf : zA op = some f) (hk : kOf (some f) = 11) : guSG [slA 0 len cap, .int .i64 (.var i), .int .i64 (.var op)] [rdRow g cap] (guQ g cap (GuO g len i op f)) := by
 refine ⟨GU 11, zIv 11, fun _ => annA GuSt (zAf op len cap) (guHp 11 g cap) (GuI g len cap i op f) (fun a => 2 - a.k), ?_⟩
 rw [zTe]
 refine ⟨by rw [hf]; exact hk, fun b hb => ?_⟩
 rw [hf] at hb
 obtain rfl := Option.some.inj hb
 exact zBC hg (zKx b) (zZo g len cap i op)
theorem zQW : zZ P 23 (zAK [.rows 1 zz1, .plain, .plain] zRi zLw) := by
 have hs : zZ P 23 guSG := zU7 fun G hG un => zN (un := un) hG Tryz.func23
 refine zWm (zV2 hs) ?_
 intro g len cap i op hg hi h1 h2
 cases hf : zA op with
 | none => exact absurd hf (zNB h1 h2)
 | some f =>
  refine ⟨guQ g cap (GuO g len i op f), fun v hp h => zTg (fun r hr => ⟨f, hf, hr⟩) h, ?_⟩
  cases f with
  | movImm => exact gq_1 hg hf rfl
  | two c => exact gq_2 hg hf rfl
  | load => exact gq_3 hg hf rfl
  | store => exact gq_4 hg hf rfl
  | imul => exact gq_5 hg hf rfl
  | imm n => exact gq_6 hg hf rfl
  | one c n => exact gq_7 hg hf rfl
  | stack c => exact gq_8 hg hf rfl
  | jmp => exact gq_9 hg hf rfl
  | jcc => exact za0 hg hf rfl
  | ret => exact zaz hg hf rfl
end Go.Proofs.YtajcmjjgnbaahaaGreat.Amd
