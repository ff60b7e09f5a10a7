/- What bytes could be: what the loop keeps, what it ends with. -/
import Derived.Test.YtajcmjjgnbaahaaGreatRg4
set_option linter.unusedVariables false
set_option linter.unusedSimpArgs false
namespace Go.Proofs.YtajcmjjgnbaahaaGreat.Amd
open Go Go.Proofs.YtajcmjjgnbaahaaGreat.Sx Go.RowKit
structure GuI (g : Nat -> Int) (len cap i : Nat) (op : Int) (f : Form) (a : GuSt) : Prop where
 good : BGood g len cap
 p : a.p = gpI g len i
 plt : a.p < len
 wide : a.wide = hiW (gpP g len i)
 r : a.r = hiR (gpP g len i)
 m : a.m = hiB (gpP g len i)
 k2 : a.k <= 2
 kc : a.k <= a.c
 cc : a.c <= 9223372036854775807
 ch : a.k = 2 -> zEV f = true
 X : ∀ e, e < a.k -> a.X e = gX g len op a.p (gpP g len i) (decide (e = 1)) f
structure GuO (g : Nat -> Int) (len i : Nat) (op : Int) (f : Form) (r : GuR) : Prop where
 rc : r.n <= r.c
 cc : r.c <= 9223372036854775807
 n : r.n = if gpI g len i < len then (if zEV f = true then 2 else 1) else 0
 X : ∀ e, e < r.n -> r.X e = gX g len op (gpI g len i) (gpP g len i) (decide (e = 1)) f
theorem tf {b : Bool} {p : Prop} (h : b = true) (h' : b = false) : p := by rw [h] at h'; cases h'
theorem zCP (a : GuSt) : szK a = 1 ∨ szK a = 4 := by unfold szK szV; split <;> simp
theorem lg_d (a : GuSt) : (lgB a).den = decide (a.k = 1) := by
 unfold lgB; rw [zTr, Bool.eq_iff_iff, decide_eq_true_eq, decide_eq_true_eq]; omega
theorem lg_t {a : GuSt} (h : BE.den (lgB a) = true) : a.k = 1 := by rw [lg_d] at h; simpa using h
theorem lg_f {a : GuSt} (h : BE.den (lgB a) = false) : ¬ a.k = 1 := by rw [lg_d] at h; simpa using h
theorem k2_t {a : GuSt} (h : BE.den (BE.cmp BinOp.lss (IE.var (↑(GuSt.k a) : Int)) (IE.lit 2)) = true) : a.k < 2 := by rw [zPc] at h; have := of_decide_eq_true h; omega
theorem k2_f {a : GuSt} (h : BE.den (BE.cmp BinOp.lss (IE.var (↑(GuSt.k a) : Int)) (IE.lit 2)) = false) : 2 <= a.k := by rw [zPc] at h; have := of_decide_eq_false h; omega
theorem sz_d (a : GuSt) : decide (szK a = 4) = decide (a.k = 1) := by
 unfold szK szV
 rw [lg_d]
 by_cases h : a.k = 1 <;> simp [h]
section
variable {g : Nat -> Int} {len cap i : Nat} {op : Int} {f : Form} {a : GuSt}
theorem p0 (a : GuSt) : IE.den (.var (a.p : Int)) = ((a.p + 0 : Nat) : Int) := rfl
theorem p1 (hi : GuI g len cap i op f a) : IE.den (pN a 1) = ((a.p + 1 : Nat) : Int) := by
 have := hi.plt; have := hi.good.small
 unfold pN; simp only [IE.den]; rw [zE (by omega) (by omega)]; omega
theorem ad1 (hi : GuI g len cap i op f a) {x : IE} {n : Nat} (hn : n <= 8) (hx : x.den = ((a.p + n : Nat) : Int)) : IE.den (.add .i64 x (.lit 1)) = ((a.p + (n + 1) : Nat) : Int) := by
 have := hi.plt; have := hi.good.small
 simp only [IE.den, hx]; rw [zE (by omega) (by omega)]; omega
theorem sb1 (hi : GuI g len cap i op f a) {x : IE} {n : Nat} (hn : n <= 8) (hx : x.den = ((a.p + (n + 1) : Nat) : Int)) : IE.den (.sub .i64 x (.lit 1)) = ((a.p + n : Nat) : Int) := by
 have := hi.plt; have := hi.good.small
 simp only [IE.den, hx]; rw [zE (by omega) (by omega)]; omega
theorem lt_t {x : IE} {n : Nat} (hx : x.den = ((a.p + n : Nat) : Int)) (h : BE.den (BE.cmp BinOp.lss x (IE.var (len : Int))) = true) : a.p + n < len := by
 simp only [BE.den, IE.den, zQ, hx] at h; have := of_decide_eq_true h; omega
theorem lt_f {x : IE} {n : Nat} (hx : x.den = ((a.p + n : Nat) : Int)) (h : BE.den (BE.cmp BinOp.lss x (IE.var (len : Int))) = false) : ¬ a.p + n < len := by
 simp only [BE.den, IE.den, zQ, hx] at h; have := of_decide_eq_false h; omega
theorem aA (hi : GuI g len cap i op f a) {x : IE} {n : Nat} (hx : x.den = ((a.p + n : Nat) : Int)) (h : a.p + n < len) : zC2 len cap x := by
 unfold zC2; rw [hx]; exact zEX hi.good.room (by omega) (by omega)
theorem aB (hi : GuI g len cap i op f a) {x : IE} {n : Nat} (hx : x.den = ((a.p + n : Nat) : Int)) (h : a.p + n < len) : zC1 cap x := by
 have := hi.good.room
 unfold zC1; rw [hx]; exact decide_eq_true (by omega)
theorem nA (hi : GuI g len cap i op f a) {x : IE} {n : Nat} {k : Int} {R : List Col -> Prop} (hn : n <= 8) (hx : x.den = ((a.p + n : Nat) : Int)) (hk : k = 1 ∨ k = 4) (hR : ∀ cs', colG cs' = g -> R cs') : zBp g len cap x k R := by
 have := hi.plt; have := hi.good.small
 refine ⟨ask2 hi.good.room, fun cs' hcs => ?_⟩
 have hc : colG cs' = g := by rw [hcs]; rfl
 refine ⟨⟨by rw [hcs]; exact ⟨g, rfl⟩, by rw [hc]; exact hi.good, by rw [hx]; omega, hk⟩, hR cs' hc⟩
theorem zTk (hi : GuI g len cap i op f a) (n : Nat) : 0 <= gY g len n /\ gY g len n < 256 := by
 unfold gY; split
 ·exact hi.good.byte _ (by assumption)
 ·omega
theorem zUX (P : Int) : 0 <= hiB P /\ hiB P <= 8 := by rcases zD6 P with h | h <;> rw [h] <;> decide
theorem zUW (P : Int) : 0 <= hiR P /\ hiR P <= 8 := by rcases zOL P with h | h <;> rw [h] <;> decide
theorem yRt (hi : GuI g len cap i op f a) {x : IE} {n : Nat} (hx : x.den = ((a.p + n : Nat) : Int)) (h : a.p + n < len) : (yRc g a x).den = yR (gY g len (a.p + n)) (gpP g len i) := by
 have hb := zTk hi (a.p + n)
 have hr := zUW (gpP g len i)
 have e : g (0 + Int.toNat (x.den)) = gY g len (a.p + n) := by rw [hx, zL2 h]; congr 1; omega
 unfold yRc yR
 simp only [IE.den]
 rw [e, hi.r]
 generalize gY g len (a.p + n) = y at hb
 generalize hiR (gpP g len i) = z at hr
 rw [zE (n := y) (by omega) (by omega), Int.tdiv_eq_ediv_of_nonneg hb.1, zE (n := y / 8) (by omega) (by omega), zJv (by omega), zE (by omega) (by omega)]
 omega
theorem yBt (hi : GuI g len cap i op f a) {x : IE} {n : Nat} (hx : x.den = ((a.p + n : Nat) : Int)) (h : a.p + n < len) : (yBc g a x).den = yB (gY g len (a.p + n)) (gpP g len i) := by
 have hb := zTk hi (a.p + n)
 have hr := zUX (gpP g len i)
 have e : g (0 + Int.toNat (x.den)) = gY g len (a.p + n) := by rw [hx, zL2 h]; congr 1; omega
 unfold yBc yB
 simp only [IE.den]
 rw [e, hi.m]
 generalize gY g len (a.p + n) = y at hb
 generalize hiB (gpP g len i) = z at hr
 rw [zE (n := y) (by omega) (by omega), zJv (by omega), zE (by omega) (by omega)]
 omega
theorem yBp (hi : GuI g len cap i op f a) : (yBc g a (.var (a.p : Int))).den = yB (g a.p) (gpP g len i) := by
 rw [yBt hi (p0 a) hi.plt]; rw [Nat.add_zero, zL2 hi.plt]
theorem r0t (hi : GuI g len cap i op f a) {n : Nat} (h : ¬ a.p + n < len) : (r0 a).den = yR (gY g len (a.p + n)) (gpP g len i) := by
 have hr := zUW (gpP g len i)
 unfold r0 yR gY
 rw [if_neg h]
 simp only [IE.den]
 rw [hi.r, zE (by omega) (by omega)]; omega
theorem m0t (hi : GuI g len cap i op f a) {n : Nat} (h : ¬ a.p + n < len) : (m0 a).den = yB (gY g len (a.p + n)) (gpP g len i) := by
 have hr := zUX (gpP g len i)
 unfold m0 yB gY
 rw [if_neg h]
 simp only [IE.den]
 rw [hi.m, zE (by omega) (by omega)]; omega
theorem sb_t (hi : GuI g len cap i op f a) {x : IE} {n : Nat} (hx : x.den = yB (gY g len (a.p + n)) (gpP g len i)) (h : BE.den (BE.cmp BinOp.eql (IE.rem x (IE.lit 8)) (IE.lit 4)) = true) : ySib (gY g len (a.p + n)) = 1 := by
 have hb := zTk hi (a.p + n)
 have hr := zD6 (gpP g len i)
 simp only [BE.den, IE.den, za, hx] at h
 have h := of_decide_eq_true h
 unfold yB at h
 rw [zJv (by omega)] at h
 unfold ySib; rw [if_pos (by omega)]
theorem sb_f (hi : GuI g len cap i op f a) {x : IE} {n : Nat} (hx : x.den = yB (gY g len (a.p + n)) (gpP g len i)) (h : BE.den (BE.cmp BinOp.eql (IE.rem x (IE.lit 8)) (IE.lit 4)) = false) : ySib (gY g len (a.p + n)) = 0 := by
 have hb := zTk hi (a.p + n)
 have hr := zD6 (gpP g len i)
 simp only [BE.den, IE.den, za, hx] at h
 have h := of_decide_eq_false h
 unfold yB at h
 rw [zJv (by omega)] at h
 unfold ySib; rw [if_neg (by omega)]
theorem nmd {cs : List Col} (hc : colG cs = g) {x : IE} {n : Nat} (hx : x.den = ((a.p + n : Nat) : Int)) : (nmC cs len x (szK a)).den = gN g len (a.p + n) (decide (a.k = 1)) := by
 unfold nmC; simp only [IE.den]; rw [hc, hx]; unfold zGW; rw [sz_d, Int.toNat_natCast]
theorem zZ8 (hi : GuI g len cap i op f a) {n : Nat} (h : n + 4 <= len) : 0 <= u4 g n /\ u4 g n <= 4294967295 := by
 have h0 := hi.good.byte n (by omega)
 have h1 := hi.good.byte (n + 1) (by omega)
 have h2 := hi.good.byte (n + 2) (by omega)
 have h3 := hi.good.byte (n + 3) (by omega)
 unfold u4; omega
theorem nm4 (hi : GuI g len cap i op f a) {cs : List Col} (hc : colG cs = g) {x : IE} {n : Nat} (hx : x.den = ((a.p + n : Nat) : Int)) : (IE.conv .i64 (.conv .u32 (nmC cs len x 4))).den = gU g len (a.p + n) := by
 unfold nmC; simp only [IE.den]; rw [hc, hx]; unfold zGW; rw [Int.toNat_natCast]
 show IntKind.i64.wrap (IntKind.u32.wrap (gN g len (a.p + n) true)) = _
 unfold gN gU
 show IntKind.i64.wrap (IntKind.u32.wrap (if a.p + n + 4 <= len then s32 (u4 g (a.p + n)) else 0)) = _
 by_cases h : a.p + n + 4 <= len
 ·have := zZ8 hi h
  rw [if_pos h, if_pos h]
  unfold s32
  generalize u4 g (a.p + n) = v at this
  rw [zEa]
  split <;> (rw [zE (by omega) (by omega)]; omega)
 ·rw [if_neg h, if_neg h]; rfl
theorem cct (hi : GuI g len cap i op f a) {x : IE} {n : Nat} (hx : x.den = ((a.p + n : Nat) : Int)) (h : a.p + n < len) : (ccC g x).den = gCC g len (a.p + n) := by
 have hb := hi.good.byte (a.p + n) h
 have e : g (0 + Int.toNat (x.den)) = g (a.p + n) := by rw [hx]; congr 1; omega
 unfold ccC gCC
 rw [if_pos h]
 simp only [IE.den]
 rw [e, Int.tmod_eq_emod_of_nonneg hb.1, zE (by omega) (by omega)]
theorem cc0 {n : Nat} (h : ¬ a.p + n < len) : (IE.lit 0).den = gCC g len (a.p + n) := by unfold gCC; rw [if_neg h]; rfl
theorem zOP (hi : GuI g len cap i op f a) (h : a.k = if zEV f = true then 2 else 1) : zCI g cap (GuO g len i op f) a :=
 ⟨⟨a.k, a.c, a.X⟩, ⟨hi.kc, hi.cc, by rw [if_pos (by rw [<- hi.p]; exact hi.plt)]; exact h, fun e he => by rw [<- hi.p]; exact hi.X e he⟩, rfl, rfl, rfl, fun _ _ => rfl, rfl, fun _ _ => rfl, fun _ _ => rfl, fun _ _ => rfl, fun _ _ => rfl, fun _ _ => rfl, fun _ _ => rfl, fun _ _ => rfl, fun _ _ => rfl, trivial⟩
theorem zIY (hi : GuI g len cap i op f a) (h : 2 <= a.k) : zCI g cap (GuO g len i op f) a := by
 have hk : a.k = 2 := by have := hi.k2; omega
 exact zOP hi (by rw [if_pos (hi.ch hk)]; exact hk)
theorem zHH (hi : GuI g len cap i op f a) (hf : zEV f = false) (h : a.k = 1) : zCI g cap (GuO g len i op f) a := zOP hi (by rw [hf]; exact h)
theorem zU (hi : GuI g len cap i op f a) {F : GuSt -> Prop -> Prop} {o : IE} {w l : BE} {d s dp im cc : IE} (hk : a.k < 2) (hch : a.k = 1 -> zEV f = true) (hF : ∀ a' R, a'.f = a.f -> R -> F a' R)
  (hy : (⟨o.den, w.den, l.den, d.den, s.den, dp.den, im.den, cc.den⟩ : AI) = gX g len op a.p (gpP g len i) (decide (a.k = 1)) f) :
  zn g len cap op (GuI g len cap i op f) (fun a => 2 - a.k) a F o w l d s dp im cc := by
 obtain ⟨p, wide, r, m, k, c, X, fm⟩ := a
 have i1 := hi.kc
 have i2 := hi.cc
 dsimp only at hk hch hy i1 i2
 refine ⟨decide_eq_true (by dsimp only; omega), decide_eq_true (Nat.le_refl _), decide_eq_true i2, ?_, fun U cap1 h1 h1' => ?_⟩
 ·show (k + (0 + 1)) * 56 <= 140737488355328
  omega
 have h1 : k + (0 + 1) <= cap1 := h1
 have e2 : IE.den (IE.add IntKind.i64 (IE.var (k : Int)) (IE.lit 1)) = ((k + 1 : Nat) : Int) := by
  simp only [IE.den]; rw [zE (by omega) (by omega)]; omega
 generalize hY : (⟨o.den, w.den, l.den, d.den, s.den, dp.den, im.den, cc.den⟩ : AI) = y at hy
 refine ⟨⟨p, wide, r, m, k + 1, cap1, newM k X y U, fm⟩, ⟨hi.good, hi.p, hi.plt, hi.wide, hi.r, hi.m, hk, h1, h1', fun h => hch (by have h : k + 1 = 2 := h; omega), fun e he => ?_⟩, ?_, rfl, rfl, rfl, rfl, rfl, rfl, rfl, rfl, rfl, e2, rfl, fun _ _ => rfl, hF _ _ rfl ⟨rfl, ?_⟩⟩
 ·have he : e < k + 1 := he
  show newM k X y U e = _
  by_cases h : e < k
  ·rw [zDr h]; exact hi.X e h
  ·obtain rfl : e = k := by omega
   rw [zDs rfl]; exact hy
 ·show 2 - (k + 1) + 1 <= 2 - k
  omega
 subst hY
 refine ⟨?_, ?_, ?_, ?_, ?_, ?_, ?_, ?_, trivial⟩
 ·exact fun i _ => zAw (x := (newM k X _ U i).op) (fun h => by rw [zDr h]; rfl) (fun h => by rw [zDs h]; subst h; rw [Nat.sub_self]; rfl) (fun h => by rw [zEK h]; rfl)
 ·exact fun i _ => zK2 (x := (newM k X _ U i).wide) (fun h => by rw [zDr h]; rfl) (fun h => by rw [zDs h]; subst h; rw [Nat.sub_self]; rfl) (fun h => by rw [zEK h]; rfl)
 ·exact fun i _ => zK2 (x := (newM k X _ U i).long) (fun h => by rw [zDr h]; rfl) (fun h => by rw [zDs h]; subst h; rw [Nat.sub_self]; rfl) (fun h => by rw [zEK h]; rfl)
 ·exact fun i _ => zAw (x := (newM k X _ U i).d) (fun h => by rw [zDr h]; rfl) (fun h => by rw [zDs h]; subst h; rw [Nat.sub_self]; rfl) (fun h => by rw [zEK h]; rfl)
 ·exact fun i _ => zAw (x := (newM k X _ U i).s) (fun h => by rw [zDr h]; rfl) (fun h => by rw [zDs h]; subst h; rw [Nat.sub_self]; rfl) (fun h => by rw [zEK h]; rfl)
 ·exact fun i _ => zAw (x := (newM k X _ U i).disp) (fun h => by rw [zDr h]; rfl) (fun h => by rw [zDs h]; subst h; rw [Nat.sub_self]; rfl) (fun h => by rw [zEK h]; rfl)
 ·exact fun i _ => zAw (x := (newM k X _ U i).imm) (fun h => by rw [zDr h]; rfl) (fun h => by rw [zDs h]; subst h; rw [Nat.sub_self]; rfl) (fun h => by rw [zEK h]; rfl)
 ·exact fun i _ => zAw (x := (newM k X _ U i).cc) (fun h => by rw [zDr h]; rfl) (fun h => by rw [zDs h]; subst h; rw [Nat.sub_self]; rfl) (fun h => by rw [zEK h]; rfl)
theorem zA9 (a : GuSt) : ∀ a' R, a'.f = a.f -> R -> fW a a' R := fun a' R h hr => ⟨by rw [h], hr⟩
theorem zOg (a : GuSt) : ∀ a' R, a'.f = a.f -> R -> fCW a a' R := fun a' R h hr => ⟨by rw [h], zA9 a a' R h hr⟩
theorem zL8 (a : GuSt) : ∀ a' R, a'.f = a.f -> R -> fNW a a' R := fun a' R h hr => ⟨by rw [h], zA9 a a' R h hr⟩
theorem zRu (a : GuSt) : ∀ a' R, a'.f = a.f -> R -> fCNW a a' R := fun a' R h hr => ⟨by rw [h], zL8 a a' R h hr⟩
end
end Go.Proofs.YtajcmjjgnbaahaaGreat.Amd
