/- What a law's contract gives its narrowed row ('Upto'): the law answers true where what comes in is small, and old blocks stay as they are. -/
import Derived.Test.YtajcmjjgnbaahaaGreatTs1
import Derived.Test.YtajcmjjgnbaahaaGreatTs0
import Derived.Test.YtajcmjjgnbaahaaGreatTq4
import Derived.Test.YtajcmjjgnbaahaaGreatRows
import Derived.WalkKit
import Derived.ProofKit
import Derived.OpenShut
import Derived.ShutString
import Derived.ChangeOld
import Derived.Below
import Derived.SizedLaws
import Derived.Carry
import Derived.Test.YtajcmjjgnbaahaaGreatSx5
import Derived.ChangeSlices
import Derived.Deep.Slices
import Derived.Deep.Fields
import Derived.ChangeSame
import Derived.JoinedCond
set_option linter.unusedVariables false
set_option linter.unusedSimpArgs false
namespace Go.Proofs.YtajcmjjgnbaahaaGreat.Amd
open Go Go.Proofs.YtajcmjjgnbaahaaGreat.Sx Go.RowKit
theorem zXW : zO P (zx srT) := zG zCA (zG zCA (zG zPU (zG (zAn zPN) (zG (zAn zMm) (zG (zAn zQC) (zG (zAn zO5) (zG (zAn zYu) (zG (zAn zVL) fun g s h => by simp [zx] at h))))))))
theorem SR_ok : zO P SR := zAh zXW 4
theorem zYB {x y : Int} (h : x = y) : BE.den (BE.cmp BinOp.neq (IE.var x) (IE.var y)) = false := by subst h; simp [BE.den, IE.den, zAd]
theorem zYC {x y : Bool} (h : x = y) : BE.den (BE.not (BE.eq (BE.var x) (BE.var y))) = false := by subst h; simp [BE.den]
theorem zQi {i n : Nat} (h : BE.den (BE.cmp BinOp.lss (IE.var (i : Int)) (IE.var (n : Int))) = true) : i < n := by
 have : (i : Int) < (n : Int) := by simpa [BE.den, IE.den, zQ] using h
 omega
theorem nk (k : Nat) : 0 + Int.toNat (k : Int) = k := by simp
structure OwnB (g : Nat -> Int) (len : Nat) (o : Nat × (Nat -> Int)) : Prop where
 room : len <= o.1
 cap : o.1 <= 9223372036854775807
 same : ∀ e, e < len -> o.2 e = g e
theorem OwnB.good {g : Nat -> Int} {len cap : Nat} {o : Nat × (Nat -> Int)} (h : OwnB g len o) (hg : BGood g len cap) (hs : len <= 1048576) : BGood o.2 len o.1 := ⟨h.room, by omega, fun i hi => by rw [h.same i hi]; exact hg.byte i hi⟩
section
variable {t : Int} {g : Nat -> Int} {len cap : Nat} {W : Nat -> Int} {ll lc : Nat}
theorem zRL (hg : BGood g len cap) (hs : len <= 1048576) {a : LeSt} (ho : OwnB g len a.o) (hl : a.l <= a.lr.1) (h2 : a.l <= 1073741824) : zLs t g len cap W lc yes a := by
 unfold zLs
 refine ⟨fun d => d.o = a.o /\ d.l = a.l /\ d.lr = a.lr /\ d.i <= d.l, fun d => d.l - d.i, ⟨⟨a.o, a.l, a.lr, 0⟩, ⟨rfl, rfl, rfl, Nat.zero_le _⟩, rfl, rfl, rfl, rfl, rfl, rfl, rfl, rfl, rfl, fun _ _ => rfl, rfl, fun _ _ => rfl, rfl, fun _ _ => rfl, rfl, fun _ _ => rfl, trivial⟩, ?_, fun _ _ h => h⟩
 rintro _ ⟨o, l, lr, i⟩ ⟨i1, i2, i3, i4⟩
 dsimp only at i1 i2 i3 i4 ⊢
 subst i1 i2 i3
 refine ⟨fun hlt => ?_, fun _ ν => rfl⟩
 have hk := zQi hlt
 have q1 : decide (0 <= (i : Int) /\ (i : Int) < (a.l : Int)) = true := decide_eq_true (by omega)
 have q2 : decide (0 + Int.toNat (i : Int) + 1 <= a.lr.1) = true := decide_eq_true (by simp; omega)
 refine ⟨q1, q2, ask2 ho.room, fun cs hcs => ?_⟩
 have e1 : colG cs = a.o.2 := by rw [hcs]; rfl
 rw [e1]
 refine ⟨⟨by rw [hcs]; exact ⟨a.o.2, rfl⟩, ho.good hg hs, by show len <= 1073741824; omega⟩, fun b hb => ⟨q1, q2, ask2 hg.room, fun cs2 hcs2 => ?_⟩⟩
 have e2 : colG cs2 = g := by rw [hcs2]; rfl
 rw [e2]
 refine ⟨⟨by rw [hcs2]; exact ⟨g, rfl⟩, hg, by show len <= 1073741824; omega⟩, fun b4 hb4 => ?_⟩
 obtain ⟨h1, h2', h3⟩ := zRe (zUU (zEe hg.byte ho.same) hb) hb4
 refine ⟨zYB h1, zYC h2', fun hn => zI5 h3 hn, fun _ => ⟨⟨a.o, a.l, a.lr, i + 1⟩, ⟨rfl, rfl, rfl, hk⟩, ?_, rfl, rfl, rfl, rfl, rfl, rfl, rfl, zQj (by omega), rfl, fun _ _ => rfl, rfl, fun _ _ => rfl, rfl, fun _ _ => rfl, rfl, fun _ _ => rfl, trivial⟩⟩
 show a.l - (i + 1) < a.l - i
 omega
theorem zRM (hg : BGood g len cap) (hs : len <= 1048576) (hm : ll <= lc) (hm2 : ll <= 1048576) {a : LbSt} (ho : OwnB g len a.o) : zRN t g len cap W ll lc yes a := by
 unfold zRN
 refine ⟨fun d => d.o = a.o /\ d.i <= ll, fun d => ll - d.i, ⟨⟨a.o, 0⟩, ⟨rfl, Nat.zero_le _⟩, rfl, rfl, rfl, rfl, rfl, rfl, rfl, rfl, rfl, fun _ _ => rfl, rfl, fun _ _ => rfl, rfl, fun _ _ => rfl, trivial⟩, ?_, fun _ _ h => h⟩
 rintro _ ⟨o, i⟩ ⟨i1, i4⟩
 dsimp only at i1 i4 ⊢
 subst i1
 refine ⟨fun hlt => ?_, fun _ ν => rfl⟩
 have hk := zQi hlt
 have q1 : BE.den (BE.ite (BE.var (decide (ll <= lc /\ 0 + lc <= lc))) (BE.var (decide (0 <= (i : Int) /\ (i : Int) < (ll : Int)))) (BE.lit false)) = true := zAl (by simp; omega) (by simp; omega)
 have q2 : decide (0 + Int.toNat (i : Int) + 1 <= lc) = true := decide_eq_true (by simp; omega)
 refine ⟨q1, q2, ask2 ho.room, fun cs hcs => ?_⟩
 have e1 : colG cs = a.o.2 := by rw [hcs]; rfl
 rw [e1]
 refine ⟨⟨by rw [hcs]; exact ⟨a.o.2, rfl⟩, ho.good hg hs, by show len <= 1073741824; omega⟩, fun b hb => ⟨q1, q2, ask2 hg.room, fun cs2 hcs2 => ?_⟩⟩
 have e2 : colG cs2 = g := by rw [hcs2]; rfl
 rw [e2]
 refine ⟨⟨by rw [hcs2]; exact ⟨g, rfl⟩, hg, by show len <= 1073741824; omega⟩, fun b4 hb4 => ?_⟩
 obtain ⟨h1, h2', h3⟩ := zRe (zUU (zEe hg.byte ho.same) hb) hb4
 refine ⟨zYB h1, zYC h2', fun hn => zI5 h3 hn, fun _ => ⟨⟨a.o, i + 1⟩, ⟨rfl, hk⟩, ?_, rfl, rfl, rfl, rfl, rfl, rfl, rfl, zQj (by omega), rfl, fun _ _ => rfl, rfl, fun _ _ => rfl, rfl, fun _ _ => rfl, trivial⟩⟩
 show ll - (i + 1) < ll - i
 omega
structure zZ0 (g : Nat -> Int) (len ll : Nat) (a : LbSt) (d : LeSt) : Prop where
 o : d.o = a.o
 m : d.m = a.m
 mr : d.mr = a.mr
 l : d.l = ll + d.i
 lr : d.l <= d.lr.1
 lc : d.lr.1 <= 9223372036854775807
 i4 : d.i <= 4
theorem zRJ (hg : BGood g len cap) (hs : len <= 1048576) (hm2 : ll <= 1048576) {a : LbSt} (ho : OwnB g len a.o) (hmr : a.m <= a.mr.1) {c : Nat} (hc : ll + 1 <= c) (hc' : c <= 9223372036854775807) : zRK t g len cap W ll lc yes a c := by
 unfold zRK
 refine ⟨zZ0 g len ll a, fun d => 4 - d.i, ⟨⟨a.o, a.m, a.mr, ll + 1, (c, _), 1⟩, ⟨rfl, rfl, rfl, rfl, hc, hc', show (1 : Nat) <= 4 by decide⟩, rfl, rfl, rfl, by simp, rfl, rfl, rfl, rfl, rfl, rfl, rfl, fun _ _ => rfl, rfl, fun _ _ => rfl, rfl, fun _ _ => rfl, rfl, fun _ _ => rfl, rfl, fun _ _ => rfl, trivial⟩, ?_, fun _ _ h => h⟩
 rintro _ ⟨o, m, mr, l, lr, i⟩ ⟨i1, i2, i3, i4, i5, i6, i7⟩
 dsimp only at i1 i2 i3 i4 i5 i6 i7
 subst i1 i2 i3
 have hd : zLs t g len cap W lc yes ⟨a.o, a.m, a.mr, l, lr, i⟩ := zRL hg hs ho i5 (by dsimp only; omega)
 refine ⟨fun hlt => ⟨fun h4 => ?_, fun _ => hd⟩, fun _ => hd⟩
 have hk : i < a.m := zQi hlt
 have h4 : i < 4 := by
  have : (i : Int) < 4 := by simpa [BE.den, IE.den, zQ] using h4
  omega
 have hA : leA ⟨a.o, a.m, a.mr, l, lr, i⟩ := zAl (decide_eq_true (by dsimp only; omega)) (decide_eq_true (by dsimp only; simp; omega))
 have hB : leB ⟨a.o, a.m, a.mr, l, lr, i⟩ := zAl (decide_eq_true (by dsimp only; omega)) (decide_eq_true (by dsimp only; omega))
 have hC : leC ⟨a.o, a.m, a.mr, l, lr, i⟩ := decide_eq_true (by dsimp only; simp; omega)
 have hD : leD ⟨a.o, a.m, a.mr, l, lr, i⟩ := by
  refine decide_eq_true ?_
  dsimp only
  have : (bif Nat.beq (Int.toNat (l : Int)) 0 then 0 else 0 + 0) = 0 := by cases Nat.beq (Int.toNat (l : Int)) 0 <;> rfl
  rw [this]; simp; omega
 have hG : zJe t g len cap W lc (zZ0 g len ll a) (fun d => 4 - d.i) ⟨a.o, a.m, a.mr, l, lr, i⟩ := by
  unfold zJe
  dsimp only
  refine ⟨fun h => absurd (of_decide_eq_true h) (by omega), fun _ => ⟨?_, fun c3 h3 h3' => ⟨⟨a.o, a.m, a.mr, l + 1, (c3, _), i + 1⟩, ⟨rfl, rfl, rfl, by dsimp only; omega, ?_, h3', h4⟩, ?_, rfl, rfl, rfl, by simp, rfl, rfl, rfl, rfl, rfl, zQj (by omega), rfl, fun _ _ => rfl, rfl, fun _ _ => rfl, rfl, fun _ _ => rfl, rfl, fun _ _ => rfl, rfl, fun _ _ => rfl, trivial⟩⟩⟩
  ·show (Int.toNat (l : Int) - 0 + (0 + 1)) * 4 <= 140737488355328
   simp; omega
  ·have h3 : Int.toNat (l : Int) - 0 + (0 + 1) <= c3 := h3
   simp at h3
   exact h3
  ·show 4 - (i + 1) < 4 - i
   omega
 unfold zUT
 simp only [hA, hB, hC, hD, hG, and_self]
theorem zRO (hg : BGood g len cap) (hs : len <= 1048576) (hm : ll <= lc) (hm2 : ll <= 1048576) {a : LbSt} (ho : OwnB g len a.o) (hmr : a.m <= a.mr.1) (h0 : 0 < a.m) : zRP t g len cap W ll lc yes a := by
 have hA : lbA ll lc := zAl (zAl (decide_eq_true (by omega)) (decide_eq_true (by omega))) (decide_eq_true (by simp; omega))
 have hB : lbB a := zAl (decide_eq_true (by omega)) (decide_eq_true (by omega))
 have hC : lbC a := decide_eq_true (by omega)
 have hD : lbD ll lc := by
  refine decide_eq_true ?_
  have : (bif Nat.beq (Int.toNat (ll : Int)) 0 then 0 else 0 + 0) = 0 := by cases Nat.beq (Int.toNat (ll : Int)) 0 <;> rfl
  rw [this]; simp; omega
 have hG : zJf t g len cap W ll lc yes a := by
  unfold zJf
  refine ⟨fun h => absurd (of_decide_eq_true h) (by omega), fun _ => ⟨?_, fun c h3 h3' => zRJ hg hs hm2 ho hmr ?_ h3'⟩⟩
  ·show (Int.toNat (ll : Int) - 0 + (0 + 1)) * 4 <= 140737488355328
   simp; omega
  ·have h3 : Int.toNat (ll : Int) - 0 + (0 + 1) <= c := h3
   simp at h3
   exact h3
 unfold zRP
 simp only [hA, hB, hC, hD, hG, and_self]
structure zbh (a : LaSt) (d : LbSt) : Prop where
 o : d.o = a.o
 m : d.m = a.m
 mr : d.mr = a.mr
 s : d.s = a.s
 sr : d.sr = a.sr
 v : d.v = a.v
 vr : d.vr = a.vr
 le : d.i <= d.s
theorem zRQ (hg : BGood g len cap) (hs : len <= 1048576) (hm : ll <= lc) (hm2 : ll <= 1048576) {a : LaSt} (ho : OwnB g len a.o) (hmr : a.m <= a.mr.1) (hsr : a.s <= a.sr.1) (hvr : a.v <= a.vr.1) (hsv : a.s = a.v) (hs2 : a.s <= 1073741824) (hq : ∀ j, j < a.s -> a.sr.2 j = a.vr.2 j) :
  zRR t g len cap W ll lc yes a := by
 unfold zRR
 refine ⟨zbh a, fun d => d.s - d.i, ⟨⟨a.o, a.m, a.mr, a.s, a.sr, a.v, a.vr, 0⟩, ⟨rfl, rfl, rfl, rfl, rfl, rfl, rfl, Nat.zero_le _⟩, rfl, rfl, rfl, rfl, rfl, rfl, rfl, rfl, rfl, rfl, rfl, rfl, rfl, rfl, rfl, fun _ _ => rfl, rfl, fun _ _ => rfl, rfl, fun _ _ => rfl, rfl, fun _ _ => rfl, rfl, fun _ _ => rfl, rfl, fun _ _ => rfl, trivial⟩, ?_, fun _ _ h => h⟩
 rintro _ ⟨o, m, mr, s, sr, v, vr, i⟩ ⟨i1, i2, i3, i4, i5, i6, i7, i8⟩
 dsimp only at i1 i2 i3 i4 i5 i6 i7 i8 ⊢
 subst i1 i2 i3 i4 i5 i6 i7
 refine ⟨fun hlt => ?_, fun _ => ⟨fun h0 => ?_, fun _ => zRM hg hs hm hm2 ho⟩⟩
 ·have hk := zQi hlt
  rw [nk]
  refine ⟨zAl (decide_eq_true (by omega)) (decide_eq_true (by omega)), decide_eq_true (by omega), zAl (decide_eq_true (by omega)) (decide_eq_true (by omega)), decide_eq_true (by omega), fun hn => zI5 (hq i hk) hn, fun _ => ⟨⟨a.o, a.m, a.mr, a.s, a.sr, a.v, a.vr, i + 1⟩, ⟨rfl, rfl, rfl, rfl, rfl, rfl, rfl, hk⟩, ?_, rfl, rfl, rfl, rfl, rfl, rfl, rfl, rfl, rfl, rfl, rfl, rfl, rfl, zQj (by omega), rfl, fun _ _ => rfl, rfl, fun _ _ => rfl, rfl, fun _ _ => rfl, rfl, fun _ _ => rfl, rfl, fun _ _ => rfl, rfl, fun _ _ => rfl, trivial⟩⟩
  show a.s - (i + 1) < a.s - i
  omega
 ·refine zRO hg hs hm hm2 ho hmr ?_
  have : (0 : Int) < (a.m : Int) := by simpa [BE.den, IE.den, zQ] using h0
  show 0 < a.m
  omega
structure zbi (g : Nat -> Int) (len : Nat) (b b1 : NuR) (b2 b3 : StR) (d : LaSt) : Prop where
 o : OwnB g len d.o
 n : d.n = b.n
 nr : d.nr = (b.c, b.O)
 m : d.m = b1.n
 mr : d.mr = (b1.c, b1.O)
 s : d.s = b2.n
 sr : d.sr = (b2.c, b2.S)
 v : d.v = b3.n
 vr : d.vr = (b3.c, b3.S)
 le : d.i <= d.n
theorem zPO {r : NuR} (h : NumO t g len r) : r.n <= len := by
 rcases h.all with ⟨_, _, n, _, _, w, h, _⟩ | ⟨h, _⟩
 ·have := w.le; omega
 ·omega
theorem zQE {r : StR} (h : StO t g len r) : r.n <= len := by
 rcases h.all with ⟨_, _, _, _, w, _⟩ | ⟨h, _⟩
 ·exact w.le
 ·omega
theorem zRV (hg : BGood g len cap) (hs : len <= 1048576) (hm : ll <= lc) (hm2 : ll <= 1048576) {U : Unk} {c1 : Nat} (hc1 : len <= c1) (hc1' : c1 <= 9223372036854775807) {b b1 : NuR} {b2 b3 : StR} (hb : NumO t g len b) (hb1 : NumO t g len b1) (hb2 : StO t g len b2) (hb3 : StO t g len b3) :
  zRW t g len cap W ll lc yes U c1 b b1 b2 b3 := by
 obtain ⟨n1, _, _, n4⟩ := zNz hb hb1
 obtain ⟨s1, _, _, s4⟩ := zQF hb2 hb3
 have k0 := zPO hb
 have k2 := zQE hb2
 have r0 := hb.h1
 have r1 := hb1.h1
 have r2 := hb2.h1
 have r3 := hb3.h1
 unfold zRW
 refine ⟨zbi g len b b1 b2 b3, fun d => d.n - d.i, ⟨⟨(c1, _), b.n, (b.c, b.O), b1.n, (b1.c, b1.O), b2.n, (b2.c, b2.S), b3.n, (b3.c, b3.S), 0⟩, ⟨⟨hc1, hc1', ?_⟩, rfl, rfl, rfl, rfl, rfl, rfl, rfl, rfl, Nat.zero_le _⟩, rfl, rfl, rfl, rfl, rfl, Nat.zero_add _, rfl, rfl, rfl, rfl, rfl, rfl, rfl, rfl, rfl, rfl, rfl, fun _ _ => rfl, rfl, fun _ _ => rfl, rfl, fun _ _ => rfl, rfl, fun _ _ => rfl, rfl, fun _ _ => rfl, rfl, fun _ _ => rfl, rfl, fun _ _ => rfl, trivial⟩, ?_, fun _ _ h => h⟩
 ·intro e he
  show IE.den (Bool.rec (motive := fun _ => IE) (IE.var (Unk.i U 0 e)) (IE.var (g (0 + (e - 0)))) (Nat.blt e (0 + len))) = g e
  rw [zPh (show e < 0 + len by omega)]
  show g (0 + (e - 0)) = g e
  rw [Nat.zero_add, Nat.sub_zero]
 rintro _ ⟨o, n, nr, m, mr, s, sr, v, vr, i⟩ ⟨i0, i1, i2, i3, i4, i5, i6, i7, i8, i9⟩
 dsimp only at i0 i1 i2 i3 i4 i5 i6 i7 i8 i9 ⊢
 subst i1 i2 i3 i4 i5 i6 i7 i8
 refine ⟨fun hlt => ?_, fun _ => zRQ hg hs hm hm2 i0 r1 r2 r3 s1 (by dsimp only; omega) s4⟩
 have hk := zQi hlt
 rw [nk]
 refine ⟨zAl (decide_eq_true (by dsimp only; omega)) (decide_eq_true (by omega)), decide_eq_true (by dsimp only; omega), zAl (decide_eq_true (by dsimp only; omega)) (decide_eq_true (by omega)), decide_eq_true (by dsimp only; omega), fun hn => zI5 (n4 i hk) hn, fun _ => ⟨⟨o, b.n, (b.c, b.O), b1.n, (b1.c, b1.O), b2.n, (b2.c, b2.S), b3.n, (b3.c, b3.S), i + 1⟩, ⟨i0, rfl, rfl, rfl, rfl, rfl, rfl, rfl, rfl, hk⟩, ?_, rfl, rfl, rfl, rfl, rfl, rfl, rfl, rfl, rfl, rfl, rfl, rfl, rfl, rfl, rfl, zQj (by omega), rfl, fun _ _ => rfl, rfl, fun _ _ => rfl, rfl, fun _ _ => rfl, rfl, fun _ _ => rfl, rfl, fun _ _ => rfl, rfl, fun _ _ => rfl, rfl, fun _ _ => rfl, trivial⟩⟩
 show b.n - (i + 1) < b.n - i
 omega
theorem zKf (U : Unk) {e : Nat} (he : e < len) : IE.den (bif Nat.blt e 0 then IE.lit 0 else bif Nat.blt e (0 + len) then IE.var (g (0 + (e - 0))) else IE.var (Unk.i U 0 e)) = g e := by
 rw [zSF (Nat.zero_le e), zPh (show e < 0 + len by omega)]
 show g (0 + (e - 0)) = g e
 rw [Nat.zero_add, Nat.sub_zero]
set_option maxRecDepth 100000 in
theorem scanReads_sx (hg : BGood g len cap) (hs : len <= 1048576) (hm : ll <= lc) (hm2 : ll <= 1048576) :
  zH P SR (srPlan t g len cap W ll lc) Tryz.f3 [.int .i64 (.var t), sA 0 len cap, sA 1 ll lc] [rdRow g cap, rd32 W lc] (fun v _ => yes v) := by
 rw [zaA]
 have hroom := hg.room
 refine ⟨decide_eq_true (by omega), by show (0 + len) * 1 <= 140737488355328; omega, fun U c1 hc1 hc1' => ⟨ask2 hc1, fun cs hcs => ?_⟩⟩
 have w1 : ∀ e, e < len -> colG cs e = g e := fun e he => by rw [hcs]; exact zKf U he
 have st1 : zBy t (colG cs) len = zBy t g len := zEe hg.byte w1
 have good : ∀ {w : Nat -> Int}, (∀ e, e < len -> w e = g e) -> BGood w (0 + len) c1 := fun {w} h => ⟨hc1, by omega, fun i hi => by
  have hi : i < len := by omega
  rw [h i hi]; exact hg.byte i hi⟩
 have small : 0 + len <= 1073741824 := by omega
 refine ⟨⟨by rw [hcs]; exact ⟨_, rfl⟩, good w1, small⟩, fun b hb => ⟨ask2 hg.room, fun cs2 hcs2 => ?_⟩⟩
 have e2 : colG cs2 = g := by rw [hcs2]; rfl
 rw [e2]
 refine ⟨⟨by rw [hcs2]; exact ⟨g, rfl⟩, hg, by show len <= 1073741824; omega⟩, fun b1 hb1 => ⟨ask2 hc1, fun cs3 hcs3 => ?_⟩⟩
 have w3 : ∀ e, e < len -> colG cs3 e = g e := fun e he => by rw [hcs3]; exact zKf U he
 have st3 : zBy t (colG cs3) len = zBy t g len := zEe hg.byte w3
 refine ⟨⟨by rw [hcs3]; exact ⟨_, rfl⟩, good w3, small⟩, fun b2 hb2 => ⟨ask2 hg.room, fun cs4 hcs4 => ?_⟩⟩
 have e4 : colG cs4 = g := by rw [hcs4]; rfl
 rw [e4]
 refine ⟨⟨by rw [hcs4]; exact ⟨g, rfl⟩, hg, by show len <= 1073741824; omega⟩, fun b3 hb3 => ?_⟩
 rw [Nat.zero_add] at hb hb2
 have hb := zVt st1 hb
 have hb2 := zXV st3 hb2
 obtain ⟨n1, n2, n3, _⟩ := zNz hb hb1
 obtain ⟨s1, s2, s3, _⟩ := zQF hb2 hb3
 refine ⟨fun h => zI5 (by omega) h, fun _ => ⟨fun h => zI5 (by omega) h, fun _ => ⟨fun h => zI5 n2 h, fun _ => ⟨fun h => zI5 n3 h, fun _ => ⟨fun h => zI5 s2 h, fun _ => ⟨fun h => zI5 s3 h, fun _ => ⟨decide_eq_true (by omega), decide_eq_true (by omega), fun h => ?_, fun _ => ?_⟩⟩⟩⟩⟩⟩⟩
 ·refine zat ?_ h
  unfold zGp
  congr 2
  rw [show List.range (0 + len) = List.range len by rw [Nat.zero_add]]
  refine List.map_congr_left fun i hi => ?_
  have hi : i < len := List.mem_range.1 hi
  exact congrArg (fun z : Int => UInt8.ofNat z.toNat) (zKf (g := g) U (show 0 + i < len by omega))
 ·exact zRV hg hs hm hm2 (by omega) hc1' hb hb1 hb2 hb3
end
end Go.Proofs.YtajcmjjgnbaahaaGreat.Amd
namespace Go.Proofs.YtajcmjjgnbaahaaGreat.LawKit
open Go Go.ChangeShapes Go.WideShapes Go.ChangeAt Go.RowKit
variable {H : Type} {enc : TypeId × Value -> H} {P : Program}
theorem zFX (lo : laidOutB P = true) {W W' : World} (hb : Below W.heap.size W W') : ∀ {ts : List TypeId} {vs : List Value} {ds : List (DataW H)} {p : List MemPlace},
  (∀ t ∈ ts, P.readableRec t = true /\ t < P.types.size) -> DataW.TrodAll enc P W 0 (fun _ => true) true ts vs ds p -> DataW.TrodAll enc P W' 0 (fun b => decide (b < W.heap.size)) true ts vs ds p
 | [], vs, ds, p, _, h => by
  obtain ⟨rfl, rfl, rfl⟩ := trodAll_nil h
  exact trodAll_mk0
 | t :: ts, vs, ds, p, hr, h => by
  obtain ⟨v, vs', d, ds', a, b, rfl, rfl, rfl, h1, h2⟩ := trodAll_cons h
  have hlt : ∀ x ∈ a, x.block < W.heap.size := by obtain ⟨m, hm⟩ := h1; exact DataW.trod_lt m _ _ _ hm
  have h0 := hr t (List.mem_cons_self ..)
  exact trodAll_cons_mk (Below.trod lo h0.1 h0.2 h1 hb hlt) (zFX lo hb (fun t ht => hr t (List.mem_cons_of_mem _ ht)) h2)
theorem zE0 {W : World} {base : Nat} {sp : Nat -> Bool} {hd : Bool} : ∀ {ts : List TypeId} {vs : List Value} {ds : List (DataW H)} {p : List MemPlace}, DataW.TrodAll enc P W base sp hd ts vs ds p -> ds.length = ts.length
 | [], vs, ds, p, h => by obtain ⟨rfl, rfl, rfl⟩ := trodAll_nil h; rfl
 | t :: ts, vs, ds, p, h => by
  obtain ⟨v, vs', d, ds', a, b, rfl, rfl, rfl, h1, h2⟩ := trodAll_cons h
  simp [zE0 h2]
def zRY : Value -> Int
 | .int _ n => n
 | _ => 0
theorem zPM {W : World} {base : Nat} {t : TypeId} {k : IntKind} {v : Value} (ht : P.underlying t = some (.int k)) (h : Cell.okWide P W .any base t v) : v = .int k (zRY v) /\ IntKind.has k (zRY v) := by
 unfold Cell.okWide at h
 rw [ht] at h
 simp only [Cell.ok, ht] at h
 split at h <;> simp_all [zRY]
open Go.Proofs.YtajcmjjgnbaahaaGreat.Sx
variable {H : Type} {enc : TypeId × Value -> H} {P : Program}
theorem zMe {W : World} {base : Nat} {t e : TypeId} {a : Addr} {len cap : Nat} (ht : P.underlying t = some (.slice e)) (hval : Value.okWide P W .any base t (.slice (some a) len cap)) : a.block < W.heap.size /\ a.spot = none := by
 simp only [Value.okWide, ht, Cell.okWide, Cell.ok] at hval
 obtain ⟨_, _, _, hsp, row, cells, hs, _⟩ := hval
 refine ⟨?_, hsp⟩
 unfold World.shape? at hs
 split at hs
 ·rename_i h; exact (Array.getElem?_eq_some_iff.1 h).1
 ·simp at hs
theorem input_ints {W : World} {base : Nat} {t e : TypeId} {k : IntKind} {v : Value} {d : DataW H} {p : List MemPlace} (ht : P.underlying t = some (.slice e)) (he : P.underlying e = some (.int k)) (hc : P.cellsOf e = 1)
  (hval : Value.okWide P W .any base t v) (h : DataW.Trod enc P W 0 (fun _ => true) true t v d p) :
  ∃ (pl : Pl) (len cap : Nat) (g : Nat -> Int), v = .slice (bif pl.nil then none else some ⟨pl.blk, pl.off, none⟩) len cap /\ len <= cap /\ cap <= 9223372036854775807 /\ zw (fun b => b < W.heap.size) pl W false true [.int k fun i => .var (g i)] cap /\
   ∀ i, i < cap -> k.min <= g i /\ g i <= k.max := by
 obtain ⟨a1, len, cap, rfl⟩ := okWide_slice ht hval
 obtain ⟨fuel, hf⟩ := h
 rcases open_ints ht he hc hf with ⟨hcs, hx⟩ | ⟨a, len', cap', zs, hcs, _, hl, hm, hz, hx, hcell, hwz⟩
 ·simp [Value.cells] at hcs
  obtain ⟨rfl, rfl, rfl⟩ := hcs
  exact ⟨⟨0, 0, true⟩, 0, 0, fun _ => 0, rfl, Nat.le_refl _, by omega, ⟨fun _ => rfl, fun h => (by simp at h), fun h => (by simp at h), fun e he => absurd he (by omega), fun h => (by cases h)⟩, fun i hi => absurd hi (by omega)⟩
 ·simp [Value.cells] at hcs
  obtain ⟨rfl, rfl, rfl⟩ := hcs
  obtain ⟨hblk, hsp⟩ := zMe ht hval
  simp only [if_true] at hz
  obtain ⟨ab, ao, spot⟩ := a
  simp only at hsp hblk
  subst hsp
  refine ⟨⟨ab, ao, false⟩, len, cap, fun i => zs.getD i 0, rfl, hl, by simpa [maxLen] using hm, ⟨fun h => (by simp at h), fun _ h => (by cases h), fun _ _ => hblk, ?_, fun h => (by cases h)⟩, ?_⟩
  ·intro i hi j c hj
   cases j with
   | zero =>
    simp at hj; subst hj
    refine ⟨_, ?_, rfl, rfl⟩
    have := hcell i (by omega)
    rw [Addr.add_lit] at this
    simpa [Pl.base, Col.den, IE.den] using this
   | succ j => simp at hj
  ·intro i hi
   have := hwz (zs.getD i 0) (by
    rw [List.getD_eq_getElem?_getD, List.getElem?_eq_getElem (show i < zs.length by omega)]
    exact List.getElem_mem _)
   simpa [Lit.wf] using this
theorem input_int {W : World} {base : Nat} {t : TypeId} {k : IntKind} {v : Value} (ht : P.underlying t = some (.int k)) (hval : Value.okWide P W .any base t v) : v = .int k (zRY v) /\ IntKind.has k (zRY v) := by
 unfold Value.okWide at hval
 rw [ht] at hval
 exact zPM ht hval
open Go.Proofs.YtajcmjjgnbaahaaGreat.Sx Go.Deep
variable {H : Type} {enc : TypeId × Value -> H} {P : Program}
theorem zTx (d : DataW H) : 1 <= Rows.uptoBulk d := by
 cases d with
 | lit l => cases l <;> simp [Rows.uptoBulk]
 | nil => simp [Rows.uptoBulk]
 | ptr d => simp [Rows.uptoBulk]
 | slice elems spare => simp [Rows.uptoBulk]
 | agg parts => simp [Rows.uptoBulk]
 | iface t d => simp [Rows.uptoBulk]
 | map entries => simp [Rows.uptoBulk]
 | held h => simp [Rows.uptoBulk]
theorem zOo (l : List (DataW H)) : l.length <= Rows.uptoBulkAll l := by
 induction l with
 | nil => simp [Rows.uptoBulkAll]
 | cons x r ih => have := zTx x; simp only [Rows.uptoBulkAll, List.length_cons]; omega
theorem bulk_slice {W : World} {t e : TypeId} {a : Option Addr} {len cap : Nat} {d : DataW H} {p : List MemPlace} (ht : P.underlying t = some (.slice e)) (h : DataW.Trod enc P W 0 (fun _ => true) true t (.slice a len cap) d p) : cap <= Rows.uptoBulk d := by
 obtain ⟨fuel, hf⟩ := h
 rcases open_slice ht hf with ⟨hcs, hx⟩ | ⟨a, len', cap', m, n, D, Pl, hcs, hb, hl, hm, hmm, hx, hi⟩
 ·simp [Value.cells] at hcs
  omega
 ·simp [Value.cells] at hcs
  obtain ⟨rfl, rfl, rfl⟩ := hcs
  simp only [if_true] at hmm
  subst hmm
  simp only [Prod.mk.injEq] at hx
  obtain ⟨rfl, _⟩ := hx
  have h1 := zOo ((List.range len).map D)
  have h2 := zOo ((List.range (m - len)).map fun j => D (len + j))
  simp only [List.length_map, List.length_range] at h1 h2
  simp only [Rows.uptoBulk]
  omega
theorem law_lifted_cond {C : Checked} {os : Os} {f : FuncId} {fn : Func} {s : ChangeSpec} {conds : List PathCond} {tb : TypeId}
  (own : ownKnob C.prog.godebug = none) (started : os.Started) (noInit : C.prog.inits.idxOf? f = none) (hfn : C.prog.funcs[f]? = some fn)
  (witness : ∃ (w : World) (tape : Tape) (i : Input), w.os = os /\ (w.forCall tape i).Shaped C.prog /\ i.vars = [] /\ Input.okWide C.prog (w.forCall tape i) .any w.heap.size f i /\
   (Rows.OpenSpec.upto s).pre6 enc C.prog fn conds false (w.forCall tape i).memory i.args /\ Assume.holds {} C.prog (lone (Frame.enter C.prog f i.args .normal) [] (w.forCall tape i)))
  (lo : laidOutB C.prog = true) (hv : s.vars = []) (hpar : fn.params.toList.all (fun t => C.prog.readableRec t && decide (t < C.prog.types.size)) = true)
  (hres : fn.resultTypes = #[tb]) (htb : C.prog.underlying tb = some .bool)
  (hs : ∀ ds : List (DataW H), ds.length = fn.params.toList.length -> s.fn H ds = { results := [.lit (.bool true)], args := ds })
  (contract : ∀ (W : World) (base : Nat) (args : Array Value) (ds : List (DataW H)) (p : List MemPlace),
   (∀ (j : Nat) t v, fn.params[j]? = some t -> args[j]? = some v -> Value.okWide C.prog W .any base t v) ->
   DataW.TrodAll enc C.prog W 0 (fun _ => true) true fn.params.toList args.toList ds p ->
   Rows.uptoBulkAll ds <= 1048576 ->
   Calls C.prog f args W fun e W' => e = .returned (.bool true) /\ Below W.heap.size W W') (F : Stop.Interp) :
  ReturnsInHanded {} C os f .any ((Rows.OpenSpec.upto s).pre6 enc C.prog fn conds false) (((Rows.OpenSpec.upto s).at F).post enc C.prog fn false true false false) := by
 refine returnsInHanded_of_cond (s := Rows.OpenSpec.upto s) (k := Rows.uptoSmall) rfl own started noInit hfn witness ?_
 intro W base args ds gs before hval hW hcnd hk _
 have hW0 : DataW.Whole enc C.prog fn.params.toList s.vars false W args.toList ds gs before := hW
 have hW' := hW0
 obtain ⟨p, q, hA0, hV, rfl, hfz, hnd⟩ := hW0
 have hA : DataW.TrodAll enc C.prog W 0 (fun _ => true) true fn.params.toList args.toList ds p := hA0
 rw [hv] at hV
 obtain ⟨rfl, rfl⟩ := trodVars_none hV
 rw [List.append_nil] at hk
 have hbk : Rows.uptoBulkAll ds <= 1048576 := of_decide_eq_true hk
 refine (contract W base args ds p hval hA hbk).mono fun e W' ⟨he, bel⟩ => ?_
 subst he
 have hf : ((Rows.OpenSpec.upto s).at F).fn H ds = { results := [.lit (.bool true)], args := ds } := hs ds (zE0 hA)
 have hvv : ((Rows.OpenSpec.upto s).at F).vars = [] := hv
 refine ⟨_, rfl, ds, [], p ++ [], [], p, [], hW', ?_, ?_, ?_, bel.frame _, fun h => by cases h⟩
 ·rw [List.append_nil, hf, hres]
  exact trodAll_mk1 (shut_bool htb _)
 ·rw [List.append_nil, hf]
  refine zFX lo bel (fun t ht => ?_) hA
  have := List.all_eq_true.1 hpar t ht
  simpa using this
 ·rw [hvv]
  simp only [List.append_nil]
  rw [hf]; rfl
theorem sat_rows2 {W : World} {p q : Pl} {cols cols' : List Col} {n n' : NE} (h : zw (fun b => b < W.heap.size) p W false true cols n.den) (h' : zw (fun b => b < W.heap.size) q W false true cols' n'.den) :
  z6 (fun b => b < W.heap.size) (fun o => bif Nat.beq o 0 then p else q) [.row false true cols n, .row false true cols' n'] W := by
 refine ⟨fun o x hx => ?_, fun o o' ho => ?_⟩
 ·match o, hx with
  | 0, hx => simp at hx; subst hx; exact h
  | 1, hx => simp at hx; subst hx; exact h'
  | o + 2, hx => simp at hx
 ·obtain ⟨x, hx, hw⟩ := ho
  match o, hx with
  | 0, hx => simp at hx; subst hx; simp [SObj.owns] at hw
  | 1, hx => simp at hx; subst hx; simp [SObj.owns] at hw
  | o + 2, hx => simp at hx
end Go.Proofs.YtajcmjjgnbaahaaGreat.LawKit
