/- What the law's own question comes to. -/
import Derived.Test.YtajcmjjgnbaahaaGreatSn3
import Derived.Test.YtajcmjjgnbaahaaGreatAb
set_option linter.unusedVariables false
set_option linter.unusedSimpArgs false
namespace Go.Proofs.YtajcmjjgnbaahaaGreat.Amd
open Go Go.Proofs.YtajcmjjgnbaahaaGreat.Sx Go.RowKit
abbrev wkM : zl := zAK [.plain, .rows 1 zz1] zEu zHc
def nuT : List (FuncId × Cal) := [(11, .spec wkM (zBn [.plain, .rows 1 zz1] zHc))]
theorem zYV : zO P (zx nuT) := zG (zAn zU0) fun g s h => by simp [zx] at h
noncomputable def NU : FuncId -> Option Cal := inl P (fun _ _ => 40) (zx nuT) 4
theorem zXC : zO P NU := zAh zYV 4
structure NuSt where
 e : Int
 p : Int
 q : Nat
 c2 : Nat
 A : Nat -> Int
 V : Nat -> Int
 k : Nat
 c3 : Nat
 O : Nat -> Int
def zQz (a : NuSt) : List (Nat × SV) :=
 [(9, .int .i64 (.var (NuSt.e a))), (10, .int .i64 (.var (NuSt.p a))), (11, .sliceE true 2 1 (.lit 0) (.var (NuSt.k a)) (.var (NuSt.c3 a))), (22, .sliceE true 1 2 (.lit 0) (.var (NuSt.q a)) (.var (NuSt.c2 a))), (23, .int .i64 (.var (NuSt.q a))), (24, .int .i64 (.var (NuSt.k a)))]
def nuHp (g : Nat -> Int) (cap : Nat) (a : NuSt) : List SObj := [rdRow g cap, .row true true [zFT (NuSt.A a), zFT (NuSt.V a)] (.var (NuSt.c2 a)), .row true true [zFT (NuSt.O a)] (.var (NuSt.c3 a))]
structure NuR where
 e : Int
 p : Int
 n : Nat
 c : Nat
 O : Nat -> Int
def zN0 (R : NuR -> Prop) : List Out :=
 [.any NuR R (fun r n => .tuple [.sliceE true n 1 (.lit 0) (.var (NuR.n r)) (.var (NuR.c r)), .int .i64 (.var (NuR.e r)), .int .i64 (.var (NuR.p r))]) (fun r => [.row true true [zFT (NuR.O r)] (.var (NuR.c r))]) (fun _ => [])]
def nuQ (g : Nat -> Int) (cap : Nat) (R : NuR -> Prop) : SV -> List SObj -> Prop :=
 fun v hp => zFH (zN0 R) fun o => o.some 1 fun val new _ => zA8 1 1 { tmps := [v], hp := hp } [(0, val)] ([rdRow g cap] ++ new)
def zN1 (g : Nat -> Int) (cap : Nat) (I : NuSt -> Prop) (M : NuSt -> Nat) (R : NuR -> Prop) : Prop :=
 (∀ (u : Nat -> Value) (a : NuSt), I a -> (BE.den (BE.cmp BinOp.lss (IE.var (↑(NuSt.k a) : Int)) (IE.var (↑(NuSt.q a) : Int))) = true -> BE.den (BE.ite (BE.var (decide (NuSt.q a <= NuSt.c2 a /\ 0 + NuSt.c2 a <= NuSt.c2 a))) (BE.var (decide (0 <= (↑(NuSt.k a) : Int) /\ (↑(NuSt.k a) : Int) < (↑(NuSt.q a) : Int)))) (BE.lit false)) = true /\ decide (0 + Int.toNat (↑(NuSt.k a) : Int) + 1 <= NuSt.c2 a) = true /\ decide (0 + NuSt.k a <= NuSt.c3 a) = true /\ decide (NuSt.c3 a <= NuSt.c3 a) = true /\ decide (NuSt.c3 a <= 9223372036854775807) = true /\ Nat.le (NE.den (NE.two (fun x1 x2 => x1 + x2) (NE.var (NuSt.k a)) (NE.lit (0 + 1))) * 8) 140737488355328 /\ ∀ (U : Unk) (cap_1 : Nat), NE.den (NE.two (fun x1 x2 => x1 + x2) (NE.var (NuSt.k a)) (NE.lit (0 + 1))) <= cap_1 -> cap_1 <= 9223372036854775807 -> ∃ a', I a' /\ Nat.le (Nat.succ (M a')) (M a) /\ NuSt.e a = NuSt.e a' /\ NuSt.p a = NuSt.p a' /\ NuSt.k a + 1 = NuSt.k a' /\ cap_1 = NuSt.c3 a' /\ NuSt.q a = NuSt.q a' /\ NuSt.c2 a = NuSt.c2 a' /\ (↑(NuSt.q a) : Int) = (↑(NuSt.q a') : Int) /\ IE.den (IE.add IntKind.i64 (IE.var (↑(NuSt.k a) : Int)) (IE.lit 1)) = (↑(NuSt.k a') : Int) /\ cap = cap /\ (∀ (e : Nat), e < cap -> g e = g e) /\ cap_1 = NuSt.c3 a' /\ (∀ (e : Nat), e < NuSt.c3 a' -> IE.den (Bool.rec (motive := fun _ => IE) (bif Nat.blt e (NuSt.k a + (0 + 1)) then zSB (NuSt.V a (0 + NE.den (IE.nat (IE.var (↑(NuSt.k a) : Int))))) ((0 / 1 + (e - NuSt.k a)) * 1 + 0) else IE.var (Unk.i U 0 e)) (IE.var (NuSt.O a e)) (Nat.blt e (NuSt.k a))) = NuSt.O a' e) /\ NuSt.c2 a = NuSt.c2 a' /\ (∀ (e : Nat), e < NuSt.c2 a' -> NuSt.A a e = NuSt.A a' e) /\ (∀ (e : Nat), e < NuSt.c2 a' -> NuSt.V a e = NuSt.V a' e) /\ True) /\ (BE.den (BE.cmp BinOp.lss (IE.var (↑(NuSt.k a) : Int)) (IE.var (↑(NuSt.q a) : Int))) = false -> ∃ b, R b /\ NuSt.k a = NuR.n b /\ NuSt.c3 a = NuR.c b /\ NuSt.e a = NuR.e b /\ NuSt.p a = NuR.p b /\ cap = cap /\ (∀ (e : Nat), e < cap -> g e = g e) /\ NuSt.c3 a = NuR.c b /\ (∀ (e : Nat), e < NuR.c b -> NuSt.O a e = NuR.O b e) /\ True))
theorem zar (t : Int) (g : Nat -> Int) (len cap : Nat) (I : NuSt -> Prop) (M : NuSt -> Nat) (R : NuR -> Prop) : zH P NU (fun _ => annS NuSt zQz (nuHp g cap) I M) Tryz.f5 [.int .i64 (.var t), sA 0 len cap] [rdRow g cap] (nuQ g cap R) =
  (BE.den (BE.ite (BE.var (decide (0 + cap <= cap))) (BE.var (decide (len <= cap))) (BE.lit false)) = true /\ ∀ (cs' : List Col), cs' = List.map Col.nrm (zY (NE.lit 0) [col8 g]) -> ((∃ (g : Nat -> Int), cs' = [Col.int IntKind.u8 fun e => IE.var (g e)]) /\ BGood (colG cs') len cap /\ Nat.le len 1073741824) /\ (∀ (b : WkR), zNK t (colG cs') len b -> (∃ a, I a /\ 0 = NuSt.e a /\ 0 = NuSt.p a /\ NuSt.k a = 0 /\ NuSt.c3 a = 0 /\ WkR.q b = NuSt.q a /\ WkR.c2 b = NuSt.c2 a /\ (↑(WkR.q b) : Int) = (↑(NuSt.q a) : Int) /\ 0 = (↑(NuSt.k a) : Int) /\ cap = cap /\ (∀ (e : Nat), e < cap -> g e = g e) /\ NuSt.c3 a = 0 /\ WkR.c2 b = NuSt.c2 a /\ (∀ (e : Nat), e < NuSt.c2 a -> WkR.A b e = NuSt.A a e) /\ (∀ (e : Nat), e < NuSt.c2 a -> WkR.V b e = NuSt.V a e) /\ True) /\ zN1 g cap I M R /\ ∀ (u : Nat -> Value) (b : Unit), False -> False) /\ ∀ (b : WkE), zB6 t (colG cs') len b -> (∃ a, I a /\ WkE.e b = NuSt.e a /\ (↑(WkE.p b) : Int) = NuSt.p a /\ NuSt.k a = 0 /\ NuSt.c3 a = 0 /\ NuSt.q a = 0 /\ NuSt.c2 a = 0 /\ 0 = (↑(NuSt.q a) : Int) /\ 0 = (↑(NuSt.k a) : Int) /\ cap = cap /\ (∀ (e : Nat), e < cap -> g e = g e) /\ NuSt.c3 a = 0 /\ NuSt.c2 a = 0 /\ True) /\ zN1 g cap I M R /\ ∀ (u : Nat -> Value) (b : Unit), False -> False) := by kernel_rfl
structure zCK (t : Int) (g : Nat -> Int) (len n : Nat) (P : Nat -> Nat) (K : Nat -> Option Int) : Prop where
 tt : t = 1 ∨ t = 2
 ch : zCL (zBy t g len) len n P K
 fin : P n = len
 le : n <= len
structure NumO (t : Int) (g : Nat -> Int) (len : Nat) (r : NuR) : Prop where
 all : (r.e = 0 /\ r.p = 0 /\ ∃ (n : Nat) (P : Nat -> Nat) (K : Nat -> Option Int), zCK t g len n P K /\ r.n <= n /\ r.n = (fnd P K n).length /\ ∀ j, j < r.n -> r.O j = ((fnd P K n).getD j (0, 0)).2) ∨
  (r.n = 0 /\ ∃ b : WkE, zB6 t g len b /\ r.e = b.e /\ r.p = (b.p : Int))
 h1 : r.n <= r.c
 k1 : r.c <= 9223372036854775807
def zFK : Ins -> List SV -> List Out := fun ins pl => match ins, pl with
 | [(cs, len, _)], [.int .i64 t] => zN0 (NumO t.den (colG cs) len)
 | _, _ => []
theorem zM0 (R : NuR -> Prop) : ∀ o ∈ zN0 R, o.good := by
 intro o ho
 unfold zN0 at ho
 simp only [List.mem_cons, List.not_mem_nil, or_false] at ho
 rcases ho with rfl
 intro c
 refine ⟨⟨fun n m ν ν' h => ?_, fun n p h => ?_⟩, rfl, trivial⟩
 ·have h0 := h 0 (by simp)
  simp only [Nat.add_zero] at h0
  simp [SV.den, SV.denL, h0]
 ·exact ⟨h 0 (by simp), trivial, trivial, trivial⟩
theorem zQx {f : FuncId} {s : zl} (hs : zZ P f s)
  (h : ∀ (t : Int) (g : Nat -> Int) (len cap : Nat), BGood g len cap -> len <= 1073741824 -> s [.int .i64 (.var t), sA 0 len cap] [rdRow g cap] (nuQ g cap (NumO t g len))) :
  zZ P f (zAK [.plain, .rows 1 zz1] zEu zFK) := by
 refine zH5 hs (fun sz zs h => by simp at h; obtain ⟨rfl, rfl⟩ := h; rfl) ?_ ?_
 ·intro ins pl o ho
  unfold zFK at ho
  split at ho
  ·exact zM0 _ o ho
  ·simp at ho
 ·intro ins pl u hi hw hp
  obtain ⟨g, len, cap, t, rfl, rfl, h1, h2⟩ := zHK hp
  exact h t.den g len cap h1 h2
structure zZz (t : Int) (g : Nat -> Int) (len : Nat) (a : NuSt) : Prop where
 all : (a.e = 0 /\ a.p = 0 /\ ∃ (n : Nat) (P : Nat -> Nat) (K : Nat -> Option Int), zCK t g len n P K /\ a.q <= n /\ a.q = (fnd P K n).length /\ ∀ j, j < a.q -> a.V j = ((fnd P K n).getD j (0, 0)).2) ∨
  (a.q = 0 /\ ∃ b : WkE, zB6 t g len b /\ a.e = b.e /\ a.p = (b.p : Int))
 small : a.q <= 1073741824
 kq : a.k <= a.q
 qc : a.q <= a.c2
 kc : a.k <= a.c3
 c3 : a.c3 <= 9223372036854775807
 same : ∀ j, j < a.k -> a.O j = a.V j
theorem zJZ {t : Int} {g : Nat -> Int} {len cap : Nat} (hl : len <= 1073741824) : zN1 g cap (zZz t g len) (fun a => a.q - a.k) (NumO t g len) := by
 unfold zN1
 rintro _ ⟨e, p, q, c2, A, V, k, c3, O⟩ hi
 have hi' := hi
 obtain ⟨i1, i2, i3, i4, i5, i6, i7⟩ := hi'
 dsimp only at i1 i2 i3 i4 i5 i6 i7 ⊢
 have hkt : 0 + Int.toNat (k : Int) = k := by simp
 refine ⟨fun hlt => ?_, fun hge => ?_⟩
 ·have hlt : (k : Int) < (q : Int) := by simpa [BE.den, IE.den, zQ] using hlt
  have hk : k < q := by omega
  refine ⟨zAl (by simp; omega) (by simp; omega), decide_eq_true (by omega), decide_eq_true (by omega), decide_eq_true (Nat.le_refl _), decide_eq_true i6, ?_, fun U cap1 h1 h1' => ?_⟩
  ·show (k + (0 + 1)) * 8 <= 140737488355328
   omega
  have h1 : k + (0 + 1) <= cap1 := h1
  refine ⟨⟨e, p, q, c2, A, V, k + 1, cap1, newT 0 k O (V k) U⟩, ⟨i1, i2, hk, i4, h1, h1', fun j hj => ?_⟩, ?_, rfl, rfl, rfl, rfl, rfl, rfl, rfl, ?_, rfl, fun _ _ => rfl, rfl, fun i _ => ?_, rfl, fun _ _ => rfl, fun _ _ => rfl, trivial⟩
  ·have hj : j < k + 1 := hj
   show newT 0 k O (V k) U j = V j
   by_cases h : j < k
   ·rw [zA3 h]; exact i7 j h
   ·obtain rfl : j = k := by omega
    exact zA4 rfl
  ·show q - (k + 1) < q - k
   omega
  ·show IntKind.i64.wrap ((k : Int) + 1) = ((k + 1 : Nat) : Int)
   rw [zE (by omega) (by omega)]; omega
  ·refine zAw (x := newT 0 k O (V k) U i) (fun h => by rw [zA3 h]; rfl) (fun h => ?_) (fun h => by rw [zDq h]; rfl)
   rw [zA4 h]; subst h; rw [Nat.sub_self]
   show V (0 + Int.toNat (i : Int)) = V i
   rw [hkt]
 ·have hge : ¬ (k : Int) < (q : Int) := by simpa [BE.den, IE.den, zQ] using hge
  obtain rfl : k = q := by omega
  refine ⟨⟨e, p, k, c3, O⟩, ⟨?_, i5, i6⟩, rfl, rfl, rfl, rfl, rfl, fun _ _ => rfl, rfl, fun _ _ => rfl, trivial⟩
  rcases i1 with ⟨j1, j2, n, P', K, j3, j4, j5, j6⟩ | j
  ·exact .inl ⟨j1, j2, n, P', K, j3, j4, j5, fun j hj => (i7 j hj).trans (j6 j hj)⟩
  ·exact .inr j
set_option maxRecDepth 100000 in
theorem zPN : zZ P 5 (zAK [.plain, .rows 1 zz1] zEu zFK) := by
 have hs := zDi fun un => zN (un := un) zXC Tryz.func5
 refine zQx hs ?_
 intro t g len cap hg hl
 refine ⟨fun _ => annS NuSt zQz (nuHp g cap) (zZz t g len) (fun a => a.q - a.k), ?_⟩
 rw [zar]
 refine ⟨ask2 hg.room, fun cs' hcs => ?_⟩
 have hcG : colG cs' = g := by rw [hcs]; rfl
 rw [hcG]
 refine ⟨⟨by rw [hcs]; exact ⟨g, rfl⟩, hg, hl⟩, fun r hr => ⟨?_, zJZ hl, fun _ _ h => h⟩, fun b hb => ⟨?_, zJZ hl, fun _ _ h => h⟩⟩
 ·obtain ⟨w1, ⟨P', K, hc, hP, hS, hf⟩, w2, w3, w4, w5, w6, w7⟩ := hr
  refine ⟨⟨0, 0, r.q, r.c2, r.A, r.V, 0, 0, fun _ => 0⟩, ⟨.inl ⟨rfl, rfl, r.n, P', K, ⟨w1, hc, hP, w3⟩, w2, hf.len, fun j hj => (hf.cell j hj).2⟩, by dsimp only; omega, Nat.zero_le _, w5, Nat.le_refl _, Nat.zero_le _, fun j hj => absurd hj (Nat.not_lt_zero j)⟩, rfl, rfl, rfl, rfl, rfl, rfl, rfl, rfl, rfl, fun _ _ => rfl, rfl, rfl, fun _ _ => rfl, fun _ _ => rfl, trivial⟩
 ·refine ⟨⟨b.e, b.p, 0, 0, fun _ => 0, fun _ => 0, 0, 0, fun _ => 0⟩, ⟨.inr ⟨rfl, b, hb, rfl, rfl⟩, Nat.zero_le _, Nat.le_refl _, Nat.le_refl _, Nat.le_refl _, Nat.zero_le _, fun j hj => absurd hj (Nat.not_lt_zero j)⟩, rfl, rfl, rfl, rfl, rfl, rfl, rfl, rfl, rfl, fun _ _ => rfl, rfl, rfl, trivial⟩
structure StR where
 e : Int
 p : Int
 n : Nat
 c : Nat
 S : Nat -> Int
def zNd (R : StR -> Prop) : List Out :=
 [.any StR R (fun r n => .tuple [.sliceE true n 1 (.lit 0) (.var (StR.n r)) (.var (StR.c r)), .int .i64 (.var (StR.e r)), .int .i64 (.var (StR.p r))]) (fun r => [.row true true [zFT (StR.S r)] (.var (StR.c r))]) (fun _ => [])]
def stQ (g : Nat -> Int) (cap : Nat) (R : StR -> Prop) : SV -> List SObj -> Prop :=
 fun v hp => zFH (zNd R) fun o => o.some 1 fun val new _ => zA8 1 1 { tmps := [v], hp := hp } [(0, val)] ([rdRow g cap] ++ new)
structure HsSt where
 e : Int
 q : Nat
 c2 : Nat
 A : Nat -> Int
 V : Nat -> Int
 i : Nat
def zRd (k : Int) (a : HsSt) : List (Nat × SV) :=
 [(2, .int .u32 (.var k)), (11, .int .i64 (.var (HsSt.e a))), (23, .sliceE true 1 2 (.lit 0) (.var (HsSt.q a)) (.var (HsSt.c2 a))), (24, .int .i64 (.var (HsSt.q a))), (25, .int .i64 (.var (HsSt.i a)))]
def hsHp (g : Nat -> Int) (cap : Nat) (a : HsSt) : List SObj := [rdRow g cap, .row true true [zFT (HsSt.A a), zFT (HsSt.V a)] (.var (HsSt.c2 a))]
structure HsR where
 at' : Int
 has : Bool
 e : Int
def zOJ (R : HsR -> Prop) : List Out :=
 [.any HsR R (fun r _ => .tuple [.int .i64 (.var (HsR.at' r)), .bool (.var (HsR.has r)), .int .i64 (.var (HsR.e r))]) (fun _ => []) (fun _ => [])]
def hsQ (g : Nat -> Int) (cap : Nat) (R : HsR -> Prop) : SV -> List SObj -> Prop :=
 fun v hp => zFH (zOJ R) fun o => o.some 1 fun val new _ => zA8 1 1 { tmps := [v], hp := hp } [(0, val)] ([rdRow g cap] ++ new)
theorem zZ9 (t : Int) (g : Nat -> Int) (len cap : Nat) (R : StR -> Prop) : zH P NU (fun _ => 40) Tryz.f7 [.int .i64 (.var t), sA 0 len cap] [rdRow g cap] (stQ g cap R) =
  (BE.den (.ite (.var (decide (0 + cap <= cap))) (.var (decide (len <= cap))) (.lit false)) = true /\ ∀ (cs' : List Col), cs' = List.map Col.nrm (zY (NE.lit 0) [col8 g]) -> ((∃ (g : Nat -> Int), cs' = [Col.int .u8 fun e => IE.var (g e)]) /\ BGood (colG cs') len cap /\ Nat.le len 1073741824) /\ (∀ (b : WkR), zNK t (colG cs') len b -> ∃ b_1, R b_1 /\ WkR.n b = StR.n b_1 /\ WkR.c1 b = StR.c b_1 /\ 0 = StR.e b_1 /\ 0 = StR.p b_1 /\ cap = cap /\ (∀ (e : Nat), e < cap -> g e = g e) /\ WkR.c1 b = StR.c b_1 /\ (∀ (e : Nat), e < StR.c b_1 -> WkR.S b e = StR.S b_1 e) /\ True) /\ ∀ (b : WkE), zB6 t (colG cs') len b -> ∃ b_1, R b_1 /\ StR.n b_1 = 0 /\ StR.c b_1 = 0 /\ WkE.e b = StR.e b_1 /\ (↑(WkE.p b) : Int) = StR.p b_1 /\ cap = cap /\ (∀ (e : Nat), e < cap -> g e = g e) /\ StR.c b_1 = 0 /\ True) := by kernel_rfl
def zOK (k : Int) (g : Nat -> Int) (cap : Nat) (I : HsSt -> Prop) (M : HsSt -> Nat) (R : HsR -> Prop) : Prop :=
 (∀ (u : Nat -> Value) (a : HsSt), I a -> (BE.den (.cmp .lss (.var (↑(HsSt.i a) : Int)) (.var (↑(HsSt.q a) : Int))) = true -> BE.den (.ite (.var (decide (HsSt.q a <= HsSt.c2 a /\ 0 + HsSt.c2 a <= HsSt.c2 a))) (.var (decide (0 <= (↑(HsSt.i a) : Int) /\ (↑(HsSt.i a) : Int) < (↑(HsSt.q a) : Int)))) (.lit false)) = true /\ decide (0 + Int.toNat (↑(HsSt.i a) : Int) + 1 <= HsSt.c2 a) = true /\ (BE.den (.cmp .eql (.conv .u32 (.var (HsSt.V a (0 + Int.toNat (↑(HsSt.i a) : Int))))) (.var k)) = true -> ∃ b, R b /\ HsSt.A a (0 + Int.toNat (↑(HsSt.i a) : Int)) = HsR.at' b /\ BE.den (.lit true) = HsR.has b /\ 0 = HsR.e b /\ cap = cap /\ (∀ (e : Nat), e < cap -> g e = g e) /\ True) /\ (BE.den (.cmp .eql (.conv .u32 (.var (HsSt.V a (0 + Int.toNat (↑(HsSt.i a) : Int))))) (.var k)) = false -> ∃ a', I a' /\ Nat.le (Nat.succ (M a')) (M a) /\ k = k /\ HsSt.e a = HsSt.e a' /\ HsSt.q a = HsSt.q a' /\ HsSt.c2 a = HsSt.c2 a' /\ (↑(HsSt.q a) : Int) = (↑(HsSt.q a') : Int) /\ IE.den (.add .i64 (.var (↑(HsSt.i a) : Int)) (.lit 1)) = (↑(HsSt.i a') : Int) /\ cap = cap /\ (∀ (e : Nat), e < cap -> g e = g e) /\ HsSt.c2 a = HsSt.c2 a' /\ (∀ (e : Nat), e < HsSt.c2 a' -> HsSt.A a e = HsSt.A a' e) /\ (∀ (e : Nat), e < HsSt.c2 a' -> HsSt.V a e = HsSt.V a' e) /\ True)) /\ (BE.den (.cmp .lss (.var (↑(HsSt.i a) : Int)) (.var (↑(HsSt.q a) : Int))) = false -> ∃ b, R b /\ 0 = HsR.at' b /\ BE.den (.lit false) = HsR.has b /\ HsSt.e a = HsR.e b /\ cap = cap /\ (∀ (e : Nat), e < cap -> g e = g e) /\ True))
theorem zay (t k : Int) (g : Nat -> Int) (len cap : Nat) (I : HsSt -> Prop) (M : HsSt -> Nat) (R : HsR -> Prop) : zH P NU (fun _ => annS HsSt (zRd k) (hsHp g cap) I M) Tryz.f9 [.int .i64 (.var t), sA 0 len cap, .int .u32 (.var k)] [rdRow g cap] (hsQ g cap R) =
  (BE.den (.ite (.var (decide (0 + cap <= cap))) (.var (decide (len <= cap))) (.lit false)) = true /\ ∀ (cs' : List Col), cs' = List.map Col.nrm (zY (NE.lit 0) [col8 g]) -> ((∃ (g : Nat -> Int), cs' = [Col.int .u8 fun e => IE.var (g e)]) /\ BGood (colG cs') len cap /\ Nat.le len 1073741824) /\ (∀ (b : WkR), zNK t (colG cs') len b -> (∃ a, I a /\ k = k /\ 0 = HsSt.e a /\ WkR.q b = HsSt.q a /\ WkR.c2 b = HsSt.c2 a /\ (↑(WkR.q b) : Int) = (↑(HsSt.q a) : Int) /\ 0 = (↑(HsSt.i a) : Int) /\ cap = cap /\ (∀ (e : Nat), e < cap -> g e = g e) /\ WkR.c2 b = HsSt.c2 a /\ (∀ (e : Nat), e < HsSt.c2 a -> WkR.A b e = HsSt.A a e) /\ (∀ (e : Nat), e < HsSt.c2 a -> WkR.V b e = HsSt.V a e) /\ True) /\ zOK k g cap I M R /\ ∀ (u : Nat -> Value) (b : Unit), False -> False) /\ ∀ (b : WkE), zB6 t (colG cs') len b -> (∃ a, I a /\ k = k /\ WkE.e b = HsSt.e a /\ HsSt.q a = 0 /\ HsSt.c2 a = 0 /\ 0 = (↑(HsSt.q a) : Int) /\ 0 = (↑(HsSt.i a) : Int) /\ cap = cap /\ (∀ (e : Nat), e < cap -> g e = g e) /\ HsSt.c2 a = 0 /\ True) /\ zOK k g cap I M R /\ ∀ (u : Nat -> Value) (b : Unit), False -> False) := by kernel_rfl
structure StO (t : Int) (g : Nat -> Int) (len : Nat) (r : StR) : Prop where
 all : (r.e = 0 /\ r.p = 0 /\ ∃ (P : Nat -> Nat) (K : Nat -> Option Int), zCK t g len r.n P K /\ ∀ i, i < r.n -> r.S i = P i) ∨
  (r.n = 0 /\ ∃ b : WkE, zB6 t g len b /\ r.e = b.e /\ r.p = (b.p : Int))
 h1 : r.n <= r.c
 k1 : r.c <= 9223372036854775807
def zFD : Ins -> List SV -> List Out := fun ins pl => match ins, pl with
 | [(cs, len, _)], [.int .i64 t] => zNd (StO t.den (colG cs) len)
 | _, _ => []
theorem zMc (R : StR -> Prop) : ∀ o ∈ zNd R, o.good := by
 intro o ho
 unfold zNd at ho
 simp only [List.mem_cons, List.not_mem_nil, or_false] at ho
 rcases ho with rfl
 intro c
 refine ⟨⟨fun n m ν ν' h => ?_, fun n p h => ?_⟩, rfl, trivial⟩
 ·have h0 := h 0 (by simp)
  simp only [Nat.add_zero] at h0
  simp [SV.den, SV.denL, h0]
 ·exact ⟨h 0 (by simp), trivial, trivial, trivial⟩
theorem zQD {f : FuncId} {s : zl} (hs : zZ P f s)
  (h : ∀ (t : Int) (g : Nat -> Int) (len cap : Nat), BGood g len cap -> len <= 1073741824 -> s [.int .i64 (.var t), sA 0 len cap] [rdRow g cap] (stQ g cap (StO t g len))) :
  zZ P f (zAK [.plain, .rows 1 zz1] zEu zFD) := by
 refine zH5 hs (fun sz zs h => by simp at h; obtain ⟨rfl, rfl⟩ := h; rfl) ?_ ?_
 ·intro ins pl o ho
  unfold zFD at ho
  split at ho
  ·exact zMc _ o ho
  ·simp at ho
 ·intro ins pl u hi hw hp
  obtain ⟨g, len, cap, t, rfl, rfl, h1, h2⟩ := zHK hp
  exact h t.den g len cap h1 h2
set_option maxRecDepth 100000 in
theorem zQC : zZ P 7 (zAK [.plain, .rows 1 zz1] zEu zFD) := by
 have hs := zN (un := fun _ => 40) zXC Tryz.func7
 refine zQD hs ?_
 intro t g len cap hg hl
 rw [zZ9]
 refine ⟨ask2 hg.room, fun cs' hcs => ?_⟩
 have hcG : colG cs' = g := by rw [hcs]; rfl
 rw [hcG]
 refine ⟨⟨by rw [hcs]; exact ⟨g, rfl⟩, hg, hl⟩, fun r hr => ?_, fun b hb => ?_⟩
 ·obtain ⟨w1, ⟨P', K, hc, hP, hS, hf⟩, w2, w3, w4, w5, w6, w7⟩ := hr
  exact ⟨⟨0, 0, r.n, r.c1, r.S⟩, ⟨.inl ⟨rfl, rfl, P', K, ⟨w1, hc, hP, w3⟩, hS⟩, w4, w6⟩, rfl, rfl, rfl, rfl, rfl, fun _ _ => rfl, rfl, fun _ _ => rfl, trivial⟩
 ·exact ⟨⟨b.e, b.p, 0, 0, fun _ => 0⟩, ⟨.inr ⟨rfl, b, hb, rfl, rfl⟩, Nat.le_refl _, Nat.zero_le _⟩, rfl, rfl, rfl, rfl, rfl, fun _ _ => rfl, rfl, trivial⟩
def low (v : Int) : Int := IntKind.u32.wrap v
structure HsO (t : Int) (g : Nat -> Int) (len : Nat) (k : Int) (r : HsR) : Prop where
 all : (r.e = 0 /\ ∃ (n : Nat) (P : Nat -> Nat) (K : Nat -> Option Int), zCK t g len n P K /\
   ((r.has = true /\ ∃ j, j < (fnd P K n).length /\ r.at' = ((fnd P K n).getD j (0, 0)).1 /\ low ((fnd P K n).getD j (0, 0)).2 = k /\ ∀ i, i < j -> low ((fnd P K n).getD i (0, 0)).2 ≠ k) ∨
    (r.has = false /\ r.at' = 0 /\ ∀ i, i < (fnd P K n).length -> low ((fnd P K n).getD i (0, 0)).2 ≠ k))) ∨
  (r.has = false /\ r.at' = 0 /\ ∃ b : WkE, zB6 t g len b /\ r.e = b.e)
def zPW : Ins -> List SV -> Prop := fun ins pl => match ins, pl with
 | [(cs, len, cap)], [.int .i64 _, .int .u32 _] => (∃ g : Nat -> Int, cs = [.int .u8 fun e => .var (g e)]) /\ BGood (colG cs) len cap /\ Nat.le len 1073741824
 | _, _ => False
theorem zTc {ins : Ins} {pl : List SV} (h : zPW ins pl) : ∃ (g : Nat -> Int) (len cap : Nat) (t k : IE), ins = [([.int .u8 fun e => .var (g e)], len, cap)] /\ pl = [.int .i64 t, .int .u32 k] /\ BGood g len cap /\ len <= 1073741824 := by
 unfold zPW at h
 split at h
 ·obtain ⟨⟨g, rfl⟩, h2, h3⟩ := h
  exact ⟨g, _, _, _, _, rfl, rfl, h2, h3⟩
 ·exact h.elim
def zFQ : Ins -> List SV -> List Out := fun ins pl => match ins, pl with
 | [(cs, len, _)], [.int .i64 t, .int .u32 k] => zOJ (HsO t.den (colG cs) len k.den)
 | _, _ => []
theorem zM8 (R : HsR -> Prop) : ∀ o ∈ zOJ R, o.good := by
 intro o ho
 unfold zOJ at ho
 simp only [List.mem_cons, List.not_mem_nil, or_false] at ho
 rcases ho with rfl
 intro c
 exact ⟨⟨fun n m ν ν' h => rfl, fun n p h => ⟨trivial, trivial, trivial, trivial⟩⟩, rfl, trivial⟩
theorem zRc {f : FuncId} {s : zl} (hs : zZ P f s)
  (h : ∀ (t k : Int) (g : Nat -> Int) (len cap : Nat), BGood g len cap -> len <= 1073741824 -> s [.int .i64 (.var t), sA 0 len cap, .int .u32 (.var k)] [rdRow g cap] (hsQ g cap (HsO t g len k))) :
  zZ P f (zAK [.plain, .rows 1 zz1, .plain] zPW zFQ) := by
 refine zH5 hs (fun sz zs h => by simp at h; obtain ⟨rfl, rfl⟩ := h; rfl) ?_ ?_
 ·intro ins pl o ho
  unfold zFQ at ho
  split at ho
  ·exact zM8 _ o ho
  ·simp at ho
 ·intro ins pl u hi hw hp
  obtain ⟨g, len, cap, t, k, rfl, rfl, h1, h2⟩ := zTc hp
  exact h t.den k.den g len cap h1 h2
structure zZ1 (t : Int) (g : Nat -> Int) (len : Nat) (k : Int) (a : HsSt) : Prop where
 all : (a.e = 0 /\ ∃ (n : Nat) (P : Nat -> Nat) (K : Nat -> Option Int), zCK t g len n P K /\ zK5 a.q a.A a.V (fnd P K n)) ∨ (a.q = 0 /\ ∃ b : WkE, zB6 t g len b /\ a.e = b.e)
 small : a.q <= 1073741824
 iq : a.i <= a.q
 qc : a.q <= a.c2
 no : ∀ j, j < a.i -> low (a.V j) ≠ k
theorem zJh {t k : Int} {g : Nat -> Int} {len cap : Nat} : zOK k g cap (zZ1 t g len k) (fun a => a.q - a.i) (HsO t g len k) := by
 unfold zOK
 rintro _ ⟨e, q, c2, A, V, i⟩ hi
 obtain ⟨i1, i2, i3, i4, i5⟩ := hi
 dsimp only at i1 i2 i3 i4 i5 ⊢
 have hkt : 0 + Int.toNat (i : Int) = i := by simp
 refine ⟨fun hlt => ?_, fun hge => ?_⟩
 ·have hlt : (i : Int) < (q : Int) := by simpa [BE.den, IE.den, zQ] using hlt
  have hk : i < q := by omega
  rw [hkt]
  refine ⟨zAl (by simp; omega) (by simp; omega), decide_eq_true (by omega), fun he => ?_, fun he => ?_⟩
  ·have he : low (V i) = k := by simpa [BE.den, IE.den, za, low] using he
   rcases i1 with ⟨j1, n, P', K, j2, j3⟩ | ⟨j1, _⟩
   ·refine ⟨⟨A i, true, 0⟩, ⟨.inl ⟨rfl, n, P', K, j2, .inl ⟨rfl, i, by have := j3.len; omega, (j3.cell i hk).1, by rw [<- (j3.cell i hk).2]; exact he, fun j hj => ?_⟩⟩⟩, rfl, rfl, rfl, rfl, fun _ _ => rfl, trivial⟩
    rw [<- (j3.cell j (by omega)).2]; exact i5 j hj
   ·omega
  ·have he : low (V i) ≠ k := by simpa [BE.den, IE.den, za, low] using he
   refine ⟨⟨e, q, c2, A, V, i + 1⟩, ⟨i1, i2, hk, i4, fun j hj => ?_⟩, ?_, rfl, rfl, rfl, rfl, rfl, ?_, rfl, fun _ _ => rfl, rfl, fun _ _ => rfl, fun _ _ => rfl, trivial⟩
   ·have hj : j < i + 1 := hj
    by_cases h : j < i
    ·exact i5 j h
    ·obtain rfl : j = i := by omega
     exact he
   ·show q - (i + 1) < q - i
    omega
   ·show IntKind.i64.wrap ((i : Int) + 1) = ((i + 1 : Nat) : Int)
    rw [zE (by omega) (by omega)]; omega
 ·have hge : ¬ (i : Int) < (q : Int) := by simpa [BE.den, IE.den, zQ] using hge
  obtain rfl : i = q := by omega
  refine ⟨⟨0, false, e⟩, ⟨?_⟩, rfl, rfl, rfl, rfl, fun _ _ => rfl, trivial⟩
  rcases i1 with ⟨j1, n, P', K, j2, j3⟩ | ⟨j1, b, j2, j3⟩
  ·refine .inl ⟨j1, n, P', K, j2, .inr ⟨rfl, rfl, fun j hj => ?_⟩⟩
   have := j3.len
   rw [<- (j3.cell j (by omega)).2]; exact i5 j (by omega)
  ·exact .inr ⟨rfl, rfl, b, j2, j3⟩
set_option maxRecDepth 100000 in
theorem zYu : zZ P 9 (zAK [.plain, .rows 1 zz1, .plain] zPW zFQ) := by
 have hs := zDi fun un => zN (un := un) zXC Tryz.func9
 refine zRc hs ?_
 intro t k g len cap hg hl
 refine ⟨fun _ => annS HsSt (zRd k) (hsHp g cap) (zZ1 t g len k) (fun a => a.q - a.i), ?_⟩
 rw [zay]
 refine ⟨ask2 hg.room, fun cs' hcs => ?_⟩
 have hcG : colG cs' = g := by rw [hcs]; rfl
 rw [hcG]
 refine ⟨⟨by rw [hcs]; exact ⟨g, rfl⟩, hg, hl⟩, fun r hr => ⟨?_, zJh, fun _ _ h => h⟩, fun b hb => ⟨?_, zJh, fun _ _ h => h⟩⟩
 ·obtain ⟨w1, ⟨P', K, hc, hP, hS, hf⟩, w2, w3, w4, w5, w6, w7⟩ := hr
  exact ⟨⟨0, r.q, r.c2, r.A, r.V, 0⟩, ⟨.inl ⟨rfl, r.n, P', K, ⟨w1, hc, hP, w3⟩, hf⟩, by dsimp only; omega, Nat.zero_le _, w5, fun j hj => absurd hj (Nat.not_lt_zero j)⟩, rfl, rfl, rfl, rfl, rfl, rfl, rfl, fun _ _ => rfl, rfl, fun _ _ => rfl, fun _ _ => rfl, trivial⟩
 ·exact ⟨⟨b.e, 0, 0, fun _ => 0, fun _ => 0, 0⟩, ⟨.inr ⟨rfl, b, hb, rfl⟩, Nat.zero_le _, Nat.le_refl _, Nat.le_refl _, fun j hj => absurd hj (Nat.not_lt_zero j)⟩, rfl, rfl, rfl, rfl, rfl, rfl, rfl, fun _ _ => rfl, rfl, trivial⟩
noncomputable def G0 : FuncId -> Option Cal := inl P (fun _ _ => .plain 60) (fun _ => none) 12
theorem zXE : zO P G0 := zAh Sx.none_ok 12
theorem zPV (Q : SV -> Prop) : zH P G0 (fun _ => .plain 60) Tryz.f4 [] [] (fun v _ => Q v) = Q (.bool (.lit true)) := by kernel_rfl
theorem zPU : zAr P 4 livF := by
 have hs := zN (un := fun _ => .plain 60) zXE Tryz.func4
 refine zBO hs ?_
 intro args p v hF hp
 unfold livF at hF
 split at hF
 ·simp only [Option.some.injEq, Prod.mk.injEq] at hF
  obtain ⟨rfl, rfl⟩ := hF
  refine ⟨[], rfl, trivial, trivial, trivial, ?_⟩
  rw [zPV]
  simp [SV.den, BE.den]
 ·simp at hF
end Go.Proofs.YtajcmjjgnbaahaaGreat.Amd
