/- The document's numbers, places and search: their contracts, which are those of scan's. -/
import Derived.Test.YtajcmjjgnbaahaaGreatTq3
set_option linter.unusedVariables false
set_option linter.unusedSimpArgs false
namespace Go.Proofs.YtajcmjjgnbaahaaGreat.Amd
open Go Go.Proofs.YtajcmjjgnbaahaaGreat.Sx Go.RowKit
theorem zU2 {l : List (Int × Int)} {q : Nat} {O : Nat -> Int} (hq : q = l.length) (h : ∀ j, j < q -> O j = (l.getD j (0, 0)).2) (p v : Int) (U : Unk) :
  q + 1 = (l ++ [(p, v)]).length /\ ∀ j, j < q + 1 -> newT 0 q O v U j = ((l ++ [(p, v)]).getD j (0, 0)).2 := by
 refine ⟨by simp [hq], fun j hj => ?_⟩
 rw [List.getD_eq_getElem?_getD]
 by_cases hjq : j < q
 ·rw [zA3 hjq, List.getElem?_append_left (by omega)]
  have := h j hjq
  rw [List.getD_eq_getElem?_getD] at this
  exact this
 ·obtain rfl : j = q := by omega
  rw [zA4 rfl, List.getElem?_append_right (by omega), show j - l.length = 0 by omega]; rfl
theorem zLg {p : Nat} {h : Bool} {v : Int} (hh : h = true) : oneN p (hasN h v) = [((p : Int), v)] := by subst hh; rfl
theorem zQq {p : Nat} {h : Bool} {v : Int} (hh : h = false) : oneN p (hasN h v) = [] := by subst hh; rfl
theorem zL5 {P : Nat -> Nat} {K : Nat -> Option Int} {i : Nat} : ∀ {n : Nat}, i < n -> ∃ r, fnd P K n = fnd P K i ++ (oneN (P i) (K i) ++ r)
 | n + 1, h => by
  by_cases hi : i = n
  ·subst hi; exact ⟨[], by rw [List.append_nil]; rfl⟩
  ·obtain ⟨r, hr⟩ := zL5 (P := P) (K := K) (i := i) (n := n) (by omega)
   exact ⟨r ++ oneN (P n) (K n), by rw [fnd, hr, List.append_assoc, List.append_assoc]⟩
theorem zRn {P : Nat -> Nat} {K : Nat -> Option Int} {x : Int × Int} : ∀ {n : Nat}, x ∈ fnd P K n -> ∃ m, m < n /\ K m = some x.2 /\ x.1 = P m
 | n + 1, h => by
  rcases List.mem_append.1 h with h | h
  ·obtain ⟨m, h1, h2⟩ := zRn h
   exact ⟨m, by omega, h2⟩
  ·cases hk : K n with
   | none => rw [hk] at h; cases h
   | some v =>
    rw [hk] at h
    have := List.mem_singleton.1 h
    subst this
    exact ⟨n, by omega, hk, rfl⟩
theorem zTi {l : List (Int × Int)} {j : Nat} (h : j < l.length) : l.getD j (0, 0) ∈ l := by
 rw [List.getD_eq_getElem?_getD, List.getElem?_eq_getElem h]
 exact List.getElem_mem h
theorem zQj {i : Nat} (h : i <= 1073741824) : IE.den (IE.add IntKind.i64 (IE.var (i : Int)) (IE.lit 1)) = ((i + 1 : Nat) : Int) := by
 show IntKind.i64.wrap ((i : Int) + 1) = ((i + 1 : Nat) : Int)
 rw [zE (by omega) (by omega)]; omega
structure zZy (t : Int) (g : Nat -> Int) (len : Nat) (a : RnSt) : Prop where
 all : (a.e = 0 /\ a.p = 0 /\ ∃ (P : Nat -> Nat) (K : Nat -> Option Int), zCK t g len a.n P K /\ (∀ j, j < a.n -> a.A j = P j /\ K j = hasN (a.H j) (a.V j)) /\ a.q = (fnd P K a.i).length /\ ∀ j, j < a.q -> a.O j = ((fnd P K a.i).getD j (0, 0)).2) ∨
  (a.n = 0 /\ a.q = 0 /\ ∃ b : WkE, zB6 t g len b /\ a.e = b.e /\ a.p = (b.p : Int))
 small : a.n <= 1073741824
 le : a.i <= a.n
 nc : a.n <= a.c
 qi : a.q <= a.i
 qc : a.q <= a.c3
 c3 : a.c3 <= 9223372036854775807
theorem zJN {t : Int} {g : Nat -> Int} {len cap : Nat} : zNm g cap (zZy t g len) (fun a => a.n - a.i) (NumO t g len) := by
 unfold zNm
 rintro _ ⟨e, p, n, c, A, V, H, q, c3, O, i⟩ hi
 obtain ⟨i1, i2, i3, i4, i5, i6, i7⟩ := hi
 dsimp only at i1 i2 i3 i4 i5 i6 i7 ⊢
 have hkt : 0 + Int.toNat (i : Int) = i := by simp
 refine ⟨fun hlt => ?_, fun hge => ?_⟩
 ·have hlt : (i : Int) < (n : Int) := by simpa [BE.den, IE.den, zQ] using hlt
  have hk : i < n := by omega
  rw [hkt]
  have q1 : BE.den (BE.ite (BE.var (decide (n <= c /\ 0 + c <= c))) (BE.var (decide (0 <= (i : Int) /\ (i : Int) < (n : Int)))) (BE.lit false)) = true := zAl (by simp; omega) (by simp; omega)
  have q2 : decide (i + 1 <= c) = true := decide_eq_true (by omega)
  refine ⟨q1, q2, fun hH => ⟨q1, q2, decide_eq_true (by omega), decide_eq_true (Nat.le_refl _), decide_eq_true i7, ?_, fun U cap1 h1 h1' => ?_⟩, fun hH => ?_⟩
  ·show (q + (0 + 1)) * 8 <= 140737488355328
   omega
  ·have h1 : q + (0 + 1) <= cap1 := h1
   refine ⟨⟨e, p, n, c, A, V, H, q + 1, cap1, newT 0 q O (V i) U, i + 1⟩, ⟨?_, i2, hk, i4, by dsimp only; omega, h1, h1'⟩, ?_, rfl, rfl, rfl, rfl, rfl, rfl, ?_, rfl, fun _ _ => rfl, rfl, fun _ _ => rfl, fun _ _ => rfl, fun _ _ => rfl, rfl, ?_, trivial⟩
   ·rcases i1 with ⟨j1, j2, P', K, j3, j4, j5, j6⟩ | ⟨j1, _⟩
    ·left
     have he : fnd P' K (i + 1) = fnd P' K i ++ [((P' i : Int), V i)] := by rw [fnd, (j4 i hk).2, zLg hH]
     obtain ⟨a1, a2⟩ := zU2 j5 j6 (P' i : Int) (V i) U
     exact ⟨j1, j2, P', K, j3, j4, by rw [he]; exact a1, by rw [he]; exact a2⟩
    ·omega
   ·show n - (i + 1) < n - i
    omega
   ·exact zQj (by omega)
   ·exact fun j _ => zAw (x := newT 0 q O (V i) U j) (fun h => by rw [zA3 h]; rfl) (fun h => by rw [zA4 h]; subst h; rw [Nat.sub_self]; rfl) (fun h => by rw [zDq h]; rfl)
  ·refine ⟨⟨e, p, n, c, A, V, H, q, c3, O, i + 1⟩, ⟨?_, i2, hk, i4, by dsimp only; omega, i6, i7⟩, ?_, rfl, rfl, rfl, rfl, rfl, rfl, ?_, rfl, fun _ _ => rfl, rfl, fun _ _ => rfl, fun _ _ => rfl, fun _ _ => rfl, rfl, fun _ _ => rfl, trivial⟩
   ·rcases i1 with ⟨j1, j2, P', K, j3, j4, j5, j6⟩ | ⟨j1, _⟩
    ·left
     have he : fnd P' K (i + 1) = fnd P' K i := by rw [fnd, (j4 i hk).2, zQq hH, List.append_nil]
     exact ⟨j1, j2, P', K, j3, j4, by rw [he]; exact j5, by rw [he]; exact j6⟩
    ·omega
   ·show n - (i + 1) < n - i
    omega
   ·exact zQj (by omega)
 ·have hge : ¬ (i : Int) < (n : Int) := by simpa [BE.den, IE.den, zQ] using hge
  obtain rfl : i = n := by omega
  refine ⟨⟨e, p, q, c3, O⟩, ⟨?_, i6, i7⟩, rfl, rfl, rfl, rfl, rfl, fun _ _ => rfl, rfl, fun _ _ => rfl, trivial⟩
  rcases i1 with ⟨j1, j2, P', K, j3, j4, j5, j6⟩ | ⟨j1, j2, j3⟩
  ·exact .inl ⟨j1, j2, i, P', K, j3, i5, j5, j6⟩
  ·exact .inr ⟨j2, j3⟩
theorem zKL {t : Int} {g : Nat -> Int} {len : Nat} {r : RqR} (h : RqO t g len r) : ∃ (P : Nat -> Nat) (K : Nat -> Option Int), zCK t g len r.n P K /\ ∀ j, j < r.n -> r.A j = P j /\ K j = hasN (r.H j) (r.V j) := by
 obtain ⟨w1, ⟨P', K, hc, hP, hS⟩, w3, _, _⟩ := h
 exact ⟨P', K, ⟨w1, hc, hP, w3⟩, hS⟩
set_option maxRecDepth 100000 in
theorem zMm : zZ P 6 (zAK [.plain, .rows 1 zz1] zEu zFK) := by
 have hs := zDi fun un => zN (un := un) zXB Tryz.func6
 refine zQx hs ?_
 intro t g len cap hg hl
 refine ⟨fun _ => annS RnSt zKO (rnHp g cap) (zZy t g len) (fun a => a.n - a.i), ?_⟩
 rw [zaH]
 refine ⟨ask2 hg.room, fun cs' hcs => ?_⟩
 have hcG : colG cs' = g := by rw [hcs]; rfl
 rw [hcG]
 refine ⟨⟨by rw [hcs]; exact ⟨g, rfl⟩, hg, hl⟩, fun r hr => ⟨?_, zJN, fun _ _ h => h⟩, fun b hb => ⟨?_, zJN, fun _ _ h => h⟩⟩
 ·obtain ⟨P', K, hw, hS⟩ := zKL hr
  have hn := hr.nl
  exact ⟨⟨0, 0, r.n, r.c, r.A, r.V, r.H, 0, 0, fun _ => 0, 0⟩, ⟨.inl ⟨rfl, rfl, P', K, hw, hS, rfl, fun j hj => absurd hj (Nat.not_lt_zero j)⟩, by dsimp only; omega, Nat.zero_le _, hr.h1, Nat.le_refl _, Nat.le_refl _, Nat.zero_le _⟩, rfl, rfl, rfl, rfl, rfl, rfl, rfl, rfl, fun _ _ => rfl, rfl, fun _ _ => rfl, fun _ _ => rfl, fun _ _ => rfl, rfl, trivial⟩
 ·exact ⟨⟨b.e, b.p, 0, 0, fun _ => 0, fun _ => 0, fun _ => false, 0, 0, fun _ => 0, 0⟩, ⟨.inr ⟨rfl, rfl, b, hb, rfl, rfl⟩, Nat.zero_le _, Nat.le_refl _, Nat.le_refl _, Nat.le_refl _, Nat.le_refl _, Nat.zero_le _⟩, rfl, rfl, rfl, rfl, rfl, rfl, rfl, rfl, fun _ _ => rfl, rfl, rfl, trivial⟩
structure zZx (t : Int) (g : Nat -> Int) (len : Nat) (a : RnSt) : Prop where
 all : (a.e = 0 /\ a.p = 0 /\ ∃ (P : Nat -> Nat) (K : Nat -> Option Int), zCK t g len a.n P K /\ ∀ j, j < a.n -> a.A j = P j) ∨
  (a.n = 0 /\ ∃ b : WkE, zB6 t g len b /\ a.e = b.e /\ a.p = (b.p : Int))
 small : a.n <= 1073741824
 le : a.i <= a.n
 nc : a.n <= a.c
 qi : a.q = a.i
 qc : a.q <= a.c3
 c3 : a.c3 <= 9223372036854775807
 same : ∀ j, j < a.i -> a.O j = a.A j
theorem zJM {t : Int} {g : Nat -> Int} {len cap : Nat} : zNh g cap (zZx t g len) (fun a => a.n - a.i) (StO t g len) := by
 unfold zNh
 rintro _ ⟨e, p, n, c, A, V, H, q, c3, O, i⟩ hi
 obtain ⟨i1, i2, i3, i4, i5, i6, i7, i8⟩ := hi
 dsimp only at i1 i2 i3 i4 i5 i6 i7 i8 ⊢
 subst i5
 have hkt : 0 + Int.toNat (q : Int) = q := by simp
 refine ⟨fun hlt => ?_, fun hge => ?_⟩
 ·have hlt : (q : Int) < (n : Int) := by simpa [BE.den, IE.den, zQ] using hlt
  have hk : q < n := by omega
  rw [hkt]
  have q1 : BE.den (BE.ite (BE.var (decide (n <= c /\ 0 + c <= c))) (BE.var (decide (0 <= (q : Int) /\ (q : Int) < (n : Int)))) (BE.lit false)) = true := zAl (by simp; omega) (by simp; omega)
  refine ⟨q1, decide_eq_true (by omega), decide_eq_true (by omega), decide_eq_true (Nat.le_refl _), decide_eq_true i7, ?_, fun U cap1 h1 h1' => ?_⟩
  ·show (q + (0 + 1)) * 8 <= 140737488355328
   omega
  have h1 : q + (0 + 1) <= cap1 := h1
  refine ⟨⟨e, p, n, c, A, V, H, q + 1, cap1, newT 0 q O (A q) U, q + 1⟩, ⟨i1, i2, hk, i4, rfl, h1, h1', fun j hj => ?_⟩, ?_, rfl, rfl, rfl, rfl, rfl, rfl, ?_, rfl, fun _ _ => rfl, rfl, fun _ _ => rfl, fun _ _ => rfl, fun _ _ => rfl, rfl, ?_, trivial⟩
  ·have hj : j < q + 1 := hj
   show newT 0 q O (A q) U j = A j
   by_cases h : j < q
   ·rw [zA3 h]; exact i8 j h
   ·obtain rfl : j = q := by omega
    exact zA4 rfl
  ·show n - (q + 1) < n - q
   omega
  ·exact zQj (by omega)
  ·exact fun j _ => zAw (x := newT 0 q O (A q) U j) (fun h => by rw [zA3 h]; rfl) (fun h => by rw [zA4 h]; subst h; rw [Nat.sub_self]; rfl) (fun h => by rw [zDq h]; rfl)
 ·have hge : ¬ (q : Int) < (n : Int) := by simpa [BE.den, IE.den, zQ] using hge
  obtain rfl : q = n := by omega
  refine ⟨⟨e, p, q, c3, O⟩, ⟨?_, i6, i7⟩, rfl, rfl, rfl, rfl, rfl, fun _ _ => rfl, rfl, fun _ _ => rfl, trivial⟩
  rcases i1 with ⟨j1, j2, P', K, j3, j4⟩ | ⟨j1, j3⟩
  ·exact .inl ⟨j1, j2, P', K, j3, fun j hj => (i8 j hj).trans (j4 j hj)⟩
  ·exact .inr ⟨j1, j3⟩
set_option maxRecDepth 100000 in
theorem zO5 : zZ P 8 (zAK [.plain, .rows 1 zz1] zEu zFD) := by
 have hs := zDi fun un => zN (un := un) zXB Tryz.func8
 refine zQD hs ?_
 intro t g len cap hg hl
 refine ⟨fun _ => annS RnSt zKO (rnHp g cap) (zZx t g len) (fun a => a.n - a.i), ?_⟩
 rw [zaE]
 refine ⟨ask2 hg.room, fun cs' hcs => ?_⟩
 have hcG : colG cs' = g := by rw [hcs]; rfl
 rw [hcG]
 refine ⟨⟨by rw [hcs]; exact ⟨g, rfl⟩, hg, hl⟩, fun r hr => ⟨?_, zJM, fun _ _ h => h⟩, fun b hb => ⟨?_, zJM, fun _ _ h => h⟩⟩
 ·obtain ⟨P', K, hw, hS⟩ := zKL hr
  have hn := hr.nl
  exact ⟨⟨0, 0, r.n, r.c, r.A, r.V, r.H, 0, 0, fun _ => 0, 0⟩, ⟨.inl ⟨rfl, rfl, P', K, hw, fun j hj => (hS j hj).1⟩, by dsimp only; omega, Nat.zero_le _, hr.h1, rfl, Nat.le_refl _, Nat.zero_le _, fun j hj => absurd hj (Nat.not_lt_zero j)⟩, rfl, rfl, rfl, rfl, rfl, rfl, rfl, rfl, fun _ _ => rfl, rfl, fun _ _ => rfl, fun _ _ => rfl, fun _ _ => rfl, rfl, trivial⟩
 ·exact ⟨⟨b.e, b.p, 0, 0, fun _ => 0, fun _ => 0, fun _ => false, 0, 0, fun _ => 0, 0⟩, ⟨.inr ⟨rfl, b, hb, rfl, rfl⟩, Nat.zero_le _, Nat.le_refl _, Nat.le_refl _, rfl, Nat.le_refl _, Nat.zero_le _, fun j hj => absurd hj (Nat.not_lt_zero j)⟩, rfl, rfl, rfl, rfl, rfl, rfl, rfl, rfl, fun _ _ => rfl, rfl, rfl, trivial⟩
theorem zOC (v : Int) : (lowE v).den = low v := by
 have e : (4294967295 : Int) = 2 ^ 32 - 1 := by decide
 unfold lowE low
 simp only [IE.den]
 rw [e, zBe, zDB _ 32 (by decide) (by omega) (by omega), zEa, zEa]
 omega
structure zXD (t : Int) (g : Nat -> Int) (len : Nat) (k : Int) (a : HqSt) : Prop where
 all : (a.e = 0 /\ ∃ (P : Nat -> Nat) (K : Nat -> Option Int), zCK t g len a.n P K /\ ∀ j, j < a.n -> a.A j = P j /\ K j = hasN (a.H j) (a.V j)) ∨ (a.n = 0 /\ ∃ b : WkE, zB6 t g len b /\ a.e = b.e)
 small : a.n <= 1073741824
 le : a.i <= a.n
 nc : a.n <= a.c
 no : ∀ j, j < a.i -> a.H j = true -> low (a.V j) ≠ k
theorem zN3 {P : Nat -> Nat} {K : Nat -> Option Int} {A V : Nat -> Int} {H : Nat -> Bool} {k : Int} {i n : Nat} (hin : i <= n) (h : ∀ j, j < n -> A j = P j /\ K j = hasN (H j) (V j)) (no : ∀ j, j < i -> H j = true -> low (V j) ≠ k) {j : Nat} (hj : j < (fnd P K i).length) : low ((fnd P K i).getD j (0, 0)).2 ≠ k := by
 obtain ⟨m, h1, h2, h3⟩ := zRn (zTi hj)
 have h4 := (h m (by omega)).2
 rw [h4] at h2
 cases hb : H m with
 | false => rw [hb] at h2; simp [hasN] at h2
 | true =>
  rw [hb] at h2
  have : V m = ((fnd P K i).getD j (0, 0)).2 := by simpa [hasN] using h2
  rw [<- this]; exact no m h1 hb
theorem zJO {t k : Int} {g : Nat -> Int} {len cap : Nat} : zNn k g cap (zXD t g len k) (fun a => a.n - a.i) (HsO t g len k) := by
 unfold zNn
 rintro _ ⟨e, n, c, A, V, H, i⟩ hi
 obtain ⟨i1, i2, i3, i4, i5⟩ := hi
 dsimp only at i1 i2 i3 i4 i5 ⊢
 have hkt : 0 + Int.toNat (i : Int) = i := by simp
 refine ⟨fun hlt => ?_, fun hge => ?_⟩
 ·have hlt : (i : Int) < (n : Int) := by simpa [BE.den, IE.den, zQ] using hlt
  have hk : i < n := by omega
  rw [hkt]
  have q1 : BE.den (BE.ite (BE.var (decide (n <= c /\ 0 + c <= c))) (BE.var (decide (0 <= (i : Int) /\ (i : Int) < (n : Int)))) (BE.lit false)) = true := zAl (by simp; omega) (by simp; omega)
  have q2 : decide (i + 1 <= c) = true := decide_eq_true (by omega)
  have next : (H i = true -> low (V i) ≠ k) -> ∃ a', zXD t g len k a' /\ Nat.le (Nat.succ (a'.n - a'.i)) (n - i) /\ k = k /\ n = HqSt.n a' /\ c = HqSt.c a' /\ e = HqSt.e a' /\ IE.den (IE.add IntKind.i64 (IE.var (i : Int)) (IE.lit 1)) = (↑(HqSt.i a') : Int) /\ cap = cap /\ (∀ (e : Nat), e < cap -> g e = g e) /\ c = HqSt.c a' /\ (∀ (e : Nat), e < HqSt.c a' -> A e = HqSt.A a' e) /\ (∀ (e : Nat), e < HqSt.c a' -> V e = HqSt.V a' e) /\ (∀ (e : Nat), e < HqSt.c a' -> H e = HqSt.H a' e) /\ True := fun hn => by
   refine ⟨⟨e, n, c, A, V, H, i + 1⟩, ⟨i1, i2, hk, i4, fun j hj => ?_⟩, ?_, rfl, rfl, rfl, rfl, ?_, rfl, fun _ _ => rfl, rfl, fun _ _ => rfl, fun _ _ => rfl, fun _ _ => rfl, trivial⟩
   ·have hj : j < i + 1 := hj
    by_cases h : j < i
    ·exact i5 j h
    ·obtain rfl : j = i := by omega
     exact hn
   ·show n - (i + 1) < n - i
    omega
   ·exact zQj (by omega)
  refine ⟨q1, q2, fun hH => ⟨q1, q2, fun he => ⟨q1, q2, ?_⟩, fun he => next fun _ => ?_⟩, fun hH => next fun h => by rw [hH] at h; cases h⟩
  ·have he : low (V i) = k := by rw [<- zOC]; simpa [BE.den, IE.den, za] using he
   rcases i1 with ⟨j1, P', K, j2, j3⟩ | ⟨j1, _⟩
   ·obtain ⟨r, hr⟩ := zL5 (P := P') (K := K) hk
    rw [(j3 i hk).2, zLg hH] at hr
    have hL : (fnd P' K i).length < (fnd P' K n).length := by rw [hr]; simp
    have hat : (fnd P' K n).getD (fnd P' K i).length (0, 0) = ((P' i : Int), V i) := by
     rw [hr, List.getD_eq_getElem?_getD, List.getElem?_append_right (Nat.le_refl _), Nat.sub_self]; rfl
    refine ⟨⟨A i, true, 0⟩, ⟨.inl ⟨rfl, n, P', K, j2, .inl ⟨rfl, (fnd P' K i).length, hL, by rw [hat]; exact (j3 i hk).1, by rw [hat]; exact he, fun j hj => ?_⟩⟩⟩, rfl, rfl, rfl, rfl, fun _ _ => rfl, trivial⟩
    have := zN3 (k := k) (Nat.le_of_lt hk) j3 i5 hj
    rw [List.getD_eq_getElem?_getD] at this
    rw [hr, List.getD_eq_getElem?_getD, List.getElem?_append_left hj]
    exact this
   ·omega
  ·rw [<- zOC]; simpa [BE.den, IE.den, za] using he
 ·have hge : ¬ (i : Int) < (n : Int) := by simpa [BE.den, IE.den, zQ] using hge
  obtain rfl : i = n := by omega
  refine ⟨⟨0, false, e⟩, ⟨?_⟩, rfl, rfl, rfl, rfl, fun _ _ => rfl, trivial⟩
  rcases i1 with ⟨j1, P', K, j2, j3⟩ | ⟨j1, b, j2, j3⟩
  ·exact .inl ⟨j1, i, P', K, j2, .inr ⟨rfl, rfl, fun j hj => zN3 (Nat.le_refl _) j3 i5 hj⟩⟩
  ·exact .inr ⟨rfl, rfl, b, j2, j3⟩
set_option maxRecDepth 100000 in
theorem zVL : zZ P 10 (zAK [.plain, .rows 1 zz1, .plain] zPW zFQ) := by
 have hs := zDi fun un => zN (un := un) zXB Tryz.func10
 refine zRc hs ?_
 intro t k g len cap hg hl
 refine ⟨fun _ => annS HqSt (zRf k) (hqHp g cap) (zXD t g len k) (fun a => a.n - a.i), ?_⟩
 rw [zaI]
 refine ⟨ask2 hg.room, fun cs' hcs => ?_⟩
 have hcG : colG cs' = g := by rw [hcs]; rfl
 rw [hcG]
 refine ⟨⟨by rw [hcs]; exact ⟨g, rfl⟩, hg, hl⟩, fun r hr => ⟨?_, zJO, fun _ _ h => h⟩, fun b hb => ⟨?_, zJO, fun _ _ h => h⟩⟩
 ·obtain ⟨P', K, hw, hS⟩ := zKL hr
  have hn := hr.nl
  exact ⟨⟨0, r.n, r.c, r.A, r.V, r.H, 0⟩, ⟨.inl ⟨rfl, P', K, hw, hS⟩, by dsimp only; omega, Nat.zero_le _, hr.h1, fun j hj => absurd hj (Nat.not_lt_zero j)⟩, rfl, rfl, rfl, rfl, rfl, rfl, fun _ _ => rfl, rfl, fun _ _ => rfl, fun _ _ => rfl, fun _ _ => rfl, trivial⟩
 ·exact ⟨⟨b.e, 0, 0, fun _ => 0, fun _ => 0, fun _ => false, 0⟩, ⟨.inr ⟨rfl, b, hb, rfl⟩, Nat.zero_le _, Nat.le_refl _, Nat.le_refl _, fun j hj => absurd hj (Nat.not_lt_zero j)⟩, rfl, rfl, rfl, rfl, rfl, rfl, fun _ _ => rfl, rfl, trivial⟩
end Go.Proofs.YtajcmjjgnbaahaaGreat.Amd
