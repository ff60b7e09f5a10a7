/- What code's numbers, places and a search come to is one thing, and what stands behind the code does not matter. -/
import Derived.Test.YtajcmjjgnbaahaaGreatSn6
set_option linter.unusedVariables false
set_option linter.unusedSimpArgs false
namespace Go.Proofs.YtajcmjjgnbaahaaGreat.Amd
open Go Go.Proofs.YtajcmjjgnbaahaaGreat.Sx Go.RowKit
def Byt (g : Nat -> Int) (len : Nat) : Prop := ∀ k, k < len -> 0 <= g k /\ g k < 256
theorem zJP {g f : Nat -> Int} {d : Nat} : ∀ {l : List Int} {i : Nat}, zu g i l -> (∀ k, i <= k -> k < i + l.length -> f (d + k) = g k) -> zu f (d + i) l
 | [], _, _, _ => trivial
 | c :: l, i, h, hf => ⟨by rw [hf i (Nat.le_refl _) (by simp)]; exact h.1, by
   have := zJP h.2 (d := d) (f := f) fun k h1 h2 => hf k (by omega) (by simp; omega)
   rw [show d + i + 1 = d + (i + 1) by omega]; exact this⟩
theorem zO2 {g f : Nat -> Int} {len L d p e : Nat} {k : Option Int} (hb : Byt g len) (hf : ∀ i, i < len -> f (d + i) = g i) (hL : d + len <= L) (h : zD7 g len p = some (e, k)) : zD7 f L (d + p) = some (d + e, k) := by
 unfold zD7 at h ⊢
 cases hd : zr g len p with
 | none => rw [hd] at h; simp at h
 | some z =>
  obtain ⟨y, e'⟩ := z
  rw [hd] at h
  simp only [Option.some.injEq, Prod.mk.injEq] at h
  obtain ⟨rfl, rfl⟩ := h
  obtain ⟨q1, q2, q3, q4, q5⟩ := zGe hb hd
  have := zKy (g := f) (len := L) (i := d + p) q2 (zJP q4 fun k h1 h2 => hf k (by omega)) (by omega)
  rw [this, q3]
  show some (d + p + (zD y).length, _) = _
  rw [show d + p + (zD y).length = d + e' by omega]
theorem zO1 {g f : Nat -> Int} {len L d p e : Nat} {k : Option Int} (hf : ∀ i, i < len -> f (d + i) = g i) (hL : d + len <= L) (h : zED g len p = some (e, k)) : zED f L (d + p) = some (d + e, k) := by
 unfold zED at h ⊢
 split at h
 ·rename_i hp
  have hu : u4 f (d + p) = u4 g p := by
   unfold u4
   rw [show d + p + 1 = d + (p + 1) by omega, show d + p + 2 = d + (p + 2) by omega, show d + p + 3 = d + (p + 3) by omega, hf p (by omega), hf (p + 1) (by omega), hf (p + 2) (by omega), hf (p + 3) (by omega)]
  rw [if_pos (by omega), hu]
  split at h
  ·rename_i he
   rw [if_pos he]
   simp only [Option.some.injEq, Prod.mk.injEq] at h
   obtain ⟨rfl, rfl⟩ := h
   rw [show d + p + 4 = d + (p + 4) by omega]
  ·simp at h
 ·simp at h
theorem zJJ {t : Int} {g f : Nat -> Int} {len L d p e : Nat} {k : Option Int} (hb : Byt g len) (hf : ∀ i, i < len -> f (d + i) = g i) (hL : d + len <= L) (h : zBy t g len p = some (e, k)) : zBy t f L (d + p) = some (d + e, k) := by
 unfold zBy at h ⊢
 split at h
 ·rename_i ht; rw [if_pos ht]; exact zO2 hb hf hL h
 ·rename_i ht; rw [if_neg ht]; exact zO1 hf hL h
theorem zQB {t : Int} {g : Nat -> Int} {len p e : Nat} {k : Option Int} (hb : Byt g len) (h : zBy t g len p = some (e, k)) : p < e /\ e <= len := by
 unfold zBy at h
 split at h
 ·unfold zD7 at h
  cases hd : zr g len p with
  | none => rw [hd] at h; simp at h
  | some z =>
   obtain ⟨y, e'⟩ := z
   rw [hd] at h
   simp only [Option.some.injEq, Prod.mk.injEq] at h
   obtain ⟨rfl, rfl⟩ := h
   exact zNF hb hd
 ·unfold zED at h
  split at h
  ·split at h
   ·simp only [Option.some.injEq, Prod.mk.injEq] at h
    obtain ⟨rfl, rfl⟩ := h
    omega
   ·simp at h
  ·simp at h
theorem zCL.one {st : Nat -> Option (Nat × Option Int)} {len n n' : Nat} {P P' : Nat -> Nat} {K K' : Nat -> Option Int} (h : zCL st len n P K) (h' : zCL st len n' P' K') :
  ∀ i, i <= n -> i <= n' -> P i = P' i /\ ∀ j, j < i -> K j = K' j
 | 0, _, _ => ⟨by rw [h.p0, h'.p0], fun j hj => absurd hj (Nat.not_lt_zero j)⟩
 | i + 1, h1, h2 => by
  obtain ⟨e1, e2⟩ := zCL.one h h' i (by omega) (by omega)
  have s1 := (h.step i (by omega)).2
  have s2 := (h'.step i (by omega)).2
  rw [<- e1, s1] at s2
  simp only [Option.some.injEq, Prod.mk.injEq] at s2
  refine ⟨s2.1, fun j hj => ?_⟩
  by_cases hj' : j < i
  ·exact e2 j hj'
  ·obtain rfl : j = i := by omega
   exact s2.2
theorem zCL.end_same {st : Nat -> Option (Nat × Option Int)} {len n n' : Nat} {P P' : Nat -> Nat} {K K' : Nat -> Option Int} (h : zCL st len n P K) (hP : P n = len) (h' : zCL st len n' P' K') (hP' : P' n' = len) :
  n = n' /\ fnd P K n = fnd P' K' n' := by
 have e : n = n' := by
  refine Classical.byContradiction fun hne => ?_
  by_cases hlt : n < n'
  ·have e1 := (h.one h' n (Nat.le_refl _) (by omega)).1
   have := (h'.step n hlt).1
   omega
  ·have e1 := (h.one h' n' (by omega) (Nat.le_refl _)).1
   have := (h.step n' (by omega)).1
   omega
 subst e
 refine ⟨rfl, zKu fun i hi => ⟨(h.one h' i (by omega) (by omega)).1, (h.one h' n (Nat.le_refl _) (Nat.le_refl _)).2 i hi⟩⟩
theorem zCL.no_stop {st : Nat -> Option (Nat × Option Int)} {len n k : Nat} {P P' : Nat -> Nat} {K K' : Nat -> Option Int} (h : zCL st len n P K) (hP : P n = len) (h' : zCL st len k P' K') (hlt : P' k < len) (hs : st (P' k) = none) : False := by
 by_cases hk : k < n
 ·have e1 := (h.one h' k (by omega) (Nat.le_refl _)).1
  have := (h.step k hk).2
  rw [e1, hs] at this
  simp at this
 ·have e1 := (h.one h' n (Nat.le_refl _) (by omega)).1
  by_cases hk' : n < k
  ·have := (h'.step n hk').1
   omega
  ·obtain rfl : k = n := by omega
   omega
theorem zCK.up {t : Int} {g : Nat -> Int} {len m : Nat} {P : Nat -> Nat} {K : Nat -> Option Int} (hb : Byt g len) (w : zCK t g len m P K) {i : Nat} (hi : i < m) : P i < P (i + 1) /\ P i < len /\ P (i + 1) <= len := by
 obtain ⟨s1, s2⟩ := w.ch.step i hi
 obtain ⟨e1, e2⟩ := zQB hb s2
 exact ⟨e1, s1, e2⟩
theorem zCK.mono {t : Int} {g : Nat -> Int} {len m : Nat} {P : Nat -> Nat} {K : Nat -> Option Int} (hb : Byt g len) (w : zCK t g len m P K) {i : Nat} : ∀ {k : Nat}, i + k <= m -> P i + k <= P (i + k)
 | 0, _ => Nat.le_refl _
 | k + 1, h => by
  have h1 := zCK.mono hb w (i := i) (k := k) (by omega)
  have h2 := (w.up hb (i := i + k) (by omega)).1
  rw [show i + (k + 1) = i + k + 1 by omega]
  omega
theorem zEl {t : Int} {g : Nat -> Int} {len n : Nat} {P : Nat -> Nat} {K : Nat -> Option Int} (w : zCK t g len n P K) {b : WkE} (hb : zB6 t g len b) : False := by
 rcases hb.all with ⟨a1, a2, _⟩ | ⟨_, _, k, P3, K3, y1, y2, y3, y4⟩
 ·rcases w.tt with h | h
  ·exact a1 h
  ·exact a2 h
 ·exact w.ch.no_stop w.fin y1 (by rw [y2]; exact y3) (by rw [y2]; exact y4)
section
variable {t k : Int} {g w : Nat -> Int} {len : Nat}
theorem zEe (hb : Byt g len) (hc : ∀ i, i < len -> w i = g i) : zBy t w len = zBy t g len := by
 have hbw : Byt w len := fun i hi => by rw [hc i hi]; exact hb i hi
 funext p
 cases h : zBy t g len p with
 | some z =>
  obtain ⟨e, n⟩ := z
  have := zJJ (d := 0) (f := w) (L := len) hb (fun i hi => by rw [Nat.zero_add]; exact hc i hi) (by omega) h
  rwa [Nat.zero_add, Nat.zero_add] at this
 | none =>
  cases h' : zBy t w len p with
  | none => rfl
  | some z =>
   obtain ⟨e, n⟩ := z
   have := zJJ (d := 0) (f := g) (L := len) hbw (fun i hi => by rw [Nat.zero_add]; exact (hc i hi).symm) (by omega) h'
   rw [Nat.zero_add, Nat.zero_add, h] at this
   cases this
theorem zHf {n : Nat} {P : Nat -> Nat} {K : Nat -> Option Int} (e : zBy t w len = zBy t g len) (h : zCK t w len n P K) : zCK t g len n P K := ⟨h.tt, by rw [<- e]; exact h.ch, h.fin, h.le⟩
theorem zJr {b : WkE} (e : zBy t w len = zBy t g len) (h : zB6 t w len b) : zB6 t g len b := ⟨by rw [<- e]; exact h.all⟩
theorem zVt {r : NuR} (e : zBy t w len = zBy t g len) (h : NumO t w len r) : NumO t g len r := by
 refine ⟨?_, h.h1, h.k1⟩
 rcases h.all with ⟨a1, a2, n, P, K, a3, a4⟩ | ⟨a1, b, a2, a3⟩
 ·exact .inl ⟨a1, a2, n, P, K, zHf e a3, a4⟩
 ·exact .inr ⟨a1, b, zJr e a2, a3⟩
theorem zXV {r : StR} (e : zBy t w len = zBy t g len) (h : StO t w len r) : StO t g len r := by
 refine ⟨?_, h.h1, h.k1⟩
 rcases h.all with ⟨a1, a2, P, K, a3, a4⟩ | ⟨a1, b, a2, a3⟩
 ·exact .inl ⟨a1, a2, P, K, zHf e a3, a4⟩
 ·exact .inr ⟨a1, b, zJr e a2, a3⟩
theorem zUU {r : HsR} (e : zBy t w len = zBy t g len) (h : HsO t w len k r) : HsO t g len k r := by
 refine ⟨?_⟩
 rcases h.all with ⟨a1, n, P, K, a3, a4⟩ | ⟨a1, a2, b, a3, a4⟩
 ·exact .inl ⟨a1, n, P, K, zHf e a3, a4⟩
 ·exact .inr ⟨a1, a2, b, zJr e a3, a4⟩
theorem zHg {b b' : WkE} (h : zB6 t g len b) (h' : zB6 t g len b') : b.e = b'.e /\ b.p = b'.p := by
 rcases h.all with ⟨a1, a2, a3, a4⟩ | ⟨a1, a2, n, P, K, c, a3, a4, a5⟩ <;> rcases h'.all with ⟨b1, b2, b3, b4⟩ | ⟨b1, b2, n', P', K', c', b3, b4, b5⟩
 ·exact ⟨by rw [a3, b3], by rw [a4, b4]⟩
 ·exact (b1.elim a1 a2).elim
 ·exact (a1.elim b1 b2).elim
 ·refine ⟨by rw [a2, b2], ?_⟩
  rcases Nat.lt_trichotomy n n' with hlt | rfl | hlt
  ·have := (c'.step n hlt).2
   rw [<- (c.one c' n (Nat.le_refl _) (Nat.le_of_lt hlt)).1, a3, a5] at this
   cases this
  ·rw [<- a3, <- b3]; exact (c.one c' n (Nat.le_refl _) (Nat.le_refl _)).1
  ·have := (c.step n' hlt).2
   rw [(c.one c' n' (Nat.le_of_lt hlt) (Nat.le_refl _)).1, b3, b5] at this
   cases this
theorem zNz {r r' : NuR} (h : NumO t g len r) (h' : NumO t g len r') : r.n = r'.n /\ r.e = r'.e /\ r.p = r'.p /\ ∀ j, j < r.n -> r.O j = r'.O j := by
 rcases h.all with ⟨a1, a2, n, P, K, a3, a4, a5, a6⟩ | ⟨a1, b, a2, a3, a4⟩ <;> rcases h'.all with ⟨b1, b2, n', P', K', b3, b4, b5, b6⟩ | ⟨b1, b', b2, b3, b4⟩
 ·obtain ⟨_, e2⟩ := a3.ch.end_same a3.fin b3.ch b3.fin
  have hn : r.n = r'.n := by rw [a5, b5, e2]
  exact ⟨hn, by rw [a1, b1], by rw [a2, b2], fun j hj => by rw [a6 j hj, b6 j (by omega), e2]⟩
 ·exact (zEl a3 b2).elim
 ·exact (zEl b3 a2).elim
 ·obtain ⟨e1, e2⟩ := zHg a2 b2
  exact ⟨by rw [a1, b1], by rw [a3, b3, e1], by rw [a4, b4, e2], fun j hj => absurd hj (by omega)⟩
theorem zQF {r r' : StR} (h : StO t g len r) (h' : StO t g len r') : r.n = r'.n /\ r.e = r'.e /\ r.p = r'.p /\ ∀ j, j < r.n -> r.S j = r'.S j := by
 rcases h.all with ⟨a1, a2, P, K, a3, a4⟩ | ⟨a1, b, a2, a3, a4⟩ <;> rcases h'.all with ⟨b1, b2, P', K', b3, b4⟩ | ⟨b1, b', b2, b3, b4⟩
 ·obtain ⟨hn, _⟩ := a3.ch.end_same a3.fin b3.ch b3.fin
  exact ⟨hn, by rw [a1, b1], by rw [a2, b2], fun j hj => by rw [a4 j hj, b4 j (by omega), (a3.ch.one b3.ch j (by omega) (by omega)).1]⟩
 ·exact (zEl a3 b2).elim
 ·exact (zEl b3 a2).elim
 ·obtain ⟨e1, e2⟩ := zHg a2 b2
  exact ⟨by rw [a1, b1], by rw [a3, b3, e1], by rw [a4, b4, e2], fun j hj => absurd hj (by omega)⟩
theorem zRe {r r' : HsR} (h : HsO t g len k r) (h' : HsO t g len k r') : r.at' = r'.at' /\ r.has = r'.has /\ r.e = r'.e := by
 rcases h.all with ⟨a1, n, P, K, a2, a3⟩ | ⟨a1, a2, b, a3, a4⟩ <;> rcases h'.all with ⟨b1, n', P', K', b2, b3⟩ | ⟨b1, b2, b', b3, b4⟩
 ·obtain ⟨_, e2⟩ := a2.ch.end_same a2.fin b2.ch b2.fin
  rw [<- e2] at b3
  rcases a3 with ⟨c1, j, c2, c3, c4, c5⟩ | ⟨c1, c2, c3⟩ <;> rcases b3 with ⟨d1, j', d2, d3, d4, d5⟩ | ⟨d1, d2, d3⟩
  ·have hj : j = j' := by
    rcases Nat.lt_trichotomy j j' with hlt | he | hlt
    ·exact absurd c4 (d5 j hlt)
    ·exact he
    ·exact absurd d4 (c5 j' hlt)
   subst hj
   exact ⟨by rw [c3, d3], by rw [c1, d1], by rw [a1, b1]⟩
  ·exact absurd c4 (d3 j c2)
  ·exact absurd d4 (c3 j' d2)
  ·exact ⟨by rw [c2, d2], by rw [c1, d1], by rw [a1, b1]⟩
 ·exact (zEl a2 b3).elim
 ·exact (zEl b2 a3).elim
 ·exact ⟨by rw [a2, b2], by rw [a1, b1], by rw [a4, b4, (zHg a3 b3).1]⟩
end
end Go.Proofs.YtajcmjjgnbaahaaGreat.Amd
