/- Two pieces of code have the numbers of the one, and then those of the other: the plain law. -/
import Derived.Test.YtajcmjjgnbaahaaSn5
namespace Go.Proofs.Ytajcmjjgnbaahaa.Amd
open Go Go.Proofs.Ytajcmjjgnbaahaa.Sx Go.RowKit
set_option linter.unusedVariables false
set_option linter.unusedSimpArgs false

def Byt (g : Nat → Int) (len : Nat) : Prop := ∀ k, k < len → 0 ≤ g k ∧ g k < 256
theorem reads_move {g f : Nat → Int} {d : Nat} : ∀ {l : List Int} {i : Nat}, reads g i l → (∀ k, i ≤ k → k < i + l.length → f (d + k) = g k) → reads f (d + i) l
  | [], _, _, _ => trivial
  | c :: l, i, h, hf => ⟨by rw [hf i (Nat.le_refl _) (by simp)]; exact h.1, by
      have := reads_move h.2 (d := d) (f := f) fun k h1 h2 => hf k (by omega) (by simp; omega)
      rw [show d + i + 1 = d + (i + 1) by omega]; exact this⟩
theorem stepA_move {g f : Nat → Int} {len L d p e : Nat} {k : Option Int} (hb : Byt g len) (hf : ∀ i, i < len → f (d + i) = g i) (hL : d + len ≤ L) (h : stepA g len p = some (e, k)) : stepA f L (d + p) = some (d + e, k) := by
  unfold stepA at h ⊢
  cases hd : amdDec g len p with
  | none => rw [hd] at h; simp at h
  | some z =>
    obtain ⟨y, e'⟩ := z
    rw [hd] at h
    simp only [Option.some.injEq, Prod.mk.injEq] at h
    obtain ⟨rfl, rfl⟩ := h
    obtain ⟨q1, q2, q3, q4, q5⟩ := enc_dec hb hd
    have := dec_enc (g := f) (len := L) (i := d + p) q2 (reads_move q4 fun k h1 h2 => hf k (by omega)) (by omega)
    rw [this, q3]
    show some (d + p + (amdBytes y).length, _) = _
    rw [show d + p + (amdBytes y).length = d + e' by omega]
theorem stepR_move {g f : Nat → Int} {len L d p e : Nat} {k : Option Int} (hf : ∀ i, i < len → f (d + i) = g i) (hL : d + len ≤ L) (h : stepR g len p = some (e, k)) : stepR f L (d + p) = some (d + e, k) := by
  unfold stepR at h ⊢
  split at h
  · rename_i hp
    have hu : u4 f (d + p) = u4 g p := by
      unfold u4
      rw [show d + p + 1 = d + (p + 1) by omega, show d + p + 2 = d + (p + 2) by omega, show d + p + 3 = d + (p + 3) by omega, hf p (by omega), hf (p + 1) (by omega), hf (p + 2) (by omega), hf (p + 3) (by omega)]
    rw [if_pos (by omega), hu]
    split at h
    · rename_i he
      rw [if_pos he]
      simp only [Option.some.injEq, Prod.mk.injEq] at h
      obtain ⟨rfl, rfl⟩ := h
      rw [show d + p + 4 = d + (p + 4) by omega]
    · simp at h
  · simp at h
theorem stepT_move {t : Int} {g f : Nat → Int} {len L d p e : Nat} {k : Option Int} (hb : Byt g len) (hf : ∀ i, i < len → f (d + i) = g i) (hL : d + len ≤ L) (h : stepT t g len p = some (e, k)) : stepT t f L (d + p) = some (d + e, k) := by
  unfold stepT at h ⊢
  split at h
  · rename_i ht; rw [if_pos ht]; exact stepA_move hb hf hL h
  · rename_i ht; rw [if_neg ht]; exact stepR_move hf hL h
/-- A step goes on. -/
theorem stepT_end {t : Int} {g : Nat → Int} {len p e : Nat} {k : Option Int} (hb : Byt g len) (h : stepT t g len p = some (e, k)) : p < e ∧ e ≤ len := by
  unfold stepT at h
  split at h
  · unfold stepA at h
    cases hd : amdDec g len p with
    | none => rw [hd] at h; simp at h
    | some z =>
      obtain ⟨y, e'⟩ := z
      rw [hd] at h
      simp only [Option.some.injEq, Prod.mk.injEq] at h
      obtain ⟨rfl, rfl⟩ := h
      exact dec_end hb hd
  · unfold stepR at h
    split at h
    · split at h
      · simp only [Option.some.injEq, Prod.mk.injEq] at h
        obtain ⟨rfl, rfl⟩ := h
        omega
      · simp at h
    · simp at h
/-- There is one walk. -/
theorem WChain.one {st : Nat → Option (Nat × Option Int)} {len n n' : Nat} {P P' : Nat → Nat} {K K' : Nat → Option Int} (h : WChain st len n P K) (h' : WChain st len n' P' K') :
    ∀ i, i ≤ n → i ≤ n' → P i = P' i ∧ ∀ j, j < i → K j = K' j
  | 0, _, _ => ⟨by rw [h.p0, h'.p0], fun j hj => absurd hj (Nat.not_lt_zero j)⟩
  | i + 1, h1, h2 => by
    obtain ⟨e1, e2⟩ := WChain.one h h' i (by omega) (by omega)
    have s1 := (h.step i (by omega)).2
    have s2 := (h'.step i (by omega)).2
    rw [← e1, s1] at s2
    simp only [Option.some.injEq, Prod.mk.injEq] at s2
    refine ⟨s2.1, fun j hj => ?_⟩
    by_cases hj' : j < i
    · exact e2 j hj'
    · obtain rfl : j = i := by omega
      exact s2.2
theorem WChain.end_same {st : Nat → Option (Nat × Option Int)} {len n n' : Nat} {P P' : Nat → Nat} {K K' : Nat → Option Int} (h : WChain st len n P K) (hP : P n = len) (h' : WChain st len n' P' K') (hP' : P' n' = len) :
    n = n' ∧ fnd P K n = fnd P' K' n' := by
  have e : n = n' := by
    refine Classical.byContradiction fun hne => ?_
    by_cases hlt : n < n'
    · have e1 := (h.one h' n (Nat.le_refl _) (by omega)).1
      have := (h'.step n hlt).1
      omega
    · have e1 := (h.one h' n' (by omega) (Nat.le_refl _)).1
      have := (h.step n' (by omega)).1
      omega
  subst e
  refine ⟨rfl, fnd_same fun i hi => ⟨(h.one h' i (by omega) (by omega)).1, (h.one h' n (Nat.le_refl _) (Nat.le_refl _)).2 i hi⟩⟩
theorem WChain.no_stop {st : Nat → Option (Nat × Option Int)} {len n k : Nat} {P P' : Nat → Nat} {K K' : Nat → Option Int} (h : WChain st len n P K) (hP : P n = len) (h' : WChain st len k P' K') (hlt : P' k < len) (hs : st (P' k) = none) : False := by
  by_cases hk : k < n
  · have e1 := (h.one h' k (by omega) (Nat.le_refl _)).1
    have := (h.step k hk).2
    rw [e1, hs] at this
    simp at this
  · have e1 := (h.one h' n (Nat.le_refl _) (by omega)).1
    by_cases hk' : n < k
    · have := (h'.step n hk').1
      omega
    · obtain rfl : k = n := by omega
      omega
def joinP (n d : Nat) (P P' : Nat → Nat) (i : Nat) : Nat := if i < n then P i else d + P' (i - n)
def joinK (n : Nat) (K K' : Nat → Option Int) (i : Nat) : Option Int := if i < n then K i else K' (i - n)
theorem joinP_end {n d : Nat} {P P' : Nat → Nat} (h : P n = d) (h' : P' 0 = 0) {i : Nat} (hi : i ≤ n) : joinP n d P P' i = P i := by
  unfold joinP
  split
  · rfl
  · obtain rfl : i = n := by omega
    rw [Nat.sub_self, h', h]; rfl
theorem whole_join {t : Int} {g h f : Nat → Int} {len m n n' : Nat} {P P' : Nat → Nat} {K K' : Nat → Option Int} (hb : Byt g len) (hb' : Byt h m) (hg : ∀ i, i < len → f (0 + i) = g i) (hh : ∀ i, i < m → f (len + i) = h i)
    (w : WholeW t g len n P K) (w' : WholeW t h m n' P' K') : WChain (stepT t f (len + m)) (len + m) (n + n') (joinP n len P P') (joinK n K K') ∧ joinP n len P P' (n + n') = len + m := by
  refine ⟨⟨?_, fun i hi => ?_⟩, ?_⟩
  · rw [joinP_end w.fin w'.ch.p0 (Nat.zero_le _)]; exact w.ch.p0
  · by_cases h : i < n
    · obtain ⟨s1, s2⟩ := w.ch.step i h
      rw [joinP_end w.fin w'.ch.p0 (by omega), joinP_end w.fin w'.ch.p0 (show i + 1 ≤ n by omega)]
      refine ⟨by omega, ?_⟩
      have := stepT_move hb hg (show 0 + len ≤ len + m by omega) s2
      simp only [Nat.zero_add] at this
      rw [this]; unfold joinK; rw [if_pos h]
    · obtain ⟨s1, s2⟩ := w'.ch.step (i - n) (by omega)
      have e1 : joinP n len P P' i = len + P' (i - n) := by unfold joinP; rw [if_neg h]
      have e2 : joinP n len P P' (i + 1) = len + P' (i - n + 1) := by unfold joinP; rw [if_neg (by omega), show i + 1 - n = i - n + 1 by omega]
      rw [e1, e2]
      refine ⟨by omega, ?_⟩
      rw [stepT_move hb' hh (Nat.le_refl _) s2]
      unfold joinK; rw [if_neg h]
  · unfold joinP; rw [if_neg (by omega), show n + n' - n = n' by omega, w'.fin]
theorem fnd_join {n d : Nat} {P P' : Nat → Nat} {K K' : Nat → Option Int} : ∀ (n' : Nat), fnd (joinP n d P P') (joinK n K K') (n + n') = fnd P K n ++ (fnd P' K' n').map fun z => ((d : Int) + z.1, z.2)
  | 0 => by
    show _ = fnd P K n ++ []
    rw [List.append_nil]
    exact fnd_same fun i hi => ⟨by have hi : i < n := hi; unfold joinP; rw [if_pos hi], by have hi : i < n := hi; unfold joinK; rw [if_pos hi]⟩
  | n' + 1 => by
    show fnd _ _ (n + n') ++ oneN (joinP n d P P' (n + n')) (joinK n K K' (n + n')) = _
    rw [fnd_join n', fnd, List.map_append, List.append_assoc]
    congr 2
    have e1 : joinP n d P P' (n + n') = d + P' n' := by unfold joinP; rw [if_neg (by omega), show n + n' - n = n' by omega]
    have e2 : joinK n K K' (n + n') = K' n' := by unfold joinK; rw [if_neg (by omega), show n + n' - n = n' by omega]
    rw [e1, e2]
    cases K' n' with
    | none => rfl
    | some v => simp [oneN]
/-- The numbers of both. -/
theorem num_join {t : Int} {g h f : Nat → Int} {len m : Nat} (hb : Byt g len) (hb' : Byt h m) (hg : ∀ i, i < len → f (0 + i) = g i) (hh : ∀ i, i < m → f (len + i) = h i)
    {r r' r'' : NuR} (w : NumO t g len r) (w' : NumO t h m r') (w'' : NumO t f (len + m) r'') (he : r.e = 0) (he' : r'.e = 0) :
    r''.e = 0 ∧ r''.n = r.n + r'.n ∧ (∀ j, j < r.n → r''.O j = r.O j) ∧ ∀ j, j < r'.n → r''.O (r.n + j) = r'.O j := by
  have bad : ∀ {t : Int} {g : Nat → Int} {len : Nat} {b : WkE}, WalkB t g len b → b.e ≠ 0 := by
    rintro t g len b ⟨⟨_, _, h, _⟩ | ⟨_, h, _⟩⟩ <;> rw [h] <;> decide
  obtain ⟨(⟨_, _, n, P1, K1, v1, _, v2, v3⟩ | ⟨_, b, hb, h, _⟩), _, _⟩ := w
  rotate_left
  · exact absurd (h.symm.trans he) (bad hb)
  obtain ⟨(⟨_, _, n', P2, K2, u1, _, u2, u3⟩ | ⟨_, b, hb, h, _⟩), _, _⟩ := w'
  rotate_left
  · exact absurd (h.symm.trans he') (bad hb)
  obtain ⟨c1, c2⟩ := whole_join hb hb' hg hh v1 u1
  obtain ⟨(⟨x0, _, n'', P3, K3, x1, _, x2, x3⟩ | ⟨_, b, hb, h, _⟩), _, _⟩ := w''
  · obtain ⟨e1, e2⟩ := x1.ch.end_same x1.fin c1 c2
    rw [e2, fnd_join, List.length_append, List.length_map, ← v2, ← u2] at x2
    refine ⟨x0, x2, fun j hj => ?_, fun j hj => ?_⟩
    · rw [x3 j (by omega), v3 j hj, e2, fnd_join, List.getD_eq_getElem?_getD, List.getD_eq_getElem?_getD, List.getElem?_append_left (by omega)]
    · rw [x3 (r.n + j) (by omega), u3 j hj, e2, fnd_join, List.getD_eq_getElem?_getD, List.getD_eq_getElem?_getD, List.getElem?_append_right (by omega), v2, show (fnd P1 K1 n).length + j - (fnd P1 K1 n).length = j by omega, List.getElem?_map]
      cases (fnd P2 K2 n')[j]? <;> rfl
  · exfalso
    rcases hb with ⟨⟨a1, a2, _⟩ | ⟨_, _, k, P3, K3, y1, y2, y3, y4⟩⟩
    · rcases v1.tt with h | h
      · exact a1 h
      · exact a2 h
    · exact c1.no_stop c2 y1 (by rw [y2]; exact y3) (by rw [y2]; exact y4)
end Go.Proofs.Ytajcmjjgnbaahaa.Amd
