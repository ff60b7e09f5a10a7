/- What is read is written as it was. -/
import Derived.Test.YtajcmjjgnbaahaaGreatAp2
set_option linter.unusedVariables false
set_option linter.unusedSimpArgs false
namespace Go.Proofs.YtajcmjjgnbaahaaGreat.Amd
open Go
def Told (g : Nat -> Int) (len : Nat) (p code : Int) (j : Nat) (y : AI) (e : Nat) : Prop :=
 e <= len /\ zM y = 0 /\ plain y = y /\ ∃ r, zu g j r /\ zD y = zAO p (code :: r) /\ j + r.length = e
theorem zHR {p : Int} (h0 : 0 <= p) (h1 : p < 16) (h2 : p / 2 % 2 = 0) {a b : Int} (ha : 0 <= a /\ a < 8) (hb : 0 <= b /\ b < 8) : pfx (hiW p) (a + hiR p) (b + hiB p) = p := by
 unfold pfx hiW hiR hiB
 by_cases h3 : p / 8 % 2 = 1 <;> by_cases h4 : p / 4 % 2 = 1 <;> by_cases h5 : p % 2 = 1 <;> simp only [h3, h4, h5, decide_true, decide_false, if_true, if_false, Bool.false_eq_true] <;> (repeat' split) <;> omega
theorem zLd {p : Int} (h0 : 0 <= p) (h1 : p < 16) (h2 : p / 2 % 2 = 0) (h4 : p / 4 % 2 = 0) {b : Int} (hb : 0 <= b /\ b < 8) : pfx (hiW p) 0 (b + hiB p) = p := by
 unfold pfx hiW hiB
 by_cases h3 : p / 8 % 2 = 1 <;> by_cases h5 : p % 2 = 1 <;> simp only [h3, h5, decide_true, decide_false, if_true, if_false, Bool.false_eq_true] <;> (repeat' split) <;> omega
theorem zLc {p : Int} (h0 : 0 <= p) (h2 : p / 2 % 2 = 0) (h4 : p / 4 = 0) {b : Int} (hb : 0 <= b /\ b < 8) : pfx false 0 (b + hiB p) = p := by
 unfold pfx hiB
 by_cases h5 : p % 2 = 1 <;> simp only [h5, if_true, if_false, Bool.false_eq_true] <;> (repeat' split) <;> omega
theorem zD6 (p : Int) : hiB p = 0 ∨ hiB p = 8 := by unfold hiB; split <;> simp
theorem zOL (p : Int) : hiR p = 0 ∨ hiR p = 8 := by unfold hiR; split <;> simp
theorem zF9 {r : Int} (h0 : 0 <= r) (h1 : r <= 15) : zV r = false := by
 simp only [zV, Bool.or_eq_false_iff, decide_eq_false_iff_not]; omega
theorem zKc (g : Nat -> Int) (i : Nat) (p : Int) : zV (pr g i p) = false := by
 have := zOL p
 exact zF9 (by unfold pr; omega) (by unfold pr; omega)
theorem zGU (g : Nat -> Int) (i : Nat) (p : Int) : zV (pb g i p) = false := by
 have := zD6 p
 exact zF9 (by unfold pb; omega) (by unfold pb; omega)
theorem zH9 {g : Nat -> Int} {i : Nat} {mm p q : Int} (h : g i / 64 = mm) : zAm mm (pr g i p) (pb g i q) = g i := by
 have h1 := zOL p
 have h2 := zD6 q
 unfold zAm pr pb; omega
theorem zJU {g : Nat -> Int} {i : Nat} {mm n q : Int} (h : g i / 64 = mm) (hn : g i / 8 % 8 = n) : zAm mm n (pb g i q) = g i := by
 have h2 := zD6 q
 unfold zAm pb; omega
theorem zFr {g : Nat -> Int} {p : Nat} {long : Bool} (hb : ∀ k, p <= k -> k < p + numK long -> 0 <= g k /\ g k < 256) : zu g p (numB (numV g p long) long) /\ zAs (numV g p long) long /\ (numB (numV g p long) long).length = numK long := by
 cases long with
 | true =>
  have b0 := hb p (by omega) (by simp [numK])
  have b1 := hb (p + 1) (by omega) (by simp [numK])
  have b2 := hb (p + 2) (by omega) (by simp [numK])
  have b3 := hb (p + 3) (by omega) (by simp [numK])
  simp only [numB, numV, zAs, if_true, le4, zu, numK]
  have hv : ∃ v, v = s32 (u4 g p) := ⟨_, rfl⟩
  obtain ⟨v, hv⟩ := hv
  rw [<- hv]
  unfold s32 u4 at hv
  refine ⟨⟨?_, ?_, ?_, ?_, trivial⟩, ?_, rfl⟩
  ·split at hv <;> omega
  ·split at hv <;> omega
  ·rw [show p + 1 + 1 = p + 2 by omega]; split at hv <;> omega
  ·rw [show p + 1 + 1 + 1 = p + 3 by omega]; split at hv <;> omega
  ·split at hv <;> omega
 | false =>
  have b0 := hb p (by omega) (by simp [numK])
  simp only [numB, numV, zAs, Bool.false_eq_true, if_false, zu, numK]
  unfold s8
  refine ⟨⟨?_, trivial⟩, ?_, rfl⟩ <;> split <;> omega
theorem zPw {g : Nat -> Int} {p : Nat} (hb : ∀ k, p <= k -> k < p + 4 -> 0 <= g k /\ g k < 256) : zu g p (le4 (u4 g p)) /\ 0 <= u4 g p /\ u4 g p <= 4294967295 := by
 have b0 := hb p (by omega) (by omega)
 have b1 := hb (p + 1) (by omega) (by omega)
 have b2 := hb (p + 2) (by omega) (by omega)
 have b3 := hb (p + 3) (by omega) (by omega)
 simp only [le4, zu]
 unfold u4
 refine ⟨⟨?_, ?_, ?_, ?_, trivial⟩, ?_, ?_⟩
 ·omega
 ·omega
 ·rw [show p + 1 + 1 = p + 2 by omega]; omega
 ·rw [show p + 1 + 1 + 1 = p + 3 by omega]; omega
 ·omega
 ·omega
theorem zN9 {g : Nat -> Int} {len j : Nat} {p : Int} (hm : zLn g len j) (hb : ∀ k, k < len -> 0 <= g k /\ g k < 256) :
  zu g j (memB (pr g j p) (pb g j p) (memD g j) (memL g j)) /\ zAs (memD g j) (memL g j) /\ j + (memB (pr g j p) (pb g j p) (memD g j) (memL g j)).length = zD3 g j := by
 obtain ⟨m1, m2, m3, m4⟩ := hm
 have he : j + 1 + sib g j + numK (memL g j) <= len := m4
 obtain ⟨n1, n2, n3⟩ := zFr (g := g) (p := j + 1 + sib g j) (long := memL g j) fun k h1 h2 => hb k (by omega)
 have h8 : pb g j p % 8 = g j % 8 := by have := zD6 p; unfold pb; omega
 have hs : (if pb g j p % 8 = 4 then [(36 : Int)] else []).length = sib g j := by rw [h8]; unfold sib; split <;> rfl
 have hmm : (if memL g j = true then (2 : Int) else 1) = g j / 64 := by
  unfold memL
  rcases m2 with h | h <;> simp [h]
 refine ⟨?_, n2, ?_⟩
 ·simp only [memB, zu]
  refine ⟨?_, ?_⟩
  ·rw [hmm]; exact (zH9 rfl).symm
  ·rw [zC7, hs]
   refine ⟨?_, n1⟩
   rw [h8]
   split
   ·rename_i h; exact ⟨(m3 h).2, trivial⟩
   ·trivial
 ·simp only [memB, List.length_cons, List.length_append]
  rw [hs]
  unfold memD at *
  rw [n3]; unfold zD3; omega
section
variable {g : Nat -> Int} {len j e : Nat} {p : Int} {y : AI}
theorem zHF {c : Prop} [Decidable c] {a b : AI × Nat} (h : (if c then some a else none) = some b) : c /\ a = b := by
 split at h
 ·exact ⟨by assumption, by simpa using h⟩
 ·simp at h
theorem zCS {op c : Int} (hf : zA op = some (.two c)) (h0 : 0 <= p) (h1 : p < 16) (h2 : p / 2 % 2 = 0) (h : dTwo g len op p j = some (y, e)) : Told g len p c j y e := by
 obtain ⟨⟨c1, c2⟩, q⟩ := zHF h
 simp only [Prod.mk.injEq] at q
 obtain ⟨rfl, rfl⟩ := q
 refine ⟨by omega, ?_, ?_, [g j], ⟨rfl, trivial⟩, ?_, rfl⟩
 ·simp only [zM, hf, encE, zKc, zGU]; rfl
 ·simp only [plain, hf, zAx]
 ·simp only [zD, hf, encL, zH9 c2]
  rw [show pfx (hiW p) (pr g j p) (pb g j p) = p from zHR h0 h1 h2 (by omega) (by omega)]
theorem zPy (hc : g j = 175) (h0 : 0 <= p) (h1 : p < 16) (h2 : p / 2 % 2 = 0) (h : zTs g len p (j + 1) = some (y, e)) : Told g len p 15 j y e := by
 obtain ⟨⟨c1, c2⟩, q⟩ := zHF h
 simp only [Prod.mk.injEq] at q
 obtain ⟨rfl, rfl⟩ := q
 refine ⟨by omega, ?_, ?_, [g j, g (j + 1)], ⟨rfl, rfl, trivial⟩, ?_, rfl⟩
 ·simp only [zM, show zA 13 = some .imul from rfl, encE, zKc, zGU]; rfl
 ·simp only [plain, show zA 13 = some .imul from rfl, zAx]
 ·simp only [zD, show zA 13 = some .imul from rfl, encL, zH9 c2]
  rw [show pfx (hiW p) (pr g (j + 1) p) (pb g (j + 1) p) = p from zHR h0 h1 h2 (by omega) (by omega), hc]
theorem zPx (hb : ∀ k, k < len -> 0 <= g k /\ g k < 256) (h0 : 0 <= p) (h1 : p < 16) (h2 : p / 2 % 2 = 0) (h : zR8 g len p j = some (y, e)) : Told g len p 139 j y e := by
 obtain ⟨c1, q⟩ := zHF h
 simp only [Prod.mk.injEq] at q
 obtain ⟨rfl, rfl⟩ := q
 obtain ⟨m1, m2, m3⟩ := zN9 (p := p) c1 hb
 refine ⟨c1.2.2.2, ?_, ?_, _, m1, ?_, m3⟩
 ·simp only [zM, show zA 3 = some .load from rfl, encE, zKc, zGU, m2]; rfl
 ·simp only [plain, show zA 3 = some .load from rfl, zAx]
 ·simp only [zD, show zA 3 = some .load from rfl, encL]
  rw [show pfx (hiW p) (pr g j p) (pb g j p) = p from zHR h0 h1 h2 (by omega) (by omega)]
theorem zOy (hb : ∀ k, k < len -> 0 <= g k /\ g k < 256) (h0 : 0 <= p) (h1 : p < 16) (h2 : p / 2 % 2 = 0) (h : zMF g len p j = some (y, e)) : Told g len p 137 j y e := by
 obtain ⟨c1, q⟩ := zHF h
 simp only [Prod.mk.injEq] at q
 obtain ⟨rfl, rfl⟩ := q
 obtain ⟨m1, m2, m3⟩ := zN9 (p := p) c1 hb
 refine ⟨c1.2.2.2, ?_, ?_, _, m1, ?_, m3⟩
 ·simp only [zM, show zA 4 = some .store from rfl, encE, zKc, zGU, m2]; rfl
 ·simp only [plain, show zA 4 = some .store from rfl, zAx]
 ·simp only [zD, show zA 4 = some .store from rfl, encL]
  rw [show pfx (hiW p) (pr g j p) (pb g j p) = p from zHR h0 h1 h2 (by omega) (by omega)]
theorem zHM {op n c : Int} (hf : zA op = some (.imm n)) (hc : c = 131 ∨ c = 129) (hn : zCO g len j / 8 % 8 = n) (hb : ∀ k, k < len -> 0 <= g k /\ g k < 256) (h0 : 0 <= p) (h1 : p < 16) (h2 : p / 2 % 2 = 0) (h : dImm g len op p c j = some (y, e)) : Told g len p c j y e := by
 obtain ⟨⟨c1, c2, c3, c4⟩, q⟩ := zHF h
 simp only [Prod.mk.injEq] at q
 obtain ⟨rfl, rfl⟩ := q
 obtain ⟨n1, n2, n3⟩ := zFr (g := g) (p := j + 1) (long := decide (c = 129)) fun k h1 h2 => hb k (by omega)
 unfold zCO at hn
 rw [if_pos c2] at hn
 have hcc : (if decide (c = 129) = true then (129 : Int) else 131) = c := by rcases hc with rfl | rfl <;> decide
 refine ⟨c4, ?_, ?_, g j :: numB (numV g (j + 1) (decide (c = 129))) (decide (c = 129)), ⟨rfl, n1⟩, ?_, ?_⟩
 ·simp only [zM, hf, encE, zGU, n2, if_true]; rfl
 ·simp only [plain, hf, zAx]
 ·simp only [zD, hf, encL, zJU c3 hn, hcc]
  rw [show pfx (hiW p) 0 (pb g j p) = p from zLd h0 h1 h2 c1 (by omega)]
 ·simp only [List.length_cons, n3]; omega
theorem zFY {op n c : Int} (hf : zA op = some (.one c n)) (hn : zCO g len j / 8 % 8 = n) (h0 : 0 <= p) (h1 : p < 16) (h2 : p / 2 % 2 = 0) (h : dOne g len op p j = some (y, e)) : Told g len p c j y e := by
 obtain ⟨⟨c1, c2, c3⟩, q⟩ := zHF h
 simp only [Prod.mk.injEq] at q
 obtain ⟨rfl, rfl⟩ := q
 unfold zCO at hn
 rw [if_pos c2] at hn
 refine ⟨by omega, ?_, ?_, [g j], ⟨rfl, trivial⟩, ?_, rfl⟩
 ·simp only [zM, hf, encE, zGU]; rfl
 ·simp only [plain, hf, zAx]
 ·simp only [zD, hf, encL, zJU c3 hn]
  rw [show pfx (hiW p) 0 (pb g j p) = p from zLd h0 h1 h2 c1 (by omega)]
theorem zJE {op k c : Int} (hf : zA op = some (.stack k)) (hk : c = k + c % 8) (hj : j <= len) (h0 : 0 <= p) (h2 : p / 2 % 2 = 0) (h : zIk op p c j = some (y, e)) : Told g len p c j y e := by
 obtain ⟨c1, q⟩ := zHF h
 simp only [Prod.mk.injEq] at q
 obtain ⟨rfl, rfl⟩ := q
 have hB := zD6 p
 refine ⟨hj, ?_, ?_, [], trivial, ?_, rfl⟩
 ·simp only [zM, hf, encE, zF9 (show 0 <= c % 8 + hiB p by omega) (by omega)]; rfl
 ·simp only [plain, hf, zAx]
 ·simp only [zD, hf, encL]
  rw [zLc h0 h2 c1 (by omega), show k + (c % 8 + hiB p) % 8 = c by omega]
theorem zSb {c : Int} (hc : c / 8 = 23) (hb : ∀ k, k < len -> 0 <= g k /\ g k < 256) (h0 : 0 <= p) (h2 : p / 2 % 2 = 0) (h : dMov g len p c j = some (y, e)) : Told g len p c j y e := by
 obtain ⟨⟨c1, c2⟩, q⟩ := zHF h
 simp only [Prod.mk.injEq] at q
 obtain ⟨rfl, rfl⟩ := q
 have hB := zD6 p
 obtain ⟨u1, u2, u3⟩ := zPw (g := g) (p := j) fun k h1 h2 => hb k (by omega)
 refine ⟨c2, ?_, ?_, le4 (u4 g j), u1, ?_, rfl⟩
 ·simp only [zM, show zA 1 = some .movImm from rfl, encE, zF9 (show 0 <= c % 8 + hiB p by omega) (by omega)]
  rw [if_neg (by simp), if_neg (by omega)]
 ·simp only [plain, show zA 1 = some .movImm from rfl, zAx]
 ·simp only [zD, show zA 1 = some .movImm from rfl, encL]
  rw [zLc h0 h2 c1 (by omega), show 184 + (c % 8 + hiB p) % 8 = c by omega]
theorem zNY {c : Int} (hc : c = 235 ∨ c = 233) (hb : ∀ k, k < len -> 0 <= g k /\ g k < 256) (h : dJmp g len p c j = some (y, e)) : Told g len p c j y e := by
 obtain ⟨⟨rfl, c2⟩, q⟩ := zHF h
 simp only [Prod.mk.injEq] at q
 obtain ⟨rfl, rfl⟩ := q
 obtain ⟨n1, n2, n3⟩ := zFr (g := g) (p := j) (long := decide (c = 233)) fun k h1 h2 => hb k (by omega)
 have hcc : (if decide (c = 233) = true then (233 : Int) else 235) = c := by rcases hc with rfl | rfl <;> decide
 refine ⟨c2, ?_, ?_, _, n1, ?_, by rw [n3]⟩
 ·simp only [zM, show zA 25 = some .jmp from rfl, encE, n2, if_true]
 ·simp only [plain, show zA 25 = some .jmp from rfl, zAx]
 ·simp only [zD, show zA 25 = some .jmp from rfl, encL, hcc]; rfl
theorem zSc {c : Int} (hc : c / 16 = 7) (hb : ∀ k, k < len -> 0 <= g k /\ g k < 256) (h : dJcc g len p (c % 16) false j = some (y, e)) : Told g len p c j y e := by
 obtain ⟨⟨rfl, c2, c3, c4⟩, q⟩ := zHF h
 simp only [Prod.mk.injEq] at q
 obtain ⟨rfl, rfl⟩ := q
 obtain ⟨n1, n2, n3⟩ := zFr (g := g) (p := j) (long := false) fun k h1 h2 => hb k (by omega)
 refine ⟨c4, ?_, ?_, _, n1, ?_, by rw [n3]⟩
 ·simp only [zM, show zA 26 = some .jcc from rfl, encE, n2, if_true]
  rw [if_neg (by omega)]
 ·simp only [plain, show zA 26 = some .jcc from rfl, zAx]
 ·simp only [zD, show zA 26 = some .jcc from rfl, encL, Bool.false_eq_true, if_false]
  rw [show 112 + c % 16 = c by omega]; rfl
theorem zSd (hj : j < len) (hc : g j / 16 = 8) (hb : ∀ k, k < len -> 0 <= g k /\ g k < 256) (h : dJcc g len p (g j % 16) true (j + 1) = some (y, e)) : Told g len p 15 j y e := by
 obtain ⟨⟨rfl, c2, c3, c4⟩, q⟩ := zHF h
 simp only [Prod.mk.injEq] at q
 obtain ⟨rfl, rfl⟩ := q
 obtain ⟨n1, n2, n3⟩ := zFr (g := g) (p := j + 1) (long := true) fun k h1 h2 => hb k (by omega)
 refine ⟨c4, ?_, ?_, g j :: numB (numV g (j + 1) true) true, ⟨rfl, n1⟩, ?_, by simp only [List.length_cons, n3]; omega⟩
 ·simp only [zM, show zA 26 = some .jcc from rfl, encE, n2, if_true]
  rw [if_neg (by omega)]
 ·simp only [plain, show zA 26 = some .jcc from rfl, zAx]
 ·simp only [zD, show zA 26 = some .jcc from rfl, encL, if_true]
  rw [show 128 + g j % 16 = g j by omega]; rfl
theorem zSa (hj : j <= len) (h : dRet p j = some (y, e)) : Told g len p 195 j y e := by
 obtain ⟨rfl, q⟩ := zHF h
 simp only [Prod.mk.injEq] at q
 obtain ⟨rfl, rfl⟩ := q
 exact ⟨hj, rfl, rfl, [], trivial, rfl, rfl⟩
theorem zBP {α : Type} {c : Prop} [Decidable c] {a b z : α} {Q : Prop} (h : (if c then a else b) = z) (h1 : c -> a = z -> Q) (h2 : b = z -> Q) : Q := by
 by_cases hc : c
 ·rw [if_pos hc] at h; exact h1 hc h
 ·rw [if_neg hc] at h; exact h2 h
theorem zLA {c : Int} (hj : j <= len) (hb : ∀ k, k < len -> 0 <= g k /\ g k < 256) (h0 : 0 <= p) (h1 : p < 16) (h2 : p / 2 % 2 = 0) (h : decC g len p c j = some (y, e)) : Told g len p c j y e := by
 unfold decC at h
 refine zBP h (fun hc k => ?_) fun h => ?_
 ·obtain ⟨rfl, hl⟩ := hc
  refine zBP k (fun hg h => zPy hg h0 h1 h2 h) fun h => zBP h (fun hg h => zSd hl hg hb h) fun h => by cases h
 refine zBP h (fun hc h => zSb hc hb h0 h2 h) fun h => ?_
 refine zBP h (fun hc h => zJE (k := 80) rfl (by omega) hj h0 h2 h) fun h => ?_
 refine zBP h (fun hc h => zJE (k := 88) rfl (by omega) hj h0 h2 h) fun h => ?_
 refine zBP h (fun hc h => zSc hc hb h) fun h => ?_
 refine zBP h (fun hc h => zNY (.inl hc) hb h) fun h => ?_
 refine zBP h (fun hc h => zNY (.inr hc) hb h) fun h => ?_
 refine zBP h (fun hc h => by subst hc; exact zSa hj h) fun h => ?_
 refine zBP h (fun hc h => by subst hc; exact zPx hb h0 h1 h2 h) fun h => ?_
 refine zBP h (fun hc k => ?_) fun h => ?_
 ·subst hc
  exact zBP k (fun _ h => zCS rfl h0 h1 h2 h) fun h => zOy hb h0 h1 h2 h
 refine zBP h (fun hc h => by subst hc; exact zCS rfl h0 h1 h2 h) fun h => ?_
 refine zBP h (fun hc h => by subst hc; exact zCS rfl h0 h1 h2 h) fun h => ?_
 refine zBP h (fun hc h => by subst hc; exact zCS rfl h0 h1 h2 h) fun h => ?_
 refine zBP h (fun hc h => by subst hc; exact zCS rfl h0 h1 h2 h) fun h => ?_
 refine zBP h (fun hc h => by subst hc; exact zCS rfl h0 h1 h2 h) fun h => ?_
 refine zBP h (fun hc h => by subst hc; exact zCS rfl h0 h1 h2 h) fun h => ?_
 refine zBP h (fun hc h => by subst hc; exact zCS rfl h0 h1 h2 h) fun h => ?_
 refine zBP h (fun hc h => by subst hc; exact zCS rfl h0 h1 h2 h) fun h => ?_
 refine zBP h (fun hc h => ?_) fun h => ?_
 ·refine zBP h (fun hn h => zHM rfl hc hn hb h0 h1 h2 h) fun h => ?_
  refine zBP h (fun hn h => zHM rfl hc hn hb h0 h1 h2 h) fun h => ?_
  refine zBP h (fun hn h => zHM rfl hc hn hb h0 h1 h2 h) fun h => ?_
  exact zBP h (fun hn h => zHM rfl hc hn hb h0 h1 h2 h) fun h => by cases h
 refine zBP h (fun hc k => ?_) fun h => ?_
 ·subst hc
  refine zBP k (fun hn h => zFY rfl hn h0 h1 h2 h) fun h => ?_
  refine zBP h (fun hn h => zFY rfl hn h0 h1 h2 h) fun h => ?_
  exact zBP h (fun hn h => zFY rfl hn h0 h1 h2 h) fun h => by cases h
 refine zBP h (fun hc k => ?_) fun h => by cases h
 subst hc
 refine zBP k (fun hn h => zFY rfl hn h0 h1 h2 h) fun h => ?_
 exact zBP h (fun hn h => zFY rfl hn h0 h1 h2 h) fun h => by cases h
end
theorem zGe {g : Nat -> Int} {len i e : Nat} {y : AI} (hb : ∀ k, k < len -> 0 <= g k /\ g k < 256) (h : zr g len i = some (y, e)) :
  e <= len /\ zM y = 0 /\ plain y = y /\ zu g i (zD y) /\ i + (zD y).length = e := by
 unfold zr at h
 split at h
 ·simp at h
 rename_i hi
 have hgi := hb i (by omega)
 split at h
 ·rename_i h4
  split at h
  ·simp at h
  ·rename_i hn
   obtain ⟨t1, t2, t3, r, t4, t5, t6⟩ := zLA (by omega) hb (by omega) (by omega) (by omega) h
   rw [t5]
   unfold zAO
   rw [if_neg (by omega)]
   refine ⟨t1, t2, t3, ⟨by omega, rfl, t4⟩, ?_⟩
   simp only [List.length_cons]; omega
 ·obtain ⟨t1, t2, t3, r, t4, t5, t6⟩ := zLA (by omega) hb (by omega) (by omega) (by decide) h
  rw [t5]
  unfold zAO
  rw [if_pos rfl]
  refine ⟨t1, t2, t3, ⟨rfl, t4⟩, ?_⟩
  simp only [List.length_cons]; omega
end Go.Proofs.YtajcmjjgnbaahaaGreat.Amd
