/- An instruction behind its prefix and its code: what is read is what stands there. -/
import Derived.Test.YtajcmjjgnbaahaaGreatAd3
import Derived.Test.YtajcmjjgnbaahaaGreatAp3
import Derived.Test.YtajcmjjgnbaahaaGreatAd4
set_option linter.unusedVariables false
set_option linter.unusedSimpArgs false
namespace Go.Proofs.YtajcmjjgnbaahaaGreat.Amd
open Go Go.Proofs.YtajcmjjgnbaahaaGreat.Sx Go.RowKit
section
variable {g : Nat -> Int} {len : Nat} {a p mm : Int}
theorem zD8 (h : a < len) : nxV g len a = g a.toNat := if_pos h
theorem zA7 (h : a < len) : nxA len a = a + 1 := if_pos h
theorem zGu (h : a < len) (b : Bool) : nxB len a b = b := by
 unfold nxB
 have : decide ((len : Int) <= a) = false := by simp; omega
 rw [this, Bool.or_false]
theorem zFJ (h : ¬ a < len) (b : Bool) : nxB len a b = true := by
 unfold nxB
 have : decide ((len : Int) <= a) = true := by simp; omega
 rw [this, Bool.or_true]
theorem zB9 : nxB len a true = true := by simp [nxB]
theorem zCZ (long : Bool) : nuB len a true long = true := by
 unfold nuB
 split <;> simp only [zB9]
theorem zQy (g : Nat -> Int) (h0 : 0 <= a) {long : Bool} (h : a + numK long <= len) : nuV g len a long = numV g a.toNat long /\ nuA len a long = a + numK long /\ ∀ b, nuB len a b long = b := by
 cases long with
 | false =>
  simp only [numK, Bool.false_eq_true, if_false] at h ⊢
  have h1 : a < len := by omega
  simp only [nuV, nuA, nuB, numV, Bool.false_eq_true, if_false, zD8 h1, zA7 h1, zGu h1]
  exact ⟨trivial, by omega, fun _ => trivial⟩
 | true =>
  simp only [numK, if_true] at h ⊢
  have h1 : a < len := by omega
  have h2 : a + 1 < len := by omega
  have h3 : a + 1 + 1 < len := by omega
  have h4 : a + 1 + 1 + 1 < len := by omega
  simp only [nuV, nuA, nuB, numV, if_true, zD8 h1, zA7 h1, zGu h1, zD8 h2, zA7 h2, zGu h2, zD8 h3, zA7 h3, zGu h3, zD8 h4, zA7 h4, zGu h4]
  refine ⟨?_, by omega, fun _ => trivial⟩
  unfold u4
  rw [show (a + 1).toNat = a.toNat + 1 by omega, show (a + 1 + 1).toNat = a.toNat + 2 by omega, show (a + 1 + 1 + 1).toNat = a.toNat + 3 by omega]
theorem zLl {long : Bool} (h : ¬ a + numK long <= len) (b : Bool) : nuB len a b long = true := by
 cases long with
 | false =>
  simp only [numK, Bool.false_eq_true, if_false] at h
  simp only [nuB, Bool.false_eq_true, if_false]
  exact zFJ (by omega) b
 | true =>
  simp only [numK, if_true] at h
  simp only [nuB, if_true]
  by_cases h1 : a < len
  ·rw [zA7 h1]
   by_cases h2 : a + 1 < len
   ·rw [zA7 h2]
    by_cases h3 : a + 1 + 1 < len
    ·rw [zA7 h3]; exact zFJ (by omega) _
    ·rw [zFJ h3, zB9]
   ·rw [zFJ h2, zB9, zB9]
  ·rw [zFJ h1, zB9, zB9, zB9]
theorem zNv : paF g len a true mm = true := by simp [paF, zB9]
theorem zPJ (h : a < len) (hm : g a.toNat / 64 = mm) (b : Bool) : paF g len a b mm = b := by
 unfold paF
 rw [zGu h, zD8 h]; simp [hm]
theorem zJV (h : ¬ (a < len /\ g a.toNat / 64 = mm)) (b : Bool) : paF g len a b mm = true := by
 unfold paF
 by_cases h1 : a < len
 ·rw [zD8 h1]
  have : ¬ g a.toNat / 64 = mm := fun e => h ⟨h1, e⟩
  simp [this]
 ·rw [zFJ h1]; rfl
theorem zNu (h : a < len) : paR g len a p = pr g a.toNat p := by unfold paR pr; rw [zD8 h]
theorem zJW (h : a < len) : paB g len a p = pb g a.toNat p := by unfold paB pb; rw [zD8 h]
theorem zNT : waF g len a true mm = true := by simp [waF, zB9]
theorem zYb (h0 : 0 <= a) (hm : zLn g len a.toNat) : a < len /\ meL g len a = memL g a.toNat /\ meV g len a = memD g a.toNat /\ meA g len a = zD3 g a.toNat /\ ∀ b, meB g len a b = b := by
 obtain ⟨m1, m2, m3, m4⟩ := hm
 have h1 : a < len := by omega
 have e1 : meL g len a = memL g a.toNat := by unfold meL memL; rw [zD8 h1]
 have e2 : meS g len a = decide (g a.toNat % 8 = 4) := by unfold meS; rw [zD8 h1]
 have e3 : meQ g len a = a + 1 + sib g a.toNat := by
  unfold meQ sib
  rw [e2]
  by_cases hs : g a.toNat % 8 = 4
  ·have := (m3 hs).1
   have h2 : a + 1 < len := by omega
   simp only [hs, decide_true, if_true, zA7 h1, zA7 h2]; omega
  ·simp only [hs, decide_false, Bool.false_eq_true, if_false, zA7 h1]; omega
 have hmm : g a.toNat / 64 = (if memL g a.toNat = true then 2 else 1) := by
  unfold memL
  rcases m2 with h | h <;> simp [h]
 have e4 : ∀ b, meF g len a b = b := fun b => by
  unfold meF
  rw [e1, e2]
  by_cases hs : g a.toNat % 8 = 4
  ·obtain ⟨q1, q2⟩ := m3 hs
   have h2 : a + 1 < len := by omega
   simp only [hs, decide_true, if_true, zA7 h1, zPJ h1 hmm]
   unfold waF
   rw [zGu h2, zD8 h2, show (a + 1).toNat = a.toNat + 1 by omega, q2]; simp
  ·simp only [hs, decide_false, Bool.false_eq_true, if_false, zPJ h1 hmm]
 have m5 : a.toNat + 1 + sib g a.toNat + numK (memL g a.toNat) <= len := m4
 obtain ⟨n1, n2, n3⟩ := zQy (len := len) (a := a + 1 + sib g a.toNat) g (by omega) (long := memL g a.toNat) (by omega)
 refine ⟨h1, e1, ?_, ?_, fun b => ?_⟩
 ·unfold meV memD
  rw [e1, e3, n1, show (a + 1 + (sib g a.toNat : Int)).toNat = a.toNat + 1 + sib g a.toNat by omega]
 ·unfold meA zD3
  rw [e1, e3, n2]; omega
 ·unfold meB
  rw [e1, e3, e4, n3]
theorem zUP (h0 : 0 <= a) (hm : ¬ zLn g len a.toNat) (b : Bool) : meB g len a b = true := by
 unfold meB
 by_cases h1 : a < len
 ·have e1 : meL g len a = memL g a.toNat := by unfold meL memL; rw [zD8 h1]
  have e2 : meS g len a = decide (g a.toNat % 8 = 4) := by unfold meS; rw [zD8 h1]
  by_cases h2 : g a.toNat / 64 = 1 ∨ g a.toNat / 64 = 2
  ·by_cases h3 : g a.toNat % 8 = 4 -> a.toNat + 1 < len /\ g (a.toNat + 1) = 36
   ·have e3 : meQ g len a = a + 1 + sib g a.toNat := by
     unfold meQ sib
     rw [e2]
     by_cases hs : g a.toNat % 8 = 4
     ·have := (h3 hs).1
      have h2 : a + 1 < len := by omega
      simp only [hs, decide_true, if_true, zA7 h1, zA7 h2]; omega
     ·simp only [hs, decide_false, Bool.false_eq_true, if_false, zA7 h1]; omega
    have h4 : ¬ zD3 g a.toNat <= len := fun h => hm ⟨by omega, h2, h3, h⟩
    unfold zD3 at h4
    rw [e1, e3]
    exact zLl (by omega) _
   ·have hs : g a.toNat % 8 = 4 := Classical.byContradiction fun h => h3 fun h' => absurd h' h
    have h5 : ¬ (a.toNat + 1 < len /\ g (a.toNat + 1) = 36) := fun h => h3 fun _ => h
    have e4 : meF g len a b = true := by
     unfold meF
     rw [e2]
     simp only [hs, decide_true, if_true, zA7 h1]
     unfold waF
     by_cases h6 : a + 1 < len
     ·rw [zD8 h6, show (a + 1).toNat = a.toNat + 1 by omega]
      have : ¬ g (a.toNat + 1) = 36 := fun e => h5 ⟨by omega, e⟩
      simp [this]
     ·rw [zFJ h6]; rfl
    rw [e4, zCZ]
  ·have e4 : meF g len a b = true := by
    have hp : paF g len a b (if meL g len a = true then 2 else 1) = true := by
     refine zJV (fun h => ?_) b
     rw [e1] at h
     have h7 := h.2
     split at h7
     ·exact h2 (.inr h7)
     ·exact h2 (.inl h7)
    unfold meF
    rw [hp, zNT]
    simp
   rw [e4, zCZ]
 ·have e4 : meF g len a b = true := by
   unfold meF
   rw [zJV (fun h => h1 h.1) b, zNT]
   simp
  rw [e4, zCZ]
theorem of16 {P : Int -> Prop} (h : ∀ n : Fin 16, P ((n.val : Nat) : Int)) (h0 : 0 <= p) (h1 : p < 16) : P p := by
 have := h ⟨p.toNat, by omega⟩
 simpa [Int.toNat_of_nonneg h0] using this
theorem zYX (h0 : 0 <= p) (h1 : p < 16) : noF p 12 false = !decide (p / 4 = 0) := of16 (P := fun p => noF p 12 false = !decide (p / 4 = 0)) (by decide) h0 h1
theorem zTQ (h0 : 0 <= p) (h1 : p < 16) : noF p 15 false = !decide (p = 0) := of16 (P := fun p => noF p 15 false = !decide (p = 0)) (by decide) h0 h1
theorem noF4 (h0 : 0 <= p) (h1 : p < 16) : noF p 4 false = !decide (p / 4 % 2 = 0) := of16 (P := fun p => noF p 4 false = !decide (p / 4 % 2 = 0)) (by decide) h0 h1
end
def zAv (g : Nat -> Int) (len : Nat) (p code a : Int) (r : InR) : Prop :=
 ((r.bad = true ∨ r.y.op = 0) /\ decC g len p code a.toNat = none) ∨ (r.bad = false /\ r.y.op ≠ 0 /\ 0 <= r.pos /\ decC g len p code a.toNat = some (r.y, r.pos.toNat))
section
variable {g : Nat -> Int} {len cap : Nat} {a p code : Int}
theorem zk {I : InR -> Prop} {op : Int} {wide long : Bool} {d s disp imm cc pos : Int} {bad : Bool} (h : I ⟨⟨op, wide, long, d, s, disp, imm, cc⟩, pos, bad⟩) : zm I g len cap p op wide long d s disp imm cc pos bad :=
 ⟨_, h, rfl, rfl, rfl, rfl, rfl, rfl, rfl, rfl, rfl, rfl, rfl, rfl, rfl, rfl, fun _ _ => rfl, trivial⟩
theorem zCr {y : AI} {e : Nat} {c : Prop} [Decidable c] {r : InR} (hd : decC g len p code a.toNat = if c then some (y, e) else none) (h0 : y.op ≠ 0) (ht : c -> r.y = y /\ r.bad = false /\ 0 <= r.pos /\ r.pos.toNat = e) (hf : ¬ c -> r.bad = true) : zAv g len p code a r := by
 by_cases hc : c
 ·right
  obtain ⟨e1, e2, e3, e4⟩ := ht hc
  rw [if_pos hc] at hd
  exact ⟨e2, by rw [e1]; exact h0, e3, by rw [hd, e1, e4]⟩
 ·left
  rw [if_neg hc] at hd
  exact ⟨.inl (hf hc), hd⟩
theorem zSL (h0 : 0 <= a) (h1 : a <= 4611686018427387904) : add1 a = a + 1 := by
 unfold add1; simp only [IE.den]; exact zE (by omega) (by omega)
theorem zQA (h0 : 0 <= a) (h1 : a <= 4611686018427387904) : sub1 a = a := by
 have e := zSL h0 h1
 unfold add1 at e
 unfold sub1
 simp only [IE.den] at e ⊢
 rw [e, zE (by omega) (by omega)]; omega
theorem zZt (h0 : 0 <= a) (h1 : a <= 4611686018427387904) : at1 a = a.toNat := by
 unfold at1; rw [zQA h0 h1, Nat.zero_add]
theorem zGG (h0 : 0 <= p) (h1 : p < 16) : zq p = hiW p := of16 (P := fun p => zq p = hiW p) (by decide) h0 h1
theorem zTu {x : Int} (h0 : 0 <= x) (h1 : x < 256) : ccI x = x % 16 := by
 unfold ccI; simp only [IE.den]
 rw [zW8 h0 h1, zE (by omega) (by omega)]
theorem zY0 (x : Int) : geB x = decide (128 <= x) := by
 unfold geB; simp only [BE.den, IE.den, zAG]
theorem zUQ {x : Int} (h0 : 0 <= x) (h1 : x < 256) (hp0 : 0 <= p) (hp1 : p < 16) : lowI x p = x % 8 + hiB p := by
 have hh := zD6 p
 unfold lowI; simp only [IE.den, hiV1 hp0 hp1]
 rw [and7 h0 h1, zE (n := x % 8) (by omega) (by omega), zE (by omega) (by omega)]
theorem zXO {u : Int} (h0 : 0 <= u) (h1 : u <= 4294967295) : unsI (s32 u) = u := by
 unfold unsI s32; simp only [IE.den]
 rw [zEa]
 split <;> (rw [zE (by omega) (by omega)]; omega)
theorem zTS (hg : zAD g len cap a p) (k : Int) : nB g len a k = decide (k = zCO g len a.toNat / 8 % 8) := by
 have hb := hg.nx
 have h0 := hg.pos0
 unfold nB; simp only [BE.den, IE.den, za]
 rw [show shrI .u8 (nxV g len a) 3 = nxV g len a / 2 ^ 3 from zNe _ 3 (by decide), and7 (by omega) (by omega), zE (by omega) (by omega)]
 have : nxV g len a = zCO g len a.toNat := by
  unfold nxV zCO
  by_cases h : a < len
  ·rw [if_pos h, if_pos (by omega)]
  ·rw [if_neg h, if_neg (by omega)]
 rw [this]; rfl
theorem zZv {x : Int} (h0 : 0 <= x) (h1 : x < 256) : zAy .and .u8 x 248 = x / 8 * 8 := by
 have : ∀ n : Fin 256, zAy .and .u8 ((n.val : Nat) : Int) 248 = ((n.val : Nat) : Int) / 8 * 8 := by decide +kernel
 have h := this ⟨x.toNat, by omega⟩
 simpa [Int.toNat_of_nonneg h0] using h
theorem zZw {x : Int} (h0 : 0 <= x) (h1 : x < 256) : zAy .and .u8 x 240 = x / 16 * 16 := by
 have : ∀ n : Fin 256, zAy .and .u8 ((n.val : Nat) : Int) 240 = ((n.val : Nat) : Int) / 16 * 16 := by decide +kernel
 have h := this ⟨x.toNat, by omega⟩
 simpa [Int.toNat_of_nonneg h0] using h
theorem zPe (x n : Int) : BE.den (.cmp .eql (.var x) (.lit n)) = decide (x = n) := by simp only [BE.den, IE.den, za]
theorem zbJ (x n : Int) : BE.den (.cmp .eql (.lit n) (.var x)) = decide (n = x) := by simp only [BE.den, IE.den, za]
theorem zbK {x : Int} (h0 : 0 <= x) (h1 : x < 256) (n : Int) : BE.den (.cmp .eql (.bits .and .u8 (.var x) (.lit 248)) (.lit n)) = decide (x / 8 * 8 = n) := by
 simp only [BE.den, IE.den, za]; rw [zZv h0 h1]
theorem zTw {x : Int} (h0 : 0 <= x) (h1 : x < 256) (n : Int) : BE.den (.cmp .eql (.bits .and .u8 (.var x) (.lit 240)) (.lit n)) = decide (x / 16 * 16 = n) := by
 simp only [BE.den, IE.den, za]; rw [zZw h0 h1]
theorem zZn {x : Int} (h0 : 0 <= x) (h1 : x < 256) : BE.den (.cmp .lss (.conv .i64 (.bits .and .u8 (.var x) (.lit 15))) (.lit 2)) = decide (x % 16 < 2) := by
 have := zTu h0 h1
 unfold ccI at this
 simp only [BE.den]; rw [this]; simp only [IE.den, zQ]
theorem zZm {x : Int} (h0 : 0 <= x) (h1 : x < 256) : BE.den (.cmp .gtr (.conv .i64 (.bits .and .u8 (.var x) (.lit 15))) (.lit 7)) = decide (7 < x % 16) := by
 have := zTu h0 h1
 unfold ccI at this
 simp only [BE.den]; rw [this]; simp only [IE.den, zAS]
theorem zFu (hg : zAD g len cap a p) {op c : Int} (h0 : op ≠ 0) (hd : decC g len p c a.toNat = dTwo g len op p a.toNat) : zAv g len p c a ⟨⟨op, zq p, false, paB g len a p, paR g len a p, 0, 0, 0⟩, nxA len a, paF g len a false 3⟩ := by
 have e0 := hg.pos0
 refine zCr hd h0 (fun ⟨c1, c2⟩ => ?_) fun h => ?_
 ·have h1 : a < len := by omega
  dsimp only
  rw [zGG hg.p0 hg.p1, zJW h1, zNu h1, zA7 h1, zPJ h1 c2]
  exact ⟨rfl, rfl, by omega, by omega⟩
 ·exact zJV (fun ⟨h1, h2⟩ => h ⟨by omega, h2⟩) false
theorem zWF (hg : zAD g len cap a p) {c : Int} (hd : decC g len p c a.toNat = zTs g len p (a.toNat + 1)) : zAv g len p c a ⟨⟨13, zq p, false, paR g len (a + 1) p, paB g len (a + 1) p, 0, 0, 0⟩, nxA len (a + 1), paF g len (a + 1) false 3⟩ := by
 have e0 := hg.pos0
 have et : (a + 1).toNat = a.toNat + 1 := by omega
 refine zCr hd (by simp) (fun ⟨c1, c2⟩ => ?_) fun h => ?_
 ·have h1 : a + 1 < len := by omega
  dsimp only
  rw [zGG hg.p0 hg.p1, zJW h1, zNu h1, zA7 h1, zPJ h1 (by rw [et]; exact c2), et]
  exact ⟨rfl, rfl, by omega, by omega⟩
 ·exact zJV (fun ⟨h1, h2⟩ => h ⟨by omega, by rw [<- et]; exact h2⟩) false
theorem zLr (hg : zAD g len cap a p) {op c : Int} (h0 : op ≠ 0) (hd : decC g len p c a.toNat = dOne g len op p a.toNat) : zAv g len p c a ⟨⟨op, zq p, false, paB g len a p, 0, 0, 0, 0⟩, nxA len a, paF g len a (noF p 4 false) 3⟩ := by
 have e0 := hg.pos0
 refine zCr hd h0 (fun ⟨c0, c1, c2⟩ => ?_) fun h => ?_
 ·have h1 : a < len := by omega
  dsimp only
  rw [zGG hg.p0 hg.p1, zJW h1, zA7 h1, zPJ h1 c2, noF4 hg.p0 hg.p1]
  exact ⟨rfl, by simp [c0], by omega, by omega⟩
 ·dsimp only
  by_cases hp : p / 4 % 2 = 0
  ·exact zJV (fun ⟨h1, h2⟩ => h ⟨hp, by omega, h2⟩) _
  ·rw [noF4 hg.p0 hg.p1]; simp only [hp, decide_false, Bool.not_false]; exact zNv
theorem zG2 (hg : zAD g len cap a p) {op c : Int} {long : Bool} (hl : decide (c = 129) = long) (h0 : op ≠ 0) (hd : decC g len p c a.toNat = dImm g len op p c a.toNat) :
  zAv g len p c a ⟨⟨op, zq p, long, paB g len a p, 0, 0, nuV g len (nxA len a) long, 0⟩, nuA len (nxA len a) long, nuB len (nxA len a) (paF g len a (noF p 4 false) 3) long⟩ := by
 have e0 := hg.pos0
 unfold dImm at hd
 rw [hl] at hd
 refine zCr hd h0 (fun ⟨c0, c1, c2, c3⟩ => ?_) fun h => ?_
 ·have h1 : a < len := by omega
  obtain ⟨n1, n2, n3⟩ := zQy (len := len) (a := a + 1) g (by omega) (long := long) (by omega)
  dsimp only
  rw [zGG hg.p0 hg.p1, zJW h1, zA7 h1, zPJ h1 c2, noF4 hg.p0 hg.p1, n1, n2, n3, show (a + 1).toNat = a.toNat + 1 by omega]
  exact ⟨rfl, by simp [c0], by omega, by omega⟩
 ·dsimp only
  by_cases hp : p / 4 % 2 = 0
  ·by_cases h1 : a < len /\ g a.toNat / 64 = 3
   ·rw [zA7 h1.1]
    exact zLl (fun h2 => h ⟨hp, by omega, h1.2, by omega⟩) _
   ·rw [zJV h1, zCZ]
  ·rw [noF4 hg.p0 hg.p1]; simp only [hp, decide_false, Bool.not_false]; rw [zNv, zCZ]
theorem zWE (hg : zAD g len cap a p) {c : Int} (hd : decC g len p c a.toNat = zR8 g len p a.toNat) : zAv g len p c a ⟨⟨3, zq p, meL g len a, paR g len a p, paB g len a p, meV g len a, 0, 0⟩, meA g len a, meB g len a false⟩ := by
 have e0 := hg.pos0
 refine zCr hd (by simp) (fun hm => ?_) fun h => zUP e0 h false
 obtain ⟨h1, m1, m2, m3, m4⟩ := zYb e0 hm
 dsimp only
 rw [zGG hg.p0 hg.p1, zJW h1, zNu h1, m1, m2, m3, m4]
 exact ⟨rfl, rfl, by omega, by omega⟩
theorem zTV (hg : zAD g len cap a p) {c : Int} (hd : decC g len p c a.toNat = zMF g len p a.toNat) : zAv g len p c a ⟨⟨4, zq p, meL g len a, paB g len a p, paR g len a p, meV g len a, 0, 0⟩, meA g len a, meB g len a false⟩ := by
 have e0 := hg.pos0
 refine zCr hd (by simp) (fun hm => ?_) fun h => zUP e0 h false
 obtain ⟨h1, m1, m2, m3, m4⟩ := zYb e0 hm
 dsimp only
 rw [zGG hg.p0 hg.p1, zJW h1, zNu h1, m1, m2, m3, m4]
 exact ⟨rfl, rfl, by omega, by omega⟩
theorem zOG (hg : zAD g len cap a p) {op c : Int} (h0 : op ≠ 0) (hc0 : 0 <= c) (hc1 : c < 256) (hd : decC g len p c a.toNat = zIk op p c a.toNat) : zAv g len p c a ⟨⟨op, false, false, lowI c p, 0, 0, 0, 0⟩, a, noF p 12 false⟩ := by
 have e0 := hg.pos0
 rw [zUQ hc0 hc1 hg.p0 hg.p1, zYX hg.p0 hg.p1]
 refine zCr hd h0 (fun h => ⟨rfl, by simp [h], e0, rfl⟩) fun h => by simp [h]
theorem zYi (hg : zAD g len cap a p) {c : Int} (hc0 : 0 <= c) (hc1 : c < 256) (hd : decC g len p c a.toNat = dMov g len p c a.toNat) : zAv g len p c a ⟨⟨1, false, false, lowI c p, 0, 0, unsI (nuV g len a true), 0⟩, nuA len a true, nuB len a (noF p 12 false) true⟩ := by
 have e0 := hg.pos0
 rw [zUQ hc0 hc1 hg.p0 hg.p1, zYX hg.p0 hg.p1]
 refine zCr hd (by simp) (fun ⟨c1, c2⟩ => ?_) fun h => ?_
 ·obtain ⟨n1, n2, n3⟩ := zQy (len := len) (a := a) g (by omega) (long := true) (by simp only [numK, if_true]; omega)
  obtain ⟨_, u2, u3⟩ := zPw (g := g) (p := a.toNat) fun k h1 h2 => hg.byte k (by omega)
  dsimp only
  rw [n1, n2, n3]
  simp only [numV, if_true, numK]
  rw [zXO u2 u3]
  exact ⟨rfl, by simp [c1], by omega, by omega⟩
 ·dsimp only
  by_cases hp : p / 4 = 0
  ·exact zLl (fun h2 => h ⟨hp, by simp only [numK, if_true] at h2; omega⟩) _
  ·simp only [hp, decide_false, Bool.not_false]; exact zCZ true
theorem zUS (hg : zAD g len cap a p) {c : Int} {long : Bool} (hl : decide (c = 233) = long) (hd : decC g len p c a.toNat = dJmp g len p c a.toNat) : zAv g len p c a ⟨⟨25, false, long, 0, 0, 0, nuV g len a long, 0⟩, nuA len a long, nuB len a (noF p 15 false) long⟩ := by
 have e0 := hg.pos0
 rw [zTQ hg.p0 hg.p1]
 unfold dJmp at hd
 rw [hl] at hd
 refine zCr hd (by simp) (fun ⟨c1, c2⟩ => ?_) fun h => ?_
 ·obtain ⟨n1, n2, n3⟩ := zQy (len := len) (a := a) g (by omega) (long := long) (by omega)
  dsimp only
  rw [n1, n2, n3]
  exact ⟨rfl, by simp [c1], by omega, by omega⟩
 ·dsimp only
  by_cases hp : p = 0
  ·exact zLl (fun h2 => h ⟨hp, by omega⟩) _
  ·simp only [hp, decide_false, Bool.not_false]; exact zCZ long
theorem zYh (hg : zAD g len cap a p) {c : Int} (hd : decC g len p c a.toNat = dRet p a.toNat) : zAv g len p c a ⟨⟨27, false, false, 0, 0, 0, 0, 0⟩, a, noF p 15 false⟩ := by
 have e0 := hg.pos0
 rw [zTQ hg.p0 hg.p1]
 refine zCr hd (by simp) (fun h => ⟨rfl, by simp [h], e0, rfl⟩) fun h => by simp [h]
theorem zKm (_ : zAD g len cap a p) {c q cc : Int} {long : Bool} {y : AI} {e : Int} (hd : decC g len p c a.toNat = dJcc g len p cc long q.toNat) (h : p ≠ 0 ∨ cc < 2) (L : Bool) : zAv g len p c a ⟨y, e, nuB len q true L⟩ := by
 left
 refine ⟨.inl (zCZ L), ?_⟩
 rw [hd]; unfold dJcc; rw [if_neg (by omega)]
theorem zRI (_ : zAD g len cap a p) {c q cc : Int} {long : Bool} (hq : 0 <= q) (hp : p = 0) (h2 : 2 <= cc) (hd : decC g len p c a.toNat = dJcc g len p cc long q.toNat) :
  zAv g len p c a ⟨⟨26, false, long, 0, 0, 0, nuV g len q long, cc⟩, nuA len q long, nuB len q (decide (7 < cc)) long⟩ := by
 refine zCr hd (by simp) (fun ⟨c1, c2, c3, c4⟩ => ?_) fun h => ?_
 ·obtain ⟨n1, n2, n3⟩ := zQy (len := len) (a := q) g (by omega) (long := long) (by omega)
  dsimp only
  rw [n1, n2, n3]
  exact ⟨rfl, by simp; omega, by omega, by omega⟩
 ·dsimp only
  by_cases hc : 7 < cc
  ·simp only [hc, decide_true]; exact zCZ long
  ·exact zLl (fun h3 => h ⟨hp, h2, by omega, by omega⟩) _
theorem zGa (_ : zAD g len cap a p) {c : Int} {y : AI} {e : Int} {b : Bool} (hy : y.op = 0) (hd : decC g len p c a.toNat = none) : zAv g len p c a ⟨y, e, b⟩ := .inl ⟨.inr hy, hd⟩
theorem zQ2 (hg : zAD g len cap a p) (h : noF p 15 false = true) : p ≠ 0 := by
 rw [zTQ hg.p0 hg.p1] at h; simpa using h
theorem zQ3 (hg : zAD g len cap a p) (h : noF p 15 false = false) : p = 0 := by
 rw [zTQ hg.p0 hg.p1] at h; simpa using h
theorem zPB (hg : zAD g len cap a p) (hc0 : 0 <= code) (hc1 : code < 256) (h15 : ¬ (code = 15 /\ a.toNat < len)) (n235 : code ≠ 235) (n137 : code ≠ 137) (n131 : code ≠ 131) (n129 : code ≠ 129) (n247 : code ≠ 247) (n211 : code ≠ 211) :
  zQX g len cap a p false code (zAv g len p code a) := by
 have A : askA len cap := ask2 hg.room
 have B : preP g len cap a p := preG hg
 have e0 := hg.pos0
 unfold zQX
 simp only [zbK hc0 hc1, zTw hc0 hc1, zPe, zbJ, zZn hc0 hc1, zZm hc0 hc1, decide_eq_true_eq, decide_eq_false_iff_not, zTu hc0 hc1, zY0]
 refine ⟨fun h => ⟨A, B, A, B, A, B, zk (zYi hg hc0 hc1 (by unfold decC; rw [if_neg h15, if_pos (by omega)]))⟩, fun k1 => ?_⟩
 refine ⟨fun h => ⟨A, B, A, B, zk (zOG hg (by decide) hc0 hc1 (by unfold decC; rw [if_neg h15, if_neg (by omega), if_pos (by omega)]))⟩, fun k2 => ?_⟩
 refine ⟨fun h => ⟨A, B, A, B, zk (zOG hg (by decide) hc0 hc1 (by unfold decC; rw [if_neg h15, if_neg (by omega), if_neg (by omega), if_pos (by omega)]))⟩, fun k3 => ?_⟩
 have hj : code / 16 * 16 = 112 -> decC g len p code a.toNat = dJcc g len p (code % 16) false a.toNat := fun h => by
  unfold decC; rw [if_neg h15, if_neg (by omega), if_neg (by omega), if_neg (by omega), if_pos (by omega)]
 refine ⟨fun h => ?_, fun k4 => ?_⟩
 ·have hl : decide (128 <= code) = false := by simp; omega
  rw [hl]
  refine ⟨A, B, fun hn => ⟨A, B, zk (zKm hg (hj h) (.inl (zQ2 hg hn)) false)⟩, fun hn => ⟨fun h2 => ⟨A, B, zk (zKm hg (hj h) (.inr h2) false)⟩, fun h2 => ⟨A, B, zk (zRI hg e0 (zQ3 hg hn) (by omega) (hj h))⟩⟩⟩
 refine ⟨n235, fun h => ⟨A, B, A, B, ?_⟩, fun k5 => ?_⟩
 ·subst h
  exact zk (zUS hg rfl (by unfold decC; simp))
 refine ⟨fun h => ⟨A, B, ?_⟩, fun k6 => ?_⟩
 ·subst h
  exact zk (zYh hg (by unfold decC; simp))
 refine ⟨fun h => ⟨A, B, ?_⟩, fun k7 => ?_⟩
 ·subst h
  exact zk (zWE hg (by unfold decC; simp))
 refine ⟨n137, fun h => absurd h.symm n137, fun _ => ?_⟩
 refine ⟨fun h => ⟨A, B, ?_⟩, fun k8 => ?_⟩
 ·subst h; exact zk (zFu hg (by decide) (by unfold decC; simp))
 refine ⟨fun h => ⟨A, B, ?_⟩, fun k9 => ?_⟩
 ·subst h; exact zk (zFu hg (by decide) (by unfold decC; simp))
 refine ⟨fun h => ⟨A, B, ?_⟩, fun k10 => ?_⟩
 ·subst h; exact zk (zFu hg (by decide) (by unfold decC; simp))
 refine ⟨fun h => ⟨A, B, ?_⟩, fun k11 => ?_⟩
 ·subst h; exact zk (zFu hg (by decide) (by unfold decC; simp))
 refine ⟨fun h => ⟨A, B, ?_⟩, fun k12 => ?_⟩
 ·subst h; exact zk (zFu hg (by decide) (by unfold decC; simp))
 refine ⟨fun h => ⟨A, B, ?_⟩, fun k13 => ?_⟩
 ·subst h; exact zk (zFu hg (by decide) (by unfold decC; simp))
 refine ⟨fun h => ⟨A, B, ?_⟩, fun k14 => ?_⟩
 ·subst h; exact zk (zFu hg (by decide) (by unfold decC; simp))
 refine ⟨fun h => ⟨A, B, ?_⟩, fun k15 => ?_⟩
 ·subst h; exact zk (zFu hg (by decide) (by unfold decC; simp))
 refine ⟨n131, n129, n131, n129, n131, n129, n131, n129, fun h => n247 h.symm, fun h => n247 h.symm, fun h => n247 h.symm, fun h => n211 h.symm, fun h => n211 h.symm, zk (zGa hg rfl ?_)⟩
 unfold decC
 rw [if_neg h15, if_neg (by omega), if_neg (by omega), if_neg (by omega), if_neg (by omega), if_neg n235, if_neg k5, if_neg k6, if_neg k7, if_neg n137, if_neg (Ne.symm k8), if_neg (Ne.symm k9), if_neg (Ne.symm k10), if_neg (Ne.symm k11), if_neg (Ne.symm k12), if_neg (Ne.symm k13), if_neg (Ne.symm k14), if_neg (Ne.symm k15), if_neg (by omega), if_neg n247, if_neg n211]
end
end Go.Proofs.YtajcmjjgnbaahaaGreat.Amd
