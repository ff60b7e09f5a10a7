/- ScanJumps answers true. -/
import Derived.Test.YtajcmjjgnbaahaaSj3
import Derived.Test.YtajcmjjgnbaahaaSj4
namespace Go.Proofs.Ytajcmjjgnbaahaa.Amd
open Go Go.Proofs.Ytajcmjjgnbaahaa.Sx Go.RowKit
set_option linter.unusedVariables false
set_option linter.unusedSimpArgs false

structure JC (t : Int) (g : Nat → Int) (len cap : Nat) (b : NuR) (r : StR) (P : Nat → Nat) (K : Nat → Option Int) : Prop where
  hg : BGood g len cap
  hl : len ≤ 1048576
  w : WholeW t g len r.n P K
  n : b.n = (fnd P K r.n).length
  O : ∀ j, j < b.n → b.O j = ((fnd P K r.n).getD j (0, 0)).2
  S : ∀ i, i < r.n → r.S i = P i
  h1 : b.n ≤ b.c
  h2 : r.n ≤ r.c
def jsAt (b : NuR) (r : StR) (i : Nat) : JSt := ⟨b.n, b.c, b.O, r.n, r.c, r.S, i⟩
def jInv (b : NuR) (r : StR) (M : Nat) : JSt → Prop := fun a => ∃ i, a = jsAt b r i ∧ i ≤ M
variable {t : Int} {g : Nat → Int} {len cap : Nat} {b : NuR} {r : StR} {P' : Nat → Nat} {K : Nat → Option Int}
theorem addI_one {i M : Nat} (h : i ≤ M) (hM : M ≤ 1073741824) : IE.den (IE.add IntKind.i64 (IE.var (i : Int)) (IE.lit 1)) = ((i + 1 : Nat) : Int) := by
  show IntKind.i64.wrap ((i : Int) + 1) = ((i + 1 : Nat) : Int)
  rw [wrap_i64_in (by omega) (by omega)]; omega
theorem tail3_yes (c : JC t g len cap b r P' K) {i q : Nat} (hi : i < b.n) (hq : q < r.n) (hno : ∀ r' : HsR, HsO t g (P' q) (low (b.O i)) r' → r'.has = false) (k : Nat) :
    tail3 t g len cap yes (jInv b r b.n) (fun a => b.n - JSt.i a) (jsAt b r i) ⟨jsAt b r i, (P' q : Int), true, 0, true, k⟩ := by
  have hroom := c.hg.room
  have hup := c.w.up c.hg.byte hq
  have hl := c.hl
  have hn := c.w.le
  have hm := fnd_le (P := P') (K := K) r.n
  have hbn := c.n
  unfold tail3
  refine ⟨ask2 (by show Int.toNat (P' q : Int) ≤ cap; simp; omega), fun cs' hcs => ?_⟩
  have hc : colG cs' = g := by rw [hcs]; rfl
  rw [hc]
  have ep : Int.toNat (KSt.p ⟨jsAt b r i, (P' q : Int), true, 0, true, k⟩) = P' q := by simp
  rw [ep]
  refine ⟨⟨by rw [hcs]; exact ⟨g, rfl⟩, ⟨by omega, by have := c.hg.small; omega, fun k hk => c.hg.byte k (by omega)⟩, by show P' q ≤ 1073741824; omega⟩, fun r' hr' => ⟨fun hh => ?_, fun _ => ?_⟩⟩
  · rw [low_and] at hr'
    have e : (0 + NE.den (IE.nat (IE.var (i : Int)))) = i := by show 0 + Int.toNat (i : Int) = i; simp
    have e2 : JSt.O (KSt.j ⟨jsAt b r i, (P' q : Int), true, 0, true, k⟩) (0 + NE.den (IE.nat (IE.var (i : Int)))) = b.O i := by rw [e]; rfl
    have hr2 : HsO t g (P' q) (low (JSt.O (KSt.j ⟨jsAt b r i, (P' q : Int), true, 0, true, k⟩) (0 + NE.den (IE.nat (IE.var (i : Int)))))) r' := hr'
    rw [e2] at hr2
    rw [hno r' hr2] at hh; cases hh
  · refine ⟨jsAt b r (i + 1), ⟨i + 1, rfl, hi⟩, ?_, rfl, rfl, rfl, rfl, rfl, rfl, rfl, addI_one (Nat.le_of_lt hi) (by omega), rfl, fun _ _ => rfl, rfl, fun _ _ => rfl, rfl, fun _ _ => rfl, trivial⟩
    show b.n - (i + 1) < b.n - i
    omega
theorem loop3_yes (c : JC t g len cap b r P' K) {i : Nat} (hi : i < b.n) {h : HsR} (hh : HsO t g len (low (b.O i)) h) :
    loop3 t g len cap yes (jInv b r b.n) (fun a => b.n - JSt.i a) (jsAt b r i) h := by
  have hroom := c.hg.room
  have hl := c.hl
  have hn := c.w.le
  have hbn := c.n
  have hm := fnd_le (P := P') (K := K) r.n
  have h1 := c.h1
  have h2 := c.h2
  obtain ⟨f1, f2, q, f3, f4, f5⟩ := has_found c.hg.byte c.w (i := i) (by omega) (k := low (b.O i)) (by rw [c.O i hi]) hh
  have hup := c.w.up c.hg.byte f3
  unfold loop3
  refine ⟨fun x => ∃ (bb : Bool) (k : Nat), x = ⟨jsAt b r i, (P' q : Int), true, 0, bb, k⟩ ∧ k ≤ r.n ∧ (q < k → bb = true), fun x => r.n - x.k, ⟨⟨jsAt b r i, (P' q : Int), true, 0, false, 0⟩, ⟨false, 0, rfl, Nat.zero_le _, fun h => absurd h (Nat.not_lt_zero _)⟩, rfl, rfl, rfl, rfl, rfl, rfl, rfl, rfl, f4, f2, f1, rfl, rfl, rfl, fun _ _ => rfl, rfl, fun _ _ => rfl, rfl, fun _ _ => rfl, trivial⟩, ?_, fun _ _ h => h.elim⟩
  rintro _ _ ⟨bb, k, rfl, hk, hb⟩
  refine ⟨fun hlt => ?_, fun hge => ?_⟩
  · have hlt : (k : Int) < (r.n : Int) := by simpa [BE.den, IE.den, cmpI_lss, jsAt] using hlt
    have hk' : k < r.n := by omega
    refine ⟨fun hbt => ?_, fun hbf => ?_⟩
    · refine ⟨⟨jsAt b r i, (P' q : Int), true, 0, true, k + 1⟩, ⟨true, k + 1, rfl, hk', fun _ => rfl⟩, ?_, rfl, rfl, rfl, rfl, rfl, rfl, rfl, rfl, rfl, rfl, rfl, rfl, addI_one hk (by omega), rfl, fun _ _ => rfl, rfl, fun _ _ => rfl, rfl, fun _ _ => rfl, trivial⟩
      show r.n - (k + 1) < r.n - k
      omega
    · have hkt : 0 + Int.toNat (k : Int) = k := by simp
      have hs : JSt.S (jsAt b r i) (0 + Int.toNat (k : Int)) = (P' k : Int) := by rw [hkt]; exact c.S k hk'
      refine ⟨ask_ix (decide_eq_true ⟨h2, by show 0 + r.c ≤ r.c; omega⟩) (decide_eq_true ⟨by omega, hlt⟩), decide_eq_true (by show 0 + Int.toNat (k : Int) + 1 ≤ r.c; omega), ⟨jsAt b r i, (P' q : Int), true, 0, decide ((P' k : Int) = (P' q : Int)), k + 1⟩, ⟨_, k + 1, rfl, hk', fun hq => ?_⟩, ?_, rfl, rfl, rfl, rfl, rfl, rfl, rfl, rfl, rfl, rfl, rfl, ?_, addI_one hk (by omega), rfl, fun _ _ => rfl, rfl, fun _ _ => rfl, rfl, fun _ _ => rfl, trivial⟩
      · have hbf : bb = false := hbf
        have hkq : k = q := by
          refine Classical.byContradiction fun hne => ?_
          rw [hb (by omega)] at hbf; cases hbf
        rw [hkq]; exact decide_eq_true rfl
      · show r.n - (k + 1) < r.n - k
        omega
      · show BE.den (BE.cmp BinOp.eql (IE.var (JSt.S (jsAt b r i) (0 + Int.toNat (k : Int)))) (IE.var (P' q : Int))) = _
        rw [hs]; simp [BE.den, IE.den, cmpI_eql]
  · have hge : ¬ (k : Int) < (r.n : Int) := by simpa [BE.den, IE.den, cmpI_lss, jsAt] using hge
    have hbt : bb = true := hb (by omega)
    subst hbt
    have tl := tail3_yes c hi f3 f5 k
    have a1 : BE.den (BE.ite (BE.var (decide (len ≤ cap ∧ 0 + cap ≤ cap))) (BE.var (decide (0 ≤ (P' q : Int) ∧ (P' q : Int) < ((cap + 1 : Nat) : Int)))) (BE.lit false)) = true := ask_ix (decide_eq_true ⟨hroom, by omega⟩) (decide_eq_true ⟨by omega, by omega⟩)
    have a2 : BE.den (BE.ite (BE.var (decide (b.n ≤ b.c ∧ 0 + b.c ≤ b.c))) (BE.var (decide (0 ≤ (i : Int) ∧ (i : Int) < (b.n : Int)))) (BE.lit false)) = true := ask_ix (decide_eq_true ⟨h1, by omega⟩) (decide_eq_true ⟨by omega, by omega⟩)
    have a3 : decide (0 + Int.toNat (i : Int) + 1 ≤ b.c) = true := decide_eq_true (by simp; omega)
    exact ⟨fun h => by simp [BE.den] at h, fun _ => ⟨fun h => by simp [BE.den, IE.den, cmpI_neq] at h, fun _ => ⟨fun h => by simp [BE.den] at h, fun _ => ⟨⟨a1, a2, a3, tl⟩, a2, ⟨a1, a3, tl⟩, a3, a1, tl⟩⟩⟩⟩
theorem loop2_yes (c : JC t g len cap b r P' K) (i0 : Nat) : loop2 t g len cap yes (jsAt b r i0) := by
  have hroom := c.hg.room
  have hl := c.hl
  have hn := c.w.le
  have hbn := c.n
  have hm := fnd_le (P := P') (K := K) r.n
  have h1 := c.h1
  unfold loop2
  refine ⟨jInv b r b.n, fun a => b.n - JSt.i a, ⟨jsAt b r 0, ⟨0, rfl, Nat.zero_le _⟩, rfl, rfl, rfl, rfl, rfl, rfl, rfl, rfl, rfl, fun _ _ => rfl, rfl, fun _ _ => rfl, rfl, fun _ _ => rfl, trivial⟩, ?_, fun _ _ h => h⟩
  rintro _ _ ⟨i, rfl, hi⟩
  refine ⟨fun hlt => ⟨fun _ => ?_, fun _ ν => rfl⟩, fun _ ν => rfl⟩
  have hlt : (i : Int) < (b.n : Int) := by simpa [BE.den, IE.den, cmpI_lss, jsAt] using hlt
  refine ⟨ask_ix (decide_eq_true ⟨h1, by show 0 + b.c ≤ b.c; omega⟩) (decide_eq_true ⟨by omega, hlt⟩), decide_eq_true (by show 0 + Int.toNat (i : Int) + 1 ≤ b.c; simp; omega), ask2 hroom, fun cs' hcs => ?_⟩
  have hc : colG cs' = g := by rw [hcs]; rfl
  rw [hc]
  refine ⟨⟨by rw [hcs]; exact ⟨g, rfl⟩, c.hg, by show len ≤ 1073741824; omega⟩, fun h hh => ?_⟩
  rw [low_and] at hh
  have e : (0 + NE.den (IE.nat (IE.var (i : Int)))) = i := by show 0 + Int.toNat (i : Int) = i; simp
  have hh2 : HsO t g len (low (b.O (0 + NE.den (IE.nat (IE.var (i : Int)))))) h := hh
  rw [e] at hh2
  exact loop3_yes c (by omega) hh2
set_option maxRecDepth 100000 in
theorem jumps_sx (hg : BGood g len cap) (hl : len ≤ 1048576) :
    sxFunc P SJ (jPlan t g len cap) Try.f8 [.int .i64 (.var t), sA 0 len cap] [rdRow g cap] (fun v _ => yes v) := by
  rw [jumps_nf]
  have hroom := hg.room
  refine ⟨ask2 hroom, fun cs1 hcs1 => ?_⟩
  have e1 : colG cs1 = g := by rw [hcs1]; rfl
  rw [e1]
  refine ⟨⟨by rw [hcs1]; exact ⟨g, rfl⟩, hg, by show len ≤ 1073741824; omega⟩, fun b hb => ⟨ask2 hroom, fun cs2 hcs2 => ?_⟩⟩
  have e2 : colG cs2 = g := by rw [hcs2]; rfl
  rw [e2]
  refine ⟨⟨by rw [hcs2]; exact ⟨g, rfl⟩, hg, by show len ≤ 1073741824; omega⟩, fun r hr => ?_⟩
  have h1 := hb.h1
  have h2 := hr.h1
  rcases hb.all with ⟨b1, b2, n, P1, K1, w1, b3, b4, b5⟩ | ⟨b1, x, bx, b2, b3⟩
  · rcases hr.all with ⟨r1, r2, P2, K2, w2, r3⟩ | ⟨_, x, bx, _, _⟩
    rotate_left
    · exact (not_both w1 bx).elim
    obtain ⟨ee, ef⟩ := w1.ch.end_same w1.fin w2.ch w2.fin
    have c : JC t g len cap b r P2 K2 := ⟨hg, hl, w2, by rw [b4, ef], fun j hj => by rw [b5 j hj, ef], r3, h1, h2⟩
    have hn := w2.le
    have hm := fnd_le (P := P2) (K := K2) r.n
    have hbn := c.n
    refine ⟨fun h => n_neq (by rw [b1, r1]) h, fun _ => ⟨fun h => n_neq (by rw [b2, r2]) h, fun _ => ⟨fun h => n_neqL b1 h, fun _ => ⟨fun h => n_gtr (by omega) h, fun _ => ⟨fun h => ?_, fun _ => ?_⟩⟩⟩⟩⟩
    · exfalso
      have hz : (r.n = 0) ↔ (len = 0) := by
        constructor
        · intro h0
          have := w2.fin; rw [h0, w2.ch.p0] at this; exact this.symm
        · intro h0
          refine Classical.byContradiction fun hne => ?_
          have := (w2.ch.step 0 (by omega)).1; omega
      by_cases h0 : r.n = 0
      · have h0' := hz.1 h0
        simp [BE.den, IE.den, cmpI_eql, h0, h0'] at h
      · have h0' : ¬ len = 0 := fun hx => h0 (hz.2 hx)
        simp [BE.den, IE.den, cmpI_eql, h0, h0'] at h
    · refine ⟨jInv b r r.n, fun a => r.n - JSt.i a, ⟨jsAt b r 0, ⟨0, rfl, Nat.zero_le _⟩, rfl, rfl, rfl, rfl, rfl, rfl, rfl, rfl, rfl, fun _ _ => rfl, rfl, fun _ _ => rfl, rfl, fun _ _ => rfl, trivial⟩, ?_, fun _ _ h => h⟩
      rintro _ _ ⟨i, rfl, hi⟩
      have next : i < r.n → ∃ a', jInv b r r.n a' ∧ Nat.le (Nat.succ (r.n - JSt.i a')) (r.n - JSt.i (jsAt b r i)) ∧ t = t ∧ len = len ∧ cap = cap ∧ JSt.n (jsAt b r i) = JSt.n a' ∧ JSt.c (jsAt b r i) = JSt.c a' ∧ JSt.m (jsAt b r i) = JSt.m a' ∧ JSt.d (jsAt b r i) = JSt.d a' ∧ IE.den (IE.add IntKind.i64 (IE.var (↑(JSt.i (jsAt b r i)) : Int)) (IE.lit 1)) = (↑(JSt.i a') : Int) ∧ cap = cap ∧ (∀ (e : Nat), e < cap → g e = g e) ∧ JSt.c (jsAt b r i) = JSt.c a' ∧ (∀ (e : Nat), e < JSt.c a' → JSt.O (jsAt b r i) e = JSt.O a' e) ∧ JSt.d (jsAt b r i) = JSt.d a' ∧ (∀ (e : Nat), e < JSt.d a' → JSt.S (jsAt b r i) e = JSt.S a' e) ∧ True := fun h => by
        refine ⟨jsAt b r (i + 1), ⟨i + 1, rfl, h⟩, ?_, rfl, rfl, rfl, rfl, rfl, rfl, rfl, addI_one hi (by omega), rfl, fun _ _ => rfl, rfl, fun _ _ => rfl, rfl, fun _ _ => rfl, trivial⟩
        show r.n - (i + 1) < r.n - i
        omega
      refine ⟨fun hlt => ?_, fun _ => loop2_yes c i⟩
      have hlt : (i : Int) < (r.n : Int) := by simpa [BE.den, IE.den, cmpI_lss, jsAt] using hlt
      have hi' : i < r.n := by omega
      have hup := w2.up hg.byte hi'
      have hkt : 0 + Int.toNat (i : Int) = i := by simp
      have hs : JSt.S (jsAt b r i) (0 + Int.toNat (JSt.i (jsAt b r i) : Int)) = (P2 i : Int) := by show r.S (0 + Int.toNat (i : Int)) = _; rw [hkt]; exact r3 i hi'
      have ai : BE.den (BE.ite (BE.var (decide (r.n ≤ r.c ∧ 0 + r.c ≤ r.c))) (BE.var (decide (0 ≤ (i : Int) ∧ (i : Int) < (r.n : Int)))) (BE.lit false)) = true := ask_ix (decide_eq_true ⟨h2, by omega⟩) (decide_eq_true ⟨by omega, hlt⟩)
      have aj : decide (0 + Int.toNat (i : Int) + 1 ≤ r.c) = true := decide_eq_true (by omega)
      have z0 : BE.den (BE.cmp BinOp.eql (IE.var (i : Int)) (IE.lit 0)) = true → i = 0 := fun h => by
        have : (i : Int) = 0 := by simpa [BE.den, IE.den, cmpI_eql] using h
        omega
      rw [hs]
      refine ⟨fun hpos => ?_, fun hz => ?_⟩
      · have hpos : 0 < i := by
          have : (0 : Int) < (i : Int) := by simpa [BE.den, IE.den, cmpI_gtr, jsAt] using hpos
          omega
        have hd : IE.den (IE.sub IntKind.i64 (IE.var (↑(JSt.i (jsAt b r i)) : Int)) (IE.lit 1)) = ((i - 1 : Nat) : Int) := by
          show IntKind.i64.wrap ((i : Int) - 1) = ((i - 1 : Nat) : Int)
          rw [wrap_i64_in (by omega) (by omega)]; omega
        have hup1 := w2.up hg.byte (i := i - 1) (by omega)
        rw [show i - 1 + 1 = i by omega] at hup1
        have hs1 : JSt.S (jsAt b r i) (0 + Int.toNat ((i - 1 : Nat) : Int)) = (P2 (i - 1) : Int) := by
          rw [show 0 + Int.toNat ((i - 1 : Nat) : Int) = i - 1 by simp]; exact r3 (i - 1) (by omega)
        rw [hd, hs1]
        refine ⟨ask_ix (decide_eq_true ⟨h2, by show 0 + r.c ≤ r.c; omega⟩) (decide_eq_true ⟨by omega, by show ((i - 1 : Nat) : Int) < (r.n : Int); omega⟩), decide_eq_true (by show 0 + Int.toNat ((i - 1 : Nat) : Int) + 1 ≤ r.c; simp; omega), ai, aj, fun h => ?_, fun _ => ⟨ai, aj, fun h => ?_, fun _ => ⟨fun h => ?_, fun _ => next hi'⟩⟩⟩
        · exfalso
          have : (P2 i : Int) < IntKind.i64.wrap ((P2 (i - 1) : Int) + 1) := by simpa [BE.den, IE.den, cmpI_lss] using h
          rw [wrap_i64_in (by omega) (by omega)] at this; omega
        · exfalso
          have : (len : Int) ≤ (P2 i : Int) := by simpa [BE.den, IE.den, cmpI_geq] using h
          omega
        · have := z0 h; omega
      · have hz : i = 0 := by
          have : ¬ (0 : Int) < (i : Int) := by simpa [BE.den, IE.den, cmpI_gtr, jsAt] using hz
          omega
        have hp0 : P2 i = 0 := by rw [hz]; exact w2.ch.p0
        refine ⟨ai, aj, fun h => ?_, fun _ => ⟨ai, aj, fun h => ?_, fun _ => ⟨fun _ => ⟨ai, aj, fun h => n_neqL (by rw [hp0]; rfl) h, fun _ => next hi'⟩, fun _ => next hi'⟩⟩⟩
        · exfalso
          have : (P2 i : Int) < 0 := by simpa [BE.den, IE.den, cmpI_lss] using h
          omega
        · exfalso
          have : (len : Int) ≤ (P2 i : Int) := by simpa [BE.den, IE.den, cmpI_geq] using h
          omega
  · rcases hr.all with ⟨_, _, P2, K2, w2, _⟩ | ⟨r1, y, yx, r2, r3⟩
    · exact (not_both w2 bx).elim
    have same : x.e = y.e ∧ x.p = y.p := by
      rcases bx.all with ⟨a1, a2, a3, a4⟩ | ⟨a1, a2, k, P3, K3, a3, a4, a5, a6⟩
      · rcases yx.all with ⟨_, _, c3, c4⟩ | ⟨c1, _⟩
        · exact ⟨by rw [a3, c3], by rw [a4, c4]⟩
        · rcases c1 with h | h
          · exact absurd h a1
          · exact absurd h a2
      · rcases yx.all with ⟨c1, c2, _⟩ | ⟨_, c2, k', P4, K4, c3, c4, c5, c6⟩
        · rcases a1 with h | h
          · exact absurd h c1
          · exact absurd h c2
        · refine ⟨by rw [a2, c2], ?_⟩
          rw [← a4, ← c4]
          have hkk : k = k' := by
            refine Classical.byContradiction fun hne => ?_
            by_cases hlt : k < k'
            · have e := (a3.one c3 k (Nat.le_refl _) (by omega)).1
              have := (c3.step k hlt).2
              rw [← e, a4, a6] at this; cases this
            · have e := (a3.one c3 k' (by omega) (Nat.le_refl _)).1
              have := (a3.step k' (by omega)).2
              rw [e, c4, c6] at this; cases this
          subst hkk
          exact (a3.one c3 k (Nat.le_refl _) (Nat.le_refl _)).1
    have hp : x.p ≤ len := by
      rcases bx.all with ⟨_, _, _, a4⟩ | ⟨_, _, k, P3, K3, _, _, a5, _⟩
      · omega
      · omega
    refine ⟨fun h => n_neq (by rw [b2, r2, same.1]) h, fun _ => ⟨fun h => n_neq (by rw [b3, r3, same.2]) h, fun _ => ⟨fun _ => ⟨fun _ => ⟨fun _ => ⟨fun _ ν => ?_, fun h => ?_⟩, fun h => ?_⟩, fun h => ?_⟩, fun h => ?_⟩⟩⟩
    · show Value.bool _ = Value.bool true
      rw [b3]
      have : BE.den (BE.cmp BinOp.leq (IE.var (x.p : Int)) (IE.var (len : Int))) = true := by simp [BE.den, IE.den, cmpI_leq]; omega
      rw [this]
    · exfalso
      have : ¬ (0 : Int) ≤ b.p := by simpa [BE.den, IE.den, cmpI_geq] using h
      omega
    · exfalso
      simp [BE.den, IE.den, cmpI_eql, r1] at h
    · exfalso
      simp [BE.den, IE.den, cmpI_eql, b1] at h
    · exfalso
      have hx := walkB_bad bx
      simp [BE.den, IE.den, cmpI_neq, b2, hx] at h
end Go.Proofs.Ytajcmjjgnbaahaa.Amd
