/- The places where code's instructions begin, and a number's place: their contracts. -/
import Derived.Test.YtajcmjjgnbaahaaSj1
namespace Go.Proofs.Ytajcmjjgnbaahaa.Amd
open Go Go.Proofs.Ytajcmjjgnbaahaa.Sx Go.RowKit
set_option linter.unusedVariables false
set_option linter.unusedSimpArgs false

structure StO (t : Int) (g : Nat → Int) (len : Nat) (r : StR) : Prop where
  all : (r.e = 0 ∧ r.p = 0 ∧ ∃ (P : Nat → Nat) (K : Nat → Option Int), WholeW t g len r.n P K ∧ ∀ i, i < r.n → r.S i = P i) ∨
    (r.n = 0 ∧ ∃ b : WkE, WalkB t g len b ∧ r.e = b.e ∧ r.p = (b.p : Int))
  h1 : r.n ≤ r.c
  k1 : r.c ≤ 9223372036854775807
def stOutsP : Ins → List SV → List Out := fun ins pl => match ins, pl with
  | [(cs, len, _)], [.int .i64 t] => stOuts (StO t.den (colG cs) len)
  | _, _ => []
theorem stOuts_good (R : StR → Prop) : ∀ o ∈ stOuts R, o.good := by
  intro o ho
  unfold stOuts at ho
  simp only [List.mem_cons, List.not_mem_nil, or_false] at ho
  rcases ho with rfl
  intro c
  refine ⟨⟨fun n m ν ν' h => ?_, fun n p h => ?_⟩, rfl, trivial⟩
  · have h0 := h 0 (by simp)
    simp only [Nat.add_zero] at h0
    simp [SV.den, SV.denL, h0]
  · exact ⟨h 0 (by simp), trivial, trivial, trivial⟩
theorem st_spec {f : FuncId} {s : SpecFn} (hs : SpecOk P f s)
    (h : ∀ (t : Int) (g : Nat → Int) (len cap : Nat), BGood g len cap → len ≤ 1073741824 → s [.int .i64 (.var t), sA 0 len cap] [rdRow g cap] (stQ g cap (StO t g len))) :
    SpecOk P f (rdSpec [.plain, .rows 1 zz1] wkPre stOutsP) := by
  refine rd_ok hs (fun sz zs h => by simp at h; obtain ⟨rfl, rfl⟩ := h; rfl) ?_ ?_
  · intro ins pl o ho
    unfold stOutsP at ho
    split at ho
    · exact stOuts_good _ o ho
    · simp at ho
  · intro ins pl u hi hw hp
    obtain ⟨g, len, cap, t, rfl, rfl, h1, h2⟩ := wkPre_of hp
    exact h t.den g len cap h1 h2
set_option maxRecDepth 100000 in
theorem starts_ok : SpecOk P 22 (rdSpec [.plain, .rows 1 zz1] wkPre stOutsP) := by
  have hs := func_sound (un := fun _ => 40) NU_ok Try.func22
  refine st_spec hs ?_
  intro t g len cap hg hl
  rw [st_nf]
  refine ⟨ask2 hg.room, fun cs' hcs => ?_⟩
  have hcG : colG cs' = g := by rw [hcs]; rfl
  rw [hcG]
  refine ⟨⟨by rw [hcs]; exact ⟨g, rfl⟩, hg, hl⟩, fun r hr => ?_, fun b hb => ?_⟩
  · obtain ⟨w1, ⟨P', K, hc, hP, hS, hf⟩, w2, w3, w4, w5, w6, w7⟩ := hr
    exact ⟨⟨0, 0, r.n, r.c1, r.S⟩, ⟨.inl ⟨rfl, rfl, P', K, ⟨w1, hc, hP, w3⟩, hS⟩, w4, w6⟩, rfl, rfl, rfl, rfl, rfl, fun _ _ => rfl, rfl, fun _ _ => rfl, trivial⟩
  · exact ⟨⟨b.e, b.p, 0, 0, fun _ => 0⟩, ⟨.inr ⟨rfl, b, hb, rfl, rfl⟩, Nat.le_refl _, Nat.zero_le _⟩, rfl, rfl, rfl, rfl, rfl, fun _ _ => rfl, rfl, trivial⟩

/-! Has. -/
def low (v : Int) : Int := IntKind.u32.wrap v
structure HsO (t : Int) (g : Nat → Int) (len : Nat) (k : Int) (r : HsR) : Prop where
  all : (r.e = 0 ∧ ∃ (n : Nat) (P : Nat → Nat) (K : Nat → Option Int), WholeW t g len n P K ∧
      ((r.has = true ∧ ∃ j, j < (fnd P K n).length ∧ r.at' = ((fnd P K n).getD j (0, 0)).1 ∧ low ((fnd P K n).getD j (0, 0)).2 = k ∧ ∀ i, i < j → low ((fnd P K n).getD i (0, 0)).2 ≠ k) ∨
       (r.has = false ∧ r.at' = 0 ∧ ∀ i, i < (fnd P K n).length → low ((fnd P K n).getD i (0, 0)).2 ≠ k))) ∨
    (r.has = false ∧ r.at' = 0 ∧ ∃ b : WkE, WalkB t g len b ∧ r.e = b.e)
def hsPre : Ins → List SV → Prop := fun ins pl => match ins, pl with
  | [(cs, len, cap)], [.int .i64 _, .int .u32 _] => (∃ g : Nat → Int, cs = [.int .u8 fun e => .var (g e)]) ∧ BGood (colG cs) len cap ∧ Nat.le len 1073741824
  | _, _ => False
theorem hsPre_of {ins : Ins} {pl : List SV} (h : hsPre ins pl) : ∃ (g : Nat → Int) (len cap : Nat) (t k : IE), ins = [([.int .u8 fun e => .var (g e)], len, cap)] ∧ pl = [.int .i64 t, .int .u32 k] ∧ BGood g len cap ∧ len ≤ 1073741824 := by
  unfold hsPre at h
  split at h
  · obtain ⟨⟨g, rfl⟩, h2, h3⟩ := h
    exact ⟨g, _, _, _, _, rfl, rfl, h2, h3⟩
  · exact h.elim
def hsOutsP : Ins → List SV → List Out := fun ins pl => match ins, pl with
  | [(cs, len, _)], [.int .i64 t, .int .u32 k] => hsOuts (HsO t.den (colG cs) len k.den)
  | _, _ => []
theorem hsOuts_good (R : HsR → Prop) : ∀ o ∈ hsOuts R, o.good := by
  intro o ho
  unfold hsOuts at ho
  simp only [List.mem_cons, List.not_mem_nil, or_false] at ho
  rcases ho with rfl
  intro c
  exact ⟨⟨fun n m ν ν' h => rfl, fun n p h => ⟨trivial, trivial, trivial, trivial⟩⟩, rfl, trivial⟩
theorem hs_spec {f : FuncId} {s : SpecFn} (hs : SpecOk P f s)
    (h : ∀ (t k : Int) (g : Nat → Int) (len cap : Nat), BGood g len cap → len ≤ 1073741824 → s [.int .i64 (.var t), sA 0 len cap, .int .u32 (.var k)] [rdRow g cap] (hsQ g cap (HsO t g len k))) :
    SpecOk P f (rdSpec [.plain, .rows 1 zz1, .plain] hsPre hsOutsP) := by
  refine rd_ok hs (fun sz zs h => by simp at h; obtain ⟨rfl, rfl⟩ := h; rfl) ?_ ?_
  · intro ins pl o ho
    unfold hsOutsP at ho
    split at ho
    · exact hsOuts_good _ o ho
    · simp at ho
  · intro ins pl u hi hw hp
    obtain ⟨g, len, cap, t, k, rfl, rfl, h1, h2⟩ := hsPre_of hp
    exact h t.den k.den g len cap h1 h2
structure HsInv (t : Int) (g : Nat → Int) (len : Nat) (k : Int) (a : HsSt) : Prop where
  all : (a.e = 0 ∧ ∃ (n : Nat) (P : Nat → Nat) (K : Nat → Option Int), WholeW t g len n P K ∧ Found a.q a.A a.V (fnd P K n)) ∨ (a.q = 0 ∧ ∃ b : WkE, WalkB t g len b ∧ a.e = b.e)
  small : a.q ≤ 1073741824
  iq : a.i ≤ a.q
  qc : a.q ≤ a.c2
  no : ∀ j, j < a.i → low (a.V j) ≠ k

theorem hsLoop_yes {t k : Int} {g : Nat → Int} {len cap : Nat} : hsLoop k g cap (HsInv t g len k) (fun a => a.q - a.i) (HsO t g len k) := by
  unfold hsLoop
  rintro _ ⟨e, q, c2, A, V, i⟩ hi
  obtain ⟨i1, i2, i3, i4, i5⟩ := hi
  dsimp only at i1 i2 i3 i4 i5 ⊢
  have hkt : 0 + Int.toNat (i : Int) = i := by simp
  refine ⟨fun hlt => ?_, fun hge => ?_⟩
  · have hlt : (i : Int) < (q : Int) := by simpa [BE.den, IE.den, cmpI_lss] using hlt
    have hk : i < q := by omega
    rw [hkt]
    refine ⟨ask_ix (by simp; omega) (by simp; omega), decide_eq_true (by omega), fun he => ?_, fun he => ?_⟩
    · have he : low (V i) = k := by simpa [BE.den, IE.den, cmpI_eql, low] using he
      rcases i1 with ⟨j1, n, P', K, j2, j3⟩ | ⟨j1, _⟩
      · refine ⟨⟨A i, true, 0⟩, ⟨.inl ⟨rfl, n, P', K, j2, .inl ⟨rfl, i, by have := j3.len; omega, (j3.cell i hk).1, by rw [← (j3.cell i hk).2]; exact he, fun j hj => ?_⟩⟩⟩, rfl, rfl, rfl, rfl, fun _ _ => rfl, trivial⟩
        rw [← (j3.cell j (by omega)).2]; exact i5 j hj
      · omega
    · have he : low (V i) ≠ k := by simpa [BE.den, IE.den, cmpI_eql, low] using he
      refine ⟨⟨e, q, c2, A, V, i + 1⟩, ⟨i1, i2, hk, i4, fun j hj => ?_⟩, ?_, rfl, rfl, rfl, rfl, rfl, ?_, rfl, fun _ _ => rfl, rfl, fun _ _ => rfl, fun _ _ => rfl, trivial⟩
      · have hj : j < i + 1 := hj
        by_cases h : j < i
        · exact i5 j h
        · obtain rfl : j = i := by omega
          exact he
      · show q - (i + 1) < q - i
        omega
      · show IntKind.i64.wrap ((i : Int) + 1) = ((i + 1 : Nat) : Int)
        rw [wrap_i64_in (by omega) (by omega)]; omega
  · have hge : ¬ (i : Int) < (q : Int) := by simpa [BE.den, IE.den, cmpI_lss] using hge
    obtain rfl : i = q := by omega
    refine ⟨⟨0, false, e⟩, ⟨?_⟩, rfl, rfl, rfl, rfl, fun _ _ => rfl, trivial⟩
    rcases i1 with ⟨j1, n, P', K, j2, j3⟩ | ⟨j1, b, j2, j3⟩
    · refine .inl ⟨j1, n, P', K, j2, .inr ⟨rfl, rfl, fun j hj => ?_⟩⟩
      have := j3.len
      rw [← (j3.cell j (by omega)).2]; exact i5 j (by omega)
    · exact .inr ⟨rfl, rfl, b, j2, j3⟩
set_option maxRecDepth 100000 in
theorem has_ok : SpecOk P 23 (rdSpec [.plain, .rows 1 zz1, .plain] hsPre hsOutsP) := by
  have hs := some_un fun un => func_sound (un := un) NU_ok Try.func23
  refine hs_spec hs ?_
  intro t k g len cap hg hl
  refine ⟨fun _ => annS HsSt (hsSlots k) (hsHp g cap) (HsInv t g len k) (fun a => a.q - a.i), ?_⟩
  rw [hs_nf]
  refine ⟨ask2 hg.room, fun cs' hcs => ?_⟩
  have hcG : colG cs' = g := by rw [hcs]; rfl
  rw [hcG]
  refine ⟨⟨by rw [hcs]; exact ⟨g, rfl⟩, hg, hl⟩, fun r hr => ⟨?_, hsLoop_yes, fun _ _ h => h⟩, fun b hb => ⟨?_, hsLoop_yes, fun _ _ h => h⟩⟩
  · obtain ⟨w1, ⟨P', K, hc, hP, hS, hf⟩, w2, w3, w4, w5, w6, w7⟩ := hr
    exact ⟨⟨0, r.q, r.c2, r.A, r.V, 0⟩, ⟨.inl ⟨rfl, r.n, P', K, ⟨w1, hc, hP, w3⟩, hf⟩, by dsimp only; omega, Nat.zero_le _, w5, fun j hj => absurd hj (Nat.not_lt_zero j)⟩, rfl, rfl, rfl, rfl, rfl, rfl, rfl, fun _ _ => rfl, rfl, fun _ _ => rfl, fun _ _ => rfl, trivial⟩
  · exact ⟨⟨b.e, 0, 0, fun _ => 0, fun _ => 0, 0⟩, ⟨.inr ⟨rfl, b, hb, rfl⟩, Nat.zero_le _, Nat.le_refl _, Nat.le_refl _, fun j hj => absurd hj (Nat.not_lt_zero j)⟩, rfl, rfl, rfl, rfl, rfl, rfl, rfl, fun _ _ => rfl, rfl, trivial⟩
end Go.Proofs.Ytajcmjjgnbaahaa.Amd
