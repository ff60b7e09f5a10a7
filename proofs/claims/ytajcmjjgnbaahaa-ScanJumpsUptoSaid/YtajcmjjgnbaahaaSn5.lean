/- The numbers of code: their contract. -/
import Derived.Test.YtajcmjjgnbaahaaSn4
namespace Go.Proofs.Ytajcmjjgnbaahaa.Amd
open Go Go.Proofs.Ytajcmjjgnbaahaa.Sx Go.RowKit
set_option linter.unusedVariables false
set_option linter.unusedSimpArgs false

/-- A whole walk. -/
structure WholeW (t : Int) (g : Nat → Int) (len n : Nat) (P : Nat → Nat) (K : Nat → Option Int) : Prop where
  tt : t = 1 ∨ t = 2
  ch : WChain (stepT t g len) len n P K
  fin : P n = len
  le : n ≤ len
structure NumO (t : Int) (g : Nat → Int) (len : Nat) (r : NuR) : Prop where
  all : (r.e = 0 ∧ r.p = 0 ∧ ∃ (n : Nat) (P : Nat → Nat) (K : Nat → Option Int), WholeW t g len n P K ∧ r.n ≤ n ∧ r.n = (fnd P K n).length ∧ ∀ j, j < r.n → r.O j = ((fnd P K n).getD j (0, 0)).2) ∨
    (r.n = 0 ∧ ∃ b : WkE, WalkB t g len b ∧ r.e = b.e ∧ r.p = (b.p : Int))
  h1 : r.n ≤ r.c
  k1 : r.c ≤ 9223372036854775807
def nuOutsP : Ins → List SV → List Out := fun ins pl => match ins, pl with
  | [(cs, len, _)], [.int .i64 t] => nuOuts (NumO t.den (colG cs) len)
  | _, _ => []
theorem nuOuts_good (R : NuR → Prop) : ∀ o ∈ nuOuts R, o.good := by
  intro o ho
  unfold nuOuts at ho
  simp only [List.mem_cons, List.not_mem_nil, or_false] at ho
  rcases ho with rfl
  intro c
  refine ⟨⟨fun n m ν ν' h => ?_, fun n p h => ?_⟩, rfl, trivial⟩
  · have h0 := h 0 (by simp)
    simp only [Nat.add_zero] at h0
    simp [SV.den, SV.denL, h0]
  · exact ⟨h 0 (by simp), trivial, trivial, trivial⟩
theorem nu_spec {f : FuncId} {s : SpecFn} (hs : SpecOk P f s)
    (h : ∀ (t : Int) (g : Nat → Int) (len cap : Nat), BGood g len cap → len ≤ 1073741824 → s [.int .i64 (.var t), sA 0 len cap] [rdRow g cap] (nuQ g cap (NumO t g len))) :
    SpecOk P f (rdSpec [.plain, .rows 1 zz1] wkPre nuOutsP) := by
  refine rd_ok hs (fun sz zs h => by simp at h; obtain ⟨rfl, rfl⟩ := h; rfl) ?_ ?_
  · intro ins pl o ho
    unfold nuOutsP at ho
    split at ho
    · exact nuOuts_good _ o ho
    · simp at ho
  · intro ins pl u hi hw hp
    obtain ⟨g, len, cap, t, rfl, rfl, h1, h2⟩ := wkPre_of hp
    exact h t.den g len cap h1 h2
structure NuInv (t : Int) (g : Nat → Int) (len : Nat) (a : NuSt) : Prop where
  all : (a.e = 0 ∧ a.p = 0 ∧ ∃ (n : Nat) (P : Nat → Nat) (K : Nat → Option Int), WholeW t g len n P K ∧ a.q ≤ n ∧ a.q = (fnd P K n).length ∧ ∀ j, j < a.q → a.V j = ((fnd P K n).getD j (0, 0)).2) ∨
    (a.q = 0 ∧ ∃ b : WkE, WalkB t g len b ∧ a.e = b.e ∧ a.p = (b.p : Int))
  small : a.q ≤ 1073741824
  kq : a.k ≤ a.q
  qc : a.q ≤ a.c2
  kc : a.k ≤ a.c3
  c3 : a.c3 ≤ 9223372036854775807
  same : ∀ j, j < a.k → a.O j = a.V j

theorem nuLoop_yes {t : Int} {g : Nat → Int} {len cap : Nat} (hl : len ≤ 1073741824) : nuLoop g cap (NuInv t g len) (fun a => a.q - a.k) (NumO t g len) := by
  unfold nuLoop
  rintro _ ⟨e, p, q, c2, A, V, k, c3, O⟩ hi
  have hi' := hi
  obtain ⟨i1, i2, i3, i4, i5, i6, i7⟩ := hi'
  dsimp only at i1 i2 i3 i4 i5 i6 i7 ⊢
  have hkt : 0 + Int.toNat (k : Int) = k := by simp
  refine ⟨fun hlt => ?_, fun hge => ?_⟩
  · have hlt : (k : Int) < (q : Int) := by simpa [BE.den, IE.den, cmpI_lss] using hlt
    have hk : k < q := by omega
    refine ⟨ask_ix (by simp; omega) (by simp; omega), decide_eq_true (by omega), decide_eq_true (by omega), decide_eq_true (Nat.le_refl _), decide_eq_true i6, ?_, fun U cap1 h1 h1' => ?_⟩
    · show (k + (0 + 1)) * 8 ≤ 140737488355328
      omega
    have h1 : k + (0 + 1) ≤ cap1 := h1
    refine ⟨⟨e, p, q, c2, A, V, k + 1, cap1, newT 0 k O (V k) U⟩, ⟨i1, i2, hk, i4, h1, h1', fun j hj => ?_⟩, ?_, rfl, rfl, rfl, rfl, rfl, rfl, rfl, ?_, rfl, fun _ _ => rfl, rfl, fun i _ => ?_, rfl, fun _ _ => rfl, fun _ _ => rfl, trivial⟩
    · have hj : j < k + 1 := hj
      show newT 0 k O (V k) U j = V j
      by_cases h : j < k
      · rw [newT_lt h]; exact i7 j h
      · obtain rfl : j = k := by omega
        exact newT_at rfl
    · show q - (k + 1) < q - k
      omega
    · show IntKind.i64.wrap ((k : Int) + 1) = ((k + 1 : Nat) : Int)
      rw [wrap_i64_in (by omega) (by omega)]; omega
    · refine colI_new (x := newT 0 k O (V k) U i) (fun h => by rw [newT_lt h]; rfl) (fun h => ?_) (fun h => by rw [newT_gt h]; rfl)
      rw [newT_at h]; subst h; rw [Nat.sub_self]
      show V (0 + Int.toNat (i : Int)) = V i
      rw [hkt]
  · have hge : ¬ (k : Int) < (q : Int) := by simpa [BE.den, IE.den, cmpI_lss] using hge
    obtain rfl : k = q := by omega
    refine ⟨⟨e, p, k, c3, O⟩, ⟨?_, i5, i6⟩, rfl, rfl, rfl, rfl, rfl, fun _ _ => rfl, rfl, fun _ _ => rfl, trivial⟩
    rcases i1 with ⟨j1, j2, n, P', K, j3, j4, j5, j6⟩ | j
    · exact .inl ⟨j1, j2, n, P', K, j3, j4, j5, fun j hj => (i7 j hj).trans (j6 j hj)⟩
    · exact .inr j
set_option maxRecDepth 100000 in
theorem numbers_ok : SpecOk P 21 (rdSpec [.plain, .rows 1 zz1] wkPre nuOutsP) := by
  have hs := some_un fun un => func_sound (un := un) NU_ok Try.func21
  refine nu_spec hs ?_
  intro t g len cap hg hl
  refine ⟨fun _ => annS NuSt nuSlots (nuHp g cap) (NuInv t g len) (fun a => a.q - a.k), ?_⟩
  rw [nu_nf]
  refine ⟨ask2 hg.room, fun cs' hcs => ?_⟩
  have hcG : colG cs' = g := by rw [hcs]; rfl
  rw [hcG]
  refine ⟨⟨by rw [hcs]; exact ⟨g, rfl⟩, hg, hl⟩, fun r hr => ⟨?_, nuLoop_yes hl, fun _ _ h => h⟩, fun b hb => ⟨?_, nuLoop_yes hl, fun _ _ h => h⟩⟩
  · obtain ⟨w1, ⟨P', K, hc, hP, hS, hf⟩, w2, w3, w4, w5, w6, w7⟩ := hr
    refine ⟨⟨0, 0, r.q, r.c2, r.A, r.V, 0, 0, fun _ => 0⟩, ⟨.inl ⟨rfl, rfl, r.n, P', K, ⟨w1, hc, hP, w3⟩, w2, hf.len, fun j hj => (hf.cell j hj).2⟩, by dsimp only; omega, Nat.zero_le _, w5, Nat.le_refl _, Nat.zero_le _, fun j hj => absurd hj (Nat.not_lt_zero j)⟩, rfl, rfl, rfl, rfl, rfl, rfl, rfl, rfl, rfl, fun _ _ => rfl, rfl, rfl, fun _ _ => rfl, fun _ _ => rfl, trivial⟩
  · refine ⟨⟨b.e, b.p, 0, 0, fun _ => 0, fun _ => 0, 0, 0, fun _ => 0⟩, ⟨.inr ⟨rfl, b, hb, rfl, rfl⟩, Nat.zero_le _, Nat.le_refl _, Nat.le_refl _, Nat.le_refl _, Nat.zero_le _, fun j hj => absurd hj (Nat.not_lt_zero j)⟩, rfl, rfl, rfl, rfl, rfl, rfl, rfl, rfl, rfl, fun _ _ => rfl, rfl, rfl, trivial⟩
end Go.Proofs.Ytajcmjjgnbaahaa.Amd
