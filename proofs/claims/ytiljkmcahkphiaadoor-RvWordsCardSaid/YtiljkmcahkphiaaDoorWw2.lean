/- The law RvWords: its loop, whatever the list holds: it answers true. -/
import Derived.Test.YtiljkmcahkphiaaDoorWw1
namespace Go.Proofs.YtiljkmcahkphiaaDoor.Rv
open Go Go.Proofs.YtiljkmcahkphiaaDoor.Sx Go.RowKit
set_option linter.unusedVariables false
set_option linter.unusedSimpArgs false

def sameCols (g : Nat → Nat → Int) (cap : Nat) (K : Prop) : Prop :=
  (∀ e, e < cap → g e 0 = g e 0) ∧ (∀ e, e < cap → g e 1 = g e 1) ∧ (∀ e, e < cap → g e 2 = g e 2) ∧ (∀ e, e < cap → g e 3 = g e 3) ∧ (∀ e, e < cap → g e 4 = g e 4) ∧ K
def wNext (g : Nat → Nat → Int) (len cap : Nat) (k : Int) (I M : Int → Prop) : Prop :=
  ∃ k', I k' ∧ M k' ∧ len = len ∧ cap = cap ∧ IE.den (.add .i64 (.var k) (.lit 1)) = k' ∧ tenTab = tenTab ∧ cap = cap ∧ sameCols g cap True

theorem words_body (g : Nat → Nat → Int) (len cap : Nat) (k : Int) (u : Nat → Value) (I M : Int → Prop) (Q : SV → Prop) :
    wBody { tmps := fillT (wSlots len cap k) u 0 Tryd.f3.ntmps, hp := wHp g cap } (thenS (fun σ' => ∃ k', I k' ∧ M k' ∧ simAt 2 Tryd.f3.ntmps σ' (wSlots len cap k') (wHp g cap)) (wK Q)) =
      wRHS len cap k (g (0 + k.toNat)) Q (wNext g len cap k I M) := by kernel_rfl
theorem words_sim (g : Nat → Nat → Int) (len cap : Nat) (k : Int) : simAt 2 Tryd.f3.ntmps { tmps := wTmps len cap, hp := wHp g cap } (wSlots len cap k) (wHp g cap) =
    (len = len ∧ cap = cap ∧ 0 = k ∧ tenTab = tenTab ∧ cap = cap ∧ sameCols g cap True) := by kernel_rfl

theorem sameCols_of (g : Nat → Nat → Int) (cap : Nat) {K : Prop} (h : K) : sameCols g cap K := ⟨fun _ _ => rfl, fun _ _ => rfl, fun _ _ => rfl, fun _ _ => rfl, fun _ _ => rfl, h⟩
/-- What is written is read as the same instruction. -/
theorem words_back (x : Nat → Int) (he : (wEnc x).2 = 0) : rvDec (wEnc x).1 = ⟨x 0, x 1, x 2, x 3, x 4, 0⟩ ∧ 0 ≤ (wEnc x).1 ∧ (wEnc x).1 < 4294967296 := by
  have e : rvEnc (x 0) (x 1) (x 2) (x 3) (x 4) = ((wEnc x).1, 0) := Prod.ext rfl he
  obtain ⟨r, hr, ho, hk, hw⟩ := enc_ok e
  obtain ⟨w0, w1, _⟩ := word_range r hr _ _ _ _ hk
  rw [hw, dec_enc r hr _ _ _ _ hk, ho]
  exact ⟨rfl, w0, w1⟩

theorem words_rhs (len cap : Nat) (hle : len ≤ cap) (k : Int) (x : Nat → Int) (h0 : 0 ≤ k) (hx : k < len → ∀ j, j < 5 → Sx.inI64 (x j)) (N : Prop) (hN : k < len → N) : wRHS len cap k x (fun v => ∀ ν, v.den ν = .bool true) N := by
  refine ⟨fun hlt => ?_, fun _ ν => rfl⟩
  have hk : k < (len : Int) := by simpa [BE.den, IE.den, cmpI_lss] using hlt
  have hix : askIx len cap k := by simp [askIx, BE.den]; omega
  have hld : askLd cap k := by simp [askLd, BE.den]; omega
  have hb := hx hk
  have h4 : BE.den (.var (inI64 (x 4))) = true := by
    have := hb 4 (by omega)
    simp only [BE.den, inI64, Bool.and_eq_true, decide_eq_true_eq]
    exact ⟨this.1, by have := this.2; omega⟩
  refine ⟨hix, hld, h4, hix, hld, h4, wTop_of ?_ ?_ (wMix_of hix hld ⟨hb 1 (by omega), hb 2 (by omega), hb 3 (by omega), hb 4 (by omega)⟩ ⟨?_, fun _ => hN hk, fun he => ?_⟩)⟩
  · simp [neE, BE.den, IE.den, cmpI_neq]
  · simp [neE, BE.den, IE.den, cmpI_neq]
  · simp
  · have he' : (wEnc x).2 = 0 := by simpa [neL, BE.den, IE.den, cmpI_neq] using he
    obtain ⟨hd, u0, u1⟩ := words_back x he'
    refine ⟨by simp [BE.den, inU32]; omega, hix, hld, fun h => ?_, fun _ => ⟨?_, hN hk⟩⟩
    · rw [hd] at h; simp [insIs, eqE, BE.den, IE.den, cmpI_eql] at h
    · rw [hd]; simp [neL, BE.den, IE.den, cmpI_neq]

set_option maxRecDepth 100000 in
theorem words_sx (g : Nat → Nat → Int) (len cap : Nat) (hle : len ≤ cap) (hcap : cap ≤ 9223372036854775807) (hg : ∀ i j, i < cap → j < 5 → Sx.inI64 (g i j)) :
    sxFunc P GW wUn Tryd.f3 [wArg len cap] (wHp g cap) (fun v _ => ∀ ν, v.den ν = .bool true) := by
  have e0 := words_start g len cap (fun v => ∀ ν, v.den ν = .bool true)
  refine e0.mpr ?_
  refine LawKit.loopG_intro (L := Tryd.f3.ntmps) (by kernel_rfl) Int (wSlots len cap) (fun _ => wHp g cap) (fun k => 0 ≤ k ∧ k ≤ len) (fun k => ((len : Int) - k).toNat) ⟨0, ⟨by omega, by omega⟩, ?_⟩ ?_
  · have e1 := words_sim g len cap 0
    exact e1.mpr ⟨rfl, rfl, rfl, rfl, rfl, sameCols_of g cap trivial⟩
  · intro u k ⟨h0, h1⟩
    have e2 := words_body g len cap k u (fun k => 0 ≤ k ∧ k ≤ len) (fun k' => ((len : Int) - k').toNat < ((len : Int) - k).toNat) (fun v => ∀ ν, v.den ν = .bool true)
    refine e2.mpr (words_rhs len cap hle k _ h0 (fun hk j hj => hg _ j (by omega) hj) _ fun hk => ?_)
    refine ⟨k + 1, ⟨by omega, by omega⟩, by omega, rfl, rfl, ?_, rfl, rfl, sameCols_of g cap trivial⟩
    simp only [IE.den]
    exact wrap_i64_in (by omega) (by omega)
end Go.Proofs.YtiljkmcahkphiaaDoor.Rv
