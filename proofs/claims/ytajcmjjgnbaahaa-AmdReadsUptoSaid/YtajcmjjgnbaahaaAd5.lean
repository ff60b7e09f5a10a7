/- An instruction behind its prefix and its code: what is read is what stands there. -/
import Derived.Test.YtajcmjjgnbaahaaAd4
import Derived.Test.YtajcmjjgnbaahaaAdp
namespace Go.Proofs.Ytajcmjjgnbaahaa.Amd
open Go Go.Proofs.Ytajcmjjgnbaahaa.Sx Go.RowKit
set_option linter.unusedVariables false
set_option linter.unusedSimpArgs false

def insPost (g : Nat → Int) (len : Nat) (p code a : Int) (r : InR) : Prop :=
  ((r.bad = true ∨ r.y.op = 0) ∧ decC g len p code a.toNat = none) ∨ (r.bad = false ∧ r.y.op ≠ 0 ∧ 0 ≤ r.pos ∧ decC g len p code a.toNat = some (r.y, r.pos.toNat))
section
variable {g : Nat → Int} {len cap : Nat} {a p code : Int}
theorem leaf_of {I : InR → Prop} {op : Int} {wide long : Bool} {d s disp imm cc pos : Int} {bad : Bool} (h : I ⟨⟨op, wide, long, d, s, disp, imm, cc⟩, pos, bad⟩) : leafI I g len cap p op wide long d s disp imm cc pos bad :=
  ⟨_, h, rfl, rfl, rfl, rfl, rfl, rfl, rfl, rfl, rfl, rfl, rfl, rfl, rfl, rfl, fun _ _ => rfl, trivial⟩
theorem post_if {y : AI} {e : Nat} {c : Prop} [Decidable c] {r : InR} (hd : decC g len p code a.toNat = if c then some (y, e) else none) (h0 : y.op ≠ 0) (ht : c → r.y = y ∧ r.bad = false ∧ 0 ≤ r.pos ∧ r.pos.toNat = e) (hf : ¬ c → r.bad = true) : insPost g len p code a r := by
  by_cases hc : c
  · right
    obtain ⟨e1, e2, e3, e4⟩ := ht hc
    rw [if_pos hc] at hd
    exact ⟨e2, by rw [e1]; exact h0, e3, by rw [hd, e1, e4]⟩
  · left
    rw [if_neg hc] at hd
    exact ⟨.inl (hf hc), hd⟩
theorem add1_eq (h0 : 0 ≤ a) (h1 : a ≤ 4611686018427387904) : add1 a = a + 1 := by
  unfold add1; simp only [IE.den]; exact wrap_i64_in (by omega) (by omega)
theorem sub1_eq (h0 : 0 ≤ a) (h1 : a ≤ 4611686018427387904) : sub1 a = a := by
  have e := add1_eq h0 h1
  unfold add1 at e
  unfold sub1
  simp only [IE.den] at e ⊢
  rw [e, wrap_i64_in (by omega) (by omega)]; omega
theorem at1_eq (h0 : 0 ≤ a) (h1 : a ≤ 4611686018427387904) : at1 a = a.toNat := by
  unfold at1; rw [sub1_eq h0 h1, Nat.zero_add]
theorem wide_eq (h0 : 0 ≤ p) (h1 : p < 16) : wideB p = hiW p := of16 (P := fun p => wideB p = hiW p) (by decide) h0 h1
theorem cc_eq {x : Int} (h0 : 0 ≤ x) (h1 : x < 256) : ccI x = x % 16 := by
  unfold ccI; simp only [IE.den]
  rw [and15 h0 h1, wrap_i64_in (by omega) (by omega)]
theorem ge_eq (x : Int) : geB x = decide (128 ≤ x) := by
  unfold geB; simp only [BE.den, IE.den, cmpI_geq]
theorem low_eq {x : Int} (h0 : 0 ≤ x) (h1 : x < 256) (hp0 : 0 ≤ p) (hp1 : p < 16) : lowI x p = x % 8 + hiB p := by
  have hh := hiB_or p
  unfold lowI; simp only [IE.den, hiV1 hp0 hp1]
  rw [and7 h0 h1, wrap_i64_in (n := x % 8) (by omega) (by omega), wrap_i64_in (by omega) (by omega)]
theorem uns_eq {u : Int} (h0 : 0 ≤ u) (h1 : u ≤ 4294967295) : unsI (s32 u) = u := by
  unfold unsI s32; simp only [IE.den]
  rw [wrap_u32]
  split <;> (rw [wrap_i64_in (by omega) (by omega)]; omega)
theorem nB_eq (hg : RGood g len cap a p) (k : Int) : nB g len a k = decide (k = ahead g len a.toNat / 8 % 8) := by
  have hb := hg.nx
  have h0 := hg.pos0
  unfold nB; simp only [BE.den, IE.den, cmpI_eql]
  rw [show shrI .u8 (nxV g len a) 3 = nxV g len a / 2 ^ 3 from shr_u8 _ 3 (by decide), and7 (by omega) (by omega), wrap_i64_in (by omega) (by omega)]
  have : nxV g len a = ahead g len a.toNat := by
    unfold nxV ahead
    by_cases h : a < len
    · rw [if_pos h, if_pos (by omega)]
    · rw [if_neg h, if_neg (by omega)]
  rw [this]; rfl
theorem and248 {x : Int} (h0 : 0 ≤ x) (h1 : x < 256) : bitsI .and .u8 x 248 = x / 8 * 8 := by
  have : ∀ n : Fin 256, bitsI .and .u8 ((n.val : Nat) : Int) 248 = ((n.val : Nat) : Int) / 8 * 8 := by decide +kernel
  have h := this ⟨x.toNat, by omega⟩
  simpa [Int.toNat_of_nonneg h0] using h
theorem and240 {x : Int} (h0 : 0 ≤ x) (h1 : x < 256) : bitsI .and .u8 x 240 = x / 16 * 16 := by
  have : ∀ n : Fin 256, bitsI .and .u8 ((n.val : Nat) : Int) 240 = ((n.val : Nat) : Int) / 16 * 16 := by decide +kernel
  have h := this ⟨x.toNat, by omega⟩
  simpa [Int.toNat_of_nonneg h0] using h
theorem c_eql (x n : Int) : BE.den (BE.cmp BinOp.eql (IE.var x) (IE.lit n)) = decide (x = n) := by simp only [BE.den, IE.den, cmpI_eql]
theorem c_eqr (x n : Int) : BE.den (BE.cmp BinOp.eql (IE.lit n) (IE.var x)) = decide (n = x) := by simp only [BE.den, IE.den, cmpI_eql]
theorem c_248 {x : Int} (h0 : 0 ≤ x) (h1 : x < 256) (n : Int) : BE.den (BE.cmp BinOp.eql (IE.bits BinOp.and IntKind.u8 (IE.var x) (IE.lit 248)) (IE.lit n)) = decide (x / 8 * 8 = n) := by
  simp only [BE.den, IE.den, cmpI_eql]; rw [and248 h0 h1]
theorem c_240 {x : Int} (h0 : 0 ≤ x) (h1 : x < 256) (n : Int) : BE.den (BE.cmp BinOp.eql (IE.bits BinOp.and IntKind.u8 (IE.var x) (IE.lit 240)) (IE.lit n)) = decide (x / 16 * 16 = n) := by
  simp only [BE.den, IE.den, cmpI_eql]; rw [and240 h0 h1]
theorem c_cc2 {x : Int} (h0 : 0 ≤ x) (h1 : x < 256) : BE.den (BE.cmp BinOp.lss (IE.conv IntKind.i64 (IE.bits BinOp.and IntKind.u8 (IE.var x) (IE.lit 15))) (IE.lit 2)) = decide (x % 16 < 2) := by
  have := cc_eq h0 h1
  unfold ccI at this
  simp only [BE.den]; rw [this]; simp only [IE.den, cmpI_lss]
theorem c_cc7 {x : Int} (h0 : 0 ≤ x) (h1 : x < 256) : BE.den (BE.cmp BinOp.gtr (IE.conv IntKind.i64 (IE.bits BinOp.and IntKind.u8 (IE.var x) (IE.lit 15))) (IE.lit 7)) = decide (7 < x % 16) := by
  have := cc_eq h0 h1
  unfold ccI at this
  simp only [BE.den]; rw [this]; simp only [IE.den, cmpI_gtr]

theorem lf_two (hg : RGood g len cap a p) {op c : Int} (h0 : op ≠ 0) (hd : decC g len p c a.toNat = dTwo g len op p a.toNat) : insPost g len p c a ⟨⟨op, wideB p, false, paB g len a p, paR g len a p, 0, 0, 0⟩, nxA len a, paF g len a false 3⟩ := by
  have e0 := hg.pos0
  refine post_if hd h0 (fun ⟨c1, c2⟩ => ?_) fun h => ?_
  · have h1 : a < len := by omega
    dsimp only
    rw [wide_eq hg.p0 hg.p1, paB_in h1, paR_in h1, nxA_in h1, pa_ok h1 c2]
    exact ⟨rfl, rfl, by omega, by omega⟩
  · exact pa_bad (fun ⟨h1, h2⟩ => h ⟨by omega, h2⟩) false
theorem lf_imul (hg : RGood g len cap a p) {c : Int} (hd : decC g len p c a.toNat = dImul g len p (a.toNat + 1)) : insPost g len p c a ⟨⟨13, wideB p, false, paR g len (a + 1) p, paB g len (a + 1) p, 0, 0, 0⟩, nxA len (a + 1), paF g len (a + 1) false 3⟩ := by
  have e0 := hg.pos0
  have et : (a + 1).toNat = a.toNat + 1 := by omega
  refine post_if hd (by simp) (fun ⟨c1, c2⟩ => ?_) fun h => ?_
  · have h1 : a + 1 < len := by omega
    dsimp only
    rw [wide_eq hg.p0 hg.p1, paB_in h1, paR_in h1, nxA_in h1, pa_ok h1 (by rw [et]; exact c2), et]
    exact ⟨rfl, rfl, by omega, by omega⟩
  · exact pa_bad (fun ⟨h1, h2⟩ => h ⟨by omega, by rw [← et]; exact h2⟩) false
theorem lf_one (hg : RGood g len cap a p) {op c : Int} (h0 : op ≠ 0) (hd : decC g len p c a.toNat = dOne g len op p a.toNat) : insPost g len p c a ⟨⟨op, wideB p, false, paB g len a p, 0, 0, 0, 0⟩, nxA len a, paF g len a (noF p 4 false) 3⟩ := by
  have e0 := hg.pos0
  refine post_if hd h0 (fun ⟨c0, c1, c2⟩ => ?_) fun h => ?_
  · have h1 : a < len := by omega
    dsimp only
    rw [wide_eq hg.p0 hg.p1, paB_in h1, nxA_in h1, pa_ok h1 c2, noF4 hg.p0 hg.p1]
    exact ⟨rfl, by simp [c0], by omega, by omega⟩
  · dsimp only
    by_cases hp : p / 4 % 2 = 0
    · exact pa_bad (fun ⟨h1, h2⟩ => h ⟨hp, by omega, h2⟩) _
    · rw [noF4 hg.p0 hg.p1]; simp only [hp, decide_false, Bool.not_false]; exact paF_true
theorem lf_imm (hg : RGood g len cap a p) {op c : Int} {long : Bool} (hl : decide (c = 129) = long) (h0 : op ≠ 0) (hd : decC g len p c a.toNat = dImm g len op p c a.toNat) :
    insPost g len p c a ⟨⟨op, wideB p, long, paB g len a p, 0, 0, nuV g len (nxA len a) long, 0⟩, nuA len (nxA len a) long, nuB len (nxA len a) (paF g len a (noF p 4 false) 3) long⟩ := by
  have e0 := hg.pos0
  unfold dImm at hd
  rw [hl] at hd
  refine post_if hd h0 (fun ⟨c0, c1, c2, c3⟩ => ?_) fun h => ?_
  · have h1 : a < len := by omega
    obtain ⟨n1, n2, n3⟩ := nu_ok (len := len) (a := a + 1) g (by omega) (long := long) (by omega)
    dsimp only
    rw [wide_eq hg.p0 hg.p1, paB_in h1, nxA_in h1, pa_ok h1 c2, noF4 hg.p0 hg.p1, n1, n2, n3, show (a + 1).toNat = a.toNat + 1 by omega]
    exact ⟨rfl, by simp [c0], by omega, by omega⟩
  · dsimp only
    by_cases hp : p / 4 % 2 = 0
    · by_cases h1 : a < len ∧ g a.toNat / 64 = 3
      · rw [nxA_in h1.1]
        exact nu_bad (fun h2 => h ⟨hp, by omega, h1.2, by omega⟩) _
      · rw [pa_bad h1, nuB_true]
    · rw [noF4 hg.p0 hg.p1]; simp only [hp, decide_false, Bool.not_false]; rw [paF_true, nuB_true]
theorem lf_load (hg : RGood g len cap a p) {c : Int} (hd : decC g len p c a.toNat = dLoad g len p a.toNat) : insPost g len p c a ⟨⟨3, wideB p, meL g len a, paR g len a p, paB g len a p, meV g len a, 0, 0⟩, meA g len a, meB g len a false⟩ := by
  have e0 := hg.pos0
  refine post_if hd (by simp) (fun hm => ?_) fun h => me_bad e0 h false
  obtain ⟨h1, m1, m2, m3, m4⟩ := me_ok e0 hm
  dsimp only
  rw [wide_eq hg.p0 hg.p1, paB_in h1, paR_in h1, m1, m2, m3, m4]
  exact ⟨rfl, rfl, by omega, by omega⟩
theorem lf_store (hg : RGood g len cap a p) {c : Int} (hd : decC g len p c a.toNat = dStore g len p a.toNat) : insPost g len p c a ⟨⟨4, wideB p, meL g len a, paB g len a p, paR g len a p, meV g len a, 0, 0⟩, meA g len a, meB g len a false⟩ := by
  have e0 := hg.pos0
  refine post_if hd (by simp) (fun hm => ?_) fun h => me_bad e0 h false
  obtain ⟨h1, m1, m2, m3, m4⟩ := me_ok e0 hm
  dsimp only
  rw [wide_eq hg.p0 hg.p1, paB_in h1, paR_in h1, m1, m2, m3, m4]
  exact ⟨rfl, rfl, by omega, by omega⟩
theorem lf_stack (hg : RGood g len cap a p) {op c : Int} (h0 : op ≠ 0) (hc0 : 0 ≤ c) (hc1 : c < 256) (hd : decC g len p c a.toNat = dStack op p c a.toNat) : insPost g len p c a ⟨⟨op, false, false, lowI c p, 0, 0, 0, 0⟩, a, noF p 12 false⟩ := by
  have e0 := hg.pos0
  rw [low_eq hc0 hc1 hg.p0 hg.p1, noF12 hg.p0 hg.p1]
  refine post_if hd h0 (fun h => ⟨rfl, by simp [h], e0, rfl⟩) fun h => by simp [h]
theorem lf_mov (hg : RGood g len cap a p) {c : Int} (hc0 : 0 ≤ c) (hc1 : c < 256) (hd : decC g len p c a.toNat = dMov g len p c a.toNat) : insPost g len p c a ⟨⟨1, false, false, lowI c p, 0, 0, unsI (nuV g len a true), 0⟩, nuA len a true, nuB len a (noF p 12 false) true⟩ := by
  have e0 := hg.pos0
  rw [low_eq hc0 hc1 hg.p0 hg.p1, noF12 hg.p0 hg.p1]
  refine post_if hd (by simp) (fun ⟨c1, c2⟩ => ?_) fun h => ?_
  · obtain ⟨n1, n2, n3⟩ := nu_ok (len := len) (a := a) g (by omega) (long := true) (by simp only [numK, if_true]; omega)
    obtain ⟨_, u2, u3⟩ := u4_back (g := g) (p := a.toNat) fun k h1 h2 => hg.byte k (by omega)
    dsimp only
    rw [n1, n2, n3]
    simp only [numV, if_true, numK]
    rw [uns_eq u2 u3]
    exact ⟨rfl, by simp [c1], by omega, by omega⟩
  · dsimp only
    by_cases hp : p / 4 = 0
    · exact nu_bad (fun h2 => h ⟨hp, by simp only [numK, if_true] at h2; omega⟩) _
    · simp only [hp, decide_false, Bool.not_false]; exact nuB_true true
theorem lf_jmp (hg : RGood g len cap a p) {c : Int} {long : Bool} (hl : decide (c = 233) = long) (hd : decC g len p c a.toNat = dJmp g len p c a.toNat) : insPost g len p c a ⟨⟨25, false, long, 0, 0, 0, nuV g len a long, 0⟩, nuA len a long, nuB len a (noF p 15 false) long⟩ := by
  have e0 := hg.pos0
  rw [noF15 hg.p0 hg.p1]
  unfold dJmp at hd
  rw [hl] at hd
  refine post_if hd (by simp) (fun ⟨c1, c2⟩ => ?_) fun h => ?_
  · obtain ⟨n1, n2, n3⟩ := nu_ok (len := len) (a := a) g (by omega) (long := long) (by omega)
    dsimp only
    rw [n1, n2, n3]
    exact ⟨rfl, by simp [c1], by omega, by omega⟩
  · dsimp only
    by_cases hp : p = 0
    · exact nu_bad (fun h2 => h ⟨hp, by omega⟩) _
    · simp only [hp, decide_false, Bool.not_false]; exact nuB_true long
theorem lf_ret (hg : RGood g len cap a p) {c : Int} (hd : decC g len p c a.toNat = dRet p a.toNat) : insPost g len p c a ⟨⟨27, false, false, 0, 0, 0, 0, 0⟩, a, noF p 15 false⟩ := by
  have e0 := hg.pos0
  rw [noF15 hg.p0 hg.p1]
  refine post_if hd (by simp) (fun h => ⟨rfl, by simp [h], e0, rfl⟩) fun h => by simp [h]
theorem lf_jccN (_ : RGood g len cap a p) {c q cc : Int} {long : Bool} {y : AI} {e : Int} (hd : decC g len p c a.toNat = dJcc g len p cc long q.toNat) (h : p ≠ 0 ∨ cc < 2) (L : Bool) : insPost g len p c a ⟨y, e, nuB len q true L⟩ := by
  left
  refine ⟨.inl (nuB_true L), ?_⟩
  rw [hd]; unfold dJcc; rw [if_neg (by omega)]
theorem lf_jccY (_ : RGood g len cap a p) {c q cc : Int} {long : Bool} (hq : 0 ≤ q) (hp : p = 0) (h2 : 2 ≤ cc) (hd : decC g len p c a.toNat = dJcc g len p cc long q.toNat) :
    insPost g len p c a ⟨⟨26, false, long, 0, 0, 0, nuV g len q long, cc⟩, nuA len q long, nuB len q (decide (7 < cc)) long⟩ := by
  refine post_if hd (by simp) (fun ⟨c1, c2, c3, c4⟩ => ?_) fun h => ?_
  · obtain ⟨n1, n2, n3⟩ := nu_ok (len := len) (a := q) g (by omega) (long := long) (by omega)
    dsimp only
    rw [n1, n2, n3]
    exact ⟨rfl, by simp; omega, by omega, by omega⟩
  · dsimp only
    by_cases hc : 7 < cc
    · simp only [hc, decide_true]; exact nuB_true long
    · exact nu_bad (fun h3 => h ⟨hp, h2, by omega, by omega⟩) _
theorem lf_none (_ : RGood g len cap a p) {c : Int} {y : AI} {e : Int} {b : Bool} (hy : y.op = 0) (hd : decC g len p c a.toNat = none) : insPost g len p c a ⟨y, e, b⟩ := .inl ⟨.inr hy, hd⟩

theorem noF15_t (hg : RGood g len cap a p) (h : noF p 15 false = true) : p ≠ 0 := by
  rw [noF15 hg.p0 hg.p1] at h; simpa using h
theorem noF15_f (hg : RGood g len cap a p) (h : noF p 15 false = false) : p = 0 := by
  rw [noF15 hg.p0 hg.p1] at h; simpa using h

theorem rest_holds (hg : RGood g len cap a p) (hc0 : 0 ≤ code) (hc1 : code < 256) (h15 : ¬ (code = 15 ∧ a.toNat < len)) (n235 : code ≠ 235) (n137 : code ≠ 137) (n131 : code ≠ 131) (n129 : code ≠ 129) (n247 : code ≠ 247) (n211 : code ≠ 211) :
    restP g len cap a p false code (insPost g len p code a) := by
  have A : askA len cap := ask2 hg.room
  have B : preP g len cap a p := preG hg
  have e0 := hg.pos0
  unfold restP
  simp only [c_248 hc0 hc1, c_240 hc0 hc1, c_eql, c_eqr, c_cc2 hc0 hc1, c_cc7 hc0 hc1, decide_eq_true_eq, decide_eq_false_iff_not, cc_eq hc0 hc1, ge_eq]
  refine ⟨fun h => ⟨A, B, A, B, A, B, leaf_of (lf_mov hg hc0 hc1 (by unfold decC; rw [if_neg h15, if_pos (by omega)]))⟩, fun k1 => ?_⟩
  refine ⟨fun h => ⟨A, B, A, B, leaf_of (lf_stack hg (by decide) hc0 hc1 (by unfold decC; rw [if_neg h15, if_neg (by omega), if_pos (by omega)]))⟩, fun k2 => ?_⟩
  refine ⟨fun h => ⟨A, B, A, B, leaf_of (lf_stack hg (by decide) hc0 hc1 (by unfold decC; rw [if_neg h15, if_neg (by omega), if_neg (by omega), if_pos (by omega)]))⟩, fun k3 => ?_⟩
  have hj : code / 16 * 16 = 112 → decC g len p code a.toNat = dJcc g len p (code % 16) false a.toNat := fun h => by
    unfold decC; rw [if_neg h15, if_neg (by omega), if_neg (by omega), if_neg (by omega), if_pos (by omega)]
  refine ⟨fun h => ?_, fun k4 => ?_⟩
  · have hl : decide (128 ≤ code) = false := by simp; omega
    rw [hl]
    refine ⟨A, B, fun hn => ⟨A, B, leaf_of (lf_jccN hg (hj h) (.inl (noF15_t hg hn)) false)⟩, fun hn => ⟨fun h2 => ⟨A, B, leaf_of (lf_jccN hg (hj h) (.inr h2) false)⟩, fun h2 => ⟨A, B, leaf_of (lf_jccY hg e0 (noF15_f hg hn) (by omega) (hj h))⟩⟩⟩
  refine ⟨n235, fun h => ⟨A, B, A, B, ?_⟩, fun k5 => ?_⟩
  · subst h
    exact leaf_of (lf_jmp hg rfl (by unfold decC; simp))
  refine ⟨fun h => ⟨A, B, ?_⟩, fun k6 => ?_⟩
  · subst h
    exact leaf_of (lf_ret hg (by unfold decC; simp))
  refine ⟨fun h => ⟨A, B, ?_⟩, fun k7 => ?_⟩
  · subst h
    exact leaf_of (lf_load hg (by unfold decC; simp))
  refine ⟨n137, fun h => absurd h.symm n137, fun _ => ?_⟩
  refine ⟨fun h => ⟨A, B, ?_⟩, fun k8 => ?_⟩
  · subst h; exact leaf_of (lf_two hg (by decide) (by unfold decC; simp))
  refine ⟨fun h => ⟨A, B, ?_⟩, fun k9 => ?_⟩
  · subst h; exact leaf_of (lf_two hg (by decide) (by unfold decC; simp))
  refine ⟨fun h => ⟨A, B, ?_⟩, fun k10 => ?_⟩
  · subst h; exact leaf_of (lf_two hg (by decide) (by unfold decC; simp))
  refine ⟨fun h => ⟨A, B, ?_⟩, fun k11 => ?_⟩
  · subst h; exact leaf_of (lf_two hg (by decide) (by unfold decC; simp))
  refine ⟨fun h => ⟨A, B, ?_⟩, fun k12 => ?_⟩
  · subst h; exact leaf_of (lf_two hg (by decide) (by unfold decC; simp))
  refine ⟨fun h => ⟨A, B, ?_⟩, fun k13 => ?_⟩
  · subst h; exact leaf_of (lf_two hg (by decide) (by unfold decC; simp))
  refine ⟨fun h => ⟨A, B, ?_⟩, fun k14 => ?_⟩
  · subst h; exact leaf_of (lf_two hg (by decide) (by unfold decC; simp))
  refine ⟨fun h => ⟨A, B, ?_⟩, fun k15 => ?_⟩
  · subst h; exact leaf_of (lf_two hg (by decide) (by unfold decC; simp))
  refine ⟨n131, n129, n131, n129, n131, n129, n131, n129, fun h => n247 h.symm, fun h => n247 h.symm, fun h => n247 h.symm, fun h => n211 h.symm, fun h => n211 h.symm, leaf_of (lf_none hg rfl ?_)⟩
  unfold decC
  rw [if_neg h15, if_neg (by omega), if_neg (by omega), if_neg (by omega), if_neg (by omega), if_neg n235, if_neg k5, if_neg k6, if_neg k7, if_neg n137, if_neg (Ne.symm k8), if_neg (Ne.symm k9), if_neg (Ne.symm k10), if_neg (Ne.symm k11), if_neg (Ne.symm k12), if_neg (Ne.symm k13), if_neg (Ne.symm k14), if_neg (Ne.symm k15), if_neg (by omega), if_neg n247, if_neg n211]
end
end Go.Proofs.Ytajcmjjgnbaahaa.Amd
