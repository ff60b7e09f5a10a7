/- The walk through code: its contract. -/
import Derived.Test.YtajcmjjgnbaahaaSn2
import Derived.Test.YtajcmjjgnbaahaaBl3
namespace Go.Proofs.Ytajcmjjgnbaahaa.Amd
open Go Go.Proofs.Ytajcmjjgnbaahaa.Sx Go.RowKit
set_option linter.unusedVariables false
set_option linter.unusedSimpArgs false

def optN (z : Int × Bool) : Option Int := if z.2 = true then some z.1 else none
/-- An instruction's end and number, of either target. -/
def stepA (g : Nat → Int) (len p : Nat) : Option (Nat × Option Int) := match amdDec g len p with | some (y, e) => some (e, optN (numA y)) | none => none
def stepR (g : Nat → Int) (len p : Nat) : Option (Nat × Option Int) :=
  if p + 4 ≤ len then (if (Rv.rvDec (u4 g p)).err = 0 then some (p + 4, optN (numR (Rv.rvDec (u4 g p)).op (Rv.rvDec (u4 g p)).imm)) else none) else none
def stepT (t : Int) (g : Nat → Int) (len : Nat) : Nat → Option (Nat × Option Int) := if t = 2 then stepA g len else stepR g len
structure WChain (st : Nat → Option (Nat × Option Int)) (len n : Nat) (P : Nat → Nat) (K : Nat → Option Int) : Prop where
  p0 : P 0 = 0
  step : ∀ i, i < n → P i < len ∧ st (P i) = some (P (i + 1), K i)
/-- The numbers, each with its place. -/
def oneN (p : Nat) : Option Int → List (Int × Int)
  | some v => [((p : Int), v)]
  | none => []
def fnd (P : Nat → Nat) (K : Nat → Option Int) : Nat → List (Int × Int)
  | 0 => []
  | n + 1 => fnd P K n ++ oneN (P n) (K n)
theorem fnd_same {P P' : Nat → Nat} {K K' : Nat → Option Int} : ∀ {n : Nat}, (∀ i, i < n → P i = P' i ∧ K i = K' i) → fnd P K n = fnd P' K' n
  | 0, _ => rfl
  | n + 1, h => by
    rw [fnd, fnd, fnd_same fun i hi => h i (by omega), (h n (by omega)).1, (h n (by omega)).2]
structure Found (q : Nat) (A V : Nat → Int) (l : List (Int × Int)) : Prop where
  len : q = l.length
  cell : ∀ j, j < q → A j = (l.getD j (0, 0)).1 ∧ V j = (l.getD j (0, 0)).2
structure WalkO (t : Int) (g : Nat → Int) (len : Nat) (r : WkR) : Prop where
  tt : t = 1 ∨ t = 2
  all : ∃ (P : Nat → Nat) (K : Nat → Option Int), WChain (stepT t g len) len r.n P K ∧ P r.n = len ∧ (∀ i, i < r.n → r.S i = P i) ∧ Found r.q r.A r.V (fnd P K r.n)
  le : r.q ≤ r.n
  nl : r.n ≤ len
  h1 : r.n ≤ r.c1
  h2 : r.q ≤ r.c2
  k1 : r.c1 ≤ 9223372036854775807
  k2 : r.c2 ≤ 9223372036854775807
structure WalkB (t : Int) (g : Nat → Int) (len : Nat) (b : WkE) : Prop where
  all : (t ≠ 1 ∧ t ≠ 2 ∧ b.e = 1 ∧ b.p = 0) ∨ ((t = 1 ∨ t = 2) ∧ b.e = 221 ∧ ∃ (k : Nat) (P : Nat → Nat) (K : Nat → Option Int), WChain (stepT t g len) len k P K ∧ P k = b.p ∧ b.p < len ∧ stepT t g len b.p = none)
def wkInv (st : Nat → Option (Nat × Option Int)) (len : Nat) (a : WkSt) : Prop :=
  a.p ≤ len ∧ a.n ≤ a.p ∧ a.q ≤ a.n ∧ a.n ≤ a.c1 ∧ a.q ≤ a.c2 ∧ a.c1 ≤ 9223372036854775807 ∧ a.c2 ≤ 9223372036854775807 ∧
    ∃ (P : Nat → Nat) (K : Nat → Option Int), WChain st len a.n P K ∧ P a.n = a.p ∧ (∀ i, i < a.n → a.S i = P i) ∧ Found a.q a.A a.V (fnd P K a.n)
def newT (j n : Nat) (S : Nat → Int) (p : Int) (U : Unk) (e : Nat) : Int := if e < n then S e else if e = n then p else U.i j e
theorem newT_lt {j n e : Nat} {S : Nat → Int} {p : Int} {U : Unk} (h : e < n) : newT j n S p U e = S e := if_pos h
theorem newT_at {j n e : Nat} {S : Nat → Int} {p : Int} {U : Unk} (h : e = n) : newT j n S p U e = p := by subst h; simp [newT]
theorem newT_gt {j n e : Nat} {S : Nat → Int} {p : Int} {U : Unk} (h : n < e) : newT j n S p U e = U.i j e := by
  unfold newT; rw [if_neg (by omega), if_neg (by omega)]
theorem found_more {q : Nat} {A V : Nat → Int} {l : List (Int × Int)} (h : Found q A V l) (p v : Int) (U : Unk) : Found (q + 1) (newT 0 q A p U) (newT 1 q V v U) (l ++ [(p, v)]) := by
  refine ⟨by simp [h.len], fun j hj => ?_⟩
  rw [List.getD_eq_getElem?_getD]
  by_cases hq : j < q
  · rw [newT_lt hq, newT_lt hq, List.getElem?_append_left (by rw [← h.len]; exact hq)]
    have := h.cell j hq
    rw [List.getD_eq_getElem?_getD] at this
    exact this
  · obtain rfl : j = q := by omega
    rw [newT_at rfl, newT_at rfl, List.getElem?_append_right (by rw [h.len]; exact Nat.le_refl _)]
    have : j - l.length = 0 := by have := h.len; omega
    rw [this]
    exact ⟨rfl, rfl⟩

/-- The next head: one instruction more. -/
theorem inv_next {st : Nat → Option (Nat × Option Int)} {len n q p e : Nat} {S A V : Nat → Int} {num : Option Int} (hn : n ≤ p) (hq : q ≤ n) (hp : p < len) (hpe : p < e) (hel : e ≤ len) (hst : st p = some (e, num)) {P : Nat → Nat} {K : Nat → Option Int}
    (hc : WChain st len n P K) (hPn : P n = p) (hS : ∀ i, i < n → S i = P i) (hf : Found q A V (fnd P K n)) {c1' c2' q' : Nat} {S' A' V' : Nat → Int} (h1 : n + 1 ≤ c1') (h2 : q' ≤ c2') (h1' : c1' ≤ 9223372036854775807) (h2' : c2' ≤ 9223372036854775807) (hq' : q' ≤ q + 1)
    (hS' : ∀ i, i < n → S' i = S i) (hSn : S' n = p) (hf' : Found q' A' V' (fnd P K n ++ oneN p num)) : wkInv st len ⟨n + 1, c1', S', q', c2', A', V', e⟩ := by
  refine ⟨hel, by dsimp only; omega, by dsimp only; omega, h1, h2, h1', h2', fun i => if i ≤ n then P i else e, fun i => if i < n then K i else num, ⟨?_, fun i hi => ?_⟩, ?_, fun i hi => ?_, ?_⟩
  · show (if 0 ≤ n then P 0 else e) = 0
    rw [if_pos (Nat.zero_le _)]; exact hc.p0
  · have hi : i < n + 1 := hi
    show (if i ≤ n then P i else e) < len ∧ st (if i ≤ n then P i else e) = some (if i + 1 ≤ n then P (i + 1) else e, if i < n then K i else num)
    rw [if_pos (by omega)]
    by_cases hin : i < n
    · rw [if_pos (by omega), if_pos hin]; exact hc.step i hin
    · obtain rfl : i = n := by omega
      rw [if_neg (by omega), if_neg (by omega), hPn]; exact ⟨hp, hst⟩
  · show (if n + 1 ≤ n then P (n + 1) else e) = e
    rw [if_neg (by omega)]
  · have hi : i < n + 1 := hi
    show S' i = ((if i ≤ n then P i else e : Nat) : Int)
    rw [if_pos (by omega)]
    by_cases hin : i < n
    · rw [hS' i hin]; exact hS i hin
    · obtain rfl : i = n := by omega
      rw [hSn, hPn]
  · show Found q' A' V' (fnd (fun i => if i ≤ n then P i else e) (fun i => if i < n then K i else num) (n + 1))
    have e1 : fnd (fun i => if i ≤ n then P i else e) (fun i => if i < n then K i else num) (n + 1) = fnd P K n ++ oneN p num := by
      rw [fnd, fnd_same (P' := P) (K' := K) fun i hi => ⟨by rw [if_pos (by omega)], by rw [if_pos hi]⟩]
      simp only [Nat.le_refl, if_true, Nat.lt_irrefl, if_false, hPn]
    rw [e1]; exact hf'

set_option maxRecDepth 100000 in
theorem okW_yes {st : Nat → Option (Nat × Option Int)} {len cap n c1 q c2 p e : Nat} {g S A V : Nat → Int} {num : Int × Bool} {nx : Int} (hl : len ≤ 1073741824) (hpl : p < len) (hpe : p < e) (hel : e ≤ len) (hnx : nx = (e : Int)) (hst : st p = some (e, optN num))
    (hi : wkInv st len ⟨n, c1, S, q, c2, A, V, p⟩) : okW len cap g (wkInv st len) (fun a => len - a.p) ⟨n, c1, S, q, c2, A, V, p⟩ num nx := by
  obtain ⟨i1, i2, i3, i4, i5, i6, i7, P, K, hc, hPn, hS, hf⟩ := hi
  dsimp only at i1 i2 i3 i4 i5 i6 i7 hc hPn hS hf
  unfold okW
  dsimp only
  refine ⟨decide_eq_true (by omega), decide_eq_true (Nat.le_refl _), decide_eq_true i6, ?_, fun U cap1 h1 h1' => ⟨fun hb => ?_, fun hb => ?_⟩⟩
  · show (n + (0 + 1)) * 8 ≤ 140737488355328
    omega
  · have h1 : n + (0 + 1) ≤ cap1 := h1
    refine ⟨decide_eq_true (by omega), decide_eq_true (Nat.le_refl _), decide_eq_true i7, ?_, fun U1 cap2 h2 h2' => ?_⟩
    · show (q + (0 + 1)) * 16 ≤ 140737488355328
      omega
    have h2 : q + (0 + 1) ≤ cap2 := h2
    have hnum : optN num = some num.1 := by unfold optN; rw [if_pos hb]
    refine ⟨⟨n + 1, cap1, newT 0 n S p U, q + 1, cap2, newT 0 q A p U1, newT 1 q V num.1 U1, e⟩, ?_, ?_, rfl, rfl, rfl, rfl, rfl, rfl, hnx, rfl, fun _ _ => rfl, rfl, ?_, rfl, ?_, ?_, trivial⟩
    · refine inv_next i2 i3 hpl hpe hel hst hc hPn hS hf h1 h2 h1' h2' (Nat.le_refl _) (fun i hi => newT_lt hi) (newT_at rfl) ?_
      rw [hnum]; exact found_more hf p num.1 U1
    · show len - e < len - p
      omega
    · exact fun i _ => colI_new (x := newT 0 n S p U i) (fun h => by rw [newT_lt h]; rfl) (fun h => by rw [newT_at h]; subst h; rw [Nat.sub_self]; rfl) (fun h => by rw [newT_gt h]; rfl)
    · exact fun i _ => colI_new (x := newT 0 q A p U1 i) (fun h => by rw [newT_lt h]; rfl) (fun h => by rw [newT_at h]; subst h; rw [Nat.sub_self]; rfl) (fun h => by rw [newT_gt h]; rfl)
    · exact fun i _ => colI_new (x := newT 1 q V num.1 U1 i) (fun h => by rw [newT_lt h]; rfl) (fun h => by rw [newT_at h]; subst h; rw [Nat.sub_self]; rfl) (fun h => by rw [newT_gt h]; rfl)
  · have h1 : n + (0 + 1) ≤ cap1 := h1
    have hnum : optN num = none := by unfold optN; rw [if_neg (by rw [hb]; simp)]
    refine ⟨⟨n + 1, cap1, newT 0 n S p U, q, c2, A, V, e⟩, ?_, ?_, rfl, rfl, rfl, rfl, rfl, rfl, hnx, rfl, fun _ _ => rfl, rfl, ?_, rfl, fun _ _ => rfl, fun _ _ => rfl, trivial⟩
    · refine inv_next i2 i3 hpl hpe hel hst hc hPn hS hf h1 i5 h1' i7 (by omega) (fun i hi => newT_lt hi) (newT_at rfl) ?_
      rw [hnum]
      show Found q A V (fnd P K n ++ [])
      rw [List.append_nil]; exact hf
    · show len - e < len - p
      omega
    · exact fun i _ => colI_new (x := newT 0 n S p U i) (fun h => by rw [newT_lt h]; rfl) (fun h => by rw [newT_at h]; subst h; rw [Nat.sub_self]; rfl) (fun h => by rw [newT_gt h]; rfl)

/-! A word. -/
theorem addI_eq {p : Nat} (h : p ≤ 1073741824) (k : Nat) (hk : k ≤ 8) : addI (p : Int) (k : Int) = ((p + k : Nat) : Int) := by
  unfold addI; simp only [IE.den]
  rw [wrap_i64_in (by omega) (by omega)]; omega
theorem shl64 {b : Int} (s : Nat) (hs : s ≤ 24) (h0 : 0 ≤ b) (h1 : b < 256) : shlI .u64 (IntKind.u64.wrap b) s = b * 2 ^ s := by
  have hle : (2 : Int) ^ s ≤ 2 ^ 24 := Rv.ipow_le hs
  have hp : (0 : Int) < 2 ^ s := Int.pow_pos (by decide)
  have h2 : b * 2 ^ s ≤ 255 * 2 ^ 24 := Int.mul_le_mul (by omega) hle (Int.le_of_lt hp) (by decide)
  have h3 : 0 ≤ b * 2 ^ s := Int.mul_nonneg h0 (Int.le_of_lt hp)
  rw [wrap_u64_in h0 (by omega), shl_mul .u64 b s (by simp [IntKind.bits]; omega)]
  exact wrap_u64_in h3 (by omega)
theorem loadE {b0 b1 b2 b3 : Int} (h0 : 0 ≤ b0 ∧ b0 < 256) (h1 : 0 ≤ b1 ∧ b1 < 256) (h2 : 0 ≤ b2 ∧ b2 < 256) (h3 : 0 ≤ b3 ∧ b3 < 256) :
    IE.den (.conv .u32 (.bits .or .u64 (.bits .or .u64 (.bits .or .u64 (.bits .or .u64 (.lit 0) (.shl .u64 (.conv .u64 (.var b0)) (.lit 0))) (.shl .u64 (.conv .u64 (.var b1)) (.lit 8))) (.shl .u64 (.conv .u64 (.var b2)) (.lit 16))) (.shl .u64 (.conv .u64 (.var b3)) (.lit 24)))) = b0 + b1 * 256 + b2 * 65536 + b3 * 16777216 := by
  have s0 := Sub.shift b0 8 0 h0.1 (by simpa using h0.2)
  have s1 := Sub.shift b1 8 8 h1.1 (by simpa using h1.2)
  have s2 := Sub.shift b2 8 16 h2.1 (by simpa using h2.2)
  have s3 := Sub.shift b3 8 24 h3.1 (by simpa using h3.2)
  have o0 := Rv.or64 (Sub.zero 0) s0 (by decide) (by decide) (by decide)
  have o1 := Rv.or64 o0.2 s1 (by decide) (by decide) (by decide)
  have o2 := Rv.or64 o1.2 s2 (by decide) (by decide) (by decide)
  have o3 := Rv.or64 o2.2 s3 (by decide) (by decide) (by decide)
  simp only [IE.den]
  have e0 : shlI .u64 (IntKind.u64.wrap b0) 0 = b0 * 2 ^ 0 := shl64 0 (by decide) h0.1 h0.2
  have e1 : shlI .u64 (IntKind.u64.wrap b1) 8 = b1 * 2 ^ 8 := shl64 8 (by decide) h1.1 h1.2
  have e2 : shlI .u64 (IntKind.u64.wrap b2) 16 = b2 * 2 ^ 16 := shl64 16 (by decide) h2.1 h2.2
  have e3 : shlI .u64 (IntKind.u64.wrap b3) 24 = b3 * 2 ^ 24 := shl64 24 (by decide) h3.1 h3.2
  rw [e0, e1, e2, e3, o0.1, o1.1, o2.1, o3.1, wrap_u32]
  simp
  omega
theorem shlOr {x b : Int} {m : Nat} (hx : Sub m x) (hm : m < 2 ^ 24) (h0 : 0 ≤ b) (h1 : b < 256) : bitsI .or .u64 (shlI .u64 x 8) (IntKind.u64.wrap b) = x * 256 + b ∧ Sub (m * 256 + 255) (x * 256 + b) := by
  have l := hx.lt
  have e : shlI .u64 x 8 = x * 256 := by
    have := shl_mul .u64 x 8 (by simp [IntKind.bits])
    rw [show ((8 : Nat) : Int) = 8 from rfl] at this
    rw [this]
    exact wrap_u64_in (by simp; omega) (by simp; omega)
  obtain ⟨n, rfl, hn⟩ := hx
  obtain ⟨k, rfl⟩ := Int.eq_ofNat_of_zero_le h0
  have hk : k < 256 := by omega
  have hm2 : n * 256 &&& 255 = 0 := by
    rw [show (255 : Nat) = 2 ^ 8 - 1 from rfl, Nat.and_two_pow_sub_one_eq_mod]; omega
  have hk2 : k &&& 255 = k := by rw [show (255 : Nat) = 2 ^ 8 - 1 from rfl, Nat.and_two_pow_sub_one_eq_mod]; omega
  have hs1 : Sub (m * 256) ((n : Int) * 256) := ⟨n * 256, by simp, by
    rw [show (256 : Nat) = 2 ^ 8 from rfl, ← Nat.shiftLeft_eq, ← Nat.shiftLeft_eq, ← Nat.shiftLeft_and_distrib, hn]⟩
  have hs2 : Sub 255 (k : Int) := ⟨k, rfl, hk2⟩
  have hd : m * 256 &&& 255 = 0 := by rw [show (255 : Nat) = 2 ^ 8 - 1 from rfl, Nat.and_two_pow_sub_one_eq_mod]; omega
  have o := Rv.or64 hs1 hs2 hd (by omega) (by omega)
  rw [e, wrap_u64_in (by omega) (by omega)]
  refine ⟨o.1, ?_⟩
  have h2 := o.2
  rw [or_eq_add _ _ hd] at h2
  exact h2
theorem loadR {b0 b1 b2 b3 : Int} (h0 : 0 ≤ b0 ∧ b0 < 256) (h1 : 0 ≤ b1 ∧ b1 < 256) (h2 : 0 ≤ b2 ∧ b2 < 256) (h3 : 0 ≤ b3 ∧ b3 < 256) :
    IE.den (.conv .u32 (.bits .or .u64 (.shl .u64 (.bits .or .u64 (.shl .u64 (.bits .or .u64 (.shl .u64 (.bits .or .u64 (.lit 0) (.conv .u64 (.var b3))) (.lit 8)) (.conv .u64 (.var b2))) (.lit 8)) (.conv .u64 (.var b1))) (.lit 8)) (.conv .u64 (.var b0)))) = b0 + b1 * 256 + b2 * 65536 + b3 * 16777216 := by
  have e3 : bitsI .or .u64 0 (IntKind.u64.wrap b3) = b3 ∧ Sub 255 b3 := by
    have := shlOr (Sub.zero 0) (by decide) h3.1 h3.2
    rw [show shlI .u64 0 8 = 0 by decide] at this
    simpa using this
  have e2 := shlOr e3.2 (by decide) h2.1 h2.2
  have e1 := shlOr e2.2 (by decide) h1.1 h1.2
  have e0 : bitsI .or .u64 (shlI .u64 ((b3 * 256 + b2) * 256 + b1) 8) (IntKind.u64.wrap b0) = ((b3 * 256 + b2) * 256 + b1) * 256 + b0 := (shlOr e1.2 (by decide) h0.1 h0.2).1
  simp only [IE.den]
  rw [e3.1, e2.1, e1.1, e0, wrap_u32]
  omega
theorem wordI_eq {g : Nat → Int} {p len : Nat} (hl : len ≤ 1073741824) (hp : p + 4 ≤ len) (hb : ∀ i, i < len → 0 ≤ g i ∧ g i < 256) : wordI g (p : Int) = u4 g p := by
  have a0 : addI (p : Int) 0 = ((p + 0 : Nat) : Int) := addI_eq (by omega) 0 (by omega)
  have a1 : addI (p : Int) 1 = ((p + 1 : Nat) : Int) := addI_eq (by omega) 1 (by omega)
  have a2 : addI (p : Int) 2 = ((p + 2 : Nat) : Int) := addI_eq (by omega) 2 (by omega)
  have a3 : addI (p : Int) 3 = ((p + 3 : Nat) : Int) := addI_eq (by omega) 3 (by omega)
  unfold wordI u4
  rw [a0, a1, a2, a3]
  simp only [Int.toNat_natCast, Nat.zero_add, Nat.add_zero]
  exact loadE (hb p (by omega)) (hb (p + 1) (by omega)) (hb (p + 2) (by omega)) (hb (p + 3) (by omega))
theorem u4_range {g : Nat → Int} {p len : Nat} (hp : p + 4 ≤ len) (hb : ∀ i, i < len → 0 ≤ g i ∧ g i < 256) : 0 ≤ u4 g p ∧ u4 g p < 4294967296 := by
  have b0 := hb p (by omega)
  have b1 := hb (p + 1) (by omega)
  have b2 := hb (p + 2) (by omega)
  have b3 := hb (p + 3) (by omega)
  unfold u4; omega

/-! The contract. -/
def wkPre : Ins → List SV → Prop := fun ins pl => match ins, pl with
  | [(cs, len, cap)], [.int .i64 _] => (∃ g : Nat → Int, cs = [.int .u8 fun e => .var (g e)]) ∧ BGood (colG cs) len cap ∧ Nat.le len 1073741824
  | _, _ => False
def wkOutsP : Ins → List SV → List Out := fun ins pl => match ins, pl with
  | [(cs, len, _)], [.int .i64 t] => wkOuts (WalkO t.den (colG cs) len) (WalkB t.den (colG cs) len)
  | _, _ => []
theorem wkPre_of {ins : Ins} {pl : List SV} (h : wkPre ins pl) : ∃ (g : Nat → Int) (len cap : Nat) (t : IE), ins = [([.int .u8 fun e => .var (g e)], len, cap)] ∧ pl = [.int .i64 t] ∧ BGood g len cap ∧ len ≤ 1073741824 := by
  unfold wkPre at h
  split at h
  · obtain ⟨⟨g, rfl⟩, h2, h3⟩ := h
    exact ⟨g, _, _, _, rfl, rfl, h2, h3⟩
  · exact h.elim
theorem wkOuts_good (O : WkR → Prop) (B : WkE → Prop) : ∀ o ∈ wkOuts O B, o.good := by
  intro o ho
  unfold wkOuts at ho
  simp only [List.mem_cons, List.not_mem_nil, or_false] at ho
  rcases ho with rfl | rfl
  · intro c
    refine ⟨⟨fun n m ν ν' h => ?_, fun n p h => ?_⟩, rfl, trivial⟩
    · have h0 := h 0 (by simp)
      have h1 := h 1 (by simp)
      simp only [Nat.add_zero] at h0
      simp [SV.den, SV.denL, h0, h1]
    · exact ⟨h 0 (by simp), h 1 (by simp), trivial, trivial, trivial⟩
  · intro c
    exact ⟨⟨fun n m ν ν' h => rfl, fun n p h => ⟨trivial, trivial, trivial, trivial, trivial⟩⟩, rfl, trivial⟩
theorem wk_spec {f : FuncId} {s : SpecFn} (hs : SpecOk P f s)
    (h : ∀ (t : Int) (g : Nat → Int) (len cap : Nat), BGood g len cap → len ≤ 1073741824 → s [.int .i64 (.var t), sA 0 len cap] [rdRow g cap] (wkQ g cap (WalkO t g len) (WalkB t g len))) :
    SpecOk P f (rdSpec [.plain, .rows 1 zz1] wkPre wkOutsP) := by
  refine rd_ok hs (fun sz zs h => by simp at h; obtain ⟨rfl, rfl⟩ := h; rfl) ?_ ?_
  · intro ins pl o ho
    unfold wkOutsP at ho
    split at ho
    · exact wkOuts_good _ _ o ho
    · simp at ho
  · intro ins pl u hi hw hp
    obtain ⟨g, len, cap, t, rfl, rfl, h1, h2⟩ := wkPre_of hp
    exact h t.den g len cap h1 h2
theorem wkA_yes {g : Nat → Int} {len cap : Nat} (hg : BGood g len cap) (hl : len ≤ 1073741824) :
    sxFunc P WK (fun _ => annS WkSt (wkSlots rdA len cap) (wkHp g cap) (wkInv (stepA g len) len) (fun a => len - a.p)) Try.f30 [.int .i64 (.lit 2), sA 0 len cap] [rdRow g cap] (wkQ g cap (WalkO 2 g len) (WalkB 2 g len)) := by
  rw [wkA_nf]
  refine ⟨⟨⟨0, 0, fun _ => 0, 0, 0, fun _ => 0, fun _ => 0, 0⟩, ⟨Nat.zero_le _, Nat.le_refl _, Nat.le_refl _, Nat.le_refl _, Nat.le_refl _, by decide, by decide, fun _ => 0, fun _ => none, ⟨rfl, fun i hi => absurd hi (Nat.not_lt_zero i)⟩, rfl, fun i hi => absurd hi (Nat.not_lt_zero i), ⟨rfl, fun j hj => absurd hj (Nat.not_lt_zero j)⟩⟩, rfl, rfl, rfl, rfl, rfl, rfl, rfl, rfl, fun _ _ => rfl, rfl, rfl, trivial⟩, ?_, fun _ _ h => h⟩
  rintro _ ⟨n, c1, S, q, c2, A, V, p⟩ hi
  have hi' := hi
  obtain ⟨i1, i2, i3, i4, i5, i6, i7, P', K, hc, hPn, hS, hf⟩ := hi'
  dsimp only at i1 i2 i3 i4 i5 i6 i7 hc hPn hS hf ⊢
  refine ⟨fun hlt => ?_, fun hge => ?_⟩
  · have hlt : (p : Int) < (len : Int) := by simpa [BE.den, IE.den, cmpI_lss] using hlt
    have hp : p < len := by omega
    refine ⟨ask2 hg.room, fun cs' hcs => ?_⟩
    have hcG : colG cs' = g := by rw [hcs]; rfl
    have hd : decOut g len (p : Int) = decOf (amdDec g len p) := by unfold decOut; rw [if_neg (by omega)]; simp
    rw [hcG, hd]
    refine ⟨⟨by rw [hcs]; exact ⟨g, rfl⟩, hg⟩, fun hn => ?_, fun hn => ?_⟩
    · cases hz : amdDec g len p with
      | some z => rw [hz] at hn; simp [decOf, BE.den, IE.den, cmpI_eql] at hn
      | none =>
        right
        exact ⟨⟨221, p⟩, ⟨.inr ⟨.inr rfl, rfl, n, P', K, hc, hPn, hp, by show stepA g len p = none; unfold stepA; rw [hz]⟩⟩, rfl, rfl, rfl, fun _ _ => rfl, trivial⟩
    · cases hz : amdDec g len p with
      | none => rw [hz] at hn; simp [decOf, BE.den, IE.den, cmpI_eql] at hn
      | some z =>
        obtain ⟨y, e⟩ := z
        obtain ⟨q1, q2⟩ := dec_end hg.byte hz
        exact okW_yes hl hp q1 q2 rfl (by unfold stepA; rw [hz]; rfl) hi
  · have hge : ¬ (p : Int) < (len : Int) := by simpa [BE.den, IE.den, cmpI_lss] using hge
    obtain rfl : p = len := by omega
    left
    exact ⟨⟨n, c1, S, q, c2, A, V⟩, ⟨.inr rfl, ⟨P', K, hc, hPn, hS, hf⟩, i3, i2, i4, i5, i6, i7⟩, rfl, rfl, rfl, rfl, rfl, fun _ _ => rfl, rfl, fun _ _ => rfl, rfl, fun _ _ => rfl, fun _ _ => rfl, trivial⟩
theorem wkR_yes {g : Nat → Int} {len cap : Nat} (hg : BGood g len cap) (hl : len ≤ 1073741824) :
    sxFunc P WK (fun _ => annS WkSt (wkSlots rdR len cap) (wkHp g cap) (wkInv (stepR g len) len) (fun a => len - a.p)) Try.f30 [.int .i64 (.lit 1), sA 0 len cap] [rdRow g cap] (wkQ g cap (WalkO 1 g len) (WalkB 1 g len)) := by
  rw [wkR_nf]
  refine ⟨⟨⟨0, 0, fun _ => 0, 0, 0, fun _ => 0, fun _ => 0, 0⟩, ⟨Nat.zero_le _, Nat.le_refl _, Nat.le_refl _, Nat.le_refl _, Nat.le_refl _, by decide, by decide, fun _ => 0, fun _ => none, ⟨rfl, fun i hi => absurd hi (Nat.not_lt_zero i)⟩, rfl, fun i hi => absurd hi (Nat.not_lt_zero i), ⟨rfl, fun j hj => absurd hj (Nat.not_lt_zero j)⟩⟩, rfl, rfl, rfl, rfl, rfl, rfl, rfl, rfl, fun _ _ => rfl, rfl, rfl, trivial⟩, ?_, fun _ _ h => h⟩
  rintro _ ⟨n, c1, S, q, c2, A, V, p⟩ hi
  have hi' := hi
  obtain ⟨i1, i2, i3, i4, i5, i6, i7, P', K, hc, hPn, hS, hf⟩ := hi'
  dsimp only at i1 i2 i3 i4 i5 i6 i7 hc hPn hS hf ⊢
  have hroom := hg.room
  have bad : p < len → stepR g len p = none → WalkB 1 g len ⟨221, p⟩ := fun hp hs => ⟨.inr ⟨.inl rfl, rfl, n, P', K, hc, hPn, hp, hs⟩⟩
  refine ⟨fun hlt => ⟨fun _ => ⟨fun _ => ⟨fun h3 => ?_, fun h3 => ?_⟩, fun h2 => ?_⟩, fun h1 => ?_⟩, fun hge => ?_⟩
  · have hlt : (p : Int) < (len : Int) := by simpa [BE.den, IE.den, cmpI_lss] using hlt
    simp only [BE.den, IE.den, cmpI_leq] at h3
    rw [wrap_i64_in (by omega) (by omega)] at h3
    have h3' : ¬ p + 4 ≤ len := by simp at h3; omega
    right
    exact ⟨⟨221, p⟩, bad (by omega) (by unfold stepR; rw [if_neg h3']), rfl, rfl, rfl, fun _ _ => rfl, trivial⟩
  · have hlt : (p : Int) < (len : Int) := by simpa [BE.den, IE.den, cmpI_lss] using hlt
    simp only [BE.den, IE.den, cmpI_leq] at h3
    rw [wrap_i64_in (by omega) (by omega)] at h3
    have h3' : p + 4 ≤ len := by simp at h3; omega
    have a0 : addI (p : Int) 0 = ((p + 0 : Nat) : Int) := addI_eq (by omega) 0 (by omega)
    have a1 : addI (p : Int) 1 = ((p + 1 : Nat) : Int) := addI_eq (by omega) 1 (by omega)
    have a2 : addI (p : Int) 2 = ((p + 2 : Nat) : Int) := addI_eq (by omega) 2 (by omega)
    have a3 : addI (p : Int) 3 = ((p + 3 : Nat) : Int) := addI_eq (by omega) 3 (by omega)
    have a4 : addI (p : Int) 4 = ((p + 4 : Nat) : Int) := addI_eq (by omega) 4 (by omega)
    have hr := u4_range h3' hg.byte
    rw [wordI_eq hl h3' hg.byte, a0, a1, a2, a3, a4]
    refine ⟨ask_ix (by simp; omega) (by simp; omega), by simp; omega, ask_ix (by simp; omega) (by simp; omega), by simp; omega, ask_ix (by simp; omega) (by simp; omega), by simp; omega, ask_ix (by simp; omega) (by simp; omega), by simp; omega, by simp [Rv.inU32]; omega, fun hn => ?_, fun hn => ?_⟩
    · have hn : ¬ (Rv.rvDec (u4 g p)).err = 0 := by simpa [BE.den, IE.den, cmpI_eql] using hn
      right
      exact ⟨⟨221, p⟩, bad (by omega) (by unfold stepR; rw [if_pos h3', if_neg hn]), rfl, rfl, rfl, fun _ _ => rfl, trivial⟩
    · have hn : (Rv.rvDec (u4 g p)).err = 0 := by simpa [BE.den, IE.den, cmpI_eql] using hn
      exact okW_yes hl (by omega) (by omega) h3' rfl (by unfold stepR; rw [if_pos h3', if_pos hn]) hi
  · have hlt : (p : Int) < (len : Int) := by simpa [BE.den, IE.den, cmpI_lss] using hlt
    simp only [BE.den, IE.den, cmpI_leq, decide_eq_false_iff_not] at h2
    omega
  · simp only [BE.den, IE.den, cmpI_geq, decide_eq_false_iff_not] at h1
    omega
  · have hge : ¬ (p : Int) < (len : Int) := by simpa [BE.den, IE.den, cmpI_lss] using hge
    obtain rfl : p = len := by omega
    left
    exact ⟨⟨n, c1, S, q, c2, A, V⟩, ⟨.inl rfl, ⟨P', K, hc, hPn, hS, hf⟩, i3, i2, i4, i5, i6, i7⟩, rfl, rfl, rfl, rfl, rfl, fun _ _ => rfl, rfl, fun _ _ => rfl, rfl, fun _ _ => rfl, fun _ _ => rfl, trivial⟩
theorem ret_args (t : Int) (len cap : Nat) {k : Int} (h : t = k) : ∀ ν, SV.denL ν [.int .i64 (.lit k), sA 0 len cap] = SV.denL ν [.int .i64 (.var t), sA 0 len cap] := by subst h; exact fun ν => rfl

set_option maxRecDepth 100000 in
theorem walk_ok : SpecOk P 30 (rdSpec [.plain, .rows 1 zz1] wkPre wkOutsP) := by
  have hs := some_un fun un => func_sound (un := un) WK_ok Try.func30
  refine wk_spec (ret_ok hs) ?_
  intro t g len cap hg hl
  by_cases h2 : t = 2
  · refine ⟨[.int .i64 (.lit 2), sA 0 len cap], ret_args t len cap h2, fun h => ⟨trivial, h.2⟩, fun _ => annS WkSt (wkSlots rdA len cap) (wkHp g cap) (wkInv (stepA g len) len) (fun a => len - a.p), ?_⟩
    rw [h2]; exact wkA_yes hg hl
  by_cases h1 : t = 1
  · refine ⟨[.int .i64 (.lit 1), sA 0 len cap], ret_args t len cap h1, fun h => ⟨trivial, h.2⟩, fun _ => annS WkSt (wkSlots rdR len cap) (wkHp g cap) (wkInv (stepR g len) len) (fun a => len - a.p), ?_⟩
    rw [h1]; exact wkR_yes hg hl
  refine ⟨_, fun _ => rfl, fun h => h, fun _ => 40, ?_⟩
  rw [wkN_nf]
  refine ⟨?_, .inr ⟨⟨1, 0⟩, ⟨.inl ⟨h1, h2, rfl, rfl⟩⟩, rfl, rfl, rfl, fun _ _ => rfl, trivial⟩⟩
  simp [BE.den, IE.den, cmpI_eql, h1, h2]
end Go.Proofs.Ytajcmjjgnbaahaa.Amd
