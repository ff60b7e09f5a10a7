/- The walk through code: its contract. -/
import Derived.Test.YtajcmjjgnbaahaaGreatBr0
set_option linter.unusedVariables false
set_option linter.unusedSimpArgs false
namespace Go.Proofs.YtajcmjjgnbaahaaGreat.Amd
open Go Go.Proofs.YtajcmjjgnbaahaaGreat.Sx Go.RowKit
def optN (z : Int × Bool) : Option Int := if z.2 = true then some z.1 else none
def zD7 (g : Nat -> Int) (len p : Nat) : Option (Nat × Option Int) := match zr g len p with | some (y, e) => some (e, optN (numA y)) | none => none
def zED (g : Nat -> Int) (len p : Nat) : Option (Nat × Option Int) :=
 if p + 4 <= len then (if (Rv.rvDec (u4 g p)).err = 0 then some (p + 4, optN (numR (Rv.rvDec (u4 g p)).op (Rv.rvDec (u4 g p)).imm)) else none) else none
def zBy (t : Int) (g : Nat -> Int) (len : Nat) : Nat -> Option (Nat × Option Int) := if t = 2 then zD7 g len else zED g len
structure zCL (st : Nat -> Option (Nat × Option Int)) (len n : Nat) (P : Nat -> Nat) (K : Nat -> Option Int) : Prop where
 p0 : P 0 = 0
 step : ∀ i, i < n -> P i < len /\ st (P i) = some (P (i + 1), K i)
def oneN (p : Nat) : Option Int -> List (Int × Int)
 | some v => [((p : Int), v)]
 | none => []
def fnd (P : Nat -> Nat) (K : Nat -> Option Int) : Nat -> List (Int × Int)
 | 0 => []
 | n + 1 => fnd P K n ++ oneN (P n) (K n)
theorem zKu {P P' : Nat -> Nat} {K K' : Nat -> Option Int} : ∀ {n : Nat}, (∀ i, i < n -> P i = P' i /\ K i = K' i) -> fnd P K n = fnd P' K' n
 | 0, _ => rfl
 | n + 1, h => by
  rw [fnd, fnd, zKu fun i hi => h i (by omega), (h n (by omega)).1, (h n (by omega)).2]
structure zK5 (q : Nat) (A V : Nat -> Int) (l : List (Int × Int)) : Prop where
 len : q = l.length
 cell : ∀ j, j < q -> A j = (l.getD j (0, 0)).1 /\ V j = (l.getD j (0, 0)).2
structure zNK (t : Int) (g : Nat -> Int) (len : Nat) (r : WkR) : Prop where
 tt : t = 1 ∨ t = 2
 all : ∃ (P : Nat -> Nat) (K : Nat -> Option Int), zCL (zBy t g len) len r.n P K /\ P r.n = len /\ (∀ i, i < r.n -> r.S i = P i) /\ zK5 r.q r.A r.V (fnd P K r.n)
 le : r.q <= r.n
 nl : r.n <= len
 h1 : r.n <= r.c1
 h2 : r.q <= r.c2
 k1 : r.c1 <= 9223372036854775807
 k2 : r.c2 <= 9223372036854775807
structure zB6 (t : Int) (g : Nat -> Int) (len : Nat) (b : WkE) : Prop where
 all : (t ≠ 1 /\ t ≠ 2 /\ b.e = 1 /\ b.p = 0) ∨ ((t = 1 ∨ t = 2) /\ b.e = 221 /\ ∃ (k : Nat) (P : Nat -> Nat) (K : Nat -> Option Int), zCL (zBy t g len) len k P K /\ P k = b.p /\ b.p < len /\ zBy t g len b.p = none)
def zMT (st : Nat -> Option (Nat × Option Int)) (len : Nat) (a : WkSt) : Prop :=
 a.p <= len /\ a.n <= a.p /\ a.q <= a.n /\ a.n <= a.c1 /\ a.q <= a.c2 /\ a.c1 <= 9223372036854775807 /\ a.c2 <= 9223372036854775807 /\
  ∃ (P : Nat -> Nat) (K : Nat -> Option Int), zCL st len a.n P K /\ P a.n = a.p /\ (∀ i, i < a.n -> a.S i = P i) /\ zK5 a.q a.A a.V (fnd P K a.n)
def newT (j n : Nat) (S : Nat -> Int) (p : Int) (U : Unk) (e : Nat) : Int := if e < n then S e else if e = n then p else U.i j e
theorem zA3 {j n e : Nat} {S : Nat -> Int} {p : Int} {U : Unk} (h : e < n) : newT j n S p U e = S e := if_pos h
theorem zA4 {j n e : Nat} {S : Nat -> Int} {p : Int} {U : Unk} (h : e = n) : newT j n S p U e = p := by subst h; simp [newT]
theorem zDq {j n e : Nat} {S : Nat -> Int} {p : Int} {U : Unk} (h : n < e) : newT j n S p U e = U.i j e := by
 unfold newT; rw [if_neg (by omega), if_neg (by omega)]
theorem zPZ {q : Nat} {A V : Nat -> Int} {l : List (Int × Int)} (h : zK5 q A V l) (p v : Int) (U : Unk) : zK5 (q + 1) (newT 0 q A p U) (newT 1 q V v U) (l ++ [(p, v)]) := by
 refine ⟨by simp [h.len], fun j hj => ?_⟩
 rw [List.getD_eq_getElem?_getD]
 by_cases hq : j < q
 ·rw [zA3 hq, zA3 hq, List.getElem?_append_left (by rw [<- h.len]; exact hq)]
  have := h.cell j hq
  rw [List.getD_eq_getElem?_getD] at this
  exact this
 ·obtain rfl : j = q := by omega
  rw [zA4 rfl, zA4 rfl, List.getElem?_append_right (by rw [h.len]; exact Nat.le_refl _)]
  have : j - l.length = 0 := by have := h.len; omega
  rw [this]
  exact ⟨rfl, rfl⟩
theorem zOI {st : Nat -> Option (Nat × Option Int)} {len n q p e : Nat} {S A V : Nat -> Int} {num : Option Int} (hn : n <= p) (hq : q <= n) (hp : p < len) (hpe : p < e) (hel : e <= len) (hst : st p = some (e, num)) {P : Nat -> Nat} {K : Nat -> Option Int}
  (hc : zCL st len n P K) (hPn : P n = p) (hS : ∀ i, i < n -> S i = P i) (hf : zK5 q A V (fnd P K n)) {c1' c2' q' : Nat} {S' A' V' : Nat -> Int} (h1 : n + 1 <= c1') (h2 : q' <= c2') (h1' : c1' <= 9223372036854775807) (h2' : c2' <= 9223372036854775807) (hq' : q' <= q + 1)
  (hS' : ∀ i, i < n -> S' i = S i) (hSn : S' n = p) (hf' : zK5 q' A' V' (fnd P K n ++ oneN p num)) : zMT st len ⟨n + 1, c1', S', q', c2', A', V', e⟩ := by
 refine ⟨hel, by dsimp only; omega, by dsimp only; omega, h1, h2, h1', h2', fun i => if i <= n then P i else e, fun i => if i < n then K i else num, ⟨?_, fun i hi => ?_⟩, ?_, fun i hi => ?_, ?_⟩
 ·show (if 0 <= n then P 0 else e) = 0
  rw [if_pos (Nat.zero_le _)]; exact hc.p0
 ·have hi : i < n + 1 := hi
  show (if i <= n then P i else e) < len /\ st (if i <= n then P i else e) = some (if i + 1 <= n then P (i + 1) else e, if i < n then K i else num)
  rw [if_pos (by omega)]
  by_cases hin : i < n
  ·rw [if_pos (by omega), if_pos hin]; exact hc.step i hin
  ·obtain rfl : i = n := by omega
   rw [if_neg (by omega), if_neg (by omega), hPn]; exact ⟨hp, hst⟩
 ·show (if n + 1 <= n then P (n + 1) else e) = e
  rw [if_neg (by omega)]
 ·have hi : i < n + 1 := hi
  show S' i = ((if i <= n then P i else e : Nat) : Int)
  rw [if_pos (by omega)]
  by_cases hin : i < n
  ·rw [hS' i hin]; exact hS i hin
  ·obtain rfl : i = n := by omega
   rw [hSn, hPn]
 ·show zK5 q' A' V' (fnd (fun i => if i <= n then P i else e) (fun i => if i < n then K i else num) (n + 1))
  have e1 : fnd (fun i => if i <= n then P i else e) (fun i => if i < n then K i else num) (n + 1) = fnd P K n ++ oneN p num := by
   rw [fnd, zKu (P' := P) (K' := K) fun i hi => ⟨by rw [if_pos (by omega)], by rw [if_pos hi]⟩]
   simp only [Nat.le_refl, if_true, Nat.lt_irrefl, if_false, hPn]
  rw [e1]; exact hf'
set_option maxRecDepth 100000 in
theorem zQr {st : Nat -> Option (Nat × Option Int)} {len cap n c1 q c2 p e : Nat} {g S A V : Nat -> Int} {num : Int × Bool} {nx : Int} (hl : len <= 1073741824) (hpl : p < len) (hpe : p < e) (hel : e <= len) (hnx : nx = (e : Int)) (hst : st p = some (e, optN num))
  (hi : zMT st len ⟨n, c1, S, q, c2, A, V, p⟩) : okW len cap g (zMT st len) (fun a => len - a.p) ⟨n, c1, S, q, c2, A, V, p⟩ num nx := by
 obtain ⟨i1, i2, i3, i4, i5, i6, i7, P, K, hc, hPn, hS, hf⟩ := hi
 dsimp only at i1 i2 i3 i4 i5 i6 i7 hc hPn hS hf
 unfold okW
 dsimp only
 refine ⟨decide_eq_true (by omega), decide_eq_true (Nat.le_refl _), decide_eq_true i6, ?_, fun U cap1 h1 h1' => ⟨fun hb => ?_, fun hb => ?_⟩⟩
 ·show (n + (0 + 1)) * 8 <= 140737488355328
  omega
 ·have h1 : n + (0 + 1) <= cap1 := h1
  refine ⟨decide_eq_true (by omega), decide_eq_true (Nat.le_refl _), decide_eq_true i7, ?_, fun U1 cap2 h2 h2' => ?_⟩
  ·show (q + (0 + 1)) * 16 <= 140737488355328
   omega
  have h2 : q + (0 + 1) <= cap2 := h2
  have hnum : optN num = some num.1 := by unfold optN; rw [if_pos hb]
  refine ⟨⟨n + 1, cap1, newT 0 n S p U, q + 1, cap2, newT 0 q A p U1, newT 1 q V num.1 U1, e⟩, ?_, ?_, rfl, rfl, rfl, rfl, rfl, rfl, hnx, rfl, fun _ _ => rfl, rfl, ?_, rfl, ?_, ?_, trivial⟩
  ·refine zOI i2 i3 hpl hpe hel hst hc hPn hS hf h1 h2 h1' h2' (Nat.le_refl _) (fun i hi => zA3 hi) (zA4 rfl) ?_
   rw [hnum]; exact zPZ hf p num.1 U1
  ·show len - e < len - p
   omega
  ·exact fun i _ => zAw (x := newT 0 n S p U i) (fun h => by rw [zA3 h]; rfl) (fun h => by rw [zA4 h]; subst h; rw [Nat.sub_self]; rfl) (fun h => by rw [zDq h]; rfl)
  ·exact fun i _ => zAw (x := newT 0 q A p U1 i) (fun h => by rw [zA3 h]; rfl) (fun h => by rw [zA4 h]; subst h; rw [Nat.sub_self]; rfl) (fun h => by rw [zDq h]; rfl)
  ·exact fun i _ => zAw (x := newT 1 q V num.1 U1 i) (fun h => by rw [zA3 h]; rfl) (fun h => by rw [zA4 h]; subst h; rw [Nat.sub_self]; rfl) (fun h => by rw [zDq h]; rfl)
 ·have h1 : n + (0 + 1) <= cap1 := h1
  have hnum : optN num = none := by unfold optN; rw [if_neg (by rw [hb]; simp)]
  refine ⟨⟨n + 1, cap1, newT 0 n S p U, q, c2, A, V, e⟩, ?_, ?_, rfl, rfl, rfl, rfl, rfl, rfl, hnx, rfl, fun _ _ => rfl, rfl, ?_, rfl, fun _ _ => rfl, fun _ _ => rfl, trivial⟩
  ·refine zOI i2 i3 hpl hpe hel hst hc hPn hS hf h1 i5 h1' i7 (by omega) (fun i hi => zA3 hi) (zA4 rfl) ?_
   rw [hnum]
   show zK5 q A V (fnd P K n ++ [])
   rw [List.append_nil]; exact hf
  ·show len - e < len - p
   omega
  ·exact fun i _ => zAw (x := newT 0 n S p U i) (fun h => by rw [zA3 h]; rfl) (fun h => by rw [zA4 h]; subst h; rw [Nat.sub_self]; rfl) (fun h => by rw [zDq h]; rfl)
theorem zBR {p : Nat} (h : p <= 1073741824) (k : Nat) (hk : k <= 8) : addI (p : Int) (k : Int) = ((p + k : Nat) : Int) := by
 unfold addI; simp only [IE.den]
 rw [zE (by omega) (by omega)]; omega
theorem zSn {b : Int} (s : Nat) (hs : s <= 24) (h0 : 0 <= b) (h1 : b < 256) : shlI .u64 (IntKind.u64.wrap b) s = b * 2 ^ s := by
 have hle : (2 : Int) ^ s <= 2 ^ 24 := Rv.ipow_le hs
 have hp : (0 : Int) < 2 ^ s := Int.pow_pos (by decide)
 have h2 : b * 2 ^ s <= 255 * 2 ^ 24 := Int.mul_le_mul (by omega) hle (Int.le_of_lt hp) (by decide)
 have h3 : 0 <= b * 2 ^ s := Int.mul_nonneg h0 (Int.le_of_lt hp)
 rw [zAE h0 (by omega), zCN .u64 b s (by simp [IntKind.bits]; omega)]
 exact zAE h3 (by omega)
theorem zRG {b0 b1 b2 b3 : Int} (h0 : 0 <= b0 /\ b0 < 256) (h1 : 0 <= b1 /\ b1 < 256) (h2 : 0 <= b2 /\ b2 < 256) (h3 : 0 <= b3 /\ b3 < 256) :
  IE.den (.conv .u32 (.bits .or .u64 (.bits .or .u64 (.bits .or .u64 (.bits .or .u64 (.lit 0) (.shl .u64 (.conv .u64 (.var b0)) (.lit 0))) (.shl .u64 (.conv .u64 (.var b1)) (.lit 8))) (.shl .u64 (.conv .u64 (.var b2)) (.lit 16))) (.shl .u64 (.conv .u64 (.var b3)) (.lit 24)))) = b0 + b1 * 256 + b2 * 65536 + b3 * 16777216 := by
 have s0 := Sub.shift b0 8 0 h0.1 (by simpa using h0.2)
 have s1 := Sub.shift b1 8 8 h1.1 (by simpa using h1.2)
 have s2 := Sub.shift b2 8 16 h2.1 (by simpa using h2.2)
 have s3 := Sub.shift b3 8 24 h3.1 (by simpa using h3.2)
 have o0 := Rv.or64 (Sub.zero 0) s0 (by decide) (by decide) (by decide)
 have o1 := Rv.or64 o0.2 s1 (by decide) (by decide) (by decide)
 have o2 := Rv.or64 o1.2 s2 (by decide) (by decide) (by decide)
 have o3 := Rv.or64 o2.2 s3 (by decide) (by decide) (by decide)
 simp only [IE.den]
 have e0 : shlI .u64 (IntKind.u64.wrap b0) 0 = b0 * 2 ^ 0 := zSn 0 (by decide) h0.1 h0.2
 have e1 : shlI .u64 (IntKind.u64.wrap b1) 8 = b1 * 2 ^ 8 := zSn 8 (by decide) h1.1 h1.2
 have e2 : shlI .u64 (IntKind.u64.wrap b2) 16 = b2 * 2 ^ 16 := zSn 16 (by decide) h2.1 h2.2
 have e3 : shlI .u64 (IntKind.u64.wrap b3) 24 = b3 * 2 ^ 24 := zSn 24 (by decide) h3.1 h3.2
 rw [e0, e1, e2, e3, o0.1, o1.1, o2.1, o3.1, zEa]
 simp
 omega
theorem zSV {g : Nat -> Int} {p len : Nat} (hl : len <= 1073741824) (hp : p + 4 <= len) (hb : ∀ i, i < len -> 0 <= g i /\ g i < 256) : zMR g (p : Int) = u4 g p := by
 have a0 : addI (p : Int) 0 = ((p + 0 : Nat) : Int) := zBR (by omega) 0 (by omega)
 have a1 : addI (p : Int) 1 = ((p + 1 : Nat) : Int) := zBR (by omega) 1 (by omega)
 have a2 : addI (p : Int) 2 = ((p + 2 : Nat) : Int) := zBR (by omega) 2 (by omega)
 have a3 : addI (p : Int) 3 = ((p + 3 : Nat) : Int) := zBR (by omega) 3 (by omega)
 unfold zMR u4
 rw [a0, a1, a2, a3]
 simp only [Int.toNat_natCast, Nat.zero_add, Nat.add_zero]
 exact zRG (hb p (by omega)) (hb (p + 1) (by omega)) (hb (p + 2) (by omega)) (hb (p + 3) (by omega))
theorem zNW {g : Nat -> Int} {p len : Nat} (hp : p + 4 <= len) (hb : ∀ i, i < len -> 0 <= g i /\ g i < 256) : 0 <= u4 g p /\ u4 g p < 4294967296 := by
 have b0 := hb p (by omega)
 have b1 := hb (p + 1) (by omega)
 have b2 := hb (p + 2) (by omega)
 have b3 := hb (p + 3) (by omega)
 unfold u4; omega
def zEu : Ins -> List SV -> Prop := fun ins pl => match ins, pl with
 | [(cs, len, cap)], [.int .i64 _] => (∃ g : Nat -> Int, cs = [.int .u8 fun e => .var (g e)]) /\ BGood (colG cs) len cap /\ Nat.le len 1073741824
 | _, _ => False
def zHc : Ins -> List SV -> List Out := fun ins pl => match ins, pl with
 | [(cs, len, _)], [.int .i64 t] => zNP (zNK t.den (colG cs) len) (zB6 t.den (colG cs) len)
 | _, _ => []
theorem zHK {ins : Ins} {pl : List SV} (h : zEu ins pl) : ∃ (g : Nat -> Int) (len cap : Nat) (t : IE), ins = [([.int .u8 fun e => .var (g e)], len, cap)] /\ pl = [.int .i64 t] /\ BGood g len cap /\ len <= 1073741824 := by
 unfold zEu at h
 split at h
 ·obtain ⟨⟨g, rfl⟩, h2, h3⟩ := h
  exact ⟨g, _, _, _, rfl, rfl, h2, h3⟩
 ·exact h.elim
theorem zMS (O : WkR -> Prop) (B : WkE -> Prop) : ∀ o ∈ zNP O B, o.good := by
 intro o ho
 unfold zNP at ho
 simp only [List.mem_cons, List.not_mem_nil, or_false] at ho
 rcases ho with rfl | rfl
 ·intro c
  refine ⟨⟨fun n m ν ν' h => ?_, fun n p h => ?_⟩, rfl, trivial⟩
  ·have h0 := h 0 (by simp)
   have h1 := h 1 (by simp)
   simp only [Nat.add_zero] at h0
   simp [SV.den, SV.denL, h0, h1]
  ·exact ⟨h 0 (by simp), h 1 (by simp), trivial, trivial, trivial⟩
 ·intro c
  exact ⟨⟨fun n m ν ν' h => rfl, fun n p h => ⟨trivial, trivial, trivial, trivial, trivial⟩⟩, rfl, trivial⟩
theorem zUv {f : FuncId} {s : zl} (hs : zZ P f s)
  (h : ∀ (t : Int) (g : Nat -> Int) (len cap : Nat), BGood g len cap -> len <= 1073741824 -> s [.int .i64 (.var t), sA 0 len cap] [rdRow g cap] (wkQ g cap (zNK t g len) (zB6 t g len))) :
  zZ P f (zAK [.plain, .rows 1 zz1] zEu zHc) := by
 refine zH5 hs (fun sz zs h => by simp at h; obtain ⟨rfl, rfl⟩ := h; rfl) ?_ ?_
 ·intro ins pl o ho
  unfold zHc at ho
  split at ho
  ·exact zMS _ _ o ho
  ·simp at ho
 ·intro ins pl u hi hw hp
  obtain ⟨g, len, cap, t, rfl, rfl, h1, h2⟩ := zHK hp
  exact h t.den g len cap h1 h2
theorem zUx {g : Nat -> Int} {len cap : Nat} (hg : BGood g len cap) (hl : len <= 1073741824) :
  zH P WK (fun _ => annS WkSt (zGF rdA len cap) (wkHp g cap) (zMT (zD7 g len) len) (fun a => len - a.p)) Tryz.f11 [.int .i64 (.lit 2), sA 0 len cap] [rdRow g cap] (wkQ g cap (zNK 2 g len) (zB6 2 g len)) := by
 rw [zXL]
 refine ⟨⟨⟨0, 0, fun _ => 0, 0, 0, fun _ => 0, fun _ => 0, 0⟩, ⟨Nat.zero_le _, Nat.le_refl _, Nat.le_refl _, Nat.le_refl _, Nat.le_refl _, by decide, by decide, fun _ => 0, fun _ => none, ⟨rfl, fun i hi => absurd hi (Nat.not_lt_zero i)⟩, rfl, fun i hi => absurd hi (Nat.not_lt_zero i), ⟨rfl, fun j hj => absurd hj (Nat.not_lt_zero j)⟩⟩, rfl, rfl, rfl, rfl, rfl, rfl, rfl, rfl, fun _ _ => rfl, rfl, rfl, trivial⟩, ?_, fun _ _ h => h⟩
 rintro _ ⟨n, c1, S, q, c2, A, V, p⟩ hi
 have hi' := hi
 obtain ⟨i1, i2, i3, i4, i5, i6, i7, P', K, hc, hPn, hS, hf⟩ := hi'
 dsimp only at i1 i2 i3 i4 i5 i6 i7 hc hPn hS hf ⊢
 refine ⟨fun hlt => ?_, fun hge => ?_⟩
 ·have hlt : (p : Int) < (len : Int) := by simpa [BE.den, IE.den, zQ] using hlt
  have hp : p < len := by omega
  refine ⟨ask2 hg.room, fun cs' hcs => ?_⟩
  have hcG : colG cs' = g := by rw [hcs]; rfl
  have hd : zi g len (p : Int) = zIj (zr g len p) := by unfold zi; rw [if_neg (by omega)]; simp
  rw [hcG, hd]
  refine ⟨⟨by rw [hcs]; exact ⟨g, rfl⟩, hg⟩, fun hn => ?_, fun hn => ?_⟩
  ·cases hz : zr g len p with
   | some z => rw [hz] at hn; simp [zIj, BE.den, IE.den, za] at hn
   | none =>
    right
    exact ⟨⟨221, p⟩, ⟨.inr ⟨.inr rfl, rfl, n, P', K, hc, hPn, hp, by show zD7 g len p = none; unfold zD7; rw [hz]⟩⟩, rfl, rfl, rfl, fun _ _ => rfl, trivial⟩
  ·cases hz : zr g len p with
   | none => rw [hz] at hn; simp [zIj, BE.den, IE.den, za] at hn
   | some z =>
    obtain ⟨y, e⟩ := z
    obtain ⟨q1, q2⟩ := zNF hg.byte hz
    exact zQr hl hp q1 q2 rfl (by unfold zD7; rw [hz]; rfl) hi
 ·have hge : ¬ (p : Int) < (len : Int) := by simpa [BE.den, IE.den, zQ] using hge
  obtain rfl : p = len := by omega
  left
  exact ⟨⟨n, c1, S, q, c2, A, V⟩, ⟨.inr rfl, ⟨P', K, hc, hPn, hS, hf⟩, i3, i2, i4, i5, i6, i7⟩, rfl, rfl, rfl, rfl, rfl, fun _ _ => rfl, rfl, fun _ _ => rfl, rfl, fun _ _ => rfl, fun _ _ => rfl, trivial⟩
theorem zUw {g : Nat -> Int} {len cap : Nat} (hg : BGood g len cap) (hl : len <= 1073741824) :
  zH P WK (fun _ => annS WkSt (zGF rdR len cap) (wkHp g cap) (zMT (zED g len) len) (fun a => len - a.p)) Tryz.f11 [.int .i64 (.lit 1), sA 0 len cap] [rdRow g cap] (wkQ g cap (zNK 1 g len) (zB6 1 g len)) := by
 rw [zXJ]
 refine ⟨⟨⟨0, 0, fun _ => 0, 0, 0, fun _ => 0, fun _ => 0, 0⟩, ⟨Nat.zero_le _, Nat.le_refl _, Nat.le_refl _, Nat.le_refl _, Nat.le_refl _, by decide, by decide, fun _ => 0, fun _ => none, ⟨rfl, fun i hi => absurd hi (Nat.not_lt_zero i)⟩, rfl, fun i hi => absurd hi (Nat.not_lt_zero i), ⟨rfl, fun j hj => absurd hj (Nat.not_lt_zero j)⟩⟩, rfl, rfl, rfl, rfl, rfl, rfl, rfl, rfl, fun _ _ => rfl, rfl, rfl, trivial⟩, ?_, fun _ _ h => h⟩
 rintro _ ⟨n, c1, S, q, c2, A, V, p⟩ hi
 have hi' := hi
 obtain ⟨i1, i2, i3, i4, i5, i6, i7, P', K, hc, hPn, hS, hf⟩ := hi'
 dsimp only at i1 i2 i3 i4 i5 i6 i7 hc hPn hS hf ⊢
 have hroom := hg.room
 have bad : p < len -> zED g len p = none -> zB6 1 g len ⟨221, p⟩ := fun hp hs => ⟨.inr ⟨.inl rfl, rfl, n, P', K, hc, hPn, hp, hs⟩⟩
 refine ⟨fun hlt => ⟨fun _ => ⟨fun _ => ⟨fun h3 => ?_, fun h3 => ?_⟩, fun h2 => ?_⟩, fun h1 => ?_⟩, fun hge => ?_⟩
 ·have hlt : (p : Int) < (len : Int) := by simpa [BE.den, IE.den, zQ] using hlt
  simp only [BE.den, IE.den, zAo] at h3
  rw [zE (by omega) (by omega)] at h3
  have h3' : ¬ p + 4 <= len := by simp at h3; omega
  right
  exact ⟨⟨221, p⟩, bad (by omega) (by unfold zED; rw [if_neg h3']), rfl, rfl, rfl, fun _ _ => rfl, trivial⟩
 ·have hlt : (p : Int) < (len : Int) := by simpa [BE.den, IE.den, zQ] using hlt
  simp only [BE.den, IE.den, zAo] at h3
  rw [zE (by omega) (by omega)] at h3
  have h3' : p + 4 <= len := by simp at h3; omega
  have a0 : addI (p : Int) 0 = ((p + 0 : Nat) : Int) := zBR (by omega) 0 (by omega)
  have a1 : addI (p : Int) 1 = ((p + 1 : Nat) : Int) := zBR (by omega) 1 (by omega)
  have a2 : addI (p : Int) 2 = ((p + 2 : Nat) : Int) := zBR (by omega) 2 (by omega)
  have a3 : addI (p : Int) 3 = ((p + 3 : Nat) : Int) := zBR (by omega) 3 (by omega)
  have a4 : addI (p : Int) 4 = ((p + 4 : Nat) : Int) := zBR (by omega) 4 (by omega)
  have hr := zNW h3' hg.byte
  rw [zSV hl h3' hg.byte, a0, a1, a2, a3, a4]
  refine ⟨zAl (by simp; omega) (by simp; omega), by simp; omega, zAl (by simp; omega) (by simp; omega), by simp; omega, zAl (by simp; omega) (by simp; omega), by simp; omega, zAl (by simp; omega) (by simp; omega), by simp; omega, by simp [Rv.inU32]; omega, fun hn => ?_, fun hn => ?_⟩
  ·have hn : ¬ (Rv.rvDec (u4 g p)).err = 0 := by simpa [BE.den, IE.den, za] using hn
   right
   exact ⟨⟨221, p⟩, bad (by omega) (by unfold zED; rw [if_pos h3', if_neg hn]), rfl, rfl, rfl, fun _ _ => rfl, trivial⟩
  ·have hn : (Rv.rvDec (u4 g p)).err = 0 := by simpa [BE.den, IE.den, za] using hn
   exact zQr hl (by omega) (by omega) h3' rfl (by unfold zED; rw [if_pos h3', if_pos hn]) hi
 ·have hlt : (p : Int) < (len : Int) := by simpa [BE.den, IE.den, zQ] using hlt
  simp only [BE.den, IE.den, zAo, decide_eq_false_iff_not] at h2
  omega
 ·simp only [BE.den, IE.den, zAG, decide_eq_false_iff_not] at h1
  omega
 ·have hge : ¬ (p : Int) < (len : Int) := by simpa [BE.den, IE.den, zQ] using hge
  obtain rfl : p = len := by omega
  left
  exact ⟨⟨n, c1, S, q, c2, A, V⟩, ⟨.inl rfl, ⟨P', K, hc, hPn, hS, hf⟩, i3, i2, i4, i5, i6, i7⟩, rfl, rfl, rfl, rfl, rfl, fun _ _ => rfl, rfl, fun _ _ => rfl, rfl, fun _ _ => rfl, fun _ _ => rfl, trivial⟩
theorem zNq (t : Int) (len cap : Nat) {k : Int} (h : t = k) : ∀ ν, SV.denL ν [.int .i64 (.lit k), sA 0 len cap] = SV.denL ν [.int .i64 (.var t), sA 0 len cap] := by subst h; exact fun ν => rfl
set_option maxRecDepth 100000 in
theorem zU0 : zZ P 11 (zAK [.plain, .rows 1 zz1] zEu zHc) := by
 have hs := zDi fun un => zN (un := un) zbX Tryz.func11
 refine zUv (zLU hs) ?_
 intro t g len cap hg hl
 by_cases h2 : t = 2
 ·refine ⟨[.int .i64 (.lit 2), sA 0 len cap], zNq t len cap h2, fun h => ⟨trivial, h.2⟩, fun _ => annS WkSt (zGF rdA len cap) (wkHp g cap) (zMT (zD7 g len) len) (fun a => len - a.p), ?_⟩
  rw [h2]; exact zUx hg hl
 by_cases h1 : t = 1
 ·refine ⟨[.int .i64 (.lit 1), sA 0 len cap], zNq t len cap h1, fun h => ⟨trivial, h.2⟩, fun _ => annS WkSt (zGF rdR len cap) (wkHp g cap) (zMT (zED g len) len) (fun a => len - a.p), ?_⟩
  rw [h1]; exact zUw hg hl
 refine ⟨_, fun _ => rfl, fun h => h, fun _ => 40, ?_⟩
 rw [zXK]
 refine ⟨?_, .inr ⟨⟨1, 0⟩, ⟨.inl ⟨h1, h2, rfl, rfl⟩⟩, rfl, rfl, rfl, fun _ _ => rfl, trivial⟩⟩
 simp [BE.den, IE.den, za, h1, h2]
end Go.Proofs.YtajcmjjgnbaahaaGreat.Amd
