/- The document's numbers, places and search, as they are told. -/
import Derived.Test.YtajcmjjgnbaahaaGreatTq1
import Derived.Test.YtajcmjjgnbaahaaGreatRg12
import Derived.Test.YtajcmjjgnbaahaaGreatSn6
set_option linter.unusedVariables false
set_option linter.unusedSimpArgs false
namespace Go.Proofs.YtajcmjjgnbaahaaGreat.Amd
open Go Go.Proofs.YtajcmjjgnbaahaaGreat.Sx Go.RowKit
theorem zXg : zO P (zx rqT) := zG Rv.frdec_ok (zG (zAn zPE) fun g s h => by simp [zx] at h)
theorem zbZ : zO P RQ := zAh zXg 6
def hasN (h : Bool) (v : Int) : Option Int := if h = true then some v else none
structure RqO (t : Int) (g : Nat -> Int) (len : Nat) (r : RqR) : Prop where
 tt : t = 1 ∨ t = 2
 all : ∃ (P : Nat -> Nat) (K : Nat -> Option Int), zCL (zBy t g len) len r.n P K /\ P r.n = len /\ ∀ i, i < r.n -> r.A i = P i /\ K i = hasN (r.H i) (r.V i)
 nl : r.n <= len
 h1 : r.n <= r.c
 k1 : r.c <= 9223372036854775807
def zO7 (st : Nat -> Option (Nat × Option Int)) (len : Nat) (a : RqSt) : Prop :=
 a.p <= len /\ a.n <= a.p /\ a.n <= a.c /\ a.c <= 9223372036854775807 /\
  ∃ (P : Nat -> Nat) (K : Nat -> Option Int), zCL st len a.n P K /\ P a.n = a.p /\ ∀ i, i < a.n -> a.A i = P i /\ K i = hasN (a.H i) (a.V i)
def newH (n : Nat) (H : Nat -> Bool) (h : Bool) (U : Unk) (e : Nat) : Bool := if e < n then H e else if e = n then h else U.b 2 e
theorem zQ5 {n e : Nat} {H : Nat -> Bool} {h : Bool} {U : Unk} (hl : e < n) : newH n H h U e = H e := if_pos hl
theorem zQ6 {n e : Nat} {H : Nat -> Bool} {h : Bool} {U : Unk} (hl : e = n) : newH n H h U e = h := by subst hl; simp [newH]
theorem zV1 {n e : Nat} {H : Nat -> Bool} {h : Bool} {U : Unk} (hl : n < e) : newH n H h U e = U.b 2 e := by
 unfold newH; rw [if_neg (by omega), if_neg (by omega)]
set_option maxRecDepth 100000 in
theorem zMx {st : Nat -> Option (Nat × Option Int)} {len cap n c p e : Nat} {g A V : Nat -> Int} {H : Nat -> Bool} {v : IE} {b : BE} {nx : Int} (hl : len <= 1073741824) (hpl : p < len) (hpe : p < e) (hel : e <= len) (hnx : nx = (e : Int)) (hst : st p = some (e, hasN b.den v.den))
  (hi : zO7 st len ⟨n, c, A, V, H, p⟩) : okQ len cap g (zO7 st len) (fun a => len - a.p) ⟨n, c, A, V, H, p⟩ v b nx := by
 obtain ⟨i1, i2, i3, i4, P, K, hc, hPn, hS⟩ := hi
 dsimp only at i1 i2 i3 i4 hc hPn hS
 unfold okQ
 dsimp only
 refine ⟨decide_eq_true (by omega), decide_eq_true (Nat.le_refl _), decide_eq_true i4, ?_, fun U cap1 h1 h1' => ?_⟩
 ·show (n + (0 + 1)) * 24 <= 140737488355328
  omega
 have h1 : n + (0 + 1) <= cap1 := h1
 refine ⟨⟨n + 1, cap1, newT 0 n A p U, newT 1 n V v.den U, newH n H b.den U, e⟩, ⟨hel, by dsimp only; omega, h1, h1', fun i => if i <= n then P i else e, fun i => if i < n then K i else hasN b.den v.den, ⟨?_, fun i hi => ?_⟩, ?_, fun i hi => ?_⟩, ?_, rfl, rfl, rfl, rfl, hnx, rfl, fun _ _ => rfl, rfl, ?_, ?_, ?_, trivial⟩
 ·show (if 0 <= n then P 0 else e) = 0
  rw [if_pos (Nat.zero_le _)]; exact hc.p0
 ·have hi : i < n + 1 := hi
  show (if i <= n then P i else e) < len /\ st (if i <= n then P i else e) = some (if i + 1 <= n then P (i + 1) else e, if i < n then K i else hasN b.den v.den)
  rw [if_pos (by omega)]
  by_cases hin : i < n
  ·rw [if_pos (by omega), if_pos hin]; exact hc.step i hin
  ·obtain rfl : i = n := by omega
   rw [if_neg (by omega), if_neg (by omega), hPn]; exact ⟨hpl, hst⟩
 ·show (if n + 1 <= n then P (n + 1) else e) = e
  rw [if_neg (by omega)]
 ·have hi : i < n + 1 := hi
  show newT 0 n A p U i = ((if i <= n then P i else e : Nat) : Int) /\ (if i < n then K i else hasN b.den v.den) = hasN (newH n H b.den U i) (newT 1 n V v.den U i)
  rw [if_pos (by omega)]
  by_cases hin : i < n
  ·rw [if_pos hin, zA3 hin, zA3 hin, zQ5 hin]; exact hS i hin
  ·obtain rfl : i = n := by omega
   rw [if_neg (by omega), zA4 rfl, zA4 rfl, zQ6 rfl, hPn]; exact ⟨rfl, rfl⟩
 ·show len - e < len - p
  omega
 ·exact fun i _ => zAw (x := newT 0 n A p U i) (fun h => by rw [zA3 h]; rfl) (fun h => by rw [zA4 h]; subst h; rw [Nat.sub_self]; rfl) (fun h => by rw [zDq h]; rfl)
 ·exact fun i _ => zAw (x := newT 1 n V v.den U i) (fun h => by rw [zA3 h]; rfl) (fun h => by rw [zA4 h]; subst h; rw [Nat.sub_self]; rfl) (fun h => by rw [zDq h]; rfl)
 ·exact fun i _ => zK2 (x := newH n H b.den U i) (fun h => by rw [zQ5 h]; rfl) (fun h => by rw [zQ6 h]; subst h; rw [Nat.sub_self]; rfl) (fun h => by rw [zV1 h]; rfl)
theorem shlQ {b : Int} (s : Nat) (hs : s <= 24) (h0 : 0 <= b) (h1 : b < 256) : shlI .u32 (IntKind.u32.wrap b) s = b * 2 ^ s := by
 have hle : (2 : Int) ^ s <= 2 ^ 24 := Rv.ipow_le hs
 have hp : (0 : Int) < 2 ^ s := Int.pow_pos (by decide)
 have h2 : b * 2 ^ s <= 255 * 2 ^ 24 := Int.mul_le_mul (by omega) hle (Int.le_of_lt hp) (by decide)
 have h3 : 0 <= b * 2 ^ s := Int.mul_nonneg h0 (Int.le_of_lt hp)
 unfold shlI
 rw [z8 h0 (by omega)]
 have : min (s : Int).toNat IntKind.u32.bits = s := by simp [IntKind.bits]; omega
 rw [this, z8 h3 (by omega)]
theorem zSU {g : Nat -> Int} {p len : Nat} (hl : len <= 1073741824) (hp : p + 4 <= len) (hb : ∀ i, i < len -> 0 <= g i /\ g i < 256) : zIw g (p : Int) = u4 g p := by
 have a1 : addI (p : Int) 1 = ((p + 1 : Nat) : Int) := zBR (by omega) 1 (by omega)
 have a2 : addI (p : Int) 2 = ((p + 2 : Nat) : Int) := zBR (by omega) 2 (by omega)
 have a3 : addI (p : Int) 3 = ((p + 3 : Nat) : Int) := zBR (by omega) 3 (by omega)
 have b0 := hb p (by omega)
 have b1 := hb (p + 1) (by omega)
 have b2 := hb (p + 2) (by omega)
 have b3 := hb (p + 3) (by omega)
 unfold zIw u4
 rw [a1, a2, a3]
 simp only [Int.toNat_natCast, Nat.zero_add, IE.den]
 have e1 : shlI .u32 (IntKind.u32.wrap (g (p + 1))) 8 = g (p + 1) * 2 ^ 8 := shlQ 8 (by decide) b1.1 b1.2
 have e2 : shlI .u32 (IntKind.u32.wrap (g (p + 2))) 16 = g (p + 2) * 2 ^ 16 := shlQ 16 (by decide) b2.1 b2.2
 have e3 : shlI .u32 (IntKind.u32.wrap (g (p + 3))) 24 = g (p + 3) * 2 ^ 24 := shlQ 24 (by decide) b3.1 b3.2
 rw [e1, e2, e3, z8 b0.1 (by omega)]
 have f1 : IntKind.u32.wrap (g p + g (p + 1) * 2 ^ 8) = g p + g (p + 1) * 256 := z8 (by omega) (by omega)
 rw [f1]
 have f2 : IntKind.u32.wrap (g p + g (p + 1) * 256 + g (p + 2) * 2 ^ 16) = g p + g (p + 1) * 256 + g (p + 2) * 65536 := z8 (by omega) (by omega)
 rw [f2]
 exact z8 (by omega) (by omega)
def zHt : Ins -> List SV -> List Out := fun ins pl => match ins, pl with
 | [(cs, len, _)], [.int .i64 t] => zNj (RqO t.den (colG cs) len) (zB6 t.den (colG cs) len)
 | _, _ => []
theorem zMk (O : RqR -> Prop) (B : WkE -> Prop) : ∀ o ∈ zNj O B, o.good := by
 intro o ho
 unfold zNj at ho
 simp only [List.mem_cons, List.not_mem_nil, or_false] at ho
 rcases ho with rfl | rfl
 ·intro c
  refine ⟨⟨fun n m ν ν' h => ?_, fun n p h => ?_⟩, rfl, trivial⟩
  ·have h0 := h 0 (by simp)
   simp only [Nat.add_zero] at h0
   simp [SV.den, SV.denL, h0]
  ·exact ⟨h 0 (by simp), trivial, trivial, trivial⟩
 ·intro c
  exact ⟨⟨fun n m ν ν' h => rfl, fun n p h => ⟨trivial, trivial, trivial, trivial⟩⟩, rfl, trivial⟩
theorem zVJ {f : FuncId} {s : zl} (hs : zZ P f s)
  (h : ∀ (t : Int) (g : Nat -> Int) (len cap : Nat), BGood g len cap -> len <= 1073741824 -> s [.int .i64 (.var t), sA 0 len cap] [rdRow g cap] (rqQ g cap (RqO t g len) (zB6 t g len))) :
  zZ P f (zAK [.plain, .rows 1 zz1] zEu zHt) := by
 refine zH5 hs (fun sz zs h => by simp at h; obtain ⟨rfl, rfl⟩ := h; rfl) ?_ ?_
 ·intro ins pl o ho
  unfold zHt at ho
  split at ho
  ·exact zMk _ _ o ho
  ·simp at ho
 ·intro ins pl u hi hw hp
  obtain ⟨g, len, cap, t, rfl, rfl, h1, h2⟩ := zHK hp
  exact h t.den g len cap h1 h2
theorem zVu {y : AI} (h1 : y.op ≠ 1) (h14 : y.op ≠ 14) (h15 : y.op ≠ 15) (h16 : y.op ≠ 16) (h17 : y.op ≠ 17) (h25 : y.op ≠ 25) (h26 : y.op ≠ 26) (h3 : y.op ≠ 3) (h4 : y.op ≠ 4) : optN (numA y) = hasN false 0 := by
 unfold numA; rw [if_neg (by omega), if_neg (by omega)]; rfl
theorem zDp {y : AI} (h : y.op = 1 ∨ y.op = 14 ∨ y.op = 15 ∨ y.op = 16 ∨ y.op = 17 ∨ y.op = 25 ∨ y.op = 26) : optN (numA y) = hasN true y.imm := by
 unfold numA; rw [if_neg (by omega), if_pos h]; rfl
theorem zLk {y : AI} (h : y.op = 3 ∨ y.op = 4) : optN (numA y) = hasN true y.disp := by
 unfold numA; rw [if_pos h]; rfl
theorem zIE {x k : Int} (h : BE.den (.cmp .eql (.var x) (.lit k)) = true) : x = k := by simpa [BE.den, IE.den, za] using h
theorem zID {x k : Int} (h : BE.den (.cmp .eql (.var x) (.lit k)) = false) : x ≠ k := by simpa [BE.den, IE.den, za] using h
theorem zNi {st : Nat -> Option (Nat × Option Int)} {len : Nat} : zO7 st len ⟨0, 0, fun _ => 0, fun _ => 0, fun _ => false, 0⟩ :=
 ⟨Nat.zero_le _, Nat.le_refl _, Nat.le_refl _, by decide, fun _ => 0, fun _ => none, ⟨rfl, fun i hi => absurd hi (Nat.not_lt_zero i)⟩, rfl, fun i hi => absurd hi (Nat.not_lt_zero i)⟩
set_option maxRecDepth 100000 in
theorem zSs : zZ P 12 (zAK [.plain, .rows 1 zz1] zEu zHt) := by
 have hs := zDi fun un => zN (un := un) zbZ Tryz.func12
 refine zVJ hs ?_
 intro t g len cap hg hl
 refine ⟨zUK g len cap (zO7 (zED g len) len) (zO7 (zD7 g len) len) (fun a => len - a.p) (fun a => len - a.p), ?_⟩
 rw [zaF]
 have hroom := hg.room
 refine ⟨fun h1 => ?_, fun h1 => ⟨fun h2 => ?_, fun h2 => ?_⟩⟩
 ·obtain rfl : t = 1 := zIE h1
  refine ⟨⟨_, zNi, rfl, rfl, rfl, rfl, rfl, rfl, fun _ _ => rfl, rfl, trivial⟩, ?_, fun _ _ h => h⟩
  rintro _ ⟨n, c, A, V, H, p⟩ hi
  have hi' := hi
  obtain ⟨i1, i2, i3, i4, P', K, hc, hPn, hS⟩ := hi'
  dsimp only at i1 i2 i3 i4 hc hPn hS ⊢
  have bad : p < len -> zED g len p = none -> erQ cap g (RqO 1 g len) (zB6 1 g len) ⟨n, c, A, V, H, p⟩ := fun hp hs => .inr ⟨⟨221, p⟩, ⟨.inr ⟨.inl rfl, rfl, n, P', K, hc, hPn, hp, hs⟩⟩, rfl, rfl, rfl, fun _ _ => rfl, trivial⟩
  refine ⟨fun hlt => ⟨fun h3 => ?_, fun h3 => ?_⟩, fun hge => ?_⟩
  ·have hlt : (p : Int) < (len : Int) := by simpa [BE.den, IE.den, zQ] using hlt
   simp only [BE.den, IE.den, zAS] at h3
   rw [zE (by omega) (by omega)] at h3
   have h3' : ¬ p + 4 <= len := by simp at h3; omega
   exact bad (by omega) (by unfold zED; rw [if_neg h3'])
  ·have hlt : (p : Int) < (len : Int) := by simpa [BE.den, IE.den, zQ] using hlt
   simp only [BE.den, IE.den, zAS] at h3
   rw [zE (by omega) (by omega)] at h3
   have h3' : p + 4 <= len := by simp at h3; omega
   have a1 : addI (p : Int) 1 = ((p + 1 : Nat) : Int) := zBR (by omega) 1 (by omega)
   have a2 : addI (p : Int) 2 = ((p + 2 : Nat) : Int) := zBR (by omega) 2 (by omega)
   have a3 : addI (p : Int) 3 = ((p + 3 : Nat) : Int) := zBR (by omega) 3 (by omega)
   have a4 : addI (p : Int) 4 = ((p + 4 : Nat) : Int) := zBR (by omega) 4 (by omega)
   have hr := zNW h3' hg.byte
   rw [zSU hl h3' hg.byte, a1, a2, a3, a4]
   refine ⟨zAl (by simp; omega) (by simp; omega), by simp; omega, zAl (by simp; omega) (by simp; omega), by simp; omega, zAl (by simp; omega) (by simp; omega), by simp; omega, zAl (by simp; omega) (by simp; omega), by simp; omega, by simp [Rv.inU32]; omega, fun hn => ?_, fun hn => ?_⟩
   ·have hn : ¬ (Rv.rvDec (u4 g p)).err = 0 := by simpa [BE.den, IE.den, zAd] using hn
    exact bad (by omega) (by unfold zED; rw [if_pos h3', if_neg hn])
   ·have hn : (Rv.rvDec (u4 g p)).err = 0 := by simpa [BE.den, IE.den, zAd] using hn
    have hst : zED g len p = some (p + 4, optN (numR (Rv.rvDec (u4 g p)).op (Rv.rvDec (u4 g p)).imm)) := by unfold zED; rw [if_pos h3', if_pos hn]
    refine ⟨fun h16 => zMx hl (by omega) (by omega) h3' rfl ?_ hi, fun h16 => zMx hl (by omega) (by omega) h3' rfl ?_ hi⟩
    ·have h16 : (Rv.rvDec (u4 g p)).op < 16 := by simpa [BE.den, IE.den, zQ] using h16
     have hb : decide ((Rv.rvDec (u4 g p)).op < 16 ∨ 28 < (Rv.rvDec (u4 g p)).op) = true := decide_eq_true (.inl h16)
     rw [hst]
     exact congrArg (fun z => some (p + 4, hasN z (Rv.rvDec (u4 g p)).imm)) hb
    ·have h16 : ¬ (Rv.rvDec (u4 g p)).op < 16 := by simpa [BE.den, IE.den, zQ] using h16
     have hb : decide ((Rv.rvDec (u4 g p)).op < 16 ∨ 28 < (Rv.rvDec (u4 g p)).op) = BE.den (.cmp .gtr (.var (Rv.rvDec (u4 g p)).op) (.lit 28)) := by
      simp only [BE.den, IE.den, zAS]
      by_cases h28 : 28 < (Rv.rvDec (u4 g p)).op
      ·rw [decide_eq_true (.inr h28), decide_eq_true h28]
      ·rw [decide_eq_false (by omega), decide_eq_false (by omega)]
     rw [hst]
     exact congrArg (fun z => some (p + 4, hasN z (Rv.rvDec (u4 g p)).imm)) hb
  ·have hge : ¬ (p : Int) < (len : Int) := by simpa [BE.den, IE.den, zQ] using hge
   obtain rfl : p = len := by omega
   left
   exact ⟨⟨n, c, A, V, H⟩, ⟨.inl rfl, ⟨P', K, hc, hPn, hS⟩, i2, i3, i4⟩, rfl, rfl, rfl, fun _ _ => rfl, rfl, fun _ _ => rfl, fun _ _ => rfl, fun _ _ => rfl, trivial⟩
 ·obtain rfl : t = 2 := zIE h2
  refine ⟨⟨_, zNi, rfl, rfl, rfl, rfl, rfl, rfl, fun _ _ => rfl, rfl, trivial⟩, ?_, fun _ _ h => h⟩
  rintro _ ⟨n, c, A, V, H, p⟩ hi
  have hi' := hi
  obtain ⟨i1, i2, i3, i4, P', K, hc, hPn, hS⟩ := hi'
  dsimp only at i1 i2 i3 i4 hc hPn hS ⊢
  refine ⟨fun hlt => ?_, fun hge => ?_⟩
  ·have hlt : (p : Int) < (len : Int) := by simpa [BE.den, IE.den, zQ] using hlt
   have hp : p < len := by omega
   refine ⟨ask2 hg.room, fun cs' hcs => ?_⟩
   have hcG : colG cs' = g := by rw [hcs]; rfl
   have hd : zi g len (p : Int) = zIj (zr g len p) := by unfold zi; rw [if_neg (by omega)]; simp
   rw [hcG, hd]
   refine ⟨⟨by rw [hcs]; exact ⟨g, rfl⟩, hg⟩, fun hn => ?_, fun hn => ?_⟩
   ·cases hz : zr g len p with
    | some z => rw [hz] at hn; simp [zIj, BE.den, IE.den, zAd] at hn
    | none => exact .inr ⟨⟨221, p⟩, ⟨.inr ⟨.inr rfl, rfl, n, P', K, hc, hPn, hp, by show zD7 g len p = none; unfold zD7; rw [hz]⟩⟩, rfl, rfl, rfl, fun _ _ => rfl, trivial⟩
   ·cases hz : zr g len p with
    | none => rw [hz] at hn; simp [zIj, BE.den, IE.den, zAd] at hn
    | some z =>
     obtain ⟨y, e⟩ := z
     obtain ⟨q1, q2⟩ := zNF hg.byte hz
     have key : ∀ {v : IE} {b : BE}, optN (numA y) = hasN b.den v.den -> okQ len cap g (zO7 (zD7 g len) len) (fun a => len - a.p) ⟨n, c, A, V, H, p⟩ v b (e : Int) := fun {v b} h =>
      zMx hl hp q1 q2 rfl (by unfold zD7; rw [hz]; exact congrArg (fun z => some (e, z)) h) hi
     dsimp only [zIj]
     refine ⟨fun k1 => key (zDp (by have := zIE k1; omega)), fun k1 => ⟨fun k2 => key (zDp (by have := zIE k2; omega)), fun k2 => ⟨fun k3 => key (zDp (by have := zIE k3; omega)), fun k3 => ⟨fun k4 => key (zDp (by have := zIE k4; omega)), fun k4 => ⟨fun k5 => key (zDp (by have := zIE k5; omega)), fun k5 => ⟨fun k6 => key (zDp (by have := zIE k6; omega)), fun k6 => ⟨fun k7 => key (zDp (by have := zIE k7; omega)), fun k7 => ⟨fun k8 => key (zLk (by have := zIE k8; omega)), fun k8 => ⟨fun k9 => key (zLk (by have := zIE k9; omega)), fun k9 => key (zVu (zID k1) (zID k2) (zID k3) (zID k4) (zID k5) (zID k6) (zID k7) (zID k8) (zID k9))⟩⟩⟩⟩⟩⟩⟩⟩⟩
  ·have hge : ¬ (p : Int) < (len : Int) := by simpa [BE.den, IE.den, zQ] using hge
   obtain rfl : p = len := by omega
   left
   exact ⟨⟨n, c, A, V, H⟩, ⟨.inr rfl, ⟨P', K, hc, hPn, hS⟩, i2, i3, i4⟩, rfl, rfl, rfl, fun _ _ => rfl, rfl, fun _ _ => rfl, fun _ _ => rfl, fun _ _ => rfl, trivial⟩
 ·exact .inr ⟨⟨1, 0⟩, ⟨.inl ⟨zID h1, zID h2, rfl, rfl⟩⟩, rfl, rfl, rfl, fun _ _ => rfl, trivial⟩
abbrev rqM : zl := zAK [.plain, .rows 1 zz1] zEu zHt
def rnT : List (FuncId × Cal) := [(12, .spec rqM (zBn [.plain, .rows 1 zz1] zHt))]
theorem zXj : zO P (zx rnT) := zG (zAn zSs) fun g s h => by simp [zx] at h
noncomputable def RN : FuncId -> Option Cal := inl P (fun _ _ => 40) (zx rnT) 4
theorem zXB : zO P RN := zAh zXj 4
structure RnSt where
 e : Int
 p : Int
 n : Nat
 c : Nat
 A : Nat -> Int
 V : Nat -> Int
 H : Nat -> Bool
 q : Nat
 c3 : Nat
 O : Nat -> Int
 i : Nat
def zKO (a : RnSt) : List (Nat × SV) :=
 [(7, .sliceE true 1 3 (.lit 0) (.var (RnSt.n a)) (.var (RnSt.c a))), (8, .int .i64 (.var (RnSt.e a))), (9, .int .i64 (.var (RnSt.p a))), (10, .sliceE true 2 1 (.lit 0) (.var (RnSt.q a)) (.var (RnSt.c3 a))), (11, .int .i64 (.var (RnSt.i a)))]
def rnHp (g : Nat -> Int) (cap : Nat) (a : RnSt) : List SObj := [rdRow g cap, .row true true (zTt (RnSt.A a) (RnSt.V a) (RnSt.H a)) (.var (RnSt.c a)), .row true true [zFT (RnSt.O a)] (.var (RnSt.c3 a))]
structure HqSt where
 e : Int
 n : Nat
 c : Nat
 A : Nat -> Int
 V : Nat -> Int
 H : Nat -> Bool
 i : Nat
def zRf (k : Int) (a : HqSt) : List (Nat × SV) :=
 [(2, .int .u32 (.var k)), (9, .sliceE true 1 3 (.lit 0) (.var (HqSt.n a)) (.var (HqSt.c a))), (10, .int .i64 (.var (HqSt.e a))), (12, .int .i64 (.var (HqSt.i a)))]
def hqHp (g : Nat -> Int) (cap : Nat) (a : HqSt) : List SObj := [rdRow g cap, .row true true (zTt (HqSt.A a) (HqSt.V a) (HqSt.H a)) (.var (HqSt.c a))]
def lowE (v : Int) : IE := IE.conv .u32 (.bits .and .u64 (.conv .u64 (.var v)) (.lit 4294967295))
def zNm (g : Nat -> Int) (cap : Nat) (I : RnSt -> Prop) (M : RnSt -> Nat) (R : NuR -> Prop) : Prop :=
 (∀ (u : Nat -> Value) (a : RnSt), I a -> (BE.den (.cmp .lss (.var (↑(RnSt.i a) : Int)) (.var (↑(RnSt.n a) : Int))) = true -> BE.den (.ite (.var (decide (RnSt.n a <= RnSt.c a /\ 0 + RnSt.c a <= RnSt.c a))) (.var (decide (0 <= (↑(RnSt.i a) : Int) /\ (↑(RnSt.i a) : Int) < (↑(RnSt.n a) : Int)))) (.lit false)) = true /\ decide (0 + Int.toNat (↑(RnSt.i a) : Int) + 1 <= RnSt.c a) = true /\ (RnSt.H a (0 + Int.toNat (↑(RnSt.i a) : Int)) = true -> BE.den (.ite (.var (decide (RnSt.n a <= RnSt.c a /\ 0 + RnSt.c a <= RnSt.c a))) (.var (decide (0 <= (↑(RnSt.i a) : Int) /\ (↑(RnSt.i a) : Int) < (↑(RnSt.n a) : Int)))) (.lit false)) = true /\ decide (0 + Int.toNat (↑(RnSt.i a) : Int) + 1 <= RnSt.c a) = true /\ decide (0 + RnSt.q a <= RnSt.c3 a) = true /\ decide (RnSt.c3 a <= RnSt.c3 a) = true /\ decide (RnSt.c3 a <= 9223372036854775807) = true /\ Nat.le (NE.den (NE.two (fun x1 x2 => x1 + x2) (NE.var (RnSt.q a)) (NE.lit (0 + 1))) * 8) 140737488355328 /\ ∀ (U : Unk) (cap_1 : Nat), NE.den (NE.two (fun x1 x2 => x1 + x2) (NE.var (RnSt.q a)) (NE.lit (0 + 1))) <= cap_1 -> cap_1 <= 9223372036854775807 -> ∃ a', I a' /\ Nat.le (Nat.succ (M a')) (M a) /\ RnSt.n a = RnSt.n a' /\ RnSt.c a = RnSt.c a' /\ RnSt.e a = RnSt.e a' /\ RnSt.p a = RnSt.p a' /\ RnSt.q a + 1 = RnSt.q a' /\ cap_1 = RnSt.c3 a' /\ IE.den (.add .i64 (.var (↑(RnSt.i a) : Int)) (.lit 1)) = (↑(RnSt.i a') : Int) /\ cap = cap /\ (∀ (e : Nat), e < cap -> g e = g e) /\ RnSt.c a = RnSt.c a' /\ (∀ (e : Nat), e < RnSt.c a' -> RnSt.A a e = RnSt.A a' e) /\ (∀ (e : Nat), e < RnSt.c a' -> RnSt.V a e = RnSt.V a' e) /\ (∀ (e : Nat), e < RnSt.c a' -> RnSt.H a e = RnSt.H a' e) /\ cap_1 = RnSt.c3 a' /\ (∀ (e : Nat), e < RnSt.c3 a' -> IE.den (Bool.rec (motive := fun _ => IE) (bif Nat.blt e (RnSt.q a + (0 + 1)) then zSB (RnSt.V a (0 + Int.toNat (↑(RnSt.i a) : Int))) ((0 / 1 + (e - RnSt.q a)) * 1 + 0) else IE.var (Unk.i U 0 e)) (.var (RnSt.O a e)) (Nat.blt e (RnSt.q a))) = RnSt.O a' e) /\ True) /\ (RnSt.H a (0 + Int.toNat (↑(RnSt.i a) : Int)) = false -> ∃ a', I a' /\ Nat.le (Nat.succ (M a')) (M a) /\ RnSt.n a = RnSt.n a' /\ RnSt.c a = RnSt.c a' /\ RnSt.e a = RnSt.e a' /\ RnSt.p a = RnSt.p a' /\ RnSt.q a = RnSt.q a' /\ RnSt.c3 a = RnSt.c3 a' /\ IE.den (.add .i64 (.var (↑(RnSt.i a) : Int)) (.lit 1)) = (↑(RnSt.i a') : Int) /\ cap = cap /\ (∀ (e : Nat), e < cap -> g e = g e) /\ RnSt.c a = RnSt.c a' /\ (∀ (e : Nat), e < RnSt.c a' -> RnSt.A a e = RnSt.A a' e) /\ (∀ (e : Nat), e < RnSt.c a' -> RnSt.V a e = RnSt.V a' e) /\ (∀ (e : Nat), e < RnSt.c a' -> RnSt.H a e = RnSt.H a' e) /\ RnSt.c3 a = RnSt.c3 a' /\ (∀ (e : Nat), e < RnSt.c3 a' -> RnSt.O a e = RnSt.O a' e) /\ True)) /\ (BE.den (.cmp .lss (.var (↑(RnSt.i a) : Int)) (.var (↑(RnSt.n a) : Int))) = false -> ∃ b, R b /\ RnSt.q a = NuR.n b /\ RnSt.c3 a = NuR.c b /\ RnSt.e a = NuR.e b /\ RnSt.p a = NuR.p b /\ cap = cap /\ (∀ (e : Nat), e < cap -> g e = g e) /\ RnSt.c3 a = NuR.c b /\ (∀ (e : Nat), e < NuR.c b -> RnSt.O a e = NuR.O b e) /\ True))
theorem zaH (t : Int) (g : Nat -> Int) (len cap : Nat) (I : RnSt -> Prop) (M : RnSt -> Nat) (R : NuR -> Prop) : zH P RN (fun _ => annS RnSt zKO (rnHp g cap) I M) Tryz.f6 [.int .i64 (.var t), sA 0 len cap] [rdRow g cap] (nuQ g cap R) =
  (BE.den (.ite (.var (decide (0 + cap <= cap))) (.var (decide (len <= cap))) (.lit false)) = true /\ ∀ (cs' : List Col), cs' = List.map Col.nrm (zY (NE.lit 0) [col8 g]) -> ((∃ (g : Nat -> Int), cs' = [Col.int .u8 fun e => IE.var (g e)]) /\ BGood (colG cs') len cap /\ Nat.le len 1073741824) /\ (∀ (b : RqR), RqO t (colG cs') len b -> (∃ a, I a /\ RqR.n b = RnSt.n a /\ RqR.c b = RnSt.c a /\ 0 = RnSt.e a /\ 0 = RnSt.p a /\ RnSt.q a = 0 /\ RnSt.c3 a = 0 /\ 0 = (↑(RnSt.i a) : Int) /\ cap = cap /\ (∀ (e : Nat), e < cap -> g e = g e) /\ RqR.c b = RnSt.c a /\ (∀ (e : Nat), e < RnSt.c a -> RqR.A b e = RnSt.A a e) /\ (∀ (e : Nat), e < RnSt.c a -> RqR.V b e = RnSt.V a e) /\ (∀ (e : Nat), e < RnSt.c a -> RqR.H b e = RnSt.H a e) /\ RnSt.c3 a = 0 /\ True) /\ zNm g cap I M R /\ ∀ (u : Nat -> Value) (b : Unit), False -> False) /\ ∀ (b : WkE), zB6 t (colG cs') len b -> (∃ a, I a /\ RnSt.n a = 0 /\ RnSt.c a = 0 /\ WkE.e b = RnSt.e a /\ (↑(WkE.p b) : Int) = RnSt.p a /\ RnSt.q a = 0 /\ RnSt.c3 a = 0 /\ 0 = (↑(RnSt.i a) : Int) /\ cap = cap /\ (∀ (e : Nat), e < cap -> g e = g e) /\ RnSt.c a = 0 /\ RnSt.c3 a = 0 /\ True) /\ zNm g cap I M R /\ ∀ (u : Nat -> Value) (b : Unit), False -> False) := by kernel_rfl
def zNh (g : Nat -> Int) (cap : Nat) (I : RnSt -> Prop) (M : RnSt -> Nat) (R : StR -> Prop) : Prop :=
 (∀ (u : Nat -> Value) (a : RnSt), I a -> (BE.den (.cmp .lss (.var (↑(RnSt.i a) : Int)) (.var (↑(RnSt.n a) : Int))) = true -> BE.den (.ite (.var (decide (RnSt.n a <= RnSt.c a /\ 0 + RnSt.c a <= RnSt.c a))) (.var (decide (0 <= (↑(RnSt.i a) : Int) /\ (↑(RnSt.i a) : Int) < (↑(RnSt.n a) : Int)))) (.lit false)) = true /\ decide (0 + Int.toNat (↑(RnSt.i a) : Int) + 1 <= RnSt.c a) = true /\ decide (0 + RnSt.q a <= RnSt.c3 a) = true /\ decide (RnSt.c3 a <= RnSt.c3 a) = true /\ decide (RnSt.c3 a <= 9223372036854775807) = true /\ Nat.le (NE.den (NE.two (fun x1 x2 => x1 + x2) (NE.var (RnSt.q a)) (NE.lit (0 + 1))) * 8) 140737488355328 /\ ∀ (U : Unk) (cap_1 : Nat), NE.den (NE.two (fun x1 x2 => x1 + x2) (NE.var (RnSt.q a)) (NE.lit (0 + 1))) <= cap_1 -> cap_1 <= 9223372036854775807 -> ∃ a', I a' /\ Nat.le (Nat.succ (M a')) (M a) /\ RnSt.n a = RnSt.n a' /\ RnSt.c a = RnSt.c a' /\ RnSt.e a = RnSt.e a' /\ RnSt.p a = RnSt.p a' /\ RnSt.q a + 1 = RnSt.q a' /\ cap_1 = RnSt.c3 a' /\ IE.den (.add .i64 (.var (↑(RnSt.i a) : Int)) (.lit 1)) = (↑(RnSt.i a') : Int) /\ cap = cap /\ (∀ (e : Nat), e < cap -> g e = g e) /\ RnSt.c a = RnSt.c a' /\ (∀ (e : Nat), e < RnSt.c a' -> RnSt.A a e = RnSt.A a' e) /\ (∀ (e : Nat), e < RnSt.c a' -> RnSt.V a e = RnSt.V a' e) /\ (∀ (e : Nat), e < RnSt.c a' -> RnSt.H a e = RnSt.H a' e) /\ cap_1 = RnSt.c3 a' /\ (∀ (e : Nat), e < RnSt.c3 a' -> IE.den (Bool.rec (motive := fun _ => IE) (bif Nat.blt e (RnSt.q a + (0 + 1)) then zSB (RnSt.A a (0 + Int.toNat (↑(RnSt.i a) : Int))) ((0 / 1 + (e - RnSt.q a)) * 1 + 0) else IE.var (Unk.i U 0 e)) (.var (RnSt.O a e)) (Nat.blt e (RnSt.q a))) = RnSt.O a' e) /\ True) /\ (BE.den (.cmp .lss (.var (↑(RnSt.i a) : Int)) (.var (↑(RnSt.n a) : Int))) = false -> ∃ b, R b /\ RnSt.q a = StR.n b /\ RnSt.c3 a = StR.c b /\ RnSt.e a = StR.e b /\ RnSt.p a = StR.p b /\ cap = cap /\ (∀ (e : Nat), e < cap -> g e = g e) /\ RnSt.c3 a = StR.c b /\ (∀ (e : Nat), e < StR.c b -> RnSt.O a e = StR.S b e) /\ True))
theorem zaE (t : Int) (g : Nat -> Int) (len cap : Nat) (I : RnSt -> Prop) (M : RnSt -> Nat) (R : StR -> Prop) : zH P RN (fun _ => annS RnSt zKO (rnHp g cap) I M) Tryz.f8 [.int .i64 (.var t), sA 0 len cap] [rdRow g cap] (stQ g cap R) =
  (BE.den (.ite (.var (decide (0 + cap <= cap))) (.var (decide (len <= cap))) (.lit false)) = true /\ ∀ (cs' : List Col), cs' = List.map Col.nrm (zY (NE.lit 0) [col8 g]) -> ((∃ (g : Nat -> Int), cs' = [Col.int .u8 fun e => IE.var (g e)]) /\ BGood (colG cs') len cap /\ Nat.le len 1073741824) /\ (∀ (b : RqR), RqO t (colG cs') len b -> (∃ a, I a /\ RqR.n b = RnSt.n a /\ RqR.c b = RnSt.c a /\ 0 = RnSt.e a /\ 0 = RnSt.p a /\ RnSt.q a = 0 /\ RnSt.c3 a = 0 /\ 0 = (↑(RnSt.i a) : Int) /\ cap = cap /\ (∀ (e : Nat), e < cap -> g e = g e) /\ RqR.c b = RnSt.c a /\ (∀ (e : Nat), e < RnSt.c a -> RqR.A b e = RnSt.A a e) /\ (∀ (e : Nat), e < RnSt.c a -> RqR.V b e = RnSt.V a e) /\ (∀ (e : Nat), e < RnSt.c a -> RqR.H b e = RnSt.H a e) /\ RnSt.c3 a = 0 /\ True) /\ zNh g cap I M R /\ ∀ (u : Nat -> Value) (b : Unit), False -> False) /\ ∀ (b : WkE), zB6 t (colG cs') len b -> (∃ a, I a /\ RnSt.n a = 0 /\ RnSt.c a = 0 /\ WkE.e b = RnSt.e a /\ (↑(WkE.p b) : Int) = RnSt.p a /\ RnSt.q a = 0 /\ RnSt.c3 a = 0 /\ 0 = (↑(RnSt.i a) : Int) /\ cap = cap /\ (∀ (e : Nat), e < cap -> g e = g e) /\ RnSt.c a = 0 /\ RnSt.c3 a = 0 /\ True) /\ zNh g cap I M R /\ ∀ (u : Nat -> Value) (b : Unit), False -> False) := by kernel_rfl
def zNn (k : Int) (g : Nat -> Int) (cap : Nat) (I : HqSt -> Prop) (M : HqSt -> Nat) (R : HsR -> Prop) : Prop :=
 (∀ (u : Nat -> Value) (a : HqSt), I a -> (BE.den (.cmp .lss (.var (↑(HqSt.i a) : Int)) (.var (↑(HqSt.n a) : Int))) = true -> BE.den (.ite (.var (decide (HqSt.n a <= HqSt.c a /\ 0 + HqSt.c a <= HqSt.c a))) (.var (decide (0 <= (↑(HqSt.i a) : Int) /\ (↑(HqSt.i a) : Int) < (↑(HqSt.n a) : Int)))) (.lit false)) = true /\ decide (0 + Int.toNat (↑(HqSt.i a) : Int) + 1 <= HqSt.c a) = true /\ (HqSt.H a (0 + Int.toNat (↑(HqSt.i a) : Int)) = true -> BE.den (.ite (.var (decide (HqSt.n a <= HqSt.c a /\ 0 + HqSt.c a <= HqSt.c a))) (.var (decide (0 <= (↑(HqSt.i a) : Int) /\ (↑(HqSt.i a) : Int) < (↑(HqSt.n a) : Int)))) (.lit false)) = true /\ decide (0 + Int.toNat (↑(HqSt.i a) : Int) + 1 <= HqSt.c a) = true /\ (BE.den (.cmp .eql (lowE (HqSt.V a (0 + Int.toNat (↑(HqSt.i a) : Int)))) (.var k)) = true -> BE.den (.ite (.var (decide (HqSt.n a <= HqSt.c a /\ 0 + HqSt.c a <= HqSt.c a))) (.var (decide (0 <= (↑(HqSt.i a) : Int) /\ (↑(HqSt.i a) : Int) < (↑(HqSt.n a) : Int)))) (.lit false)) = true /\ decide (0 + Int.toNat (↑(HqSt.i a) : Int) + 1 <= HqSt.c a) = true /\ ∃ b, R b /\ HqSt.A a (0 + Int.toNat (↑(HqSt.i a) : Int)) = HsR.at' b /\ BE.den (.lit true) = HsR.has b /\ 0 = HsR.e b /\ cap = cap /\ (∀ (e : Nat), e < cap -> g e = g e) /\ True) /\ (BE.den (.cmp .eql (lowE (HqSt.V a (0 + Int.toNat (↑(HqSt.i a) : Int)))) (.var k)) = false -> ∃ a', I a' /\ Nat.le (Nat.succ (M a')) (M a) /\ k = k /\ HqSt.n a = HqSt.n a' /\ HqSt.c a = HqSt.c a' /\ HqSt.e a = HqSt.e a' /\ IE.den (.add .i64 (.var (↑(HqSt.i a) : Int)) (.lit 1)) = (↑(HqSt.i a') : Int) /\ cap = cap /\ (∀ (e : Nat), e < cap -> g e = g e) /\ HqSt.c a = HqSt.c a' /\ (∀ (e : Nat), e < HqSt.c a' -> HqSt.A a e = HqSt.A a' e) /\ (∀ (e : Nat), e < HqSt.c a' -> HqSt.V a e = HqSt.V a' e) /\ (∀ (e : Nat), e < HqSt.c a' -> HqSt.H a e = HqSt.H a' e) /\ True)) /\ (HqSt.H a (0 + Int.toNat (↑(HqSt.i a) : Int)) = false -> ∃ a', I a' /\ Nat.le (Nat.succ (M a')) (M a) /\ k = k /\ HqSt.n a = HqSt.n a' /\ HqSt.c a = HqSt.c a' /\ HqSt.e a = HqSt.e a' /\ IE.den (.add .i64 (.var (↑(HqSt.i a) : Int)) (.lit 1)) = (↑(HqSt.i a') : Int) /\ cap = cap /\ (∀ (e : Nat), e < cap -> g e = g e) /\ HqSt.c a = HqSt.c a' /\ (∀ (e : Nat), e < HqSt.c a' -> HqSt.A a e = HqSt.A a' e) /\ (∀ (e : Nat), e < HqSt.c a' -> HqSt.V a e = HqSt.V a' e) /\ (∀ (e : Nat), e < HqSt.c a' -> HqSt.H a e = HqSt.H a' e) /\ True)) /\ (BE.den (.cmp .lss (.var (↑(HqSt.i a) : Int)) (.var (↑(HqSt.n a) : Int))) = false -> ∃ b, R b /\ 0 = HsR.at' b /\ BE.den (.lit false) = HsR.has b /\ HqSt.e a = HsR.e b /\ cap = cap /\ (∀ (e : Nat), e < cap -> g e = g e) /\ True))
theorem zaI (t k : Int) (g : Nat -> Int) (len cap : Nat) (I : HqSt -> Prop) (M : HqSt -> Nat) (R : HsR -> Prop) : zH P RN (fun _ => annS HqSt (zRf k) (hqHp g cap) I M) Tryz.f10 [.int .i64 (.var t), sA 0 len cap, .int .u32 (.var k)] [rdRow g cap] (hsQ g cap R) =
  (BE.den (.ite (.var (decide (0 + cap <= cap))) (.var (decide (len <= cap))) (.lit false)) = true /\ ∀ (cs' : List Col), cs' = List.map Col.nrm (zY (NE.lit 0) [col8 g]) -> ((∃ (g : Nat -> Int), cs' = [Col.int .u8 fun e => IE.var (g e)]) /\ BGood (colG cs') len cap /\ Nat.le len 1073741824) /\ (∀ (b : RqR), RqO t (colG cs') len b -> (∃ a, I a /\ k = k /\ RqR.n b = HqSt.n a /\ RqR.c b = HqSt.c a /\ 0 = HqSt.e a /\ 0 = (↑(HqSt.i a) : Int) /\ cap = cap /\ (∀ (e : Nat), e < cap -> g e = g e) /\ RqR.c b = HqSt.c a /\ (∀ (e : Nat), e < HqSt.c a -> RqR.A b e = HqSt.A a e) /\ (∀ (e : Nat), e < HqSt.c a -> RqR.V b e = HqSt.V a e) /\ (∀ (e : Nat), e < HqSt.c a -> RqR.H b e = HqSt.H a e) /\ True) /\ zNn k g cap I M R /\ ∀ (u : Nat -> Value) (b : Unit), False -> False) /\ ∀ (b : WkE), zB6 t (colG cs') len b -> (∃ a, I a /\ k = k /\ HqSt.n a = 0 /\ HqSt.c a = 0 /\ WkE.e b = HqSt.e a /\ 0 = (↑(HqSt.i a) : Int) /\ cap = cap /\ (∀ (e : Nat), e < cap -> g e = g e) /\ HqSt.c a = 0 /\ True) /\ zNn k g cap I M R /\ ∀ (u : Nat -> Value) (b : Unit), False -> False) := by kernel_rfl
end Go.Proofs.YtajcmjjgnbaahaaGreat.Amd
