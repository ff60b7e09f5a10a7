/- The law of lists: it answers true. -/
import Derived.Test.YtiljkmcahkphiaaLi8
namespace Go.Proofs.Ytiljkmcahkphiaa.Rv
open Go Go.Proofs.Ytiljkmcahkphiaa.Sx Go.RowKit
set_option linter.unusedVariables false
set_option linter.unusedSimpArgs false

def yes : SV → Prop := fun v => ∀ ν, v.den ν = .bool true
theorem neq_of {x y : Int} (h : x = y) : BE.den (.cmp .neq (.var x) (.var y)) = false := by simp [BE.den, IE.den, cmpI_neq, h]
theorem neq_of0 {x : Int} (h : x = 0) : BE.den (.cmp .neq (.var x) (.lit 0)) = false := by simp [BE.den, IE.den, cmpI_neq, h]
theorem eql_of0 {x : Int} (h : x ≠ 0) : BE.den (.cmp .eql (.var x) (.lit 0)) = false := by simp [BE.den, IE.den, cmpI_eql, h]
theorem nnB {x : Int} (h : 0 ≤ x ∧ x < 256) : Int.NonNeg (x - 0) ∧ Int.NonNeg (256 - (x + 1)) := by
  constructor
  · have : (0 : Int) ≤ x := h.1
    exact this
  · have : x + 1 ≤ 256 := by omega
    exact this
theorem insEq_of {x : RvIns} {a b c d e : Int} (h0 : x.op = a) (h1 : x.rd = b) (h2 : x.r1 = c) (h3 : x.r2 = d) (h4 : x.imm = e) :
    BE.den (.not (.ite (.cmp .eql (.var x.op) (.var a)) (.ite (.cmp .eql (.var x.rd) (.var b)) (.ite (.cmp .eql (.var x.r1) (.var c)) (.ite (.cmp .eql (.var x.r2) (.var d)) (.ite (.cmp .eql (.var x.imm) (.var e)) (.lit true) (.lit false)) (.lit false)) (.lit false)) (.lit false)) (.lit false))) = false := by
  simp [BE.den, IE.den, cmpI_eql, h0, h1, h2, h3, h4]
theorem rowStr_eq {f f' : Nat → Int} {n n' : Nat} (hn : n = n') (h : ∀ e, e < n → f e = f' e) : rowStr (fun e => .var (f e)) 0 n = rowStr (fun e => .var (f' e)) 0 n' := by
  subst hn
  unfold rowStr
  congr 2
  apply List.map_congr_left
  intro i hi
  have hi : i < n := by simpa using hi
  simp [IE.den, h i hi]
theorem col_id (cs : List Col) : (shiftAll (.lit 0) cs) = cs := rfl

theorem dec_imm (w : Int) : inI64 (rvDec w).imm = true := by
  rcases decL_found w rvRows with ⟨r, hr, _, e⟩ | ⟨e, _⟩
  · have e' : rvDec w = insOf r w := e
    rw [e']; exact immD_i64 r hr w
  · have e' : rvDec w = ⟨0, 0, 0, 0, 0, 5⟩ := e
    rw [e']; decide

/-- What stands at the heads. -/
def jInv (b : Nat → Int) (m : Nat) (a : YSt) : Prop := a.k ≤ a.n ∧ a.n ≤ a.c ∧ a.n ≤ a.c' ∧ a.n ≤ 2097152 ∧ (∀ i, i < a.n → a.h i = a.h' i) ∧ (a.e = 0 → 4 * a.n = m ∧ ∀ i, i < a.n → (rvDec (wordB b (4 * i))).err = 0 ∧ a.h i = rvDec (wordB b (4 * i)))
def iInv (g : Nat → Nat → Int) (len : Nat) (a : XSt) : Prop := a.1 ≤ len ∧ len ≤ a.2.1 ∧ ∀ i, i < len → (a.2.2 i).op = g i 0 ∧ (a.2.2 i).rd = g i 1 ∧ (a.2.2 i).r1 = g i 2 ∧ (a.2.2 i).r2 = g i 3 ∧ (a.2.2 i).imm = g i 4

theorem loop2_holds (g : Nat → Nat → Int) (cap : Nat) (b : Nat → Int) (m mc : Nat) (hm : m ≤ mc) (hb : ∀ i, i < m → 0 ≤ b i ∧ b i < 256) : loop2P g cap b m mc (jInv b m) (fun a => a.n - a.k) yes := by
  refine ⟨?_, fun _ _ h => h⟩
  rintro _ ⟨k, e, n, c, h, c', h'⟩ ⟨i1, i2, i3, i4, i5, i6⟩
  dsimp only at i1 i2 i3 i4 i5 i6 ⊢
  refine ⟨fun hlt => ?_, fun hge => ⟨fun he ν => rfl, fun he => ?_⟩⟩
  · have hlt := lss_true hlt
    have hk : k < n := by omega
    have hkt : 0 + Int.toNat (k : Int) = k := by simp
    refine ⟨ask_ix (by simp; omega) (by simp; omega), by simp; omega, ask_ix (by simp; omega) (by simp; omega), by simp; omega, ?_, ⟨k + 1, e, n, c, h, c', h'⟩, ⟨hk, i2, i3, i4, i5, i6⟩, ?_, rfl, rfl, rfl, rfl, rfl, rfl, rfl, ?_, rfl, fun _ _ => rfl, rfl, fun _ _ => rfl, fun _ _ => rfl, fun _ _ => rfl, fun _ _ => rfl, fun _ _ => rfl, rfl, fun _ _ => rfl, fun _ _ => rfl, fun _ _ => rfl, fun _ _ => rfl, fun _ _ => rfl, rfl, fun _ _ => rfl, fun _ _ => rfl, fun _ _ => rfl, fun _ _ => rfl, fun _ _ => rfl, trivial⟩
    · rw [hkt, i5 k hk]
      exact insEq_of rfl rfl rfl rfl rfl
    · show n - (k + 1) < n - k
      omega
    · show IntKind.i64.wrap ((k : Int) + 1) = ((k + 1 : Nat) : Int)
      rw [wrap_i64_in (by omega) (by omega)]; omega
  · obtain ⟨q1, q2⟩ := i6 (neq_false he)
    have hbb : ∀ i, i < n → ∀ j, j < 4 → 0 ≤ b (4 * i + j) ∧ b (4 * i + j) < 256 := fun i hi j hj => hb _ (by omega)
    have henc : ∀ i, i < n → encC (insCols h) i = (wordB b (4 * i), 0) := fun i hi => by
      have := bytes_dec (hbb i hi) (q2 i hi).1
      show rvEnc (h i).op (h i).rd (h i).r1 (h i).r2 (h i).imm = _
      rw [(q2 i hi).2]; exact this
    refine ⟨ask_ix (by simp) (by simpa using i2), ?_⟩
    rintro cs' rfl
    refine ⟨⟨rfl, i2, i4, ⟨fun e j => if j = 0 then (h e).op else if j = 1 then (h e).rd else if j = 2 then (h e).r1 else if j = 3 then (h e).r2 else (h e).imm, rfl⟩, fun i hi => ?_⟩, fun d hd => ⟨by simpa using hd.1, by simpa using hm, fun ν => ?_⟩, fun i hi => absurd (congrArg Prod.snd (henc i hi.1)) hi.2.1⟩
    · show inI64 (h i).imm = true
      rw [(q2 i hi).2]; exact dec_imm _
    · have : rowStr (fun e => IE.var (Prod.snd d e)) 0 (4 * n) = rowStr (fun e => IE.var (b e)) 0 m := by
        refine rowStr_eq q1 fun e he => ?_
        rw [hd.2.2.2 e he]
        have hi : e / 4 < n := by omega
        show byteI (encC (insCols h) (e / 4)).1 (e % 4) = b e
        rw [henc _ hi, byte_word (hbb _ hi) (e % 4) (by omega)]
        congr 1; omega
      show Value.bool (BE.den (.var _)) = .bool true
      rw [this]; simp [BE.den]

theorem tail_holds (g : Nat → Nat → Int) (cap : Nat) (b : Nat → Int) (m mc : Nat) (hm : m ≤ mc) (hm2 : m ≤ 1048576) (hb : ∀ i, i < m → 0 ≤ b i ∧ b i < 256) : tailP g cap b m mc (jInv b m) (fun a => a.n - a.k) yes := by
  have hl := loop2_holds g cap b m mc hm hb
  have pre : ((([] : List SV) = []) ∧ Nat.le m mc ∧ Nat.le m 8388608 ∧ (∃ (g : Nat → Int), col1 b = [Col.int IntKind.u8 fun e ↦ IE.var (g e)]) ∧ ∀ (i : Nat), i < m → Int.NonNeg (byteC (col1 b) i - 0) ∧ Int.NonNeg (256 - (byteC (col1 b) i + 1))) :=
    ⟨rfl, hm, Nat.le_trans hm2 (by decide), ⟨b, rfl⟩, fun i hi => nnB (hb i hi)⟩
  have hq : BE.den (.ite (.var (decide (0 + mc ≤ mc))) (.var (decide (m ≤ mc))) (.lit false)) = true := ask_ix (by simp) (by simpa using hm)
  refine ⟨hq, ?_⟩
  rintro cs' hcs
  obtain rfl : cs' = col1 b := hcs
  refine ⟨pre, fun x hx => ⟨hq, ?_⟩, fun i hi => ⟨hq, ?_⟩⟩
  · rintro cs2 hcs
    obtain rfl : cs2 = col1 b := hcs
    refine ⟨pre, fun y hy => ⟨neq_of rfl, ?_, hl⟩, fun i hi => ?_⟩
    · refine ⟨⟨0, 0, m / 4, x.1, x.2, y.1, y.2⟩, ⟨by simp, hx.1, hy.1, by dsimp only; omega, fun i hi => (hx.2.2.2 i hi).2.trans (hy.2.2.2 i hi).2.symm, fun _ => ⟨by have := hx.2.2.1; dsimp only; omega, fun i hi => hx.2.2.2 i hi⟩⟩, rfl, rfl, rfl, rfl, rfl, rfl, rfl, rfl, rfl, fun _ _ => rfl, rfl, fun _ _ => rfl, fun _ _ => rfl, fun _ _ => rfl, fun _ _ => rfl, fun _ _ => rfl, rfl, fun _ _ => rfl, fun _ _ => rfl, fun _ _ => rfl, fun _ _ => rfl, fun _ _ => rfl, rfl, fun _ _ => rfl, fun _ _ => rfl, fun _ _ => rfl, fun _ _ => rfl, fun _ _ => rfl, trivial⟩
    · exfalso
      have h1 := hx.2.2.1
      have h2 := hi.2.1
      unfold readErr at h2
      rw [if_pos (by omega)] at h2
      exact h2 (hx.2.2.2 i (by omega)).1
  · rintro cs2 hcs
    obtain rfl : cs2 = col1 b := hcs
    refine ⟨pre, fun y hy => ?_, fun j hj => ?_⟩
    · exfalso
      have h1 := hy.2.2.1
      have h2 := hi.2.1
      unfold readErr at h2
      rw [if_pos (by omega)] at h2
      exact h2 (hy.2.2.2 i (by omega)).1
    · have hij : i = j := by
        rcases Nat.lt_trichotomy i j with h | h | h
        · exfalso
          obtain ⟨a1, a2⟩ := hj.2.2 i h
          have h2 := hi.2.1
          unfold readErr at h2
          rw [if_pos a1] at h2
          exact h2 a2
        · exact h
        · exfalso
          obtain ⟨a1, a2⟩ := hi.2.2 j h
          have h2 := hj.2.1
          unfold readErr at h2
          rw [if_pos a1] at h2
          exact h2 a2
      subst hij
      refine ⟨neq_of rfl, neq_of rfl, ⟨⟨0, readErr (col1 b) m i, 0, 0, fun _ => ⟨0, 0, 0, 0, 0, 0⟩, 0, fun _ => ⟨0, 0, 0, 0, 0, 0⟩⟩, ⟨by simp, by simp, by simp, by simp, fun _ _ => rfl, fun h => absurd h hi.2.1⟩, rfl, rfl, rfl, rfl, rfl, rfl, rfl, rfl, rfl, fun _ _ => rfl, rfl, fun _ _ => rfl, fun _ _ => rfl, fun _ _ => rfl, fun _ _ => rfl, fun _ _ => rfl, rfl, rfl, trivial⟩, hl⟩

theorem loop1_holds (g : Nat → Nat → Int) (len cap : Nat) (hlc : len ≤ cap) (hl2 : len ≤ 1048576) (b : Nat → Int) (m mc : Nat) (hm : m ≤ mc) (hm2 : m ≤ 1048576) (hb : ∀ i, i < m → 0 ≤ b i ∧ b i < 256) :
    loop1P g len cap b m mc (iInv g len) (fun a => len - a.1) (jInv b m) (fun a => a.n - a.k) yes := by
  have ht := tail_holds g cap b m mc hm hm2 hb
  refine ⟨?_, fun _ _ h => h⟩
  rintro _ ⟨k, c, h⟩ ⟨i1, i2, i3⟩
  dsimp only at i1 i2 i3 ⊢
  refine ⟨fun hlt => ?_, fun _ => ht⟩
  have hlt := lss_true hlt
  have hk : k < len := by omega
  have hkt : 0 + Int.toNat (k : Int) = k := by simp
  refine ⟨ask_ix (by simp; omega) (by simp; omega), by simp; omega, ask_ix (by simp; omega) (by simp; omega), by simp; omega, ?_, (k + 1, c, h), ⟨hk, i2, i3⟩, ?_, rfl, rfl, rfl, rfl, rfl, rfl, ?_, rfl, fun _ _ => rfl, rfl, fun _ _ => rfl, fun _ _ => rfl, fun _ _ => rfl, fun _ _ => rfl, fun _ _ => rfl, rfl, fun _ _ => rfl, fun _ _ => rfl, fun _ _ => rfl, fun _ _ => rfl, fun _ _ => rfl, trivial⟩
  · rw [hkt]
    obtain ⟨q0, q1, q2, q3, q4⟩ := i3 k hk
    exact insEq_of q0 q1 q2 q3 q4
  · show len - (k + 1) < len - k
    omega
  · show IntKind.i64.wrap ((k : Int) + 1) = ((k + 1 : Nat) : Int)
    rw [wrap_i64_in (by omega) (by omega)]; omega

theorem own_col (g : Nat → Nat → Int) (len : Nat) (U V : Unk) (i : Nat) (hi : i < len) : ∀ j, j < 5 → colI ((List.map Col.nrm (shiftAll (.lit 0) (ownC g len U V))).getD j .dark) i = g i j := by
  have h1 : Nat.blt i (0 + len) = true := blt_t (by omega)
  have h2 : Nat.blt i 0 = false := blt_f (by omega)
  have h3 : Nat.blt i len = true := blt_t hi
  intro j hj
  match j, hj with
  | 0, _ => simp [ownC, col_id, Col.nrm, colI, IE.den, h1, h2, h3]
  | 1, _ => simp [ownC, col_id, Col.nrm, colI, IE.den, h1, h2, h3]
  | 2, _ => simp [ownC, col_id, Col.nrm, colI, IE.den, h1, h2, h3]
  | 3, _ => simp [ownC, col_id, Col.nrm, colI, IE.den, h1, h2, h3]
  | 4, _ => simp [ownC, col_id, Col.nrm, colI, IE.den, h1, h2, h3]
theorem own_enc (g : Nat → Nat → Int) (len : Nat) (U V : Unk) (i : Nat) (hi : i < len) : encC (List.map Col.nrm (shiftAll (.lit 0) (ownC g len U V))) i = encC (cols5 g) i := by
  have h := own_col g len U V i hi
  unfold encC
  rw [h 0 (by omega), h 1 (by omega), h 2 (by omega), h 3 (by omega), h 4 (by omega)]
  rfl
theorem own_row (g : Nat → Nat → Int) (len : Nat) (U V : Unk) : ∃ (g' : Nat → Nat → Int), List.map Col.nrm (shiftAll (.lit 0) (ownC g len U V)) = [Col.int .i64 fun e => .var (g' e 0), Col.int .i64 fun e => .var (g' e 1), Col.int .i64 fun e => .var (g' e 2), Col.int .i64 fun e => .var (g' e 3), Col.int .i64 fun e => .var (g' e 4)] :=
  ⟨fun e j => colI ((List.map Col.nrm (shiftAll (.lit 0) (ownC g len U V))).getD j .dark) e, rfl⟩

theorem first_eq {f : Nat → Int} {i j : Nat} (hi : f i ≠ 0) (hi' : ∀ k, k < i → f k = 0) (hj : f j ≠ 0) (hj' : ∀ k, k < j → f k = 0) : i = j := by
  rcases Nat.lt_trichotomy i j with h | h | h
  · exact absurd (hj' i h) hi
  · exact h
  · exact absurd (hi' j h) hj

theorem own_last {len : Nat} {X Y : IE} {B C D E : IE} : BE.den (.cmp .neq (.var (IE.den (Bool.rec (motive := fun _ => IE) (bif Nat.blt (0 + NE.den (IE.nat (IE.var (len : Int)))) (0 + len + (0 + 1)) then (match [SV.int .i64 (.lit (Int.ofNat (76 + 1))), SV.int .i64 B, SV.int .i64 C, SV.int .i64 D, SV.int .i64 E][(0 / 5 + (0 + NE.den (IE.nat (IE.var (len : Int))) - (0 + len))) * 5 + 0]? with | some (SV.int k a) => a | x => IE.lit 0) else Y) X (Nat.blt (0 + NE.den (IE.nat (IE.var (len : Int)))) (0 + len))))) (.lit 77)) = false := by
  have e : NE.den (IE.nat (IE.var (len : Int))) = len := rfl
  rw [e]
  have b1 : Nat.blt (0 + len) (0 + len) = false := blt_f (Nat.le_refl _)
  rw [b1, blt_t (show 0 + len < 0 + len + (0 + 1) by omega)]
  have e2 : 0 / 5 + (0 + len - (0 + len)) = 0 := by omega
  rw [e2]; rfl

set_option maxRecDepth 100000 in
theorem lists_sx (g : Nat → Nat → Int) (len cap : Nat) (hlc : len ≤ cap) (hl2 : len ≤ 1048576) (hg : ∀ i, i < len → inI64 (g i 4) = true) (b : Nat → Int) (m mc : Nat) (hm : m ≤ mc) (hm2 : m ≤ 1048576) (hb : ∀ i, i < m → 0 ≤ b i ∧ b i < 256) :
    sxFunc P GA (laUn g len cap b m mc (iInv g len) (fun a => len - a.1) (jInv b m) (fun a => a.n - a.k)) Try.f6 [slL len cap, slM m mc] (laHp g cap b mc) (fun v _ => yes v) := by
  rw [lists_nf]
  have ht := tail_holds g cap b m mc hm hm2 hb
  have h1 := loop1_holds g len cap hlc hl2 b m mc hm hm2 hb
  have e1 : IE.den (.add .i64 (.var (len : Int)) (.lit 1)) = ((len + 1 : Nat) : Int) := by
    show IntKind.i64.wrap ((len : Int) + 1) = _
    rw [wrap_i64_in (by omega) (by omega)]; omega
  refine ⟨decide_eq_true (by omega), ?_, fun U c1 h3 h4 => ⟨decide_eq_true ?_, decide_eq_true (Nat.le_refl _), decide_eq_true h4, ?_, fun V c2 h5 h6 => ?_⟩⟩
  · show (0 + len) * 40 ≤ 140737488355328
    omega
  · have : 0 + len ≤ c1 := h3
    omega
  · show (0 + len + 1) * 40 ≤ 140737488355328
    omega
  have hc2 : 0 + len + 1 ≤ c2 := h5
  refine ⟨decide_eq_true (by omega), ask_ix (by simp) (decide_eq_true (by omega)), ?_⟩
  intro cs hcs
  have he : ∀ i, i < len → encC cs i = encC (cols5 g) i := fun i hi => by rw [hcs]; exact own_enc g len U V i hi
  have hrow := own_row g len U V
  rw [← hcs] at hrow
  have him : ∀ i, i < len → inI64 (colI (cs.getD 4 .dark) i) = true := fun i hi => by
    rw [hcs, own_col g len U V i hi 4 (by omega)]; exact hg i hi
  have q2 : BE.den (.ite (.var (decide (0 + cap ≤ cap))) (.var (decide (len ≤ cap))) (.lit false)) = true := ask_ix (by simp) (by simpa using hlc)
  have preL : ((([] : List SV) = []) ∧ Nat.le len cap ∧ Nat.le len 2097152 ∧ (∃ (g' : Nat → Nat → Int), cols5 g = [Col.int .i64 fun e => .var (g' e 0), Col.int .i64 fun e => .var (g' e 1), Col.int .i64 fun e => .var (g' e 2), Col.int .i64 fun e => .var (g' e 3), Col.int .i64 fun e => .var (g' e 4)]) ∧ ∀ i, i < len → inI64 (colI ((cols5 g).getD 4 .dark) i) = true) :=
    ⟨rfl, hlc, Nat.le_trans hl2 (by decide), ⟨g, rfl⟩, hg⟩
  refine ⟨⟨rfl, by show len ≤ c2; omega, by show len ≤ 2097152; omega, hrow, him⟩, fun x hx => ⟨q2, ?_⟩, fun i hi => ⟨q2, ?_⟩⟩
  · have hx1 : 4 * len ≤ x.1 := hx.1
    have hx3 : ∀ i, i < len → (encC (cols5 g) i).2 = 0 := fun i hi => by rw [← he i hi]; exact hx.2.2.1 i hi
    have hx4 : ∀ e, e < 4 * len → x.2 e = bytesF (cols5 g) e := fun e h => by
      rw [hx.2.2.2 e h]
      unfold bytesF
      rw [he _ (by omega)]
    intro cs2 hcs2
    obtain rfl : cs2 = cols5 g := hcs2
    refine ⟨preL, fun y hy => ?_, fun i hi => absurd (hx3 i hi.1) hi.2.1⟩
    have hy1 : 4 * len ≤ y.1 := hy.1
    have hs : rowStr (fun e => IE.var (Prod.snd x e)) 0 (4 * len) = rowStr (fun e => IE.var (Prod.snd y e)) 0 (4 * len) := rowStr_eq rfl fun e h => (hx4 e h).trans (hy.2.2.2 e h).symm
    have hbyte : ∀ e, e < 4 * len → 0 ≤ x.2 e ∧ x.2 e < 256 := fun e h => by rw [hx4 e h]; exact byteI_range _ _
    have hwd : ∀ i, i < len → rvDec (wordB (byteC (byteCol x.2)) (4 * i)) = ⟨g i 0, g i 1, g i 2, g i 3, g i 4, 0⟩ := fun i hi => by
      have e2 : wordB (byteC (byteCol x.2)) (4 * i) = wordB (bytesF (cols5 g)) (4 * i) := by
        show wordB x.2 (4 * i) = _
        unfold wordB
        rw [hx4 _ (by omega), hx4 _ (by omega), hx4 _ (by omega), hx4 _ (by omega)]
      rw [e2]
      exact dec_bytes (hx3 i hi)
    refine ⟨decide_eq_true (by show 0 + 4 * len ≤ x.1; omega), decide_eq_true (by omega), ?_, decide_eq_true (by rw [e1]; omega), decide_eq_true (by rw [e1]; omega), decide_eq_true (by omega), ?_, ask_ix (by simp) (decide_eq_true hx1), ?_⟩
    · show (!(rowStr (fun e => IE.var (Prod.snd x e)) 0 (4 * len)).toList == (rowStr (fun e => IE.var (Prod.snd y e)) 0 (4 * len)).toList) = false
      rw [hs]; simp
    · exact own_last
    · intro cs3 hcs3
      obtain rfl : cs3 = byteCol x.2 := hcs3
      refine ⟨⟨rfl, hx1, by show 4 * len ≤ 8388608; omega, ⟨x.2, rfl⟩, fun i hi => nnB (hbyte i hi)⟩, fun z hz => ⟨neq_of (by show ((4 * len / 4 : Nat) : Int) = len; omega), ?_, h1⟩, fun i hi => ?_⟩
      · have hz1 : 4 * len / 4 ≤ z.1 := hz.1
        have hz4 : ∀ i, i < 4 * len / 4 → (decC (byteCol x.2) i).err = 0 ∧ z.2 i = decC (byteCol x.2) i := hz.2.2.2
        refine ⟨(0, z.1, z.2), ⟨by simp, by dsimp only; omega, fun i hi => ?_⟩, rfl, rfl, rfl, rfl, by show 4 * len / 4 = len; omega, rfl, rfl, rfl, fun _ _ => rfl, rfl, fun _ _ => rfl, fun _ _ => rfl, fun _ _ => rfl, fun _ _ => rfl, fun _ _ => rfl, rfl, fun _ _ => rfl, fun _ _ => rfl, fun _ _ => rfl, fun _ _ => rfl, fun _ _ => rfl, trivial⟩
        have h8 := (hz4 i (by omega)).2
        have h9 : z.2 i = ⟨g i 0, g i 1, g i 2, g i 3, g i 4, 0⟩ := h8.trans (hwd i hi)
        dsimp only
        rw [h9]
        exact ⟨rfl, rfl, rfl, rfl, rfl⟩
      · exfalso
        have hi1 : 4 * i < 4 * len := hi.1
        have hi2 : readErr (byteCol x.2) (4 * len) i ≠ 0 := hi.2.1
        unfold readErr at hi2
        rw [if_pos (by omega)] at hi2
        apply hi2
        show (rvDec (wordB (byteC (byteCol x.2)) (4 * i))).err = 0
        rw [hwd i (by omega)]
  · have hi1 : i < len := hi.1
    have hi2 : (encC (cols5 g) i).2 ≠ 0 := by rw [← he i hi1]; exact hi.2.1
    have hi3 : ∀ j, j < i → (encC (cols5 g) j).2 = 0 := fun j hj => by rw [← he j (by omega)]; exact hi.2.2 j hj
    intro cs2 hcs2
    obtain rfl : cs2 = cols5 g := hcs2
    refine ⟨preL, fun y hy => absurd (hy.2.2.1 i hi1) hi2, fun j hj => ?_⟩
    obtain rfl : i = j := first_eq (f := fun i => (encC (cols5 g) i).2) hi2 hi3 hj.2.1 hj.2.2
    refine ⟨neq_of (by rw [he i hi1]), neq_of rfl, decide_eq_true (by rw [e1]; omega), decide_eq_true (by rw [e1]; omega), decide_eq_true (by omega), ?_, eql_of0 hi.2.1, ht⟩
    exact own_last
end Go.Proofs.Ytiljkmcahkphiaa.Rv
