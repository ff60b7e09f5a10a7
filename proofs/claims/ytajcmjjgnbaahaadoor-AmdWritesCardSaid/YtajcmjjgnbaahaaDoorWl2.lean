/- AmdWrites answers true. -/
import Derived.Test.YtajcmjjgnbaahaaDoorWl1
namespace Go.Proofs.YtajcmjjgnbaahaaDoor.Amd
open Go Go.Proofs.YtajcmjjgnbaahaaDoor.Sx Go.RowKit
set_option linter.unusedVariables false
set_option linter.unusedSimpArgs false
theorem f_not {A B : ByteArray} (h : A = B) : BE.den (.not (.var (ByteArray.toList A == ByteArray.toList B))) = false := by subst h; simp [BE.den]
theorem f_str {A B : ByteArray} (h : A = B) : (!ByteArray.toList A == ByteArray.toList B) = false := by subst h; simp
theorem f_eq {A B : ByteArray} (h : A = B) {p : Prop} (hn : (ByteArray.toList A == ByteArray.toList B) = false) : p := by subst h; simp at hn
theorem f_neq (v : Int) : BE.den (.cmp .neq (.var v) (.var v)) = false := by simp [BE.den, IE.den, cmpI_neq]
theorem encN_len {x : AI} {b : Nat × (Nat -> Int)} (h : EncN x b) : encLen x <= b.1 := by
  unfold encLen
  split
  · rename_i hE; exact (h.ok hE).len
  · exact Nat.zero_le _
theorem encN_cap {x : AI} {b : Nat × (Nat -> Int)} (h : EncN x b) : b.1 <= 9223372036854775807 := by
  by_cases hE : amdErr x = 0
  · exact (h.ok hE).cap
  · rw [h.no hE]; exact Nat.zero_le _
theorem encN_str {x : AI} {b b' : Nat × (Nat -> Int)} (h : EncN x b) (h' : EncN x b') : rowStr (fun e => .var (b.2 e)) 0 (encLen x) = rowStr (fun e => .var (b'.2 e)) 0 (encLen x) := by
  refine rowStr_eq rfl fun e he => ?_
  unfold encLen at he
  split at he
  · rename_i hE; rw [(h.ok hE).cell e he, (h'.ok hE).cell e he]
  · exact absurd he (Nat.not_lt_zero e)
def wlInv (len : Nat) (a : WlSt) : Prop := a.k <= len
theorem wSame_ok (X : Nat -> AI) (cap : Nat) : wSame X cap := ⟨rfl, rfl, fun _ _ => rfl, fun _ _ => rfl, fun _ _ => rfl, fun _ _ => rfl, fun _ _ => rfl, fun _ _ => rfl, fun _ _ => rfl, fun _ _ => rfl, trivial⟩
theorem wSh_ok {x : AI} (h : in64 x.disp /\ in64 x.imm) : wSh x := ⟨⟨h.1.1, h.1.2⟩, h.2.1, h.2.2⟩
theorem nat_k (k : Nat) : 0 + Int.toNat (k : Int) = k := by simp
theorem wIx_ok {len cap k : Nat} (hk : k < len) (hlc : len <= cap) : wIx len cap (k : Int) := ask_ix (by simp; omega) (by simp; omega)
theorem wLd_ok {len cap k : Nat} (hk : k < len) (hlc : len <= cap) : wLd cap (k : Int) := decide_eq_true (by simp; omega)
theorem wRg_ok {X : Nat -> AI} {len cap : Nat} {a : WlSt} (hk : a.k < len) (hlc : len <= cap) (hl : len <= 4398046511104) (hX : in64 (X a.k).disp /\ in64 (X a.k).imm) : wRg av0 X len cap (wlInv len) (fun a => len - a.k) a := by
  have h1 : wIx len cap (a.k : Int) := wIx_ok hk hlc
  have h2 : wLd cap (a.k : Int) := wLd_ok hk hlc
  have h3 : wSh (X (0 + NE.den (IE.nat (.var (a.k : Int))))) := by
    show wSh (X (0 + Int.toNat (a.k : Int)))
    rw [nat_k]; exact wSh_ok hX
  have h4 : wTx av0 (X (0 + Int.toNat (a.k : Int))) := f_str rfl
  have h5 : wNx X len cap (wlInv len) (fun a => len - a.k) a := ⟨⟨a.k + 1⟩, hk, (by show len - (a.k + 1) < len - a.k; omega), rfl, rfl, (by
    show IntKind.i64.wrap ((a.k : Int) + 1) = ((a.k + 1 : Nat) : Int)
    rw [wrap_i64_in (by omega) (by omega)]; omega), wSame_ok X cap⟩
  unfold wRg
  simp only [h1, h2, h3, h4, h5, and_self]
theorem wInner_ok {X : Nat -> AI} {len cap : Nat} {a : WlSt} (hk : a.k < len) (hlc : len <= cap) (hl : len <= 4398046511104) (hX : in64 (X a.k).disp /\ in64 (X a.k).imm) {b b1 b2 : Nat × (Nat -> Int)} (hb : EncN (X a.k) b) (hb1 : EncN (X a.k) b1) (hb2 : EncN (X a.k) b2) :
    wInner av0 X len cap (wlInv len) (fun a => len - a.k) a b b1 b2 := by
  have hc := encN_cap hb
  unfold wInner
  rw [nat_k]
  refine ⟨fun s => s.cb = b.1 /\ s.c = b1 /\ s.t = b2 /\ s.i <= s.cb, fun s => s.cb - s.i, ⟨⟨0, b.2, b.1, b1, b2⟩, ⟨rfl, rfl, rfl, Nat.zero_le _⟩, by simp, rfl, rfl, rfl, fun _ _ => rfl, rfl, fun _ _ => rfl, rfl, fun _ _ => rfl, wSame_ok X cap⟩, ?_, fun _ _ h => h⟩
  rintro _ ⟨i, w, cb, c, t⟩ ⟨i1, i2, i3, i4⟩
  dsimp only at i1 i2 i3 i4 ⊢
  subst i1 i2 i3
  refine ⟨fun hlt => ?_, fun _ => ?_⟩
  · have hlt : (i : Int) < (b.1 : Int) := by simpa [BE.den, IE.den, cmpI_lss] using hlt
    have q1 : BE.den (.ite (.var (decide (b.1 <= b.1 /\ 0 + b.1 <= b.1))) (.var (decide (0 <= (i : Int) /\ (i : Int) < (b.1 : Int)))) (.lit false)) = true := ask_ix (by simp) (by simp; omega)
    have q2 : decide (0 + Int.toNat (i : Int) + 1 <= b.1) = true := decide_eq_true (by simp; omega)
    refine ⟨q1, q2, q1, q2, ⟨i + 1, fun e => IE.den (Bool.rec (motive := fun _ => IE) (.var (w e)) (.bits .xor .u8 (.var (w (0 + NE.den (IE.nat (.var (i : Int)))))) (.lit 255)) (Nat.beq e (0 + NE.den (IE.nat (.var (i : Int)))))), b.1, c, t⟩, ⟨rfl, rfl, rfl, ?_⟩, ?_, rfl, rfl, ?_, rfl, fun _ _ => rfl, rfl, fun _ _ => rfl, rfl, fun _ _ => rfl, wSame_ok X cap⟩
    · show i + 1 <= b.1
      omega
    · show b.1 - (i + 1) < b.1 - i
      omega
    · show IntKind.i64.wrap ((i : Int) + 1) = ((i + 1 : Nat) : Int)
      rw [wrap_i64_in (by omega) (by omega)]; omega
  · have l1 := encN_len hb1
    have l2 := encN_len hb2
    have d1 : decide (0 + encLen (X a.k) <= c.1) = true := decide_eq_true (by omega)
    have d2 : decide (0 + encLen (X a.k) <= t.1) = true := decide_eq_true (by omega)
    have hr := wRg_ok hk hlc hl hX
    exact ⟨f_not (encN_str hb hb2), ⟨d1, d2, f_str (encN_str hb1 hb2), f_neq _, hr⟩, d2, d1, f_str (encN_str hb1 hb2), f_neq _, hr⟩
theorem bad_same {X : Nat -> AI} {n i j : Nat} (h : BytesB X n i) (h' : BytesB X n j) : i = j := by
  rcases Nat.lt_trichotomy i j with hlt | he | hlt
  · exact absurd (h'.ok i hlt) h.bad
  · exact he
  · exact absurd (h.ok j hlt) h'.bad
theorem wTail_ok {X : Nat -> AI} {len cap : Nat} (hlc : len <= cap) (hl : len <= 4398046511104) : wTail X len cap yes := by
  unfold wTail
  refine ⟨ask2 hlc, fun cs hcs => ?_⟩
  have hX : XG cs = X := by rw [hcs]; rfl
  rw [hX]
  refine ⟨⟨⟨X, by rw [hcs]; rfl⟩, hlc, hl⟩, fun b hx => ⟨ask2 hlc, fun cs2 hcs2 => ?_⟩, fun i hi => ⟨ask2 hlc, fun cs2 hcs2 => ?_⟩⟩
  · have hX2 : XG cs2 = X := by rw [hcs2]; rfl
    rw [hX2]
    refine ⟨⟨⟨X, by rw [hcs2]; rfl⟩, hlc, hl⟩, fun b1 hx1 => ?_, fun i hi => absurd (hx.ok i hi.lt) hi.bad⟩
    have h1 := hx.len
    have h2 := hx1.len
    exact ⟨decide_eq_true (by omega), decide_eq_true (by omega), fun _ ν => rfl, fun hq => f_eq (rowStr_eq rfl fun e he => by rw [hx.cell e he, hx1.cell e he]) hq⟩
  · have hX2 : XG cs2 = X := by rw [hcs2]; rfl
    rw [hX2]
    refine ⟨⟨⟨X, by rw [hcs2]; rfl⟩, hlc, hl⟩, fun b1 hx1 => absurd (hx1.ok i hi.lt) hi.bad, fun j hj => ?_⟩
    obtain rfl := bad_same hi hj
    exact ⟨fun _ ν => by simp [SV.den, BE.den, IE.den, cmpI_eql], fun hq => by simp [BE.den, IE.den, cmpI_eql] at hq⟩
theorem writes_sx {X : Nat -> AI} {len cap : Nat} (hlc : len <= cap) (hl : len <= 4398046511104) (hX : ∀ i, i < len -> in64 (X i).disp /\ in64 (X i).imm) :
    sxFunc P (AW av0 X cap) (fun _ => annA WlSt (wlSlots len cap) (fun _ => wlHp X cap) (wlInv len) (fun a => len - a.k)) Tryd.f4 [sl8 len cap] (wlHp X cap) (fun v _ => yes v) := by
  rw [writes_nf]
  refine ⟨⟨⟨0⟩, Nat.zero_le _, rfl, rfl, rfl, wSame_ok X cap⟩, ?_, fun _ _ h => h⟩
  rintro _ ⟨k⟩ hk
  have hk : k <= len := hk
  dsimp only
  refine ⟨fun hlt => ?_, fun _ => wTail_ok hlc hl⟩
  have hlt : (k : Int) < (len : Int) := by simpa [BE.den, IE.den, cmpI_lss] using hlt
  have hk : k < len := by omega
  have h1 : wIx len cap (k : Int) := wIx_ok hk hlc
  have h2 : wLd cap (k : Int) := wLd_ok hk hlc
  rw [nat_k]
  have key : ∀ {b : Nat × (Nat -> Int)}, AV.O av0 (X (0 + NE.den (IE.nat (.var (k : Int))))) b -> EncN (X k) b := fun {b} h => by
    have h : EncN (X (0 + Int.toNat (k : Int))) b := h
    rw [nat_k] at h; exact h
  refine ⟨h1, h2, trivial, fun b hb => ⟨h1, h2, trivial, fun b1 hb1 => ⟨h1, h2, trivial, fun b2 hb2 => ?_⟩⟩⟩
  have hb := key hb
  have hb1 := key hb1
  have hb2 := key hb2
  have l0 := encN_len hb
  have l2 := encN_len hb2
  exact ⟨decide_eq_true (show 0 + encLen (X k) <= b.1 by omega), decide_eq_true (show 0 + encLen (X k) <= b2.1 by omega), ask_ix (decide_eq_true (show encLen (X k) <= b.1 /\ 0 + b.1 <= b.1 by omega)) (decide_eq_true (by omega)), wInner_ok (a := ⟨k⟩) hk hlc hl (hX k hk) hb hb1 hb2⟩
end Go.Proofs.YtajcmjjgnbaahaaDoor.Amd
