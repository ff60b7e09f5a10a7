/- AmdLists answers true. -/
import Derived.Test.YtajcmjjgnbaahaaBl4
namespace Go.Proofs.Ytajcmjjgnbaahaa.Amd
open Go Go.Proofs.Ytajcmjjgnbaahaa.Sx Go.RowKit
set_option linter.unusedVariables false
set_option linter.unusedSimpArgs false

theorem Chain.count {g : Nat → Int} {len n : Nat} {M : Nat → AI} {P : Nat → Nat} (h : Chain g len n M P) (hb : ∀ k, k < len → 0 ≤ g k ∧ g k < 256) : n ≤ P n := by
  obtain ⟨a1, _, _⟩ := h.reads hb (k := n) (Nat.le_refl _)
  rw [← a1]; exact catB_ge M fun i hi => (h.good hb hi).1
theorem catB_lt (X : Nat → AI) {n m : Nat} (h : ∀ i, i < m → amdErr (X i) = 0) (hn : n < m) : (catB X n).length < (catB X m).length := by
  have h1 := catB_mono X (show n + 1 ≤ m by omega)
  rw [catB_len] at h1
  have := bytes_len (h n hn)
  omega

/-- Whatever is read is written as it was. -/
theorem tailL_yes {h : Nat → Int} {m mc : Nat} (hb : BGood h m mc) (hm : m ≤ 1073741824) : tailL h m mc yes := by
  unfold tailL
  refine ⟨ask2 hb.room, fun cs' hcs => ?_⟩
  have hc : colG cs' = h := by rw [hcs]; rfl
  have hpre : ∃ (g : Nat → Int), cs' = [Col.int IntKind.u8 fun e ↦ IE.var (g e)] := by rw [hcs]; exact ⟨h, rfl⟩
  rw [hc]
  refine ⟨⟨hpre, hb, hm⟩, fun r hr => ?_, fun _ _ ν => rfl⟩
  obtain ⟨P', hP, hPn, hS⟩ := hr.all
  obtain ⟨a1, a2, a3⟩ := hP.reads hb.byte (k := r.n) (Nat.le_refl _)
  have hn := hP.count hb.byte
  have hr1 := hr.h1
  have hroom := hb.room
  refine ⟨ask2 hr1, fun cs2 hcs2 => ?_⟩
  have hX : XG cs2 = r.M := by rw [hcs2]; rfl
  rw [hX]
  refine ⟨⟨⟨r.M, by rw [hcs2]; rfl⟩, hr1, ?_⟩, fun b hx => ?_, fun i hi => absurd (hP.good hb.byte hi.lt).1 hi.bad⟩
  · show r.n ≤ 1099511627776
    omega
  · have := hx.len
    refine ⟨decide_eq_true (by omega), decide_eq_true (by omega), fun hq => n_str ?_ hq, fun _ ν => rfl⟩
    refine rowStr_eq (by omega) fun e he => ?_
    rw [hx.cell e he, ← reads_get a3 e he, Nat.zero_add]

def lInv (X : Nat → AI) (len T : Nat) (a : LSt) : Prop :=
  a.k ≤ len ∧ a.e = (catB X a.k).length ∧ len ≤ a.c1 ∧ len ≤ a.c2 ∧ (∀ i, i < len → a.M i = plain (X i)) ∧ ∀ i, i < len → a.S i = ((catB X i).length : Int)
theorem loopL_yes {X : Nat → AI} {len cap : Nat} (hlc : len ≤ cap) (hl : len ≤ 1048576) (hX : ∀ i, i < len → amdErr (X i) = 0) {h : Nat → Int} {m mc : Nat} (hb : BGood h m mc) (hm : m ≤ 1073741824)
    {cs' : List Col} (hcs : XG cs' = X) {b : Nat × (Nat → Int)} {r : RdR} (hn : r.n = len) (h1 : len ≤ r.c1) (h2 : len ≤ r.c2) (hM : ∀ i, i < len → r.M i = plain (X i)) (hS : ∀ i, i < len → r.S i = ((catB X i).length : Int)) :
    loopL X len cap h m mc (catB X len).length (lInv X len (catB X len).length) (fun a => len - a.k) yes cs' b r := by
  unfold loopL
  rw [hcs]
  refine ⟨⟨⟨0, 0, b.1, b.2, r.c1, r.M, r.c2, r.S⟩, ⟨Nat.zero_le _, rfl, h1, h2, hM, hS⟩, rfl, rfl, rfl, rfl, rfl, rfl, hn, rfl, hn, rfl, rfl, rfl, rfl, fun _ _ => rfl, rfl, fun _ _ => rfl, fun _ _ => rfl, fun _ _ => rfl, fun _ _ => rfl, fun _ _ => rfl, fun _ _ => rfl, fun _ _ => rfl, fun _ _ => rfl, rfl, fun _ _ => rfl, rfl, fun _ _ => rfl, fun _ _ => rfl, fun _ _ => rfl, fun _ _ => rfl, fun _ _ => rfl, fun _ _ => rfl, fun _ _ => rfl, fun _ _ => rfl, rfl, fun _ _ => rfl, trivial⟩, ?_, fun _ _ h => h⟩
  rintro _ ⟨k, e, wc, w, c1, M, c2, S⟩ ⟨i1, i2, i3, i4, i5, i6⟩
  dsimp only at i1 i2 i3 i4 i5 i6 ⊢
  have hkt : 0 + Int.toNat (k : Int) = k := by simp
  have hle := catB_le X (n := k) fun i hi => hX i (by omega)
  rw [hkt]
  refine ⟨fun hlt => ?_, fun hge => ?_⟩
  · have hlt : (k : Int) < (len : Int) := by simpa [BE.den, IE.den, cmpI_lss] using hlt
    have hk : k < len := by omega
    rw [i5 k hk, i6 k hk]
    refine ⟨ask_ix (by simp; omega) (by simp; omega), decide_eq_true (by omega), trivial, fun b2 hx => ?_, fun _ hne => absurd (hX k hk) hne⟩
    have hbl := bytes_len (hX k hk)
    refine ⟨ask_ix (by simp; omega) (by simp; omega), decide_eq_true (by omega), ask_ix (by simp; omega) (by simp; omega), decide_eq_true (by omega), fun hq => n_same hq, fun _ => ⟨ask_ix (by simp; omega) (by simp; omega), decide_eq_true (by omega), fun hq => n_neq (by omega) hq, fun _ => ?_⟩⟩
    refine ⟨⟨k + 1, e + (amdBytes (X k)).length, wc, w, c1, M, c2, S⟩, ⟨hk, ?_, i3, i4, i5, i6⟩, ?_, rfl, rfl, rfl, rfl, rfl, rfl, rfl, rfl, rfl, rfl, ?_, ?_, rfl, fun _ _ => rfl, rfl, fun _ _ => rfl, fun _ _ => rfl, fun _ _ => rfl, fun _ _ => rfl, fun _ _ => rfl, fun _ _ => rfl, fun _ _ => rfl, fun _ _ => rfl, rfl, fun _ _ => rfl, rfl, fun _ _ => rfl, fun _ _ => rfl, fun _ _ => rfl, fun _ _ => rfl, fun _ _ => rfl, fun _ _ => rfl, fun _ _ => rfl, fun _ _ => rfl, rfl, fun _ _ => rfl, trivial⟩
    · show e + (amdBytes (X k)).length = (catB X (k + 1)).length
      rw [catB_len, i2]
    · show len - (k + 1) < len - k
      omega
    · show IntKind.i64.wrap ((e : Int) + ((amdBytes (X k)).length : Int)) = ((e + (amdBytes (X k)).length : Nat) : Int)
      rw [wrap_i64_in (by omega) (by omega)]; omega
    · show IntKind.i64.wrap ((k : Int) + 1) = ((k + 1 : Nat) : Int)
      rw [wrap_i64_in (by omega) (by omega)]; omega
  · have hge : ¬ (k : Int) < (len : Int) := by simpa [BE.den, IE.den, cmpI_lss] using hge
    obtain rfl : k = len := by omega
    exact ⟨fun hq => n_neq (by omega) hq, fun _ => tailL_yes hb hm⟩

theorem lists_sx {X : Nat → AI} {len cap : Nat} (hlc : len ≤ cap) (hl : len ≤ 1048576) {h : Nat → Int} {m mc : Nat} (hb : BGood h m mc) (hm : m ≤ 1048576) :
    sxFunc P LL (fun _ => annA LSt (lSlots len cap m mc (catB X len).length) (lHp X cap h mc) (lInv X len (catB X len).length) (fun a => len - a.k)) Try.f5 [sl8 len cap, slA 1 m mc] [row8 X cap, rdRow h mc] (fun v _ => yes v) := by
  rw [lists_nf]
  refine ⟨ask2 hlc, fun cs' hcs => ?_⟩
  have hX : XG cs' = X := by rw [hcs]; rfl
  rw [hX]
  refine ⟨⟨⟨X, by rw [hcs]; rfl⟩, hlc, ?_⟩, fun b hx => ?_, fun i hi => ⟨fun hq => absurd (by simpa [BE.den, IE.den, cmpI_eql] using hq) hi.bad, fun _ => tailL_yes hb (by omega)⟩⟩
  · show len ≤ 1099511627776
    omega
  have hok := hx.ok
  have hle := catB_le X hok
  have hT := hx.len
  have hbyte : ∀ k, k < (catB X len).length → 0 ≤ b.2 k ∧ b.2 k < 256 := fun k hk => by rw [hx.cell k hk]; exact allB_get (catB_byte X hok) hk
  have hrd : reads b.2 0 (catB X len) := reads_of fun e he => by rw [Nat.zero_add]; exact hx.cell e he
  refine ⟨ask2 hT, fun cs2 hcs2 => ?_⟩
  have hc2 : colG cs2 = b.2 := by rw [hcs2]; rfl
  rw [hc2]
  refine ⟨⟨by rw [hcs2]; exact ⟨b.2, rfl⟩, ⟨hT, by omega, hbyte⟩, ?_⟩, fun r hr => ?_, fun p hp => ?_⟩
  · show (catB X len).length ≤ 1073741824
    omega
  · obtain ⟨P', hP, hPn, hS⟩ := hr.all
    obtain ⟨q1, q2, q3⟩ := hP.back hok hrd rfl (k := r.n) (Nat.le_refl _)
    have hn : r.n = len := by
      refine Classical.byContradiction fun hne => ?_
      have := catB_lt X hok (show r.n < len by omega)
      omega
    have r1 := hr.h1
    have r2 := hr.h2
    refine ⟨fun hq => n_neq (by omega) hq, fun _ => ⟨fun hq => n_neq (by omega) hq, fun _ => loopL_yes hlc hl hok hb (by omega) hX hn (by omega) (by omega) (fun i hi => q3 i (by omega)) fun i hi => ?_⟩⟩
    obtain ⟨s1, s2, s3⟩ := hP.back hok hrd rfl (k := i) (by omega)
    rw [hS i (by omega), s2]
  · exfalso
    obtain ⟨k, M, P', hP, hPk⟩ := hp.all
    have hlt := hp.lt
    obtain ⟨s1, s2, s3⟩ := hP.back hok hrd rfl (k := k) (Nat.le_refl _)
    have hk : k < len := by
      refine Classical.byContradiction fun hne => ?_
      obtain rfl : k = len := by omega
      omega
    have hm1 := catB_mono X (show k + 1 ≤ len by omega)
    rw [catB_len] at hm1
    have hd := dec_enc (g := b.2) (len := (catB X len).length) (hok k hk) (catB_reads hrd k hk) (by omega)
    have hbad := hp.bad
    rw [← hPk, s2, hd] at hbad
    cases hbad
end Go.Proofs.Ytajcmjjgnbaahaa.Amd
