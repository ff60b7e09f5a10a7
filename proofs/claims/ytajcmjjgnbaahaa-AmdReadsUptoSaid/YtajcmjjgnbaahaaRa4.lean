/- What is read of the same bytes is the same; AmdReads answers true. -/
import Derived.Test.YtajcmjjgnbaahaaRa2
namespace Go.Proofs.Ytajcmjjgnbaahaa.Amd
open Go Go.Proofs.Ytajcmjjgnbaahaa.Sx Go.RowKit
set_option linter.unusedVariables false
set_option linter.unusedSimpArgs false

section
variable {g g' : Nat → Int} {len : Nat}
theorem dec_cut1 (hb : ∀ k, k < len → 0 ≤ g k ∧ g k < 256) (hc : ∀ k, k < len → g k = g' k) {i e : Nat} {y : AI} (h : amdDec g len i = some (y, e)) : amdDec g' len i = some (y, e) := by
  obtain ⟨d1, d2, d3, d4, d5⟩ := enc_dec hb h
  have hr : reads g' i (amdBytes y) := reads_cut (fun k _ hk => hc k (by omega)) d4
  have := dec_enc (len := len) d2 hr (by omega)
  rw [d3, d5] at this; exact this
theorem dec_cut (hb : ∀ k, k < len → 0 ≤ g k ∧ g k < 256) (hc : ∀ k, k < len → g k = g' k) (i : Nat) : amdDec g len i = amdDec g' len i := by
  cases h : amdDec g len i with
  | some z => obtain ⟨y, e⟩ := z; exact (dec_cut1 hb hc h).symm
  | none =>
    cases h' : amdDec g' len i with
    | none => rfl
    | some z =>
      obtain ⟨y, e⟩ := z
      have := dec_cut1 (g := g') (g' := g) (fun k hk => by rw [← hc k hk]; exact hb k hk) (fun k hk => (hc k hk).symm) h'
      rw [h] at this; cases this
theorem decOut_cut (hb : ∀ k, k < len → 0 ≤ g k ∧ g k < 256) (hc : ∀ k, k < len → g k = g' k) (a : Int) : decOut g len a = decOut g' len a := by
  unfold decOut; rw [dec_cut hb hc]
theorem chain_same {n n' : Nat} {M M' : Nat → AI} {P P' : Nat → Nat} (hd : ∀ i, amdDec g len i = amdDec g' len i) (h : Chain g len n M P) (h' : Chain g' len n' M' P') : ∀ i, i ≤ n → i ≤ n' → P i = P' i
  | 0, _, _ => by rw [h.p0, h'.p0]
  | i + 1, h1, h2 => by
    have e := chain_same hd h h' i (by omega) (by omega)
    have s := (h.step i (by omega)).2
    have s' := (h'.step i (by omega)).2
    rw [hd, e, s'] at s
    simp only [Option.some.injEq, Prod.mk.injEq] at s
    exact s.2.symm
theorem reads_oo (hd : ∀ i, amdDec g len i = amdDec g' len i) {r r' : RdR} (h : ReadO g len r) (h' : ReadO g' len r') : r.n = r'.n ∧ (∀ e, e < r.n → r.M e = r'.M e) ∧ ∀ e, e < r.n → r.S e = r'.S e := by
  obtain ⟨P, hP, hPn, hS⟩ := h.all
  obtain ⟨P', hP', hPn', hS'⟩ := h'.all
  have hs := chain_same hd hP hP'
  have hn : r.n = r'.n := by
    rcases Nat.lt_trichotomy r.n r'.n with hlt | he | hgt
    · have := hs r.n (Nat.le_refl _) (by omega)
      have := (hP'.step r.n hlt).1
      omega
    · exact he
    · have := hs r'.n (by omega) (Nat.le_refl _)
      have := (hP.step r'.n hgt).1
      omega
  refine ⟨hn, fun e he => ?_, fun e he => ?_⟩
  · have e1 := hs e (by omega) (by omega)
    have s := (hP.step e he).2
    have s' := (hP'.step e (by omega)).2
    rw [hd, e1, s'] at s
    simp only [Option.some.injEq, Prod.mk.injEq] at s
    exact s.1.symm
  · rw [hS e he, hS' e (by omega), hs e (by omega) (by omega)]
theorem reads_ob (hd : ∀ i, amdDec g len i = amdDec g' len i) {r : RdR} {p : Nat} (h : ReadO g len r) (h' : ReadB g' len p) : False := by
  obtain ⟨P, hP, hPn, hS⟩ := h.all
  obtain ⟨k, M', P', hP', hPk⟩ := h'.all
  have hlt := h'.lt
  have hs := chain_same hd hP hP'
  rcases Nat.lt_or_ge k r.n with hk | hk
  · have e := hs k (by omega) (Nat.le_refl _)
    have s := (hP.step k hk).2
    rw [hd, e, hPk, h'.bad] at s
    cases s
  · have e := hs r.n (Nat.le_refl _) hk
    rcases Nat.lt_or_ge r.n k with h2 | h2
    · have := (hP'.step r.n h2).1
      omega
    · have : r.n = k := by omega
      rw [this] at e hPn
      omega
theorem reads_bb (hd : ∀ i, amdDec g len i = amdDec g' len i) {p p' : Nat} (h : ReadB g len p) (h' : ReadB g' len p') : p = p' := by
  obtain ⟨k, M, P, hP, hPk⟩ := h.all
  obtain ⟨k', M', P', hP', hPk'⟩ := h'.all
  have hs := chain_same hd hP hP'
  rcases Nat.lt_trichotomy k k' with hlt | he | hgt
  · have e := hs k (Nat.le_refl _) (by omega)
    have s := (hP'.step k hlt).2
    rw [← hd, ← e, hPk, h.bad] at s
    cases s
  · have e := hs k (Nat.le_refl _) (by omega)
    rw [he] at e hPk
    omega
  · have e := hs k' (by omega) (Nat.le_refl _)
    have s := (hP.step k' hgt).2
    rw [hd, e, hPk', h'.bad] at s
    cases s
end
/-- The lent bytes. -/
noncomputable def lentW (g : Nat → Int) (len : Nat) (U U_1 : Unk) (e : Nat) : Int :=
  IE.den (Bool.rec (motive := fun _ => IE) (bif Nat.blt e (0 + len + (1 + 1)) then match [SV.int IntKind.u8 (IE.lit (77)), SV.int IntKind.u8 (IE.lit (78))][(0 / 1 + (e - (0 + len))) * 1 + 0]? with | some (SV.int k a) => a | x => IE.lit 0 else IE.var (Unk.i U_1 0 e)) (bif Nat.blt e 0 then IE.lit 0 else bif Nat.blt e (0 + len) then IE.var (g (0 + (e - 0))) else IE.var (Unk.i U 0 e)) (Nat.blt e (0 + len)))
theorem lentW_lt {g : Nat → Int} {len : Nat} {U U_1 : Unk} {e : Nat} (h : e < len) : lentW g len U U_1 e = g e := by
  unfold lentW
  rw [blt_t (show e < 0 + len by omega), blt_f (show 0 ≤ e by omega)]
  show g (0 + (e - 0)) = g e
  congr 1; omega
theorem lentW_at {g : Nat → Int} {len : Nat} {U U_1 : Unk} : lentW g len U U_1 len = 77 ∧ lentW g len U U_1 (len + 1) = 78 := by
  constructor
  · unfold lentW
    rw [blt_f (show 0 + len ≤ len by omega), blt_t (show len < 0 + len + (1 + 1) by omega), show (0 / 1 + (len - (0 + len))) * 1 + 0 = 0 by omega]; rfl
  · unfold lentW
    rw [blt_f (show 0 + len ≤ len + 1 by omega), blt_t (show len + 1 < 0 + len + (1 + 1) by omega), show (0 / 1 + (len + 1 - (0 + len))) * 1 + 0 = 1 by omega]; rfl
structure LentOk (g : Nat → Int) (len : Nat) (W : Nat → Int) (c : Nat) : Prop where
  lt : ∀ e, e < len → W e = g e
  a : W len = 77
  b : W (len + 1) = 78
  room : len + 2 ≤ c
  cap : c ≤ 9223372036854775807
theorem LentOk.good {g W : Nat → Int} {len cap c : Nat} (h : LentOk g len W c) (hg : BGood g len cap) : BGood W len c :=
  ⟨by have := h.room; omega, hg.small, fun k hk => by rw [h.lt k hk]; exact hg.byte k hk⟩
def raI (g : Nat → Int) (len m : Nat) (a : RaSt) : Prop := LentOk g len a.W a.c ∧ a.i ≤ m
structure RaJ (g : Nat → Int) (len : Nat) (a : RbSt) : Prop where
  lent : LentOk g len a.W a.c
  nm : a.n = a.m
  eq : ∀ e, e < a.n → a.S e = a.T e
  r1 : a.n ≤ a.c1
  r2 : a.m ≤ a.c2
  k1 : a.c1 ≤ 9223372036854775807
  i : a.i ≤ a.n
theorem add_l {len : Nat} (h : len ≤ 1073741824) (k : Nat) (hk : k ≤ 2) : IE.den (IE.add IntKind.i64 (IE.var (len : Int)) (IE.lit (k : Int))) = ((len + k : Nat) : Int) := by
  simp only [IE.den]; rw [wrap_i64_in (by omega) (by omega)]; omega
theorem inc_i {i n : Nat} (h : i < n) (hn : n ≤ 9223372036854775807) : IE.den (IE.add IntKind.i64 (IE.var (i : Int)) (IE.lit 1)) = ((i + 1 : Nat) : Int) := by
  simp only [IE.den]; rw [wrap_i64_in (by omega) (by omega)]; omega
theorem rbBody_ok {g h : Nat → Int} {len cap d : Nat} (hg : BGood g len cap) (hl : len ≤ 1073741824) : rbBody len cap d g h (RaJ g len) (fun a => a.n - a.i) yes := by
  rintro _ ⟨W, c, n, c1, S, m, c2, T, i⟩ hj
  have j1 := hj.lent
  have j2 := hj.nm
  have j3 := hj.eq
  have j4 := hj.r1
  have j5 := hj.r2
  have j6 := hj.k1
  have j7 := hj.i
  dsimp only at j1 j2 j3 j4 j5 j6 j7 ⊢
  have hrm := hg.room
  have hr := j1.room
  refine ⟨fun hlt => ?_, fun hge => ?_⟩
  · have hlt : (i : Int) < (n : Int) := by simpa [BE.den, IE.den, cmpI_lss] using hlt
    have t2 : 0 + Int.toNat (i : Int) = i := by omega
    rw [t2]
    refine ⟨ask_in j4 (by omega) hlt, decide_eq_true (by omega), ask_in j5 (by omega) (by omega), decide_eq_true (by omega), fun hn => n_neq (j3 i (by omega)) hn, fun _ => ?_⟩
    exact ⟨⟨W, c, n, c1, S, m, c2, T, i + 1⟩, ⟨j1, j2, j3, j4, j5, j6, by dsimp only; omega⟩, by show n - (i + 1) + 1 ≤ n - i; omega, rfl, rfl, rfl, rfl, rfl, rfl, rfl, rfl, inc_i (n := n) (by omega) (by omega), rfl, fun _ _ => rfl, rfl, fun _ _ => rfl, rfl, fun _ _ => rfl, rfl, fun _ _ => rfl, rfl, fun _ _ => rfl, trivial⟩
  · have e2 := add_l hl 2 (by decide)
    have e1 := add_l hl 1 (by decide)
    have t1 : 0 + Int.toNat (len : Int) = len := by omega
    have t2 : 0 + Int.toNat ((len + 1 : Nat) : Int) = len + 1 := by omega
    have t3 : Int.toNat ((len + 2 : Nat) : Int) = len + 2 := by omega
    have e2 : IE.den (IE.add IntKind.i64 (IE.var (len : Int)) (IE.lit 2)) = ((len + 2 : Nat) : Int) := e2
    have e1 : IE.den (IE.add IntKind.i64 (IE.var (len : Int)) (IE.lit 1)) = ((len + 1 : Nat) : Int) := e1
    rw [e2, e1, t1, t2, t3]
    have hs : rowStr (fun e => IE.var (W e)) 0 len = rowStr (fun e => IE.var (g e)) 0 len := rowStr_eq rfl j1.lt
    refine ⟨decide_eq_true (by omega), decide_eq_true (by omega), decide_eq_true (by omega), fun _ => ⟨decide_eq_true (by omega), decide_eq_true (by omega), fun _ => ⟨decide_eq_true (by omega), decide_eq_true (by omega), fun ν => ?_⟩, fun hn => ?_⟩, fun hn => ?_⟩
    · show Value.bool (BE.den (BE.cmp BinOp.eql (IE.var (W (len + 1))) (IE.lit 78))) = Value.bool true
      rw [d_eql, j1.b]; rfl
    · rw [d_eql, j1.a] at hn; cases hn
    · rw [hs, beq_self_eq_true] at hn; cases hn
theorem reads_true {g h : Nat → Int} {len cap m d : Nat} (hg : BGood g len cap) (hl : len ≤ 1073741824) (hm : m ≤ d) (hm2 : m ≤ 1073741824) :
    sxFunc P RA (raPlan g h len cap m d (raI g len m) (fun a => m - a.i) (RaJ g len) (fun a => a.n - a.i)) Try.f4 [slA 0 len cap, slA 1 m d] [rdRow g cap, .row false true [colI8 h] (.var d)] (fun v _ => yes v) = True := by
  apply eq_true
  rw [reads_nf]
  have hrm := hg.room
  have e2 : IE.den (IE.add IntKind.i64 (IE.var (len : Int)) (IE.lit 2)) = ((len + 2 : Nat) : Int) := add_l hl 2 (by decide)
  have t3 : Int.toNat ((len + 2 : Nat) : Int) = len + 2 := by omega
  rw [e2, t3]
  refine ⟨decide_eq_true (by omega), decide_eq_true (by omega), decide_eq_true (by omega), decide_eq_true (by omega), decide_eq_true (by omega), ?_, fun U cap1 h1 h1' => ?_⟩
  · show (0 + len) * 1 ≤ 140737488355328
    omega
  have h1 : 0 + len ≤ cap1 := h1
  refine ⟨decide_eq_true (by omega), decide_eq_true (Nat.le_refl _), decide_eq_true h1', ?_, fun U1 cap2 h2 h2' => ?_⟩
  · show (0 + len + (1 + 1)) * 1 ≤ 140737488355328
    omega
  have h2 : 0 + len + (1 + 1) ≤ cap2 := h2
  have hL : LentOk g len (lentW g len U U1) cap2 := ⟨fun e he => lentW_lt he, lentW_at.1, lentW_at.2, by omega, h2'⟩
  refine ⟨decide_eq_true (by omega), ⟨⟨lentW g len U U1, cap2, 0⟩, ⟨hL, Nat.zero_le _⟩, rfl, rfl, rfl, rfl, by omega, rfl, rfl, rfl, fun _ _ => rfl, rfl, fun _ _ => rfl, rfl, fun _ _ => rfl, trivial⟩, ?_, fun _ _ h => h⟩
  rintro _ ⟨W, c, i⟩ ⟨hW, hi⟩
  dsimp only at hW hi ⊢
  have hgW := hW.good hg
  have hcut : ∀ a : Int, decOut W len a = decOut g len a := fun a => decOut_cut hgW.byte (fun k hk => hW.lt k hk) a
  have hd : ∀ i, amdDec W len i = amdDec g len i := fun i => dec_cut hgW.byte (fun k hk => hW.lt k hk) i
  refine ⟨fun hlt => ?_, fun hge => ?_⟩
  · have hlt : (i : Int) < (m : Int) := by simpa [BE.den, IE.den, cmpI_lss] using hlt
    have t2 : 0 + Int.toNat (i : Int) = i := by omega
    rw [t2]
    have A1 := ask_in (x := (i : Int)) hm (by omega) hlt
    have A2 : decide (i + 1 ≤ d) = true := decide_eq_true (by omega)
    refine ⟨A1, A2, ask2 hgW.room, fun cs' hcs => ?_⟩
    have hc : colG cs' = W := by rw [hcs]; rfl
    rw [hc]
    refine ⟨⟨by rw [hcs]; exact ⟨W, rfl⟩, hgW⟩, A1, A2, ask2 hrm, fun ds hds => ?_⟩
    have hc' : colG ds = g := by rw [hds]; rfl
    rw [hc', hcut]
    refine ⟨⟨by rw [hds]; exact ⟨g, rfl⟩, hg⟩, fun hn => n_same hn, fun _ => ⟨fun hn => n_neq rfl hn, fun _ => ⟨fun hn => n_neq rfl hn, fun _ => ?_⟩⟩⟩
    exact ⟨⟨W, c, i + 1⟩, ⟨hW, by dsimp only; omega⟩, by show m - (i + 1) + 1 ≤ m - i; omega, rfl, rfl, rfl, rfl, rfl, rfl, inc_i (n := m) (by omega) (by omega), rfl, fun _ _ => rfl, rfl, fun _ _ => rfl, rfl, fun _ _ => rfl, trivial⟩
  · refine ⟨ask2 hgW.room, fun cs' hcs => ?_⟩
    have hc : colG cs' = W := by rw [hcs]; rfl
    rw [hc]
    refine ⟨⟨by rw [hcs]; exact ⟨W, rfl⟩, hgW, hl⟩, fun b hb => ⟨ask2 hrm, fun ds hds => ?_⟩, fun p hp => ⟨ask2 hrm, fun ds hds => ?_⟩⟩
    · have hc' : colG ds = g := by rw [hds]; rfl
      rw [hc']
      refine ⟨⟨by rw [hds]; exact ⟨g, rfl⟩, hg, hl⟩, fun b' hb' => ?_, fun p hp => (reads_ob hd hb hp).elim⟩
      obtain ⟨hn, hM, hS⟩ := reads_oo hd hb hb'
      refine ⟨ask2 hb.h1, ask2 hb'.h1, fun es hes fs hfs => ?_⟩
      have he : XG es = b.M := by rw [hes]; rfl
      have hf : XG fs = b'.M := by rw [hfs]; rfl
      refine ⟨⟨⟨by rw [hes]; exact ⟨b.M, rfl⟩, by rw [hfs]; exact ⟨b'.M, rfl⟩⟩, ⟨hb.h1, hb'.h1, hb.k1⟩, hn, fun e h => by rw [he, hf]; exact hM e h⟩, fun h => (by cases h), fun _ => ⟨fun h => n_neq (by rw [hn]) h, fun _ => ⟨?_, rbBody_ok hg hl, fun _ _ h => h⟩⟩⟩
      exact ⟨⟨W, c, b.n, b.c2, b.S, b'.n, b'.c2, b'.S, 0⟩, ⟨hW, hn, hS, hb.h2, hb'.h2, hb.k2, Nat.zero_le _⟩, rfl, rfl, rfl, rfl, rfl, rfl, rfl, rfl, rfl, rfl, fun _ _ => rfl, rfl, fun _ _ => rfl, rfl, fun _ _ => rfl, rfl, fun _ _ => rfl, rfl, fun _ _ => rfl, trivial⟩
    · have hc' : colG ds = g := by rw [hds]; rfl
      rw [hc']
      refine ⟨⟨by rw [hds]; exact ⟨g, rfl⟩, hg, hl⟩, fun b' hb' => (reads_ob (fun i => (hd i).symm) hb' hp).elim, fun p' hp' => ?_⟩
      have hpp := reads_bb hd hp hp'
      intro es hes fs hfs
      refine ⟨⟨⟨by rw [hes]; exact ⟨_, rfl⟩, by rw [hfs]; exact ⟨_, rfl⟩⟩, ⟨Nat.le_refl _, Nat.le_refl _, Nat.zero_le _⟩, rfl, fun e h => absurd h (Nat.not_lt_zero e)⟩, fun h => (by cases h), fun _ => ⟨fun h => n_neq (by rw [hpp]) h, fun _ => ⟨?_, rbBody_ok hg hl, fun _ _ h => h⟩⟩⟩
      exact ⟨⟨W, c, 0, 0, fun _ => 0, 0, 0, fun _ => 0, 0⟩, ⟨hW, rfl, fun _ _ => rfl, Nat.le_refl _, Nat.le_refl _, Nat.zero_le _, Nat.le_refl _⟩, rfl, rfl, rfl, rfl, rfl, rfl, rfl, rfl, rfl, rfl, fun _ _ => rfl, rfl, fun _ _ => rfl, rfl, fun _ _ => rfl, rfl, rfl, trivial⟩
end Go.Proofs.Ytajcmjjgnbaahaa.Amd
