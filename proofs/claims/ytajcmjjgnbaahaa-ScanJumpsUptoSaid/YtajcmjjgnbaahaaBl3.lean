/- Bytes and Read of lists of instructions: their contracts. -/
import Derived.Test.YtajcmjjgnbaahaaBl2
namespace Go.Proofs.Ytajcmjjgnbaahaa.Amd
open Go Go.Proofs.Ytajcmjjgnbaahaa.Sx Go.RowKit
set_option linter.unusedVariables false
set_option linter.unusedSimpArgs false

theorem some_un {f : FuncId} {G : FuncId → Option Cal} {fn : Func} (h : ∀ un, SpecOk P f (sxFunc P G un fn)) : SpecOk P f (fun args hp K => ∃ un, sxFunc P G un fn args hp K) := by
  intro B ν hp w args K h1 h2 h3 ⟨un, hx⟩
  exact h un B ν hp w args K h1 h2 h3 hx
def zz8 : List Col := cols8 fun _ => zI
/-! Bytes. -/
def byPre : Ins → List SV → Prop := fun ins pl => match ins, pl with
  | [(cs, len, cap)], [] => (∃ X : Nat → AI, cs = cols8 X) ∧ Nat.le len cap ∧ Nat.le len 1099511627776
  | _, _ => False
def byOutsP : Ins → List SV → List Out := fun ins pl => match ins, pl with
  | [(cs, len, _)], [] => byOuts (BytesO (XG cs) len) (BytesB (XG cs) len) (catB (XG cs) len).length (fun i => amdErr (XG cs i))
  | _, _ => []
theorem byPre_of {ins : Ins} {pl : List SV} (h : byPre ins pl) : ∃ (X : Nat → AI) (len cap : Nat), ins = [(cols8 X, len, cap)] ∧ pl = [] ∧ len ≤ cap ∧ len ≤ 1099511627776 := by
  unfold byPre at h
  split at h
  · obtain ⟨⟨X, rfl⟩, h2, h3⟩ := h
    exact ⟨X, _, _, rfl, rfl, h2, h3⟩
  · exact h.elim
theorem byOuts_good (O : Nat × (Nat → Int) → Prop) (B : Nat → Prop) (T : Nat) (eV : Nat → Int) : ∀ o ∈ byOuts O B T eV, o.good := by
  intro o ho
  unfold byOuts at ho
  simp only [List.mem_cons, List.not_mem_nil, or_false] at ho
  rcases ho with rfl | rfl
  · intro c
    refine ⟨⟨fun n m ν ν' h => ?_, fun n p h => ?_⟩, rfl, trivial⟩
    · have := h 0 (by simp)
      simp only [Nat.add_zero] at this
      simp [SV.den, SV.denL, this]
    · exact ⟨h 0 (by simp), trivial, trivial, trivial⟩
  · intro c
    exact ⟨⟨fun n m ν ν' h => rfl, fun n p h => ⟨trivial, trivial, trivial, trivial⟩⟩, rfl, trivial⟩
theorem by_spec {f : FuncId} {s : SpecFn} (hs : SpecOk P f s)
    (h : ∀ (X : Nat → AI) (len cap : Nat), len ≤ cap → len ≤ 1099511627776 → s [sl8 len cap] [row8 X cap] (byQ X cap (BytesO X len) (BytesB X len) (catB X len).length (fun i => amdErr (X i)))) :
    SpecOk P f (rdSpec [.rows 8 zz8] byPre byOutsP) := by
  refine rd_ok hs (fun sz zs h => by simp at h; obtain ⟨rfl, rfl⟩ := h; rfl) ?_ ?_
  · intro ins pl o ho
    unfold byOutsP at ho
    split at ho
    · exact byOuts_good _ _ _ _ o ho
    · simp at ho
  · intro ins pl u hi hw hp
    obtain ⟨X, len, cap, rfl, rfl, h1, h2⟩ := byPre_of hp
    exact h X len cap h1 h2
def byInv (X : Nat → AI) (len : Nat) (a : BySt) : Prop :=
  a.k ≤ len ∧ a.n = (catB X a.k).length ∧ a.n ≤ a.c ∧ a.c ≤ 9223372036854775807 ∧ (∀ i, i < a.k → amdErr (X i) = 0) ∧ ∀ e, e < a.n → a.w e = (catB X a.k).getD e 0
/-- What has been written, and so many bytes more, and what is not known. -/
def newW (n m : Nat) (w b : Nat → Int) (U : Unk) (e : Nat) : Int := if e < n then w e else if e < n + m then b (e - n) else U.i 0 e
theorem newW_col {n m e : Nat} {w b : Nat → Int} {U : Unk} : IE.den (Bool.rec (motive := fun _ => IE) (bif Nat.blt e (n + m) then IE.var (b (0 + (e - n))) else IE.var (Unk.i U 0 e)) (IE.var (w e)) (Nat.blt e n)) = newW n m w b U e := by
  unfold newW
  by_cases h1 : e < n
  · rw [blt_t h1, if_pos h1]; rfl
  · have hb : Nat.blt e n = false := blt_f (by omega)
    rw [hb, if_neg h1]
    by_cases h2 : e < n + m
    · rw [blt_t h2, if_pos h2, Nat.zero_add]; rfl
    · rw [blt_f (show n + m ≤ e by omega), if_neg h2]; rfl

set_option maxRecDepth 100000 in
theorem lbytes_ok : SpecOk P 19 (rdSpec [.rows 8 zz8] byPre byOutsP) := by
  have hs := some_un fun un => func_sound (un := un) E1_ok Try.func19
  refine by_spec hs ?_
  intro X len cap hlc hl
  refine ⟨fun _ => annA BySt (bySlots len cap) (byHp X cap) (byInv X len) (fun a => len - a.k), ?_⟩
  rw [bytes_nf]
  refine ⟨⟨⟨0, 0, 0, fun _ => 0⟩, ⟨Nat.zero_le _, rfl, Nat.le_refl _, by decide, fun i hi => absurd hi (Nat.not_lt_zero i), fun e he => absurd he (by simp)⟩, rfl, rfl, rfl, rfl, rfl, rfl, rfl, fun _ _ => rfl, fun _ _ => rfl, fun _ _ => rfl, fun _ _ => rfl, fun _ _ => rfl, fun _ _ => rfl, fun _ _ => rfl, fun _ _ => rfl, rfl, trivial⟩, ?_, fun _ _ h => h⟩
  rintro _ ⟨k, n, c, w⟩ ⟨i1, i2, i3, i4, i5, i6⟩
  dsimp only at i1 i2 i3 i4 i5 i6 ⊢
  have hkt : 0 + Int.toNat (k : Int) = k := by simp
  have hle := catB_le X i5
  refine ⟨fun hlt => ?_, fun hge => ?_⟩
  · have hlt : (k : Int) < (len : Int) := by simpa [BE.den, IE.den, cmpI_lss] using hlt
    have hk : k < len := by omega
    rw [hkt]
    refine ⟨ask_ix (by simp; omega) (by simp; omega), by simp; omega, trivial, fun b hx => ?_, fun _ hne => ⟨fun hn => ?_, fun hn => absurd (by simpa [BE.den, IE.den, cmpI_neq] using hn) hne⟩⟩
    · have hm := bytes_len hx.err
      have hc := hx.len
      refine ⟨decide_eq_true (by omega), decide_eq_true (by omega), decide_eq_true (Nat.le_refl _), decide_eq_true i4, ?_, fun U cap' h1 h2 => ?_⟩
      · show (n + (amdBytes (X k)).length) * 1 ≤ 140737488355328
        omega
      · have h1 : n + (amdBytes (X k)).length ≤ cap' := h1
        refine ⟨⟨k + 1, n + (amdBytes (X k)).length, cap', newW n (amdBytes (X k)).length w b.2 U⟩, ⟨hk, ?_, h1, h2, fun i hi => ?_, fun e he => ?_⟩, ?_, rfl, rfl, rfl, rfl, rfl, ?_, rfl, fun _ _ => rfl, fun _ _ => rfl, fun _ _ => rfl, fun _ _ => rfl, fun _ _ => rfl, fun _ _ => rfl, fun _ _ => rfl, fun _ _ => rfl, rfl, fun e _ => newW_col, trivial⟩
        · show n + (amdBytes (X k)).length = (catB X (k + 1)).length
          rw [catB_len, i2]
        · have hi : i < k + 1 := hi
          by_cases hik : i < k
          · exact i5 i hik
          · obtain rfl : i = k := by omega
            exact hx.err
        · have he : e < n + (amdBytes (X k)).length := he
          show newW n (amdBytes (X k)).length w b.2 U e = (catB X k ++ amdBytes (X k)).getD e 0
          unfold newW
          rw [List.getD_eq_getElem?_getD]
          by_cases h : e < n
          · rw [if_pos h, List.getElem?_append_left (by omega), i6 e h, List.getD_eq_getElem?_getD]
          · rw [if_neg h, if_pos he, List.getElem?_append_right (by omega), hx.cell (e - n) (by omega), List.getD_eq_getElem?_getD, i2]
        · show len - (k + 1) < len - k
          omega
        · show IntKind.i64.wrap ((k : Int) + 1) = ((k + 1 : Nat) : Int)
          rw [wrap_i64_in (by omega) (by omega)]; omega
    · right
      exact ⟨k, ⟨hk, hne, i5⟩, rfl, rfl, rfl, fun _ _ => rfl, fun _ _ => rfl, fun _ _ => rfl, fun _ _ => rfl, fun _ _ => rfl, fun _ _ => rfl, fun _ _ => rfl, fun _ _ => rfl, trivial⟩
  · have hge : ¬ (k : Int) < (len : Int) := by simpa [BE.den, IE.den, cmpI_lss] using hge
    obtain rfl : k = len := by omega
    left
    exact ⟨(c, w), ⟨i5, by rw [← i2]; exact i3, i4, by rw [← i2]; exact i6⟩, i2, rfl, rfl, fun _ _ => rfl, fun _ _ => rfl, fun _ _ => rfl, fun _ _ => rfl, fun _ _ => rfl, fun _ _ => rfl, fun _ _ => rfl, fun _ _ => rfl, rfl, fun _ _ => rfl, trivial⟩

/-! Read. -/
def rePre : Ins → List SV → Prop := fun ins pl => match ins, pl with
  | [(cs, len, cap)], [] => (∃ g : Nat → Int, cs = [.int .u8 fun e => .var (g e)]) ∧ BGood (colG cs) len cap ∧ Nat.le len 1073741824
  | _, _ => False
def reOutsP : Ins → List SV → List Out := fun ins pl => match ins, pl with
  | [(cs, len, _)], [] => reOuts (ReadO (colG cs) len) (ReadB (colG cs) len)
  | _, _ => []
theorem rePre_of {ins : Ins} {pl : List SV} (h : rePre ins pl) : ∃ (g : Nat → Int) (len cap : Nat), ins = [([.int .u8 fun e => .var (g e)], len, cap)] ∧ pl = [] ∧ BGood g len cap ∧ len ≤ 1073741824 := by
  unfold rePre at h
  split at h
  · obtain ⟨⟨g, rfl⟩, h2, h3⟩ := h
    exact ⟨g, _, _, rfl, rfl, h2, h3⟩
  · exact h.elim
theorem reOuts_good (O : RdR → Prop) (B : Nat → Prop) : ∀ o ∈ reOuts O B, o.good := by
  intro o ho
  unfold reOuts at ho
  simp only [List.mem_cons, List.not_mem_nil, or_false] at ho
  rcases ho with rfl | rfl
  · intro c
    refine ⟨⟨fun n m ν ν' h => ?_, fun n p h => ?_⟩, rfl, trivial⟩
    · have h0 := h 0 (by simp)
      have h1 := h 1 (by simp)
      simp only [Nat.add_zero] at h0
      simp [SV.den, SV.denL, h0, h1]
    · exact ⟨h 0 (by simp), h 1 (by simp), trivial, trivial, trivial⟩
  · intro c
    exact ⟨⟨fun n m ν ν' h => rfl, fun n p h => ⟨trivial, trivial, trivial, trivial, trivial⟩⟩, rfl, trivial⟩
theorem re_spec {f : FuncId} {s : SpecFn} (hs : SpecOk P f s)
    (h : ∀ (g : Nat → Int) (len cap : Nat), BGood g len cap → len ≤ 1073741824 → s [slA 0 len cap] [rdRow g cap] (reQ g cap (ReadO g len) (ReadB g len))) :
    SpecOk P f (rdSpec [.rows 1 zz1] rePre reOutsP) := by
  refine rd_ok hs (fun sz zs h => by simp at h; obtain ⟨rfl, rfl⟩ := h; rfl) ?_ ?_
  · intro ins pl o ho
    unfold reOutsP at ho
    split at ho
    · exact reOuts_good _ _ o ho
    · simp at ho
  · intro ins pl u hi hw hp
    obtain ⟨g, len, cap, rfl, rfl, h1, h2⟩ := rePre_of hp
    exact h g len cap h1 h2
def reInv (g : Nat → Int) (len : Nat) (a : ReSt) : Prop :=
  a.p ≤ len ∧ a.n ≤ a.p ∧ a.n ≤ a.c1 ∧ a.n ≤ a.c2 ∧ a.c1 ≤ 9223372036854775807 ∧ a.c2 ≤ 9223372036854775807 ∧ ∃ P : Nat → Nat, Chain g len a.n a.M P ∧ P a.n = a.p ∧ ∀ i, i < a.n → a.S i = P i
def newM (n : Nat) (M : Nat → AI) (y : AI) (U : Unk) (e : Nat) : AI :=
  if e < n then M e else if e = n then y else ⟨U.i 0 e, U.b 1 e, U.b 2 e, U.i 3 e, U.i 4 e, U.i 5 e, U.i 6 e, U.i 7 e⟩
def newS (n : Nat) (S : Nat → Int) (p : Int) (U : Unk) (e : Nat) : Int := if e < n then S e else if e = n then p else U.i 0 e
theorem colI_new {n e : Nat} {X Y Z : IE} {x : Int} (h1 : e < n → Z.den = x) (h2 : e = n → X.den = x) (h3 : n < e → Y.den = x) : IE.den (Bool.rec (motive := fun _ => IE) (bif Nat.blt e (n + (0 + 1)) then X else Y) Z (Nat.blt e n)) = x := by
  by_cases h : e < n
  · rw [blt_t h]; exact h1 h
  · have hb : Nat.blt e n = false := blt_f (by omega)
    rw [hb]
    by_cases h' : e = n
    · rw [blt_t (show e < n + (0 + 1) by omega)]; exact h2 h'
    · rw [blt_f (show n + (0 + 1) ≤ e by omega)]; exact h3 (by omega)
theorem colB_new {n e : Nat} {X Y Z : BE} {x : Bool} (h1 : e < n → Z.den = x) (h2 : e = n → X.den = x) (h3 : n < e → Y.den = x) : BE.den (Bool.rec (motive := fun _ => BE) (bif Nat.blt e (n + (0 + 1)) then X else Y) Z (Nat.blt e n)) = x := by
  by_cases h : e < n
  · rw [blt_t h]; exact h1 h
  · have hb : Nat.blt e n = false := blt_f (by omega)
    rw [hb]
    by_cases h' : e = n
    · rw [blt_t (show e < n + (0 + 1) by omega)]; exact h2 h'
    · rw [blt_f (show n + (0 + 1) ≤ e by omega)]; exact h3 (by omega)
theorem newM_lt {n e : Nat} {M : Nat → AI} {y : AI} {U : Unk} (h : e < n) : newM n M y U e = M e := if_pos h
theorem newM_at {n e : Nat} {M : Nat → AI} {y : AI} {U : Unk} (h : e = n) : newM n M y U e = y := by subst h; simp [newM]
theorem newM_gt {n e : Nat} {M : Nat → AI} {y : AI} {U : Unk} (h : n < e) : newM n M y U e = ⟨U.i 0 e, U.b 1 e, U.b 2 e, U.i 3 e, U.i 4 e, U.i 5 e, U.i 6 e, U.i 7 e⟩ := by
  unfold newM; rw [if_neg (by omega), if_neg (by omega)]
theorem newS_lt {n e : Nat} {S : Nat → Int} {p : Int} {U : Unk} (h : e < n) : newS n S p U e = S e := if_pos h
theorem newS_at {n e : Nat} {S : Nat → Int} {p : Int} {U : Unk} (h : e = n) : newS n S p U e = p := by subst h; simp [newS]
theorem newS_gt {n e : Nat} {S : Nat → Int} {p : Int} {U : Unk} (h : n < e) : newS n S p U e = U.i 0 e := by
  unfold newS; rw [if_neg (by omega), if_neg (by omega)]
theorem dec_end {g : Nat → Int} {len i e : Nat} {y : AI} (hb : ∀ k, k < len → 0 ≤ g k ∧ g k < 256) (h : amdDec g len i = some (y, e)) : i < e ∧ e ≤ len := by
  obtain ⟨e1, e2, e3, e4, e5⟩ := enc_dec hb h
  have := bytes_len e2
  omega

set_option maxRecDepth 100000 in
theorem lread_ok : SpecOk P 15 (rdSpec [.rows 1 zz1] rePre reOutsP) := by
  have hs := some_un fun un => func_sound (un := un) E1_ok Try.func15
  refine re_spec hs ?_
  intro g len cap hg hl
  refine ⟨fun _ => annA ReSt (reSlots len cap) (reHp g cap) (reInv g len) (fun a => len - a.p), ?_⟩
  rw [read_nf]
  refine ⟨⟨⟨0, 0, 0, fun _ => zI, fun _ => 0, 0⟩, ⟨Nat.zero_le _, Nat.le_refl _, Nat.le_refl _, Nat.le_refl _, by decide, by decide, fun _ => 0, ⟨rfl, fun i hi => absurd hi (Nat.not_lt_zero i)⟩, rfl, fun i hi => absurd hi (Nat.not_lt_zero i)⟩, rfl, rfl, rfl, rfl, rfl, rfl, rfl, rfl, fun _ _ => rfl, rfl, rfl, trivial⟩, ?_, fun _ _ h => h⟩
  rintro _ ⟨n, c1, c2, M, S, p⟩ ⟨i1, i2, i3, i4, i5, i6, P', hP, hPn, hS⟩
  dsimp only at i1 i2 i3 i4 i5 i6 hP hPn hS ⊢
  refine ⟨fun hlt => ?_, fun hge => ?_⟩
  · have hlt : (p : Int) < (len : Int) := by simpa [BE.den, IE.den, cmpI_lss] using hlt
    have hp : p < len := by omega
    refine ⟨ask2 hg.room, fun cs' hcs => ?_⟩
    have hc : colG cs' = g := by rw [hcs]; rfl
    have hpre : ∃ (g : Nat → Int), cs' = [Col.int IntKind.u8 fun e ↦ IE.var (g e)] := by rw [hcs]; exact ⟨g, rfl⟩
    have hd : decOut g len (p : Int) = decOf (amdDec g len p) := by unfold decOut; rw [if_neg (by omega)]; simp
    rw [hc, hd]
    refine ⟨⟨hpre, hg⟩, fun hn => ?_, fun hn => ?_⟩
    · cases hz : amdDec g len p with
      | some z => rw [hz] at hn; simp [decOf, BE.den, IE.den, cmpI_neq] at hn
      | none =>
        right
        exact ⟨p, ⟨⟨n, M, P', hP, hPn⟩, hp, hz⟩, rfl, rfl, rfl, fun _ _ => rfl, trivial⟩
    · cases hz : amdDec g len p with
      | none => rw [hz] at hn; simp [decOf, BE.den, IE.den, cmpI_neq] at hn
      | some z =>
        obtain ⟨y, e⟩ := z
        obtain ⟨q1, q2⟩ := dec_end hg.byte hz
        dsimp only [decOf]
        refine ⟨decide_eq_true (by omega), decide_eq_true (Nat.le_refl _), decide_eq_true i5, ?_, fun U cap1 h1 h1' => ⟨decide_eq_true (by omega), decide_eq_true (Nat.le_refl _), decide_eq_true i6, ?_, fun U1 cap2 h2 h2' => ?_⟩⟩
        · show (n + (0 + 1)) * 56 ≤ 140737488355328
          omega
        · show (n + (0 + 1)) * 8 ≤ 140737488355328
          omega
        have h1 : n + (0 + 1) ≤ cap1 := h1
        have h2 : n + (0 + 1) ≤ cap2 := h2
        refine ⟨⟨n + 1, cap1, cap2, newM n M y U, newS n S p U1, e⟩, ⟨q2, by dsimp only; omega, h1, h2, h1', h2', fun i => if i ≤ n then P' i else e, ⟨?_, fun i hi => ?_⟩, ?_, fun i hi => ?_⟩, ?_, rfl, rfl, rfl, rfl, rfl, rfl, rfl, rfl, fun _ _ => rfl, rfl, ?_, ?_, ?_, ?_, ?_, ?_, ?_, ?_, rfl, ?_, trivial⟩
        · show (if 0 ≤ n then P' 0 else e) = 0
          rw [if_pos (Nat.zero_le _)]; exact hP.p0
        · have hi : i < n + 1 := hi
          show (if i ≤ n then P' i else e) < len ∧ amdDec g len (if i ≤ n then P' i else e) = some (newM n M y U i, if i + 1 ≤ n then P' (i + 1) else e)
          rw [if_pos (by omega)]
          by_cases hin : i < n
          · rw [if_pos (by omega), newM_lt hin]; exact hP.step i hin
          · obtain rfl : i = n := by omega
            rw [if_neg (by omega), newM_at rfl, hPn]; exact ⟨hp, hz⟩
        · show (if n + 1 ≤ n then P' (n + 1) else e) = e
          rw [if_neg (by omega)]
        · have hi : i < n + 1 := hi
          show newS n S p U1 i = ((if i ≤ n then P' i else e : Nat) : Int)
          rw [if_pos (by omega)]
          by_cases hin : i < n
          · rw [newS_lt hin]; exact hS i hin
          · obtain rfl : i = n := by omega
            rw [newS_at rfl, hPn]
        · show len - e < len - p
          omega
        · exact fun i _ => colI_new (x := (newM n M y U i).op) (fun h => by rw [newM_lt h]; rfl) (fun h => by rw [newM_at h]; subst h; rw [Nat.sub_self]; rfl) (fun h => by rw [newM_gt h]; rfl)
        · exact fun i _ => colB_new (x := (newM n M y U i).wide) (fun h => by rw [newM_lt h]; rfl) (fun h => by rw [newM_at h]; subst h; rw [Nat.sub_self]; rfl) (fun h => by rw [newM_gt h]; rfl)
        · exact fun i _ => colB_new (x := (newM n M y U i).long) (fun h => by rw [newM_lt h]; rfl) (fun h => by rw [newM_at h]; subst h; rw [Nat.sub_self]; rfl) (fun h => by rw [newM_gt h]; rfl)
        · exact fun i _ => colI_new (x := (newM n M y U i).d) (fun h => by rw [newM_lt h]; rfl) (fun h => by rw [newM_at h]; subst h; rw [Nat.sub_self]; rfl) (fun h => by rw [newM_gt h]; rfl)
        · exact fun i _ => colI_new (x := (newM n M y U i).s) (fun h => by rw [newM_lt h]; rfl) (fun h => by rw [newM_at h]; subst h; rw [Nat.sub_self]; rfl) (fun h => by rw [newM_gt h]; rfl)
        · exact fun i _ => colI_new (x := (newM n M y U i).disp) (fun h => by rw [newM_lt h]; rfl) (fun h => by rw [newM_at h]; subst h; rw [Nat.sub_self]; rfl) (fun h => by rw [newM_gt h]; rfl)
        · exact fun i _ => colI_new (x := (newM n M y U i).imm) (fun h => by rw [newM_lt h]; rfl) (fun h => by rw [newM_at h]; subst h; rw [Nat.sub_self]; rfl) (fun h => by rw [newM_gt h]; rfl)
        · exact fun i _ => colI_new (x := (newM n M y U i).cc) (fun h => by rw [newM_lt h]; rfl) (fun h => by rw [newM_at h]; subst h; rw [Nat.sub_self]; rfl) (fun h => by rw [newM_gt h]; rfl)
        · exact fun i _ => colI_new (x := newS n S p U1 i) (fun h => by rw [newS_lt h]; rfl) (fun h => by rw [newS_at h]; subst h; rw [Nat.sub_self]; rfl) (fun h => by rw [newS_gt h]; rfl)
  · have hge : ¬ (p : Int) < (len : Int) := by simpa [BE.den, IE.den, cmpI_lss] using hge
    obtain rfl : p = len := by omega
    left
    exact ⟨⟨n, c1, c2, M, S⟩, ⟨⟨P', hP, hPn, hS⟩, i3, i4, i5, i6⟩, rfl, rfl, rfl, rfl, rfl, fun _ _ => rfl, rfl, fun _ _ => rfl, fun _ _ => rfl, fun _ _ => rfl, fun _ _ => rfl, fun _ _ => rfl, fun _ _ => rfl, fun _ _ => rfl, fun _ _ => rfl, rfl, fun _ _ => rfl, trivial⟩
end Go.Proofs.Ytajcmjjgnbaahaa.Amd
