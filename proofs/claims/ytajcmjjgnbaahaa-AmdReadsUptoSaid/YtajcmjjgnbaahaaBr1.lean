/- Read: its contract. -/
import Derived.Test.YtajcmjjgnbaahaaBl1
namespace Go.Proofs.Ytajcmjjgnbaahaa.Amd
open Go Go.Proofs.Ytajcmjjgnbaahaa.Sx Go.RowKit
set_option linter.unusedVariables false
set_option linter.unusedSimpArgs false

def rT : List (FuncId × Cal) := [(11, .spec decM decG)]
theorem rT_ok : GammaOk P (table rT) := table_cons (spec_cal decode_ok) fun g s h => by simp [table] at h
noncomputable def E2 : FuncId → Option Cal := inl P (fun _ _ => 40) (table rT) 4
theorem E2_ok : GammaOk P E2 := inl_ok rT_ok 4
/-- Read: how many, the rooms, what is read, where each begins, the place. -/
structure ReSt where
  n : Nat
  c1 : Nat
  c2 : Nat
  M : Nat → AI
  S : Nat → Int
  p : Nat
def reSlots (len cap : Nat) (a : ReSt) : List (Nat × SV) := [(0, slA 0 len cap), (6, .sliceE true 1 8 (.lit 0) (.var (ReSt.n a)) (.var (ReSt.c1 a))), (7, .sliceE true 2 1 (.lit 0) (.var (ReSt.n a)) (.var (ReSt.c2 a))), (8, .int .i64 (.var (ReSt.p a)))]
def reHp (g : Nat → Int) (cap : Nat) (a : ReSt) : List SObj := [rdRow g cap, .row true true (cols8 (ReSt.M a)) (.var (ReSt.c1 a)), .row true true [colI8 (ReSt.S a)] (.var (ReSt.c2 a))]
def reOuts (O : RdR → Prop) (B : Nat → Prop) : List Out :=
  [.any RdR O (fun r n => .tuple [.sliceE true n 8 (.lit 0) (.var (RdR.n r)) (.var (RdR.c1 r)), .sliceE true (n + 1) 1 (.lit 0) (.var (RdR.n r)) (.var (RdR.c2 r)), .int .i64 (.lit 0), .int .i64 (.lit 0)]) (fun r => [.row true true (cols8 (RdR.M r)) (.var (RdR.c1 r)), .row true true [colI8 (RdR.S r)] (.var (RdR.c2 r))]) (fun _ => []),
   .any Nat B (fun p _ => .tuple [.nils, .nils, .int .i64 (.lit 5), .int .i64 (.var (p : Nat))]) (fun _ => []) fun _ => []]
def reQ (g : Nat → Int) (cap : Nat) (O : RdR → Prop) (B : Nat → Prop) : SV → List SObj → Prop :=
  fun v hp => outsE (reOuts O B) fun o => o.some 1 fun val new _ => simAt 1 1 { tmps := [v], hp := hp } [(0, val)] ([rdRow g cap] ++ new)
def cells8 (y : AI) : List SV := [.int .i64 (.var y.op), .bool (.var y.wide), .bool (.var y.long), .int .i64 (.var y.d), .int .i64 (.var y.s), .int .i64 (.var y.disp), .int .i64 (.var y.imm), .int .i64 (.var y.cc)]
/-- A cell of a record that is laid behind others. -/
def cellN (y : AI) (k : Nat) : IE := match (cells8 y)[k]? with | some (SV.int k a) => a | x => IE.lit 0
def cellM (y : AI) (k : Nat) : BE := match (cells8 y)[k]? with | some (SV.bool a) => a | x => BE.lit false
def cellS (p : Int) (k : Nat) : IE := match [SV.int IntKind.i64 (IE.var p)][k]? with | some (SV.int k a) => a | x => IE.lit 0
theorem read_nf (g : Nat → Int) (len cap : Nat) (I : ReSt → Prop) (M : ReSt → Nat) (O : RdR → Prop) (B : Nat → Prop) : sxFunc P E2 (fun _ => annA ReSt (reSlots len cap) (reHp g cap) I M) Try.f15 [slA 0 len cap] [rdRow g cap] (reQ g cap O B) =
    ((∃ a, I a ∧ len = len ∧ cap = cap ∧ ReSt.n a = 0 ∧ ReSt.c1 a = 0 ∧ ReSt.n a = 0 ∧ ReSt.c2 a = 0 ∧ 0 = (↑(ReSt.p a) : Int) ∧ cap = cap ∧ (∀ (e : Nat), e < cap → g e = g e) ∧ ReSt.c1 a = 0 ∧ ReSt.c2 a = 0 ∧ True) ∧ (∀ (u : Nat → Value) (a : ReSt), I a → (BE.den (BE.cmp BinOp.lss (IE.var (↑(ReSt.p a) : Int)) (IE.var (↑len : Int))) = true → BE.den (BE.ite (BE.var (decide (0 + cap ≤ cap))) (BE.var (decide (len ≤ cap))) (BE.lit false)) = true ∧ ∀ (cs' : List Col), cs' = List.map Col.nrm (shiftAll (NE.lit 0) [col8 g]) → ((∃ (g : Nat → Int), cs' = [Col.int IntKind.u8 fun e ↦ IE.var (g e)]) ∧ BGood (colG cs') len cap) ∧ (BE.den (BE.cmp BinOp.neq (IE.var (Prod.snd (Prod.snd (decOut (colG cs') len (↑(ReSt.p a) : Int))))) (IE.lit 0)) = true → (∃ (b : _), O b ∧ RdR.n b = 0 ∧ RdR.c1 b = 0 ∧ RdR.n b = 0 ∧ RdR.c2 b = 0 ∧ Prod.snd (Prod.snd (decOut (colG cs') len (↑(ReSt.p a) : Int))) = 0 ∧ (↑(ReSt.p a) : Int) = 0 ∧ cap = cap ∧ (∀ (e : Nat), e < cap → g e = g e) ∧ RdR.c1 b = 0 ∧ RdR.c2 b = 0 ∧ True) ∨ ∃ (b : _), B b ∧ Prod.snd (Prod.snd (decOut (colG cs') len (↑(ReSt.p a) : Int))) = 5 ∧ (↑(ReSt.p a) : Int) = (↑b : Int) ∧ cap = cap ∧ (∀ (e : Nat), e < cap → g e = g e) ∧ True) ∧ (BE.den (BE.cmp BinOp.neq (IE.var (Prod.snd (Prod.snd (decOut (colG cs') len (↑(ReSt.p a) : Int))))) (IE.lit 0)) = false → decide (0 + ReSt.n a ≤ ReSt.c1 a) = true ∧ decide (ReSt.c1 a ≤ ReSt.c1 a) = true ∧ decide (ReSt.c1 a ≤ 9223372036854775807) = true ∧ Nat.le (NE.den (NE.two (fun x1 x2 ↦ x1 + x2) (NE.var (ReSt.n a)) (NE.lit (0 + 1))) * 56) 140737488355328 ∧ ∀ (U : Unk) (cap_1 : Nat), NE.den (NE.two (fun x1 x2 ↦ x1 + x2) (NE.var (ReSt.n a)) (NE.lit (0 + 1))) ≤ cap_1 → cap_1 ≤ 9223372036854775807 → decide (0 + ReSt.n a ≤ ReSt.c2 a) = true ∧ decide (ReSt.c2 a ≤ ReSt.c2 a) = true ∧ decide (ReSt.c2 a ≤ 9223372036854775807) = true ∧ Nat.le (NE.den (NE.two (fun x1 x2 ↦ x1 + x2) (NE.var (ReSt.n a)) (NE.lit (0 + 1))) * 8) 140737488355328 ∧ ∀ (U_1 : Unk) (cap_2 : Nat), NE.den (NE.two (fun x1 x2 ↦ x1 + x2) (NE.var (ReSt.n a)) (NE.lit (0 + 1))) ≤ cap_2 → cap_2 ≤ 9223372036854775807 → ∃ a', I a' ∧ Nat.le (Nat.succ (M a')) (M a) ∧ len = len ∧ cap = cap ∧ ReSt.n a + 1 = ReSt.n a' ∧ cap_1 = ReSt.c1 a' ∧ ReSt.n a + 1 = ReSt.n a' ∧ cap_2 = ReSt.c2 a' ∧ Prod.fst (Prod.snd (decOut (colG cs') len (↑(ReSt.p a) : Int))) = (↑(ReSt.p a') : Int) ∧ cap = cap ∧ (∀ (e : Nat), e < cap → g e = g e) ∧ cap_1 = ReSt.c1 a' ∧ (∀ (e : Nat), e < ReSt.c1 a' → IE.den (Bool.rec (motive := fun _ => IE) (bif Nat.blt e (ReSt.n a + (0 + 1)) then cellN (Prod.fst (decOut (colG cs') len (↑(ReSt.p a) : Int))) ((0 / 8 + (e - ReSt.n a)) * 8 + 0) else IE.var (Unk.i U 0 e)) (IE.var (AI.op (ReSt.M a e))) (Nat.blt e (ReSt.n a))) = AI.op (ReSt.M a' e)) ∧ (∀ (e : Nat), e < ReSt.c1 a' → BE.den (Bool.rec (motive := fun _ => BE) (bif Nat.blt e (ReSt.n a + (0 + 1)) then cellM (Prod.fst (decOut (colG cs') len (↑(ReSt.p a) : Int))) ((0 / 8 + (e - ReSt.n a)) * 8 + 1) else BE.var (Unk.b U (0 + 1) e)) (BE.var (AI.wide (ReSt.M a e))) (Nat.blt e (ReSt.n a))) = AI.wide (ReSt.M a' e)) ∧ (∀ (e : Nat), e < ReSt.c1 a' → BE.den (Bool.rec (motive := fun _ => BE) (bif Nat.blt e (ReSt.n a + (0 + 1)) then cellM (Prod.fst (decOut (colG cs') len (↑(ReSt.p a) : Int))) ((0 / 8 + (e - ReSt.n a)) * 8 + 2) else BE.var (Unk.b U (0 + 1 + 1) e)) (BE.var (AI.long (ReSt.M a e))) (Nat.blt e (ReSt.n a))) = AI.long (ReSt.M a' e)) ∧ (∀ (e : Nat), e < ReSt.c1 a' → IE.den (Bool.rec (motive := fun _ => IE) (bif Nat.blt e (ReSt.n a + (0 + 1)) then cellN (Prod.fst (decOut (colG cs') len (↑(ReSt.p a) : Int))) ((0 / 8 + (e - ReSt.n a)) * 8 + 3) else IE.var (Unk.i U (0 + 1 + 1 + 1) e)) (IE.var (AI.d (ReSt.M a e))) (Nat.blt e (ReSt.n a))) = AI.d (ReSt.M a' e)) ∧ (∀ (e : Nat), e < ReSt.c1 a' → IE.den (Bool.rec (motive := fun _ => IE) (bif Nat.blt e (ReSt.n a + (0 + 1)) then cellN (Prod.fst (decOut (colG cs') len (↑(ReSt.p a) : Int))) ((0 / 8 + (e - ReSt.n a)) * 8 + 4) else IE.var (Unk.i U (0 + 1 + 1 + 1 + 1) e)) (IE.var (AI.s (ReSt.M a e))) (Nat.blt e (ReSt.n a))) = AI.s (ReSt.M a' e)) ∧ (∀ (e : Nat), e < ReSt.c1 a' → IE.den (Bool.rec (motive := fun _ => IE) (bif Nat.blt e (ReSt.n a + (0 + 1)) then cellN (Prod.fst (decOut (colG cs') len (↑(ReSt.p a) : Int))) ((0 / 8 + (e - ReSt.n a)) * 8 + 5) else IE.var (Unk.i U (0 + 1 + 1 + 1 + 1 + 1) e)) (IE.var (AI.disp (ReSt.M a e))) (Nat.blt e (ReSt.n a))) = AI.disp (ReSt.M a' e)) ∧ (∀ (e : Nat), e < ReSt.c1 a' → IE.den (Bool.rec (motive := fun _ => IE) (bif Nat.blt e (ReSt.n a + (0 + 1)) then cellN (Prod.fst (decOut (colG cs') len (↑(ReSt.p a) : Int))) ((0 / 8 + (e - ReSt.n a)) * 8 + 6) else IE.var (Unk.i U (0 + 1 + 1 + 1 + 1 + 1 + 1) e)) (IE.var (AI.imm (ReSt.M a e))) (Nat.blt e (ReSt.n a))) = AI.imm (ReSt.M a' e)) ∧ (∀ (e : Nat), e < ReSt.c1 a' → IE.den (Bool.rec (motive := fun _ => IE) (bif Nat.blt e (ReSt.n a + (0 + 1)) then cellN (Prod.fst (decOut (colG cs') len (↑(ReSt.p a) : Int))) ((0 / 8 + (e - ReSt.n a)) * 8 + 7) else IE.var (Unk.i U (0 + 1 + 1 + 1 + 1 + 1 + 1 + 1) e)) (IE.var (AI.cc (ReSt.M a e))) (Nat.blt e (ReSt.n a))) = AI.cc (ReSt.M a' e)) ∧ cap_2 = ReSt.c2 a' ∧ (∀ (e : Nat), e < ReSt.c2 a' → IE.den (Bool.rec (motive := fun _ => IE) (bif Nat.blt e (ReSt.n a + (0 + 1)) then cellS (↑(ReSt.p a) : Int) ((0 / 1 + (e - ReSt.n a)) * 1 + 0) else IE.var (Unk.i U_1 0 e)) (IE.var (ReSt.S a e)) (Nat.blt e (ReSt.n a))) = ReSt.S a' e) ∧ True)) ∧ (BE.den (BE.cmp BinOp.lss (IE.var (↑(ReSt.p a) : Int)) (IE.var (↑len : Int))) = false → (∃ (b : _), O b ∧ ReSt.n a = RdR.n b ∧ ReSt.c1 a = RdR.c1 b ∧ ReSt.n a = RdR.n b ∧ ReSt.c2 a = RdR.c2 b ∧ cap = cap ∧ (∀ (e : Nat), e < cap → g e = g e) ∧ ReSt.c1 a = RdR.c1 b ∧ (∀ (e : Nat), e < RdR.c1 b → AI.op (ReSt.M a e) = AI.op (RdR.M b e)) ∧ (∀ (e : Nat), e < RdR.c1 b → AI.wide (ReSt.M a e) = AI.wide (RdR.M b e)) ∧ (∀ (e : Nat), e < RdR.c1 b → AI.long (ReSt.M a e) = AI.long (RdR.M b e)) ∧ (∀ (e : Nat), e < RdR.c1 b → AI.d (ReSt.M a e) = AI.d (RdR.M b e)) ∧ (∀ (e : Nat), e < RdR.c1 b → AI.s (ReSt.M a e) = AI.s (RdR.M b e)) ∧ (∀ (e : Nat), e < RdR.c1 b → AI.disp (ReSt.M a e) = AI.disp (RdR.M b e)) ∧ (∀ (e : Nat), e < RdR.c1 b → AI.imm (ReSt.M a e) = AI.imm (RdR.M b e)) ∧ (∀ (e : Nat), e < RdR.c1 b → AI.cc (ReSt.M a e) = AI.cc (RdR.M b e)) ∧ ReSt.c2 a = RdR.c2 b ∧ (∀ (e : Nat), e < RdR.c2 b → ReSt.S a e = RdR.S b e) ∧ True) ∨ ∃ (b : _), B b ∧ StuckAt 65)) ∧ ∀ (u : Nat → Value) (b : Unit), False → False) := by kernel_rfl
/-! Read. -/
def rePre : Ins → List SV → Prop := fun ins pl => match ins, pl with
  | [(cs, len, cap)], [] => (∃ g : Nat → Int, cs = [.int .u8 fun e => .var (g e)]) ∧ BGood (colG cs) len cap ∧ Nat.le len 1073741824
  | _, _ => False
def reOutsP : Ins → List SV → List Out := fun ins pl => match ins, pl with
  | [(cs, len, _)], [] => reOuts (ReadO (colG cs) len) (ReadB (colG cs) len)
  | _, _ => []
theorem rePre_of {ins : Ins} {pl : List SV} (h : rePre ins pl) : ∃ (g : Nat → Int) (len cap : Nat), ins = [([.int .u8 fun e => .var (g e)], len, cap)] ∧ pl = [] ∧ BGood g len cap ∧ len ≤ 1073741824 := by
  unfold rePre at h
  split at h
  · obtain ⟨⟨g, rfl⟩, h2, h3⟩ := h
    exact ⟨g, _, _, rfl, rfl, h2, h3⟩
  · exact h.elim
theorem reOuts_good (O : RdR → Prop) (B : Nat → Prop) : ∀ o ∈ reOuts O B, o.good := by
  intro o ho
  unfold reOuts at ho
  simp only [List.mem_cons, List.not_mem_nil, or_false] at ho
  rcases ho with rfl | rfl
  · intro c
    refine ⟨⟨fun n m ν ν' h => ?_, fun n p h => ?_⟩, rfl, trivial⟩
    · have h0 := h 0 (by simp)
      have h1 := h 1 (by simp)
      simp only [Nat.add_zero] at h0
      simp [SV.den, SV.denL, h0, h1]
    · exact ⟨h 0 (by simp), h 1 (by simp), trivial, trivial, trivial⟩
  · intro c
    exact ⟨⟨fun n m ν ν' h => rfl, fun n p h => ⟨trivial, trivial, trivial, trivial, trivial⟩⟩, rfl, trivial⟩
theorem re_spec {f : FuncId} {s : SpecFn} (hs : SpecOk P f s)
    (h : ∀ (g : Nat → Int) (len cap : Nat), BGood g len cap → len ≤ 1073741824 → s [slA 0 len cap] [rdRow g cap] (reQ g cap (ReadO g len) (ReadB g len))) :
    SpecOk P f (rdSpec [.rows 1 zz1] rePre reOutsP) := by
  refine rd_ok hs (fun sz zs h => by simp at h; obtain ⟨rfl, rfl⟩ := h; rfl) ?_ ?_
  · intro ins pl o ho
    unfold reOutsP at ho
    split at ho
    · exact reOuts_good _ _ o ho
    · simp at ho
  · intro ins pl u hi hw hp
    obtain ⟨g, len, cap, rfl, rfl, h1, h2⟩ := rePre_of hp
    exact h g len cap h1 h2
def reInv (g : Nat → Int) (len : Nat) (a : ReSt) : Prop :=
  a.p ≤ len ∧ a.n ≤ a.p ∧ a.n ≤ a.c1 ∧ a.n ≤ a.c2 ∧ a.c1 ≤ 9223372036854775807 ∧ a.c2 ≤ 9223372036854775807 ∧ ∃ P : Nat → Nat, Chain g len a.n a.M P ∧ P a.n = a.p ∧ ∀ i, i < a.n → a.S i = P i
def newM (n : Nat) (M : Nat → AI) (y : AI) (U : Unk) (e : Nat) : AI :=
  if e < n then M e else if e = n then y else ⟨U.i 0 e, U.b 1 e, U.b 2 e, U.i 3 e, U.i 4 e, U.i 5 e, U.i 6 e, U.i 7 e⟩
def newS (n : Nat) (S : Nat → Int) (p : Int) (U : Unk) (e : Nat) : Int := if e < n then S e else if e = n then p else U.i 0 e
theorem newM_lt {n e : Nat} {M : Nat → AI} {y : AI} {U : Unk} (h : e < n) : newM n M y U e = M e := if_pos h
theorem newM_at {n e : Nat} {M : Nat → AI} {y : AI} {U : Unk} (h : e = n) : newM n M y U e = y := by subst h; simp [newM]
theorem newM_gt {n e : Nat} {M : Nat → AI} {y : AI} {U : Unk} (h : n < e) : newM n M y U e = ⟨U.i 0 e, U.b 1 e, U.b 2 e, U.i 3 e, U.i 4 e, U.i 5 e, U.i 6 e, U.i 7 e⟩ := by
  unfold newM; rw [if_neg (by omega), if_neg (by omega)]
theorem newS_lt {n e : Nat} {S : Nat → Int} {p : Int} {U : Unk} (h : e < n) : newS n S p U e = S e := if_pos h
theorem newS_at {n e : Nat} {S : Nat → Int} {p : Int} {U : Unk} (h : e = n) : newS n S p U e = p := by subst h; simp [newS]
theorem newS_gt {n e : Nat} {S : Nat → Int} {p : Int} {U : Unk} (h : n < e) : newS n S p U e = U.i 0 e := by
  unfold newS; rw [if_neg (by omega), if_neg (by omega)]
set_option maxRecDepth 100000 in
theorem lread_ok : SpecOk P 15 (rdSpec [.rows 1 zz1] rePre reOutsP) := by
  have hs := some_un fun un => func_sound (un := un) E2_ok Try.func15
  refine re_spec hs ?_
  intro g len cap hg hl
  refine ⟨fun _ => annA ReSt (reSlots len cap) (reHp g cap) (reInv g len) (fun a => len - a.p), ?_⟩
  rw [read_nf]
  refine ⟨⟨⟨0, 0, 0, fun _ => zI, fun _ => 0, 0⟩, ⟨Nat.zero_le _, Nat.le_refl _, Nat.le_refl _, Nat.le_refl _, by decide, by decide, fun _ => 0, ⟨rfl, fun i hi => absurd hi (Nat.not_lt_zero i)⟩, rfl, fun i hi => absurd hi (Nat.not_lt_zero i)⟩, rfl, rfl, rfl, rfl, rfl, rfl, rfl, rfl, fun _ _ => rfl, rfl, rfl, trivial⟩, ?_, fun _ _ h => h⟩
  rintro _ ⟨n, c1, c2, M, S, p⟩ ⟨i1, i2, i3, i4, i5, i6, P', hP, hPn, hS⟩
  dsimp only at i1 i2 i3 i4 i5 i6 hP hPn hS ⊢
  refine ⟨fun hlt => ?_, fun hge => ?_⟩
  · have hlt : (p : Int) < (len : Int) := by simpa [BE.den, IE.den, cmpI_lss] using hlt
    have hp : p < len := by omega
    refine ⟨ask2 hg.room, fun cs' hcs => ?_⟩
    have hc : colG cs' = g := by rw [hcs]; rfl
    have hpre : ∃ (g : Nat → Int), cs' = [Col.int IntKind.u8 fun e ↦ IE.var (g e)] := by rw [hcs]; exact ⟨g, rfl⟩
    have hd : decOut g len (p : Int) = decOf (amdDec g len p) := by unfold decOut; rw [if_neg (by omega)]; simp
    rw [hc, hd]
    refine ⟨⟨hpre, hg⟩, fun hn => ?_, fun hn => ?_⟩
    · cases hz : amdDec g len p with
      | some z => rw [hz] at hn; simp [decOf, BE.den, IE.den, cmpI_neq] at hn
      | none =>
        right
        exact ⟨p, ⟨⟨n, M, P', hP, hPn⟩, hp, hz⟩, rfl, rfl, rfl, fun _ _ => rfl, trivial⟩
    · cases hz : amdDec g len p with
      | none => rw [hz] at hn; simp [decOf, BE.den, IE.den, cmpI_neq] at hn
      | some z =>
        obtain ⟨y, e⟩ := z
        obtain ⟨q1, q2⟩ := dec_end hg.byte hz
        dsimp only [decOf]
        refine ⟨decide_eq_true (by omega), decide_eq_true (Nat.le_refl _), decide_eq_true i5, ?_, fun U cap1 h1 h1' => ⟨decide_eq_true (by omega), decide_eq_true (Nat.le_refl _), decide_eq_true i6, ?_, fun U1 cap2 h2 h2' => ?_⟩⟩
        · show (n + (0 + 1)) * 56 ≤ 140737488355328
          omega
        · show (n + (0 + 1)) * 8 ≤ 140737488355328
          omega
        have h1 : n + (0 + 1) ≤ cap1 := h1
        have h2 : n + (0 + 1) ≤ cap2 := h2
        refine ⟨⟨n + 1, cap1, cap2, newM n M y U, newS n S p U1, e⟩, ⟨q2, by dsimp only; omega, h1, h2, h1', h2', fun i => if i ≤ n then P' i else e, ⟨?_, fun i hi => ?_⟩, ?_, fun i hi => ?_⟩, ?_, rfl, rfl, rfl, rfl, rfl, rfl, rfl, rfl, fun _ _ => rfl, rfl, ?_, ?_, ?_, ?_, ?_, ?_, ?_, ?_, rfl, ?_, trivial⟩
        · show (if 0 ≤ n then P' 0 else e) = 0
          rw [if_pos (Nat.zero_le _)]; exact hP.p0
        · have hi : i < n + 1 := hi
          show (if i ≤ n then P' i else e) < len ∧ amdDec g len (if i ≤ n then P' i else e) = some (newM n M y U i, if i + 1 ≤ n then P' (i + 1) else e)
          rw [if_pos (by omega)]
          by_cases hin : i < n
          · rw [if_pos (by omega), newM_lt hin]; exact hP.step i hin
          · obtain rfl : i = n := by omega
            rw [if_neg (by omega), newM_at rfl, hPn]; exact ⟨hp, hz⟩
        · show (if n + 1 ≤ n then P' (n + 1) else e) = e
          rw [if_neg (by omega)]
        · have hi : i < n + 1 := hi
          show newS n S p U1 i = ((if i ≤ n then P' i else e : Nat) : Int)
          rw [if_pos (by omega)]
          by_cases hin : i < n
          · rw [newS_lt hin]; exact hS i hin
          · obtain rfl : i = n := by omega
            rw [newS_at rfl, hPn]
        · show len - e < len - p
          omega
        · exact fun i _ => colI_new (x := (newM n M y U i).op) (fun h => by rw [newM_lt h]; rfl) (fun h => by rw [newM_at h]; subst h; rw [Nat.sub_self]; rfl) (fun h => by rw [newM_gt h]; rfl)
        · exact fun i _ => colB_new (x := (newM n M y U i).wide) (fun h => by rw [newM_lt h]; rfl) (fun h => by rw [newM_at h]; subst h; rw [Nat.sub_self]; rfl) (fun h => by rw [newM_gt h]; rfl)
        · exact fun i _ => colB_new (x := (newM n M y U i).long) (fun h => by rw [newM_lt h]; rfl) (fun h => by rw [newM_at h]; subst h; rw [Nat.sub_self]; rfl) (fun h => by rw [newM_gt h]; rfl)
        · exact fun i _ => colI_new (x := (newM n M y U i).d) (fun h => by rw [newM_lt h]; rfl) (fun h => by rw [newM_at h]; subst h; rw [Nat.sub_self]; rfl) (fun h => by rw [newM_gt h]; rfl)
        · exact fun i _ => colI_new (x := (newM n M y U i).s) (fun h => by rw [newM_lt h]; rfl) (fun h => by rw [newM_at h]; subst h; rw [Nat.sub_self]; rfl) (fun h => by rw [newM_gt h]; rfl)
        · exact fun i _ => colI_new (x := (newM n M y U i).disp) (fun h => by rw [newM_lt h]; rfl) (fun h => by rw [newM_at h]; subst h; rw [Nat.sub_self]; rfl) (fun h => by rw [newM_gt h]; rfl)
        · exact fun i _ => colI_new (x := (newM n M y U i).imm) (fun h => by rw [newM_lt h]; rfl) (fun h => by rw [newM_at h]; subst h; rw [Nat.sub_self]; rfl) (fun h => by rw [newM_gt h]; rfl)
        · exact fun i _ => colI_new (x := (newM n M y U i).cc) (fun h => by rw [newM_lt h]; rfl) (fun h => by rw [newM_at h]; subst h; rw [Nat.sub_self]; rfl) (fun h => by rw [newM_gt h]; rfl)
        · exact fun i _ => colI_new (x := newS n S p U1 i) (fun h => by rw [newS_lt h]; rfl) (fun h => by rw [newS_at h]; subst h; rw [Nat.sub_self]; rfl) (fun h => by rw [newS_gt h]; rfl)
  · have hge : ¬ (p : Int) < (len : Int) := by simpa [BE.den, IE.den, cmpI_lss] using hge
    obtain rfl : p = len := by omega
    left
    exact ⟨⟨n, c1, c2, M, S⟩, ⟨⟨P', hP, hPn, hS⟩, i3, i4, i5, i6⟩, rfl, rfl, rfl, rfl, rfl, fun _ _ => rfl, rfl, fun _ _ => rfl, fun _ _ => rfl, fun _ _ => rfl, fun _ _ => rfl, fun _ _ => rfl, fun _ _ => rfl, fun _ _ => rfl, fun _ _ => rfl, rfl, fun _ _ => rfl, trivial⟩
end Go.Proofs.Ytajcmjjgnbaahaa.Amd
