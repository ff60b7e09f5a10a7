/- The reference's Read: the contract of the program's own. -/
import Derived.Test.YtajcmjjgnbaahaaRg12
namespace Go.Proofs.Ytajcmjjgnbaahaa.Amd
open Go Go.Proofs.Ytajcmjjgnbaahaa.Sx Go.RowKit
set_option linter.unusedVariables false
set_option linter.unusedSimpArgs false

def rrT : List (FuncId × Cal) := [(14, .spec decM decG)]
theorem rrT_ok : GammaOk P (table rrT) := table_cons (spec_cal rdecode_ok) fun g s h => by simp [table] at h
noncomputable def RR : FuncId → Option Cal := inl P (fun _ _ => 40) (table rrT) 4
theorem RR_ok : GammaOk P RR := inl_ok rrT_ok 4
theorem rread_nf (g : Nat → Int) (len cap : Nat) (I : ReSt → Prop) (M : ReSt → Nat) (O : RdR → Prop) (B : Nat → Prop) : sxFunc P RR (fun _ => annA ReSt (reSlots len cap) (reHp g cap) I M) Try.f16 [slA 0 len cap] [rdRow g cap] (reQ g cap O B) =
    ((∃ a, I a ∧ len = len ∧ cap = cap ∧ ReSt.n a = 0 ∧ ReSt.c1 a = 0 ∧ ReSt.n a = 0 ∧ ReSt.c2 a = 0 ∧ 0 = (↑(ReSt.p a) : Int) ∧ cap = cap ∧ (∀ (e : Nat), e < cap → g e = g e) ∧ ReSt.c1 a = 0 ∧ ReSt.c2 a = 0 ∧ True) ∧ (∀ (u : Nat → Value) (a : ReSt), I a → (BE.den (BE.cmp BinOp.lss (IE.var (↑(ReSt.p a) : Int)) (IE.var (↑len : Int))) = true → BE.den (BE.ite (BE.var (decide (0 + cap ≤ cap))) (BE.var (decide (len ≤ cap))) (BE.lit false)) = true ∧ ∀ (cs' : List Col), cs' = List.map Col.nrm (shiftAll (NE.lit 0) [col8 g]) → ((∃ (g : Nat → Int), cs' = [Col.int IntKind.u8 fun e ↦ IE.var (g e)]) ∧ BGood (colG cs') len cap) ∧ (BE.den (BE.cmp BinOp.neq (IE.var (Prod.snd (Prod.snd (decOut (colG cs') len (↑(ReSt.p a) : Int))))) (IE.lit 0)) = true → (∃ (b : _), O b ∧ RdR.n b = 0 ∧ RdR.c1 b = 0 ∧ RdR.n b = 0 ∧ RdR.c2 b = 0 ∧ StuckAt 52) ∨ ∃ (b : _), B b ∧ (↑(ReSt.p a) : Int) = (↑b : Int) ∧ cap = cap ∧ (∀ (e : Nat), e < cap → g e = g e) ∧ True) ∧ (BE.den (BE.cmp BinOp.neq (IE.var (Prod.snd (Prod.snd (decOut (colG cs') len (↑(ReSt.p a) : Int))))) (IE.lit 0)) = false → decide (0 + ReSt.n a ≤ ReSt.c1 a) = true ∧ decide (ReSt.c1 a ≤ ReSt.c1 a) = true ∧ decide (ReSt.c1 a ≤ 9223372036854775807) = true ∧ Nat.le (NE.den (NE.two (fun x1 x2 ↦ x1 + x2) (NE.var (ReSt.n a)) (NE.lit (0 + 1))) * 56) 140737488355328 ∧ ∀ (U : Unk) (cap_1 : Nat), NE.den (NE.two (fun x1 x2 ↦ x1 + x2) (NE.var (ReSt.n a)) (NE.lit (0 + 1))) ≤ cap_1 → cap_1 ≤ 9223372036854775807 → decide (0 + ReSt.n a ≤ ReSt.c2 a) = true ∧ decide (ReSt.c2 a ≤ ReSt.c2 a) = true ∧ decide (ReSt.c2 a ≤ 9223372036854775807) = true ∧ Nat.le (NE.den (NE.two (fun x1 x2 ↦ x1 + x2) (NE.var (ReSt.n a)) (NE.lit (0 + 1))) * 8) 140737488355328 ∧ ∀ (U_1 : Unk) (cap_2 : Nat), NE.den (NE.two (fun x1 x2 ↦ x1 + x2) (NE.var (ReSt.n a)) (NE.lit (0 + 1))) ≤ cap_2 → cap_2 ≤ 9223372036854775807 → ∃ a', I a' ∧ Nat.le (Nat.succ (M a')) (M a) ∧ len = len ∧ cap = cap ∧ ReSt.n a + 1 = ReSt.n a' ∧ cap_1 = ReSt.c1 a' ∧ ReSt.n a + 1 = ReSt.n a' ∧ cap_2 = ReSt.c2 a' ∧ Prod.fst (Prod.snd (decOut (colG cs') len (↑(ReSt.p a) : Int))) = (↑(ReSt.p a') : Int) ∧ cap = cap ∧ (∀ (e : Nat), e < cap → g e = g e) ∧ cap_1 = ReSt.c1 a' ∧ (∀ (e : Nat), e < ReSt.c1 a' → IE.den (Bool.rec (motive := fun _ => IE) (bif Nat.blt e (ReSt.n a + (0 + 1)) then cellN (Prod.fst (decOut (colG cs') len (↑(ReSt.p a) : Int))) ((0 / 8 + (e - ReSt.n a)) * 8 + 0) else IE.var (Unk.i U 0 e)) (IE.var (AI.op (ReSt.M a e))) (Nat.blt e (ReSt.n a))) = AI.op (ReSt.M a' e)) ∧ (∀ (e : Nat), e < ReSt.c1 a' → BE.den (Bool.rec (motive := fun _ => BE) (bif Nat.blt e (ReSt.n a + (0 + 1)) then cellM (Prod.fst (decOut (colG cs') len (↑(ReSt.p a) : Int))) ((0 / 8 + (e - ReSt.n a)) * 8 + 1) else BE.var (Unk.b U (0 + 1) e)) (BE.var (AI.wide (ReSt.M a e))) (Nat.blt e (ReSt.n a))) = AI.wide (ReSt.M a' e)) ∧ (∀ (e : Nat), e < ReSt.c1 a' → BE.den (Bool.rec (motive := fun _ => BE) (bif Nat.blt e (ReSt.n a + (0 + 1)) then cellM (Prod.fst (decOut (colG cs') len (↑(ReSt.p a) : Int))) ((0 / 8 + (e - ReSt.n a)) * 8 + 2) else BE.var (Unk.b U (0 + 1 + 1) e)) (BE.var (AI.long (ReSt.M a e))) (Nat.blt e (ReSt.n a))) = AI.long (ReSt.M a' e)) ∧ (∀ (e : Nat), e < ReSt.c1 a' → IE.den (Bool.rec (motive := fun _ => IE) (bif Nat.blt e (ReSt.n a + (0 + 1)) then cellN (Prod.fst (decOut (colG cs') len (↑(ReSt.p a) : Int))) ((0 / 8 + (e - ReSt.n a)) * 8 + 3) else IE.var (Unk.i U (0 + 1 + 1 + 1) e)) (IE.var (AI.d (ReSt.M a e))) (Nat.blt e (ReSt.n a))) = AI.d (ReSt.M a' e)) ∧ (∀ (e : Nat), e < ReSt.c1 a' → IE.den (Bool.rec (motive := fun _ => IE) (bif Nat.blt e (ReSt.n a + (0 + 1)) then cellN (Prod.fst (decOut (colG cs') len (↑(ReSt.p a) : Int))) ((0 / 8 + (e - ReSt.n a)) * 8 + 4) else IE.var (Unk.i U (0 + 1 + 1 + 1 + 1) e)) (IE.var (AI.s (ReSt.M a e))) (Nat.blt e (ReSt.n a))) = AI.s (ReSt.M a' e)) ∧ (∀ (e : Nat), e < ReSt.c1 a' → IE.den (Bool.rec (motive := fun _ => IE) (bif Nat.blt e (ReSt.n a + (0 + 1)) then cellN (Prod.fst (decOut (colG cs') len (↑(ReSt.p a) : Int))) ((0 / 8 + (e - ReSt.n a)) * 8 + 5) else IE.var (Unk.i U (0 + 1 + 1 + 1 + 1 + 1) e)) (IE.var (AI.disp (ReSt.M a e))) (Nat.blt e (ReSt.n a))) = AI.disp (ReSt.M a' e)) ∧ (∀ (e : Nat), e < ReSt.c1 a' → IE.den (Bool.rec (motive := fun _ => IE) (bif Nat.blt e (ReSt.n a + (0 + 1)) then cellN (Prod.fst (decOut (colG cs') len (↑(ReSt.p a) : Int))) ((0 / 8 + (e - ReSt.n a)) * 8 + 6) else IE.var (Unk.i U (0 + 1 + 1 + 1 + 1 + 1 + 1) e)) (IE.var (AI.imm (ReSt.M a e))) (Nat.blt e (ReSt.n a))) = AI.imm (ReSt.M a' e)) ∧ (∀ (e : Nat), e < ReSt.c1 a' → IE.den (Bool.rec (motive := fun _ => IE) (bif Nat.blt e (ReSt.n a + (0 + 1)) then cellN (Prod.fst (decOut (colG cs') len (↑(ReSt.p a) : Int))) ((0 / 8 + (e - ReSt.n a)) * 8 + 7) else IE.var (Unk.i U (0 + 1 + 1 + 1 + 1 + 1 + 1 + 1) e)) (IE.var (AI.cc (ReSt.M a e))) (Nat.blt e (ReSt.n a))) = AI.cc (ReSt.M a' e)) ∧ cap_2 = ReSt.c2 a' ∧ (∀ (e : Nat), e < ReSt.c2 a' → IE.den (Bool.rec (motive := fun _ => IE) (bif Nat.blt e (ReSt.n a + (0 + 1)) then cellS (↑(ReSt.p a) : Int) ((0 / 1 + (e - ReSt.n a)) * 1 + 0) else IE.var (Unk.i U_1 0 e)) (IE.var (ReSt.S a e)) (Nat.blt e (ReSt.n a))) = ReSt.S a' e) ∧ True)) ∧ (BE.den (BE.cmp BinOp.lss (IE.var (↑(ReSt.p a) : Int)) (IE.var (↑len : Int))) = false → (∃ (b : _), O b ∧ ReSt.n a = RdR.n b ∧ ReSt.c1 a = RdR.c1 b ∧ ReSt.n a = RdR.n b ∧ ReSt.c2 a = RdR.c2 b ∧ cap = cap ∧ (∀ (e : Nat), e < cap → g e = g e) ∧ ReSt.c1 a = RdR.c1 b ∧ (∀ (e : Nat), e < RdR.c1 b → AI.op (ReSt.M a e) = AI.op (RdR.M b e)) ∧ (∀ (e : Nat), e < RdR.c1 b → AI.wide (ReSt.M a e) = AI.wide (RdR.M b e)) ∧ (∀ (e : Nat), e < RdR.c1 b → AI.long (ReSt.M a e) = AI.long (RdR.M b e)) ∧ (∀ (e : Nat), e < RdR.c1 b → AI.d (ReSt.M a e) = AI.d (RdR.M b e)) ∧ (∀ (e : Nat), e < RdR.c1 b → AI.s (ReSt.M a e) = AI.s (RdR.M b e)) ∧ (∀ (e : Nat), e < RdR.c1 b → AI.disp (ReSt.M a e) = AI.disp (RdR.M b e)) ∧ (∀ (e : Nat), e < RdR.c1 b → AI.imm (ReSt.M a e) = AI.imm (RdR.M b e)) ∧ (∀ (e : Nat), e < RdR.c1 b → AI.cc (ReSt.M a e) = AI.cc (RdR.M b e)) ∧ ReSt.c2 a = RdR.c2 b ∧ (∀ (e : Nat), e < RdR.c2 b → ReSt.S a e = RdR.S b e) ∧ True) ∨ ∃ (b : _), B b ∧ StuckAt 65)) ∧ ∀ (u : Nat → Value) (b : Unit), False → False) := by kernel_rfl
set_option maxRecDepth 100000 in
theorem rlread_ok : SpecOk P 16 (rdSpec [.rows 1 zz1] rePre reOutsP) := by
  have hs := some_un fun un => func_sound (un := un) RR_ok Try.func16
  refine re_spec hs ?_
  intro g len cap hg hl
  refine ⟨fun _ => annA ReSt (reSlots len cap) (reHp g cap) (reInv g len) (fun a => len - a.p), ?_⟩
  rw [rread_nf]
  refine ⟨⟨⟨0, 0, 0, fun _ => zI, fun _ => 0, 0⟩, ⟨Nat.zero_le _, Nat.le_refl _, Nat.le_refl _, Nat.le_refl _, by decide, by decide, fun _ => 0, ⟨rfl, fun i hi => absurd hi (Nat.not_lt_zero i)⟩, rfl, fun i hi => absurd hi (Nat.not_lt_zero i)⟩, rfl, rfl, rfl, rfl, rfl, rfl, rfl, rfl, fun _ _ => rfl, rfl, rfl, trivial⟩, ?_, fun _ _ h => h⟩
  rintro _ ⟨n, c1, c2, M, S, p⟩ ⟨i1, i2, i3, i4, i5, i6, P', hP, hPn, hS⟩
  dsimp only at i1 i2 i3 i4 i5 i6 hP hPn hS ⊢
  refine ⟨fun hlt => ?_, fun hge => ?_⟩
  · have hlt : (p : Int) < (len : Int) := by simpa [BE.den, IE.den, cmpI_lss] using hlt
    have hp : p < len := by omega
    refine ⟨ask2 hg.room, fun cs' hcs => ?_⟩
    have hc : colG cs' = g := by rw [hcs]; rfl
    have hpre : ∃ (g : Nat → Int), cs' = [Col.int IntKind.u8 fun e ↦ IE.var (g e)] := by rw [hcs]; exact ⟨g, rfl⟩
    have hd : decOut g len (p : Int) = decOf (amdDec g len p) := by unfold decOut; rw [if_neg (by omega)]; simp
    rw [hc, hd]
    refine ⟨⟨hpre, hg⟩, fun hn => ?_, fun hn => ?_⟩
    · cases hz : amdDec g len p with
      | some z => rw [hz] at hn; simp [decOf, BE.den, IE.den, cmpI_neq] at hn
      | none =>
        right
        exact ⟨p, ⟨⟨n, M, P', hP, hPn⟩, hp, hz⟩, rfl, rfl, fun _ _ => rfl, trivial⟩
    · cases hz : amdDec g len p with
      | none => rw [hz] at hn; simp [decOf, BE.den, IE.den, cmpI_neq] at hn
      | some z =>
        obtain ⟨y, e⟩ := z
        obtain ⟨q1, q2⟩ := dec_end hg.byte hz
        dsimp only [decOf]
        refine ⟨decide_eq_true (by omega), decide_eq_true (Nat.le_refl _), decide_eq_true i5, ?_, fun U cap1 h1 h1' => ⟨decide_eq_true (by omega), decide_eq_true (Nat.le_refl _), decide_eq_true i6, ?_, fun U1 cap2 h2 h2' => ?_⟩⟩
        · show (n + (0 + 1)) * 56 ≤ 140737488355328
          omega
        · show (n + (0 + 1)) * 8 ≤ 140737488355328
          omega
        have h1 : n + (0 + 1) ≤ cap1 := h1
        have h2 : n + (0 + 1) ≤ cap2 := h2
        refine ⟨⟨n + 1, cap1, cap2, newM n M y U, newS n S p U1, e⟩, ⟨q2, by dsimp only; omega, h1, h2, h1', h2', fun i => if i ≤ n then P' i else e, ⟨?_, fun i hi => ?_⟩, ?_, fun i hi => ?_⟩, ?_, rfl, rfl, rfl, rfl, rfl, rfl, rfl, rfl, fun _ _ => rfl, rfl, ?_, ?_, ?_, ?_, ?_, ?_, ?_, ?_, rfl, ?_, trivial⟩
        · show (if 0 ≤ n then P' 0 else e) = 0
          rw [if_pos (Nat.zero_le _)]; exact hP.p0
        · have hi : i < n + 1 := hi
          show (if i ≤ n then P' i else e) < len ∧ amdDec g len (if i ≤ n then P' i else e) = some (newM n M y U i, if i + 1 ≤ n then P' (i + 1) else e)
          rw [if_pos (by omega)]
          by_cases hin : i < n
          · rw [if_pos (by omega), newM_lt hin]; exact hP.step i hin
          · obtain rfl : i = n := by omega
            rw [if_neg (by omega), newM_at rfl, hPn]; exact ⟨hp, hz⟩
        · show (if n + 1 ≤ n then P' (n + 1) else e) = e
          rw [if_neg (by omega)]
        · have hi : i < n + 1 := hi
          show newS n S p U1 i = ((if i ≤ n then P' i else e : Nat) : Int)
          rw [if_pos (by omega)]
          by_cases hin : i < n
          · rw [newS_lt hin]; exact hS i hin
          · obtain rfl : i = n := by omega
            rw [newS_at rfl, hPn]
        · show len - e < len - p
          omega
        · exact fun i _ => colI_new (x := (newM n M y U i).op) (fun h => by rw [newM_lt h]; rfl) (fun h => by rw [newM_at h]; subst h; rw [Nat.sub_self]; rfl) (fun h => by rw [newM_gt h]; rfl)
        · exact fun i _ => colB_new (x := (newM n M y U i).wide) (fun h => by rw [newM_lt h]; rfl) (fun h => by rw [newM_at h]; subst h; rw [Nat.sub_self]; rfl) (fun h => by rw [newM_gt h]; rfl)
        · exact fun i _ => colB_new (x := (newM n M y U i).long) (fun h => by rw [newM_lt h]; rfl) (fun h => by rw [newM_at h]; subst h; rw [Nat.sub_self]; rfl) (fun h => by rw [newM_gt h]; rfl)
        · exact fun i _ => colI_new (x := (newM n M y U i).d) (fun h => by rw [newM_lt h]; rfl) (fun h => by rw [newM_at h]; subst h; rw [Nat.sub_self]; rfl) (fun h => by rw [newM_gt h]; rfl)
        · exact fun i _ => colI_new (x := (newM n M y U i).s) (fun h => by rw [newM_lt h]; rfl) (fun h => by rw [newM_at h]; subst h; rw [Nat.sub_self]; rfl) (fun h => by rw [newM_gt h]; rfl)
        · exact fun i _ => colI_new (x := (newM n M y U i).disp) (fun h => by rw [newM_lt h]; rfl) (fun h => by rw [newM_at h]; subst h; rw [Nat.sub_self]; rfl) (fun h => by rw [newM_gt h]; rfl)
        · exact fun i _ => colI_new (x := (newM n M y U i).imm) (fun h => by rw [newM_lt h]; rfl) (fun h => by rw [newM_at h]; subst h; rw [Nat.sub_self]; rfl) (fun h => by rw [newM_gt h]; rfl)
        · exact fun i _ => colI_new (x := (newM n M y U i).cc) (fun h => by rw [newM_lt h]; rfl) (fun h => by rw [newM_at h]; subst h; rw [Nat.sub_self]; rfl) (fun h => by rw [newM_gt h]; rfl)
        · exact fun i _ => colI_new (x := newS n S p U1 i) (fun h => by rw [newS_lt h]; rfl) (fun h => by rw [newS_at h]; subst h; rw [Nat.sub_self]; rfl) (fun h => by rw [newS_gt h]; rfl)
  · have hge : ¬ (p : Int) < (len : Int) := by simpa [BE.den, IE.den, cmpI_lss] using hge
    obtain rfl : p = len := by omega
    left
    exact ⟨⟨n, c1, c2, M, S⟩, ⟨⟨P', hP, hPn, hS⟩, i3, i4, i5, i6⟩, rfl, rfl, rfl, rfl, rfl, fun _ _ => rfl, rfl, fun _ _ => rfl, fun _ _ => rfl, fun _ _ => rfl, fun _ _ => rfl, fun _ _ => rfl, fun _ _ => rfl, fun _ _ => rfl, fun _ _ => rfl, rfl, fun _ _ => rfl, trivial⟩
end Go.Proofs.Ytajcmjjgnbaahaa.Amd
