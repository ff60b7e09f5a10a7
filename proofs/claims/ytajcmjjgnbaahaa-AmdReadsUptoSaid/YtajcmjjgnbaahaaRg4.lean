/- What bytes could be: as it is told. -/
import Derived.Test.YtajcmjjgnbaahaaRg3
namespace Go.Proofs.Ytajcmjjgnbaahaa.Amd
open Go Go.Proofs.Ytajcmjjgnbaahaa.Sx Go.RowKit
set_option linter.unusedVariables false
set_option linter.unusedSimpArgs false

/-- How many bytes a number has. -/
def szV (l : Bool) : Int := if l = true then 4 else 1
def szF : PureFn := fun args => match args with
  | [.bool l] => some (none, .int .i64 (.var (szV l.den)))
  | _ => none
theorem size_nf (l : Bool) (Q : SV → Prop) : sxFunc P A0 (fun _ => 40) Try.f47 [.bool (.var l)] [] (fun v _ => Q v) = ((l = true → Q (SV.int IntKind.i64 (IE.lit 4))) ∧ (l = false → Q (SV.int IntKind.i64 (IE.lit 1)))) := by kernel_rfl
theorem rsize_ok : PureOk P 47 szF := by
  have hs := func_sound (un := fun _ => 40) A0_ok Try.func47
  refine pure_of hs ?_
  intro args p v hF hp
  unfold szF at hF
  split at hF
  · rename_i l
    simp only [Option.some.injEq, Prod.mk.injEq] at hF
    obtain ⟨rfl, rfl⟩ := hF
    refine ⟨[.bool (.var l.den)], rfl, ⟨trivial, trivial⟩, ⟨trivial, trivial⟩, trivial, ?_⟩
    rw [size_nf]
    generalize l.den = l
    exact ⟨fun h => den_lit (by rw [h]; rfl), fun h => den_lit (by rw [h]; rfl)⟩
  · simp at hF
noncomputable def guT (k : Nat) : List (FuncId × Cal) := [(27, .spec (fmS1 k) (fmG1 k)), (47, .pure szF), (46, .spec (rdSpec [.rows 1 zz1, .plain, .plain] numPre numOuts) (rdGuess [.rows 1 zz1, .plain, .plain] numOuts))]
theorem guT_ok (k : Nat) : GammaOk P (table (guT k)) := table_cons (spec_cal (fm1_ok k)) (table_cons rsize_ok (table_cons (spec_cal rnumber_ok) fun g s h => by simp [table] at h))
noncomputable def GU (k : Nat) : FuncId → Option Cal := inl P (fun _ _ => .plain 40) (table (guT k)) 4
theorem GU_ok (k : Nat) : GammaOk P (GU k) := inl_ok (guT_ok k) 4
/-- The loop over short and long: where the code stands, what the prefix says, how far, what was guessed. -/
structure GuSt where
  p : Nat
  wide : Bool
  r : Int
  m : Int
  k : Nat
  c : Nat
  X : Nat → AI
  f : FmP
def fmC : Nat → Bool × Option Int × Option Int
  | 0 => (false, some 0, some 0)
  | 1 => (false, some 184, some 0)
  | 2 => (false, none, some 0)
  | 3 => (true, some 139, some 0)
  | 4 => (true, some 137, some 0)
  | 5 => (false, some 175, some 0)
  | 6 => (true, some 131, none)
  | 7 => (false, none, none)
  | 8 => (false, none, some 0)
  | 9 => (true, some 235, some 0)
  | 10 => (true, some 112, some 0)
  | _ => (false, some 195, some 0)
def fmL (k : Nat) (x : FmP) : List SV := [.int .i64 (.lit (k : Int)), .int .u8 (match (fmC k).2.1 with | some c => .lit c | none => .var (FmP.c x)), .int .u8 (match (fmC k).2.2 with | some n => .lit n | none => .var (FmP.n x)), .strE (FmP.w x), .bool (.lit (fmC k).1)]
def guSlots (op : Int) (len cap : Nat) (a : GuSt) : List (Nat × SV) :=
  [(0, slA 0 len cap), (2, .int .i64 (.var op)), (7, .ptr 1 0), (8, .int .i64 (.var (GuSt.p a))), (9, .bool (.var (GuSt.wide a))), (10, .int .i64 (.var (GuSt.r a))), (11, .int .i64 (.var (GuSt.m a))), (12, .sliceE true 2 8 (.lit 0) (.var (GuSt.k a)) (.var (GuSt.c a))), (13, .int .i64 (.var (GuSt.k a)))]
def guHp (k : Nat) (g : Nat → Int) (cap : Nat) (a : GuSt) : List SObj := [rdRow g cap, .cells (fmL k (GuSt.f a)) 73, .row true true (cols8 (GuSt.X a)) (.var (GuSt.c a))]
structure GuR where
  n : Nat
  c : Nat
  X : Nat → AI
def guOut (O : GuR → Prop) : Out := .any GuR O (fun r n => .sliceE true n 8 (.lit 0) (.var (GuR.n r)) (.var (GuR.c r))) (fun r => [.row true true (cols8 (GuR.X r)) (.var (GuR.c r))]) (fun _ => [])
def guQ (g : Nat → Int) (cap : Nat) (O : GuR → Prop) : SV → List SObj → Prop :=
  fun v hp => outsE [guOut O] fun o => o.some 1 fun val new _ => simAt 1 1 { tmps := [v], hp := hp } [(0, val)] ([rdRow g cap] ++ new)
def pN (a : GuSt) (n : Int) : IE := IE.add .i64 (.var (GuSt.p a : Int)) (.lit n)
def lgB (a : GuSt) : BE := BE.cmp .eql (.var (GuSt.k a : Int)) (.lit 1)
def szK (a : GuSt) : Int := szV (BE.den (lgB a))
def yRc (g : Nat → Int) (a : GuSt) (x : IE) : IE := .add .i64 (.var (GuSt.r a)) (.rem (.quo .i64 (.conv .i64 (.var (g (0 + Int.toNat x.den)))) (.lit 8)) (.lit 8))
def yBc (g : Nat → Int) (a : GuSt) (x : IE) : IE := .add .i64 (.var (GuSt.m a)) (.rem (.conv .i64 (.var (g (0 + Int.toNat x.den)))) (.lit 8))
def r0 (a : GuSt) : IE := .add .i64 (.var (GuSt.r a)) (.lit 0)
def m0 (a : GuSt) : IE := .add .i64 (.var (GuSt.m a)) (.lit 0)
def nmC (cs : List Col) (len : Nat) (x : IE) (n : Int) : IE := .var (numR (colG cs) len x.den n)
def ccC (g : Nat → Int) (x : IE) : IE := .conv .i64 (.rem (.var (g (0 + Int.toNat x.den))) (.lit 16))
def askGA (len cap : Nat) (x : IE) : Prop := BE.den (BE.ite (BE.var (decide (len ≤ cap ∧ 0 + cap ≤ cap))) (BE.var (decide (0 ≤ IE.den x ∧ IE.den x < (len : Int)))) (BE.lit false)) = true
def askGB (cap : Nat) (x : IE) : Prop := decide (0 + Int.toNat (IE.den x) + 1 ≤ cap) = true
def numAsk (g : Nat → Int) (len cap : Nat) (x : IE) (n : Int) (R : List Col → Prop) : Prop :=
  BE.den (BE.ite (BE.var (decide (0 + cap ≤ cap))) (BE.var (decide (len ≤ cap))) (BE.lit false)) = true ∧ ∀ (cs' : List Col), cs' = List.map Col.nrm (shiftAll (NE.lit 0) [col8 g]) →
    ((∃ (g : Nat → Int), cs' = [Col.int IntKind.u8 fun e ↦ IE.var (g e)]) ∧ BGood (colG cs') len cap ∧ (0 ≤ IE.den x ∧ IE.den x ≤ 4611686018427387999) ∧ (n = 1 ∨ n = 4)) ∧ R cs'
def eW (b : FmP) (a : GuSt) : Prop := FmP.w b = FmP.w (GuSt.f a) ∧ GuSt.c a = 0 ∧ True
def eCW (b : FmP) (a : GuSt) : Prop := FmP.c b = FmP.c (GuSt.f a) ∧ eW b a
def eNW (b : FmP) (a : GuSt) : Prop := FmP.n b = FmP.n (GuSt.f a) ∧ eW b a
def eCNW (b : FmP) (a : GuSt) : Prop := FmP.c b = FmP.c (GuSt.f a) ∧ eNW b a
def fW (a a' : GuSt) (R : Prop) : Prop := FmP.w (GuSt.f a) = FmP.w (GuSt.f a') ∧ R
def fCW (a a' : GuSt) (R : Prop) : Prop := FmP.c (GuSt.f a) = FmP.c (GuSt.f a') ∧ fW a a' R
def fNW (a a' : GuSt) (R : Prop) : Prop := FmP.n (GuSt.f a) = FmP.n (GuSt.f a') ∧ fW a a' R
def fCNW (a a' : GuSt) (R : Prop) : Prop := FmP.c (GuSt.f a) = FmP.c (GuSt.f a') ∧ fNW a a' R
/-- It ends with what was guessed. -/
def guFin (g : Nat → Int) (cap : Nat) (O : GuR → Prop) (a : GuSt) : Prop :=
  ∃ b, O b ∧ GuSt.k a = GuR.n b ∧ GuSt.c a = GuR.c b ∧ cap = cap ∧ (∀ (e : Nat), e < cap → g e = g e) ∧ GuSt.c a = GuR.c b ∧ (∀ (e : Nat), e < GuR.c b → AI.op (GuSt.X a e) = AI.op (GuR.X b e)) ∧ (∀ (e : Nat), e < GuR.c b → AI.wide (GuSt.X a e) = AI.wide (GuR.X b e)) ∧ (∀ (e : Nat), e < GuR.c b → AI.long (GuSt.X a e) = AI.long (GuR.X b e)) ∧ (∀ (e : Nat), e < GuR.c b → AI.d (GuSt.X a e) = AI.d (GuR.X b e)) ∧ (∀ (e : Nat), e < GuR.c b → AI.s (GuSt.X a e) = AI.s (GuR.X b e)) ∧ (∀ (e : Nat), e < GuR.c b → AI.disp (GuSt.X a e) = AI.disp (GuR.X b e)) ∧ (∀ (e : Nat), e < GuR.c b → AI.imm (GuSt.X a e) = AI.imm (GuR.X b e)) ∧ (∀ (e : Nat), e < GuR.c b → AI.cc (GuSt.X a e) = AI.cc (GuR.X b e)) ∧ True
/-- One more guess, of these fields. -/
def guNext (g : Nat → Int) (len cap : Nat) (op : Int) (I : GuSt → Prop) (M : GuSt → Nat) (a : GuSt) (F : GuSt → Prop → Prop) (o : IE) (w l : BE) (d s dp im cc : IE) : Prop :=
  decide (0 + GuSt.k a ≤ GuSt.c a) = true ∧ decide (GuSt.c a ≤ GuSt.c a) = true ∧ decide (GuSt.c a ≤ 9223372036854775807) = true ∧ Nat.le (NE.den (NE.two (fun x1 x2 ↦ x1 + x2) (NE.var (GuSt.k a)) (NE.lit (0 + 1))) * 56) 140737488355328 ∧ ∀ (U : Unk) (cap_1 : Nat), NE.den (NE.two (fun x1 x2 ↦ x1 + x2) (NE.var (GuSt.k a)) (NE.lit (0 + 1))) ≤ cap_1 → cap_1 ≤ 9223372036854775807 → ∃ a', I a' ∧ Nat.le (Nat.succ (M a')) (M a) ∧ len = len ∧ cap = cap ∧ op = op ∧ (↑(GuSt.p a) : Int) = (↑(GuSt.p a') : Int) ∧ GuSt.wide a = GuSt.wide a' ∧ GuSt.r a = GuSt.r a' ∧ GuSt.m a = GuSt.m a' ∧ GuSt.k a + 1 = GuSt.k a' ∧ cap_1 = GuSt.c a' ∧ IE.den (IE.add IntKind.i64 (IE.var (↑(GuSt.k a) : Int)) (IE.lit 1)) = (↑(GuSt.k a') : Int) ∧ cap = cap ∧ (∀ (e : Nat), e < cap → g e = g e) ∧ F a' (cap_1 = GuSt.c a' ∧ (∀ (e : Nat), e < GuSt.c a' → IE.den (Bool.rec (motive := fun _ => IE) (bif Nat.blt e (GuSt.k a + (0 + 1)) then match ([SV.int IntKind.i64 o, SV.bool w, SV.bool l, SV.int IntKind.i64 d, SV.int IntKind.i64 s, SV.int IntKind.i64 dp, SV.int IntKind.i64 im, SV.int IntKind.i64 cc] : List SV)[(0 / 8 + (e - GuSt.k a)) * 8 + 0]? with | some (SV.int k a) => a | x => IE.lit 0 else IE.var (Unk.i U 0 e)) (IE.var (AI.op (GuSt.X a e))) (Nat.blt e (GuSt.k a))) = AI.op (GuSt.X a' e)) ∧ (∀ (e : Nat), e < GuSt.c a' → BE.den (Bool.rec (bif Nat.blt e (GuSt.k a + (0 + 1)) then match ([SV.int IntKind.i64 o, SV.bool w, SV.bool l, SV.int IntKind.i64 d, SV.int IntKind.i64 s, SV.int IntKind.i64 dp, SV.int IntKind.i64 im, SV.int IntKind.i64 cc] : List SV)[(0 / 8 + (e - GuSt.k a)) * 8 + 1]? with | some (SV.bool a) => a | x => BE.lit false else BE.var (Unk.b U (0 + 1) e)) (BE.var (AI.wide (GuSt.X a e))) (Nat.blt e (GuSt.k a))) = AI.wide (GuSt.X a' e)) ∧ (∀ (e : Nat), e < GuSt.c a' → BE.den (Bool.rec (bif Nat.blt e (GuSt.k a + (0 + 1)) then match ([SV.int IntKind.i64 o, SV.bool w, SV.bool l, SV.int IntKind.i64 d, SV.int IntKind.i64 s, SV.int IntKind.i64 dp, SV.int IntKind.i64 im, SV.int IntKind.i64 cc] : List SV)[(0 / 8 + (e - GuSt.k a)) * 8 + 2]? with | some (SV.bool a) => a | x => BE.lit false else BE.var (Unk.b U (0 + 1 + 1) e)) (BE.var (AI.long (GuSt.X a e))) (Nat.blt e (GuSt.k a))) = AI.long (GuSt.X a' e)) ∧ (∀ (e : Nat), e < GuSt.c a' → IE.den (Bool.rec (motive := fun _ => IE) (bif Nat.blt e (GuSt.k a + (0 + 1)) then match ([SV.int IntKind.i64 o, SV.bool w, SV.bool l, SV.int IntKind.i64 d, SV.int IntKind.i64 s, SV.int IntKind.i64 dp, SV.int IntKind.i64 im, SV.int IntKind.i64 cc] : List SV)[(0 / 8 + (e - GuSt.k a)) * 8 + 3]? with | some (SV.int k a) => a | x => IE.lit 0 else IE.var (Unk.i U (0 + 1 + 1 + 1) e)) (IE.var (AI.d (GuSt.X a e))) (Nat.blt e (GuSt.k a))) = AI.d (GuSt.X a' e)) ∧ (∀ (e : Nat), e < GuSt.c a' → IE.den (Bool.rec (motive := fun _ => IE) (bif Nat.blt e (GuSt.k a + (0 + 1)) then match ([SV.int IntKind.i64 o, SV.bool w, SV.bool l, SV.int IntKind.i64 d, SV.int IntKind.i64 s, SV.int IntKind.i64 dp, SV.int IntKind.i64 im, SV.int IntKind.i64 cc] : List SV)[(0 / 8 + (e - GuSt.k a)) * 8 + 4]? with | some (SV.int k a) => a | x => IE.lit 0 else IE.var (Unk.i U (0 + 1 + 1 + 1 + 1) e)) (IE.var (AI.s (GuSt.X a e))) (Nat.blt e (GuSt.k a))) = AI.s (GuSt.X a' e)) ∧ (∀ (e : Nat), e < GuSt.c a' → IE.den (Bool.rec (motive := fun _ => IE) (bif Nat.blt e (GuSt.k a + (0 + 1)) then match ([SV.int IntKind.i64 o, SV.bool w, SV.bool l, SV.int IntKind.i64 d, SV.int IntKind.i64 s, SV.int IntKind.i64 dp, SV.int IntKind.i64 im, SV.int IntKind.i64 cc] : List SV)[(0 / 8 + (e - GuSt.k a)) * 8 + 5]? with | some (SV.int k a) => a | x => IE.lit 0 else IE.var (Unk.i U (0 + 1 + 1 + 1 + 1 + 1) e)) (IE.var (AI.disp (GuSt.X a e))) (Nat.blt e (GuSt.k a))) = AI.disp (GuSt.X a' e)) ∧ (∀ (e : Nat), e < GuSt.c a' → IE.den (Bool.rec (motive := fun _ => IE) (bif Nat.blt e (GuSt.k a + (0 + 1)) then match ([SV.int IntKind.i64 o, SV.bool w, SV.bool l, SV.int IntKind.i64 d, SV.int IntKind.i64 s, SV.int IntKind.i64 dp, SV.int IntKind.i64 im, SV.int IntKind.i64 cc] : List SV)[(0 / 8 + (e - GuSt.k a)) * 8 + 6]? with | some (SV.int k a) => a | x => IE.lit 0 else IE.var (Unk.i U (0 + 1 + 1 + 1 + 1 + 1 + 1) e)) (IE.var (AI.imm (GuSt.X a e))) (Nat.blt e (GuSt.k a))) = AI.imm (GuSt.X a' e)) ∧ (∀ (e : Nat), e < GuSt.c a' → IE.den (Bool.rec (motive := fun _ => IE) (bif Nat.blt e (GuSt.k a + (0 + 1)) then match ([SV.int IntKind.i64 o, SV.bool w, SV.bool l, SV.int IntKind.i64 d, SV.int IntKind.i64 s, SV.int IntKind.i64 dp, SV.int IntKind.i64 im, SV.int IntKind.i64 cc] : List SV)[(0 / 8 + (e - GuSt.k a)) * 8 + 7]? with | some (SV.int k a) => a | x => IE.lit 0 else IE.var (Unk.i U (0 + 1 + 1 + 1 + 1 + 1 + 1 + 1) e)) (IE.var (AI.cc (GuSt.X a e))) (Nat.blt e (GuSt.k a))) = AI.cc (GuSt.X a' e)) ∧ True)
/-- The prefix, and what follows. -/
def guHead (g : Nat → Int) (len cap : Nat) (q op : Int) (I : GuSt → Prop) (O : GuR → Prop) (E : GuSt → Prop) (B : Prop) : Prop :=
  (BE.den (BE.cmp BinOp.lss (IE.var q) (IE.var (↑len : Int))) = true → BE.den (BE.ite (BE.var (decide (len ≤ cap ∧ 0 + cap ≤ cap))) (BE.var (decide (0 ≤ q ∧ q < (↑len : Int)))) (BE.lit false)) = true ∧ decide (0 + Int.toNat q + 1 ≤ cap) = true ∧ (BE.den (BE.cmp BinOp.geq (IE.var (g (0 + Int.toNat q))) (IE.lit 64)) = true → BE.den (BE.ite (BE.var (decide (len ≤ cap ∧ 0 + cap ≤ cap))) (BE.var (decide (0 ≤ q ∧ q < (↑len : Int)))) (BE.lit false)) = true ∧ decide (0 + Int.toNat q + 1 ≤ cap) = true ∧ (BE.den (BE.cmp BinOp.leq (IE.var (g (0 + Int.toNat q))) (IE.lit 79)) = true → BE.den (BE.ite (BE.var (decide (len ≤ cap ∧ 0 + cap ≤ cap))) (BE.var (decide (0 ≤ q ∧ q < (↑len : Int)))) (BE.lit false)) = true ∧ decide (0 + Int.toNat q + 1 ≤ cap) = true ∧ BE.den (BE.ite (BE.var (decide (len ≤ cap ∧ 0 + cap ≤ cap))) (BE.var (decide (0 ≤ q ∧ q < (↑len : Int)))) (BE.lit false)) = true ∧ decide (0 + Int.toNat q + 1 ≤ cap) = true ∧ (BE.den (BE.cmp BinOp.neq (IE.bits BinOp.and IntKind.u8 (IE.var (g (0 + Int.toNat q))) (IE.lit 4)) (IE.lit 0)) = true → BE.den (BE.ite (BE.var (decide (len ≤ cap ∧ 0 + cap ≤ cap))) (BE.var (decide (0 ≤ q ∧ q < (↑len : Int)))) (BE.lit false)) = true ∧ decide (0 + Int.toNat q + 1 ≤ cap) = true ∧ (BE.den (BE.cmp BinOp.neq (IE.bits BinOp.and IntKind.u8 (IE.var (g (0 + Int.toNat q))) (IE.lit 1)) (IE.lit 0)) = true → (BE.den (BE.cmp BinOp.geq (IE.add IntKind.i64 (IE.var q) (IE.lit 1)) (IE.var (↑len : Int))) = true → ∃ b, O b ∧ GuR.n b = 0 ∧ GuR.c b = 0 ∧ cap = cap ∧ (∀ (e : Nat), e < cap → g e = g e) ∧ GuR.c b = 0 ∧ True) ∧ (BE.den (BE.cmp BinOp.geq (IE.add IntKind.i64 (IE.var q) (IE.lit 1)) (IE.var (↑len : Int))) = false → (∃ a, I a ∧ len = len ∧ cap = cap ∧ op = op ∧ IE.den (IE.add IntKind.i64 (IE.var q) (IE.lit 1)) = (↑(GuSt.p a) : Int) ∧ BE.den (BE.cmp BinOp.neq (IE.bits BinOp.and IntKind.u8 (IE.var (g (0 + Int.toNat q))) (IE.lit 8)) (IE.lit 0)) = GuSt.wide a ∧ 8 = GuSt.r a ∧ 8 = GuSt.m a ∧ GuSt.k a = 0 ∧ GuSt.c a = 0 ∧ 0 = (↑(GuSt.k a) : Int) ∧ cap = cap ∧ (∀ (e : Nat), e < cap → g e = g e) ∧ E a) ∧ B ∧ ∀ (u : Nat → Value) (b : Unit), False → False)) ∧ (BE.den (BE.cmp BinOp.neq (IE.bits BinOp.and IntKind.u8 (IE.var (g (0 + Int.toNat q))) (IE.lit 1)) (IE.lit 0)) = false → (BE.den (BE.cmp BinOp.geq (IE.add IntKind.i64 (IE.var q) (IE.lit 1)) (IE.var (↑len : Int))) = true → ∃ b, O b ∧ GuR.n b = 0 ∧ GuR.c b = 0 ∧ cap = cap ∧ (∀ (e : Nat), e < cap → g e = g e) ∧ GuR.c b = 0 ∧ True) ∧ (BE.den (BE.cmp BinOp.geq (IE.add IntKind.i64 (IE.var q) (IE.lit 1)) (IE.var (↑len : Int))) = false → (∃ a, I a ∧ len = len ∧ cap = cap ∧ op = op ∧ IE.den (IE.add IntKind.i64 (IE.var q) (IE.lit 1)) = (↑(GuSt.p a) : Int) ∧ BE.den (BE.cmp BinOp.neq (IE.bits BinOp.and IntKind.u8 (IE.var (g (0 + Int.toNat q))) (IE.lit 8)) (IE.lit 0)) = GuSt.wide a ∧ 8 = GuSt.r a ∧ 0 = GuSt.m a ∧ GuSt.k a = 0 ∧ GuSt.c a = 0 ∧ 0 = (↑(GuSt.k a) : Int) ∧ cap = cap ∧ (∀ (e : Nat), e < cap → g e = g e) ∧ E a) ∧ B ∧ ∀ (u : Nat → Value) (b : Unit), False → False))) ∧ (BE.den (BE.cmp BinOp.neq (IE.bits BinOp.and IntKind.u8 (IE.var (g (0 + Int.toNat q))) (IE.lit 4)) (IE.lit 0)) = false → BE.den (BE.ite (BE.var (decide (len ≤ cap ∧ 0 + cap ≤ cap))) (BE.var (decide (0 ≤ q ∧ q < (↑len : Int)))) (BE.lit false)) = true ∧ decide (0 + Int.toNat q + 1 ≤ cap) = true ∧ (BE.den (BE.cmp BinOp.neq (IE.bits BinOp.and IntKind.u8 (IE.var (g (0 + Int.toNat q))) (IE.lit 1)) (IE.lit 0)) = true → (BE.den (BE.cmp BinOp.geq (IE.add IntKind.i64 (IE.var q) (IE.lit 1)) (IE.var (↑len : Int))) = true → ∃ b, O b ∧ GuR.n b = 0 ∧ GuR.c b = 0 ∧ cap = cap ∧ (∀ (e : Nat), e < cap → g e = g e) ∧ GuR.c b = 0 ∧ True) ∧ (BE.den (BE.cmp BinOp.geq (IE.add IntKind.i64 (IE.var q) (IE.lit 1)) (IE.var (↑len : Int))) = false → (∃ a, I a ∧ len = len ∧ cap = cap ∧ op = op ∧ IE.den (IE.add IntKind.i64 (IE.var q) (IE.lit 1)) = (↑(GuSt.p a) : Int) ∧ BE.den (BE.cmp BinOp.neq (IE.bits BinOp.and IntKind.u8 (IE.var (g (0 + Int.toNat q))) (IE.lit 8)) (IE.lit 0)) = GuSt.wide a ∧ 0 = GuSt.r a ∧ 8 = GuSt.m a ∧ GuSt.k a = 0 ∧ GuSt.c a = 0 ∧ 0 = (↑(GuSt.k a) : Int) ∧ cap = cap ∧ (∀ (e : Nat), e < cap → g e = g e) ∧ E a) ∧ B ∧ ∀ (u : Nat → Value) (b : Unit), False → False)) ∧ (BE.den (BE.cmp BinOp.neq (IE.bits BinOp.and IntKind.u8 (IE.var (g (0 + Int.toNat q))) (IE.lit 1)) (IE.lit 0)) = false → (BE.den (BE.cmp BinOp.geq (IE.add IntKind.i64 (IE.var q) (IE.lit 1)) (IE.var (↑len : Int))) = true → ∃ b, O b ∧ GuR.n b = 0 ∧ GuR.c b = 0 ∧ cap = cap ∧ (∀ (e : Nat), e < cap → g e = g e) ∧ GuR.c b = 0 ∧ True) ∧ (BE.den (BE.cmp BinOp.geq (IE.add IntKind.i64 (IE.var q) (IE.lit 1)) (IE.var (↑len : Int))) = false → (∃ a, I a ∧ len = len ∧ cap = cap ∧ op = op ∧ IE.den (IE.add IntKind.i64 (IE.var q) (IE.lit 1)) = (↑(GuSt.p a) : Int) ∧ BE.den (BE.cmp BinOp.neq (IE.bits BinOp.and IntKind.u8 (IE.var (g (0 + Int.toNat q))) (IE.lit 8)) (IE.lit 0)) = GuSt.wide a ∧ 0 = GuSt.r a ∧ 0 = GuSt.m a ∧ GuSt.k a = 0 ∧ GuSt.c a = 0 ∧ 0 = (↑(GuSt.k a) : Int) ∧ cap = cap ∧ (∀ (e : Nat), e < cap → g e = g e) ∧ E a) ∧ B ∧ ∀ (u : Nat → Value) (b : Unit), False → False)))) ∧ (BE.den (BE.cmp BinOp.leq (IE.var (g (0 + Int.toNat q))) (IE.lit 79)) = false → (BE.den (BE.cmp BinOp.geq (IE.var q) (IE.var (↑len : Int))) = true → ∃ b, O b ∧ GuR.n b = 0 ∧ GuR.c b = 0 ∧ cap = cap ∧ (∀ (e : Nat), e < cap → g e = g e) ∧ GuR.c b = 0 ∧ True) ∧ (BE.den (BE.cmp BinOp.geq (IE.var q) (IE.var (↑len : Int))) = false → (∃ a, I a ∧ len = len ∧ cap = cap ∧ op = op ∧ q = (↑(GuSt.p a) : Int) ∧ BE.den (BE.lit false) = GuSt.wide a ∧ 0 = GuSt.r a ∧ 0 = GuSt.m a ∧ GuSt.k a = 0 ∧ GuSt.c a = 0 ∧ 0 = (↑(GuSt.k a) : Int) ∧ cap = cap ∧ (∀ (e : Nat), e < cap → g e = g e) ∧ E a) ∧ B ∧ ∀ (u : Nat → Value) (b : Unit), False → False))) ∧ (BE.den (BE.cmp BinOp.geq (IE.var (g (0 + Int.toNat q))) (IE.lit 64)) = false → (BE.den (BE.cmp BinOp.geq (IE.var q) (IE.var (↑len : Int))) = true → ∃ b, O b ∧ GuR.n b = 0 ∧ GuR.c b = 0 ∧ cap = cap ∧ (∀ (e : Nat), e < cap → g e = g e) ∧ GuR.c b = 0 ∧ True) ∧ (BE.den (BE.cmp BinOp.geq (IE.var q) (IE.var (↑len : Int))) = false → (∃ a, I a ∧ len = len ∧ cap = cap ∧ op = op ∧ q = (↑(GuSt.p a) : Int) ∧ BE.den (BE.lit false) = GuSt.wide a ∧ 0 = GuSt.r a ∧ 0 = GuSt.m a ∧ GuSt.k a = 0 ∧ GuSt.c a = 0 ∧ 0 = (↑(GuSt.k a) : Int) ∧ cap = cap ∧ (∀ (e : Nat), e < cap → g e = g e) ∧ E a) ∧ B ∧ ∀ (u : Nat → Value) (b : Unit), False → False))) ∧ (BE.den (BE.cmp BinOp.lss (IE.var q) (IE.var (↑len : Int))) = false → (BE.den (BE.cmp BinOp.geq (IE.var q) (IE.var (↑len : Int))) = true → ∃ b, O b ∧ GuR.n b = 0 ∧ GuR.c b = 0 ∧ cap = cap ∧ (∀ (e : Nat), e < cap → g e = g e) ∧ GuR.c b = 0 ∧ True) ∧ (BE.den (BE.cmp BinOp.geq (IE.var q) (IE.var (↑len : Int))) = false → (∃ a, I a ∧ len = len ∧ cap = cap ∧ op = op ∧ q = (↑(GuSt.p a) : Int) ∧ BE.den (BE.lit false) = GuSt.wide a ∧ 0 = GuSt.r a ∧ 0 = GuSt.m a ∧ GuSt.k a = 0 ∧ GuSt.c a = 0 ∧ 0 = (↑(GuSt.k a) : Int) ∧ cap = cap ∧ (∀ (e : Nat), e < cap → g e = g e) ∧ E a) ∧ B ∧ ∀ (u : Nat → Value) (b : Unit), False → False))
end Go.Proofs.Ytajcmjjgnbaahaa.Amd
