/- What bytes could be: as it is told. -/
import Derived.Test.YtajcmjjgnbaahaaGreatRg3
set_option linter.unusedVariables false
set_option linter.unusedSimpArgs false
namespace Go.Proofs.YtajcmjjgnbaahaaGreat.Amd
open Go Go.Proofs.YtajcmjjgnbaahaaGreat.Sx Go.RowKit
def szV (l : Bool) : Int := if l = true then 4 else 1
def szF : zBN := fun args => match args with
 | [.bool l] => some (none, .int .i64 (.var (szV l.den)))
 | _ => none
theorem zVB (l : Bool) (Q : SV -> Prop) : zH P A0 (fun _ => 40) Tryz.f33 [.bool (.var l)] [] (fun v _ => Q v) = ((l = true -> Q (SV.int .i64 (.lit 4))) /\ (l = false -> Q (SV.int .i64 (.lit 1)))) := by kernel_rfl
theorem zSo : zAr P 33 szF := by
 have hs := zN (un := fun _ => 40) zK7 Tryz.func33
 refine zBO hs ?_
 intro args p v hF hp
 unfold szF at hF
 split at hF
 ·rename_i l
  simp only [Option.some.injEq, Prod.mk.injEq] at hF
  obtain ⟨rfl, rfl⟩ := hF
  refine ⟨[.bool (.var l.den)], rfl, ⟨trivial, trivial⟩, ⟨trivial, trivial⟩, trivial, ?_⟩
  rw [zVB]
  generalize l.den = l
  exact ⟨fun h => zBx (by rw [h]; rfl), fun h => zBx (by rw [h]; rfl)⟩
 ·simp at hF
noncomputable def guT (k : Nat) : List (FuncId × Cal) := [(31, .spec (fmS1 k) (fmG1 k)), (33, .pure szF), (32, .spec (zAK [.rows 1 zz1, .plain, .plain] zLi zIF) (zBn [.rows 1 zz1, .plain, .plain] zIF))]
theorem zYz (k : Nat) : zO P (zx (guT k)) := zG (zAn (zUb k)) (zG zSo (zG (zAn zPA) fun g s h => by simp [zx] at h))
noncomputable def GU (k : Nat) : FuncId -> Option Cal := inl P (fun _ _ => .plain 40) (zx (guT k)) 4
theorem zIv (k : Nat) : zO P (GU k) := zAh (zYz k) 4
structure GuSt where
 p : Nat
 wide : Bool
 r : Int
 m : Int
 k : Nat
 c : Nat
 X : Nat -> AI
 f : FmP
def fmC : Nat -> Bool × Option Int × Option Int
 | 0 => (false, some 0, some 0)
 | 1 => (false, some 184, some 0)
 | 2 => (false, none, some 0)
 | 3 => (true, some 139, some 0)
 | 4 => (true, some 137, some 0)
 | 5 => (false, some 175, some 0)
 | 6 => (true, some 131, none)
 | 7 => (false, none, none)
 | 8 => (false, none, some 0)
 | 9 => (true, some 235, some 0)
 | 10 => (true, some 112, some 0)
 | _ => (false, some 195, some 0)
def fmL (k : Nat) (x : FmP) : List SV := [.int .i64 (.lit (k : Int)), .int .u8 (match (fmC k).2.1 with | some c => .lit c | none => .var (FmP.c x)), .int .u8 (match (fmC k).2.2 with | some n => .lit n | none => .var (FmP.n x)), .strE (FmP.w x), .bool (.lit (fmC k).1)]
def zAf (op : Int) (len cap : Nat) (a : GuSt) : List (Nat × SV) :=
 [(0, slA 0 len cap), (2, .int .i64 (.var op)), (7, .ptr 1 0), (8, .int .i64 (.var (GuSt.p a))), (9, .bool (.var (GuSt.wide a))), (10, .int .i64 (.var (GuSt.r a))), (11, .int .i64 (.var (GuSt.m a))), (12, .sliceE true 2 8 (.lit 0) (.var (GuSt.k a)) (.var (GuSt.c a))), (13, .int .i64 (.var (GuSt.k a)))]
def guHp (k : Nat) (g : Nat -> Int) (cap : Nat) (a : GuSt) : List SObj := [rdRow g cap, .cells (fmL k (GuSt.f a)) 95, .row true true (zW3 (GuSt.X a)) (.var (GuSt.c a))]
structure GuR where
 n : Nat
 c : Nat
 X : Nat -> AI
def zWn (O : GuR -> Prop) : Out := .any GuR O (fun r n => .sliceE true n 8 (.lit 0) (.var (GuR.n r)) (.var (GuR.c r))) (fun r => [.row true true (zW3 (GuR.X r)) (.var (GuR.c r))]) (fun _ => [])
def guQ (g : Nat -> Int) (cap : Nat) (O : GuR -> Prop) : SV -> List SObj -> Prop :=
 fun v hp => zFH [zWn O] fun o => o.some 1 fun val new _ => zA8 1 1 { tmps := [v], hp := hp } [(0, val)] ([rdRow g cap] ++ new)
def pN (a : GuSt) (n : Int) : IE := IE.add .i64 (.var (GuSt.p a : Int)) (.lit n)
def lgB (a : GuSt) : BE := BE.cmp .eql (.var (GuSt.k a : Int)) (.lit 1)
def szK (a : GuSt) : Int := szV (BE.den (lgB a))
def yRc (g : Nat -> Int) (a : GuSt) (x : IE) : IE := .add .i64 (.var (GuSt.r a)) (.rem (.quo .i64 (.conv .i64 (.var (g (0 + Int.toNat x.den)))) (.lit 8)) (.lit 8))
def yBc (g : Nat -> Int) (a : GuSt) (x : IE) : IE := .add .i64 (.var (GuSt.m a)) (.rem (.conv .i64 (.var (g (0 + Int.toNat x.den)))) (.lit 8))
def r0 (a : GuSt) : IE := .add .i64 (.var (GuSt.r a)) (.lit 0)
def m0 (a : GuSt) : IE := .add .i64 (.var (GuSt.m a)) (.lit 0)
def nmC (cs : List Col) (len : Nat) (x : IE) (n : Int) : IE := .var (zGW (colG cs) len x.den n)
def ccC (g : Nat -> Int) (x : IE) : IE := .conv .i64 (.rem (.var (g (0 + Int.toNat x.den))) (.lit 16))
def zC2 (len cap : Nat) (x : IE) : Prop := BE.den (.ite (.var (decide (len <= cap /\ 0 + cap <= cap))) (.var (decide (0 <= IE.den x /\ IE.den x < (len : Int)))) (.lit false)) = true
def zC1 (cap : Nat) (x : IE) : Prop := decide (0 + Int.toNat (IE.den x) + 1 <= cap) = true
def zBp (g : Nat -> Int) (len cap : Nat) (x : IE) (n : Int) (R : List Col -> Prop) : Prop :=
 BE.den (.ite (.var (decide (0 + cap <= cap))) (.var (decide (len <= cap))) (.lit false)) = true /\ ∀ (cs' : List Col), cs' = List.map Col.nrm (zY (NE.lit 0) [col8 g]) ->
  ((∃ (g : Nat -> Int), cs' = [Col.int .u8 fun e => IE.var (g e)]) /\ BGood (colG cs') len cap /\ (0 <= IE.den x /\ IE.den x <= 4611686018427387999) /\ (n = 1 ∨ n = 4)) /\ R cs'
def eW (b : FmP) (a : GuSt) : Prop := FmP.w b = FmP.w (GuSt.f a) /\ GuSt.c a = 0 /\ True
def eCW (b : FmP) (a : GuSt) : Prop := FmP.c b = FmP.c (GuSt.f a) /\ eW b a
def eNW (b : FmP) (a : GuSt) : Prop := FmP.n b = FmP.n (GuSt.f a) /\ eW b a
def eCNW (b : FmP) (a : GuSt) : Prop := FmP.c b = FmP.c (GuSt.f a) /\ eNW b a
def fW (a a' : GuSt) (R : Prop) : Prop := FmP.w (GuSt.f a) = FmP.w (GuSt.f a') /\ R
def fCW (a a' : GuSt) (R : Prop) : Prop := FmP.c (GuSt.f a) = FmP.c (GuSt.f a') /\ fW a a' R
def fNW (a a' : GuSt) (R : Prop) : Prop := FmP.n (GuSt.f a) = FmP.n (GuSt.f a') /\ fW a a' R
def fCNW (a a' : GuSt) (R : Prop) : Prop := FmP.c (GuSt.f a) = FmP.c (GuSt.f a') /\ fNW a a' R
def zCI (g : Nat -> Int) (cap : Nat) (O : GuR -> Prop) (a : GuSt) : Prop :=
 ∃ b, O b /\ GuSt.k a = GuR.n b /\ GuSt.c a = GuR.c b /\ cap = cap /\ (∀ (e : Nat), e < cap -> g e = g e) /\ GuSt.c a = GuR.c b /\ (∀ (e : Nat), e < GuR.c b -> AI.op (GuSt.X a e) = AI.op (GuR.X b e)) /\ (∀ (e : Nat), e < GuR.c b -> AI.wide (GuSt.X a e) = AI.wide (GuR.X b e)) /\ (∀ (e : Nat), e < GuR.c b -> AI.long (GuSt.X a e) = AI.long (GuR.X b e)) /\ (∀ (e : Nat), e < GuR.c b -> AI.d (GuSt.X a e) = AI.d (GuR.X b e)) /\ (∀ (e : Nat), e < GuR.c b -> AI.s (GuSt.X a e) = AI.s (GuR.X b e)) /\ (∀ (e : Nat), e < GuR.c b -> AI.disp (GuSt.X a e) = AI.disp (GuR.X b e)) /\ (∀ (e : Nat), e < GuR.c b -> AI.imm (GuSt.X a e) = AI.imm (GuR.X b e)) /\ (∀ (e : Nat), e < GuR.c b -> AI.cc (GuSt.X a e) = AI.cc (GuR.X b e)) /\ True
def zn (g : Nat -> Int) (len cap : Nat) (op : Int) (I : GuSt -> Prop) (M : GuSt -> Nat) (a : GuSt) (F : GuSt -> Prop -> Prop) (o : IE) (w l : BE) (d s dp im cc : IE) : Prop :=
 decide (0 + GuSt.k a <= GuSt.c a) = true /\ decide (GuSt.c a <= GuSt.c a) = true /\ decide (GuSt.c a <= 9223372036854775807) = true /\ Nat.le (NE.den (NE.two (fun x1 x2 => x1 + x2) (NE.var (GuSt.k a)) (NE.lit (0 + 1))) * 56) 140737488355328 /\ ∀ (U : Unk) (cap_1 : Nat), NE.den (NE.two (fun x1 x2 => x1 + x2) (NE.var (GuSt.k a)) (NE.lit (0 + 1))) <= cap_1 -> cap_1 <= 9223372036854775807 -> ∃ a', I a' /\ Nat.le (Nat.succ (M a')) (M a) /\ len = len /\ cap = cap /\ op = op /\ (↑(GuSt.p a) : Int) = (↑(GuSt.p a') : Int) /\ GuSt.wide a = GuSt.wide a' /\ GuSt.r a = GuSt.r a' /\ GuSt.m a = GuSt.m a' /\ GuSt.k a + 1 = GuSt.k a' /\ cap_1 = GuSt.c a' /\ IE.den (.add .i64 (.var (↑(GuSt.k a) : Int)) (.lit 1)) = (↑(GuSt.k a') : Int) /\ cap = cap /\ (∀ (e : Nat), e < cap -> g e = g e) /\ F a' (cap_1 = GuSt.c a' /\ (∀ (e : Nat), e < GuSt.c a' -> IE.den (Bool.rec (motive := fun _ => IE) (bif Nat.blt e (GuSt.k a + (0 + 1)) then match ([SV.int .i64 o, SV.bool w, SV.bool l, SV.int .i64 d, SV.int .i64 s, SV.int .i64 dp, SV.int .i64 im, SV.int .i64 cc] : List SV)[(0 / 8 + (e - GuSt.k a)) * 8 + 0]? with | some (SV.int k a) => a | x => IE.lit 0 else IE.var (Unk.i U 0 e)) (.var (AI.op (GuSt.X a e))) (Nat.blt e (GuSt.k a))) = AI.op (GuSt.X a' e)) /\ (∀ (e : Nat), e < GuSt.c a' -> BE.den (Bool.rec (bif Nat.blt e (GuSt.k a + (0 + 1)) then match ([SV.int .i64 o, SV.bool w, SV.bool l, SV.int .i64 d, SV.int .i64 s, SV.int .i64 dp, SV.int .i64 im, SV.int .i64 cc] : List SV)[(0 / 8 + (e - GuSt.k a)) * 8 + 1]? with | some (SV.bool a) => a | x => BE.lit false else BE.var (Unk.b U (0 + 1) e)) (.var (AI.wide (GuSt.X a e))) (Nat.blt e (GuSt.k a))) = AI.wide (GuSt.X a' e)) /\ (∀ (e : Nat), e < GuSt.c a' -> BE.den (Bool.rec (bif Nat.blt e (GuSt.k a + (0 + 1)) then match ([SV.int .i64 o, SV.bool w, SV.bool l, SV.int .i64 d, SV.int .i64 s, SV.int .i64 dp, SV.int .i64 im, SV.int .i64 cc] : List SV)[(0 / 8 + (e - GuSt.k a)) * 8 + 2]? with | some (SV.bool a) => a | x => BE.lit false else BE.var (Unk.b U (0 + 1 + 1) e)) (.var (AI.long (GuSt.X a e))) (Nat.blt e (GuSt.k a))) = AI.long (GuSt.X a' e)) /\ (∀ (e : Nat), e < GuSt.c a' -> IE.den (Bool.rec (motive := fun _ => IE) (bif Nat.blt e (GuSt.k a + (0 + 1)) then match ([SV.int .i64 o, SV.bool w, SV.bool l, SV.int .i64 d, SV.int .i64 s, SV.int .i64 dp, SV.int .i64 im, SV.int .i64 cc] : List SV)[(0 / 8 + (e - GuSt.k a)) * 8 + 3]? with | some (SV.int k a) => a | x => IE.lit 0 else IE.var (Unk.i U (0 + 1 + 1 + 1) e)) (.var (AI.d (GuSt.X a e))) (Nat.blt e (GuSt.k a))) = AI.d (GuSt.X a' e)) /\ (∀ (e : Nat), e < GuSt.c a' -> IE.den (Bool.rec (motive := fun _ => IE) (bif Nat.blt e (GuSt.k a + (0 + 1)) then match ([SV.int .i64 o, SV.bool w, SV.bool l, SV.int .i64 d, SV.int .i64 s, SV.int .i64 dp, SV.int .i64 im, SV.int .i64 cc] : List SV)[(0 / 8 + (e - GuSt.k a)) * 8 + 4]? with | some (SV.int k a) => a | x => IE.lit 0 else IE.var (Unk.i U (0 + 1 + 1 + 1 + 1) e)) (.var (AI.s (GuSt.X a e))) (Nat.blt e (GuSt.k a))) = AI.s (GuSt.X a' e)) /\ (∀ (e : Nat), e < GuSt.c a' -> IE.den (Bool.rec (motive := fun _ => IE) (bif Nat.blt e (GuSt.k a + (0 + 1)) then match ([SV.int .i64 o, SV.bool w, SV.bool l, SV.int .i64 d, SV.int .i64 s, SV.int .i64 dp, SV.int .i64 im, SV.int .i64 cc] : List SV)[(0 / 8 + (e - GuSt.k a)) * 8 + 5]? with | some (SV.int k a) => a | x => IE.lit 0 else IE.var (Unk.i U (0 + 1 + 1 + 1 + 1 + 1) e)) (.var (AI.disp (GuSt.X a e))) (Nat.blt e (GuSt.k a))) = AI.disp (GuSt.X a' e)) /\ (∀ (e : Nat), e < GuSt.c a' -> IE.den (Bool.rec (motive := fun _ => IE) (bif Nat.blt e (GuSt.k a + (0 + 1)) then match ([SV.int .i64 o, SV.bool w, SV.bool l, SV.int .i64 d, SV.int .i64 s, SV.int .i64 dp, SV.int .i64 im, SV.int .i64 cc] : List SV)[(0 / 8 + (e - GuSt.k a)) * 8 + 6]? with | some (SV.int k a) => a | x => IE.lit 0 else IE.var (Unk.i U (0 + 1 + 1 + 1 + 1 + 1 + 1) e)) (.var (AI.imm (GuSt.X a e))) (Nat.blt e (GuSt.k a))) = AI.imm (GuSt.X a' e)) /\ (∀ (e : Nat), e < GuSt.c a' -> IE.den (Bool.rec (motive := fun _ => IE) (bif Nat.blt e (GuSt.k a + (0 + 1)) then match ([SV.int .i64 o, SV.bool w, SV.bool l, SV.int .i64 d, SV.int .i64 s, SV.int .i64 dp, SV.int .i64 im, SV.int .i64 cc] : List SV)[(0 / 8 + (e - GuSt.k a)) * 8 + 7]? with | some (SV.int k a) => a | x => IE.lit 0 else IE.var (Unk.i U (0 + 1 + 1 + 1 + 1 + 1 + 1 + 1) e)) (.var (AI.cc (GuSt.X a e))) (Nat.blt e (GuSt.k a))) = AI.cc (GuSt.X a' e)) /\ True)
def zDb (g : Nat -> Int) (len cap : Nat) (q op : Int) (I : GuSt -> Prop) (O : GuR -> Prop) (E : GuSt -> Prop) (B : Prop) : Prop :=
 (BE.den (.cmp .lss (.var q) (.var (↑len : Int))) = true -> BE.den (.ite (.var (decide (len <= cap /\ 0 + cap <= cap))) (.var (decide (0 <= q /\ q < (↑len : Int)))) (.lit false)) = true /\ decide (0 + Int.toNat q + 1 <= cap) = true /\ (BE.den (.cmp .geq (.var (g (0 + Int.toNat q))) (.lit 64)) = true -> BE.den (.ite (.var (decide (len <= cap /\ 0 + cap <= cap))) (.var (decide (0 <= q /\ q < (↑len : Int)))) (.lit false)) = true /\ decide (0 + Int.toNat q + 1 <= cap) = true /\ (BE.den (.cmp .leq (.var (g (0 + Int.toNat q))) (.lit 79)) = true -> BE.den (.ite (.var (decide (len <= cap /\ 0 + cap <= cap))) (.var (decide (0 <= q /\ q < (↑len : Int)))) (.lit false)) = true /\ decide (0 + Int.toNat q + 1 <= cap) = true /\ BE.den (.ite (.var (decide (len <= cap /\ 0 + cap <= cap))) (.var (decide (0 <= q /\ q < (↑len : Int)))) (.lit false)) = true /\ decide (0 + Int.toNat q + 1 <= cap) = true /\ (BE.den (.cmp .neq (.bits .and .u8 (.var (g (0 + Int.toNat q))) (.lit 4)) (.lit 0)) = true -> BE.den (.ite (.var (decide (len <= cap /\ 0 + cap <= cap))) (.var (decide (0 <= q /\ q < (↑len : Int)))) (.lit false)) = true /\ decide (0 + Int.toNat q + 1 <= cap) = true /\ (BE.den (.cmp .neq (.bits .and .u8 (.var (g (0 + Int.toNat q))) (.lit 1)) (.lit 0)) = true -> (BE.den (.cmp .geq (.add .i64 (.var q) (.lit 1)) (.var (↑len : Int))) = true -> ∃ b, O b /\ GuR.n b = 0 /\ GuR.c b = 0 /\ cap = cap /\ (∀ (e : Nat), e < cap -> g e = g e) /\ GuR.c b = 0 /\ True) /\ (BE.den (.cmp .geq (.add .i64 (.var q) (.lit 1)) (.var (↑len : Int))) = false -> (∃ a, I a /\ len = len /\ cap = cap /\ op = op /\ IE.den (.add .i64 (.var q) (.lit 1)) = (↑(GuSt.p a) : Int) /\ BE.den (.cmp .neq (.bits .and .u8 (.var (g (0 + Int.toNat q))) (.lit 8)) (.lit 0)) = GuSt.wide a /\ 8 = GuSt.r a /\ 8 = GuSt.m a /\ GuSt.k a = 0 /\ GuSt.c a = 0 /\ 0 = (↑(GuSt.k a) : Int) /\ cap = cap /\ (∀ (e : Nat), e < cap -> g e = g e) /\ E a) /\ B /\ ∀ (u : Nat -> Value) (b : Unit), False -> False)) /\ (BE.den (.cmp .neq (.bits .and .u8 (.var (g (0 + Int.toNat q))) (.lit 1)) (.lit 0)) = false -> (BE.den (.cmp .geq (.add .i64 (.var q) (.lit 1)) (.var (↑len : Int))) = true -> ∃ b, O b /\ GuR.n b = 0 /\ GuR.c b = 0 /\ cap = cap /\ (∀ (e : Nat), e < cap -> g e = g e) /\ GuR.c b = 0 /\ True) /\ (BE.den (.cmp .geq (.add .i64 (.var q) (.lit 1)) (.var (↑len : Int))) = false -> (∃ a, I a /\ len = len /\ cap = cap /\ op = op /\ IE.den (.add .i64 (.var q) (.lit 1)) = (↑(GuSt.p a) : Int) /\ BE.den (.cmp .neq (.bits .and .u8 (.var (g (0 + Int.toNat q))) (.lit 8)) (.lit 0)) = GuSt.wide a /\ 8 = GuSt.r a /\ 0 = GuSt.m a /\ GuSt.k a = 0 /\ GuSt.c a = 0 /\ 0 = (↑(GuSt.k a) : Int) /\ cap = cap /\ (∀ (e : Nat), e < cap -> g e = g e) /\ E a) /\ B /\ ∀ (u : Nat -> Value) (b : Unit), False -> False))) /\ (BE.den (.cmp .neq (.bits .and .u8 (.var (g (0 + Int.toNat q))) (.lit 4)) (.lit 0)) = false -> BE.den (.ite (.var (decide (len <= cap /\ 0 + cap <= cap))) (.var (decide (0 <= q /\ q < (↑len : Int)))) (.lit false)) = true /\ decide (0 + Int.toNat q + 1 <= cap) = true /\ (BE.den (.cmp .neq (.bits .and .u8 (.var (g (0 + Int.toNat q))) (.lit 1)) (.lit 0)) = true -> (BE.den (.cmp .geq (.add .i64 (.var q) (.lit 1)) (.var (↑len : Int))) = true -> ∃ b, O b /\ GuR.n b = 0 /\ GuR.c b = 0 /\ cap = cap /\ (∀ (e : Nat), e < cap -> g e = g e) /\ GuR.c b = 0 /\ True) /\ (BE.den (.cmp .geq (.add .i64 (.var q) (.lit 1)) (.var (↑len : Int))) = false -> (∃ a, I a /\ len = len /\ cap = cap /\ op = op /\ IE.den (.add .i64 (.var q) (.lit 1)) = (↑(GuSt.p a) : Int) /\ BE.den (.cmp .neq (.bits .and .u8 (.var (g (0 + Int.toNat q))) (.lit 8)) (.lit 0)) = GuSt.wide a /\ 0 = GuSt.r a /\ 8 = GuSt.m a /\ GuSt.k a = 0 /\ GuSt.c a = 0 /\ 0 = (↑(GuSt.k a) : Int) /\ cap = cap /\ (∀ (e : Nat), e < cap -> g e = g e) /\ E a) /\ B /\ ∀ (u : Nat -> Value) (b : Unit), False -> False)) /\ (BE.den (.cmp .neq (.bits .and .u8 (.var (g (0 + Int.toNat q))) (.lit 1)) (.lit 0)) = false -> (BE.den (.cmp .geq (.add .i64 (.var q) (.lit 1)) (.var (↑len : Int))) = true -> ∃ b, O b /\ GuR.n b = 0 /\ GuR.c b = 0 /\ cap = cap /\ (∀ (e : Nat), e < cap -> g e = g e) /\ GuR.c b = 0 /\ True) /\ (BE.den (.cmp .geq (.add .i64 (.var q) (.lit 1)) (.var (↑len : Int))) = false -> (∃ a, I a /\ len = len /\ cap = cap /\ op = op /\ IE.den (.add .i64 (.var q) (.lit 1)) = (↑(GuSt.p a) : Int) /\ BE.den (.cmp .neq (.bits .and .u8 (.var (g (0 + Int.toNat q))) (.lit 8)) (.lit 0)) = GuSt.wide a /\ 0 = GuSt.r a /\ 0 = GuSt.m a /\ GuSt.k a = 0 /\ GuSt.c a = 0 /\ 0 = (↑(GuSt.k a) : Int) /\ cap = cap /\ (∀ (e : Nat), e < cap -> g e = g e) /\ E a) /\ B /\ ∀ (u : Nat -> Value) (b : Unit), False -> False)))) /\ (BE.den (.cmp .leq (.var (g (0 + Int.toNat q))) (.lit 79)) = false -> (BE.den (.cmp .geq (.var q) (.var (↑len : Int))) = true -> ∃ b, O b /\ GuR.n b = 0 /\ GuR.c b = 0 /\ cap = cap /\ (∀ (e : Nat), e < cap -> g e = g e) /\ GuR.c b = 0 /\ True) /\ (BE.den (.cmp .geq (.var q) (.var (↑len : Int))) = false -> (∃ a, I a /\ len = len /\ cap = cap /\ op = op /\ q = (↑(GuSt.p a) : Int) /\ BE.den (.lit false) = GuSt.wide a /\ 0 = GuSt.r a /\ 0 = GuSt.m a /\ GuSt.k a = 0 /\ GuSt.c a = 0 /\ 0 = (↑(GuSt.k a) : Int) /\ cap = cap /\ (∀ (e : Nat), e < cap -> g e = g e) /\ E a) /\ B /\ ∀ (u : Nat -> Value) (b : Unit), False -> False))) /\ (BE.den (.cmp .geq (.var (g (0 + Int.toNat q))) (.lit 64)) = false -> (BE.den (.cmp .geq (.var q) (.var (↑len : Int))) = true -> ∃ b, O b /\ GuR.n b = 0 /\ GuR.c b = 0 /\ cap = cap /\ (∀ (e : Nat), e < cap -> g e = g e) /\ GuR.c b = 0 /\ True) /\ (BE.den (.cmp .geq (.var q) (.var (↑len : Int))) = false -> (∃ a, I a /\ len = len /\ cap = cap /\ op = op /\ q = (↑(GuSt.p a) : Int) /\ BE.den (.lit false) = GuSt.wide a /\ 0 = GuSt.r a /\ 0 = GuSt.m a /\ GuSt.k a = 0 /\ GuSt.c a = 0 /\ 0 = (↑(GuSt.k a) : Int) /\ cap = cap /\ (∀ (e : Nat), e < cap -> g e = g e) /\ E a) /\ B /\ ∀ (u : Nat -> Value) (b : Unit), False -> False))) /\ (BE.den (.cmp .lss (.var q) (.var (↑len : Int))) = false -> (BE.den (.cmp .geq (.var q) (.var (↑len : Int))) = true -> ∃ b, O b /\ GuR.n b = 0 /\ GuR.c b = 0 /\ cap = cap /\ (∀ (e : Nat), e < cap -> g e = g e) /\ GuR.c b = 0 /\ True) /\ (BE.den (.cmp .geq (.var q) (.var (↑len : Int))) = false -> (∃ a, I a /\ len = len /\ cap = cap /\ op = op /\ q = (↑(GuSt.p a) : Int) /\ BE.den (.lit false) = GuSt.wide a /\ 0 = GuSt.r a /\ 0 = GuSt.m a /\ GuSt.k a = 0 /\ GuSt.c a = 0 /\ 0 = (↑(GuSt.k a) : Int) /\ cap = cap /\ (∀ (e : Nat), e < cap -> g e = g e) /\ E a) /\ B /\ ∀ (u : Nat -> Value) (b : Unit), False -> False))
end Go.Proofs.YtajcmjjgnbaahaaGreat.Amd
