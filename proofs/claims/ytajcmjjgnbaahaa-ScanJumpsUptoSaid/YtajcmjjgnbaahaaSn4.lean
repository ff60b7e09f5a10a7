/- The numbers of code, as they are told. -/
import Derived.Test.YtajcmjjgnbaahaaSn3
namespace Go.Proofs.Ytajcmjjgnbaahaa.Amd
open Go Go.Proofs.Ytajcmjjgnbaahaa.Sx Go.RowKit
set_option linter.unusedVariables false
set_option linter.unusedSimpArgs false

abbrev wkM : SpecFn := rdSpec [.plain, .rows 1 zz1] wkPre wkOutsP
def nuT : List (FuncId × Cal) := [(30, .spec wkM (rdGuess [.plain, .rows 1 zz1] wkOutsP))]
theorem nuT_ok : GammaOk P (table nuT) := table_cons (spec_cal walk_ok) fun g s h => by simp [table] at h
noncomputable def NU : FuncId → Option Cal := inl P (fun _ _ => 40) (table nuT) 4
theorem NU_ok : GammaOk P NU := inl_ok nuT_ok 4
/-- The heads: the error, its place, what was found, how many are taken, their room. -/
structure NuSt where
  e : Int
  p : Int
  q : Nat
  c2 : Nat
  A : Nat → Int
  V : Nat → Int
  k : Nat
  c3 : Nat
  O : Nat → Int
def nuSlots (a : NuSt) : List (Nat × SV) :=
  [(9, .int .i64 (.var (NuSt.e a))), (10, .int .i64 (.var (NuSt.p a))), (11, .sliceE true 2 1 (.lit 0) (.var (NuSt.k a)) (.var (NuSt.c3 a))), (22, .sliceE true 1 2 (.lit 0) (.var (NuSt.q a)) (.var (NuSt.c2 a))), (23, .int .i64 (.var (NuSt.q a))), (24, .int .i64 (.var (NuSt.k a)))]
def nuHp (g : Nat → Int) (cap : Nat) (a : NuSt) : List SObj := [rdRow g cap, .row true true [colI8 (NuSt.A a), colI8 (NuSt.V a)] (.var (NuSt.c2 a)), .row true true [colI8 (NuSt.O a)] (.var (NuSt.c3 a))]
/-- What the numbers are. -/
structure NuR where
  e : Int
  p : Int
  n : Nat
  c : Nat
  O : Nat → Int
def nuOuts (R : NuR → Prop) : List Out :=
  [.any NuR R (fun r n => .tuple [.sliceE true n 1 (.lit 0) (.var (NuR.n r)) (.var (NuR.c r)), .int .i64 (.var (NuR.e r)), .int .i64 (.var (NuR.p r))]) (fun r => [.row true true [colI8 (NuR.O r)] (.var (NuR.c r))]) (fun _ => [])]
def nuQ (g : Nat → Int) (cap : Nat) (R : NuR → Prop) : SV → List SObj → Prop :=
  fun v hp => outsE (nuOuts R) fun o => o.some 1 fun val new _ => simAt 1 1 { tmps := [v], hp := hp } [(0, val)] ([rdRow g cap] ++ new)
def nuLoop (g : Nat → Int) (cap : Nat) (I : NuSt → Prop) (M : NuSt → Nat) (R : NuR → Prop) : Prop :=
  (∀ (u : Nat → Value) (a : NuSt), I a → (BE.den (BE.cmp BinOp.lss (IE.var (↑(NuSt.k a) : Int)) (IE.var (↑(NuSt.q a) : Int))) = true → BE.den (BE.ite (BE.var (decide (NuSt.q a ≤ NuSt.c2 a ∧ 0 + NuSt.c2 a ≤ NuSt.c2 a))) (BE.var (decide (0 ≤ (↑(NuSt.k a) : Int) ∧ (↑(NuSt.k a) : Int) < (↑(NuSt.q a) : Int)))) (BE.lit false)) = true ∧ decide (0 + Int.toNat (↑(NuSt.k a) : Int) + 1 ≤ NuSt.c2 a) = true ∧ decide (0 + NuSt.k a ≤ NuSt.c3 a) = true ∧ decide (NuSt.c3 a ≤ NuSt.c3 a) = true ∧ decide (NuSt.c3 a ≤ 9223372036854775807) = true ∧ Nat.le (NE.den (NE.two (fun x1 x2 ↦ x1 + x2) (NE.var (NuSt.k a)) (NE.lit (0 + 1))) * 8) 140737488355328 ∧ ∀ (U : Unk) (cap_1 : Nat), NE.den (NE.two (fun x1 x2 ↦ x1 + x2) (NE.var (NuSt.k a)) (NE.lit (0 + 1))) ≤ cap_1 → cap_1 ≤ 9223372036854775807 → ∃ a', I a' ∧ Nat.le (Nat.succ (M a')) (M a) ∧ NuSt.e a = NuSt.e a' ∧ NuSt.p a = NuSt.p a' ∧ NuSt.k a + 1 = NuSt.k a' ∧ cap_1 = NuSt.c3 a' ∧ NuSt.q a = NuSt.q a' ∧ NuSt.c2 a = NuSt.c2 a' ∧ (↑(NuSt.q a) : Int) = (↑(NuSt.q a') : Int) ∧ IE.den (IE.add IntKind.i64 (IE.var (↑(NuSt.k a) : Int)) (IE.lit 1)) = (↑(NuSt.k a') : Int) ∧ cap = cap ∧ (∀ (e : Nat), e < cap → g e = g e) ∧ cap_1 = NuSt.c3 a' ∧ (∀ (e : Nat), e < NuSt.c3 a' → IE.den (Bool.rec (motive := fun _ => IE) (bif Nat.blt e (NuSt.k a + (0 + 1)) then cell1 (NuSt.V a (0 + NE.den (IE.nat (IE.var (↑(NuSt.k a) : Int))))) ((0 / 1 + (e - NuSt.k a)) * 1 + 0) else IE.var (Unk.i U 0 e)) (IE.var (NuSt.O a e)) (Nat.blt e (NuSt.k a))) = NuSt.O a' e) ∧ NuSt.c2 a = NuSt.c2 a' ∧ (∀ (e : Nat), e < NuSt.c2 a' → NuSt.A a e = NuSt.A a' e) ∧ (∀ (e : Nat), e < NuSt.c2 a' → NuSt.V a e = NuSt.V a' e) ∧ True) ∧ (BE.den (BE.cmp BinOp.lss (IE.var (↑(NuSt.k a) : Int)) (IE.var (↑(NuSt.q a) : Int))) = false → ∃ b, R b ∧ NuSt.k a = NuR.n b ∧ NuSt.c3 a = NuR.c b ∧ NuSt.e a = NuR.e b ∧ NuSt.p a = NuR.p b ∧ cap = cap ∧ (∀ (e : Nat), e < cap → g e = g e) ∧ NuSt.c3 a = NuR.c b ∧ (∀ (e : Nat), e < NuR.c b → NuSt.O a e = NuR.O b e) ∧ True))
theorem nu_nf (t : Int) (g : Nat → Int) (len cap : Nat) (I : NuSt → Prop) (M : NuSt → Nat) (R : NuR → Prop) : sxFunc P NU (fun _ => annS NuSt nuSlots (nuHp g cap) I M) Try.f21 [.int .i64 (.var t), sA 0 len cap] [rdRow g cap] (nuQ g cap R) =
    (BE.den (BE.ite (BE.var (decide (0 + cap ≤ cap))) (BE.var (decide (len ≤ cap))) (BE.lit false)) = true ∧ ∀ (cs' : List Col), cs' = List.map Col.nrm (shiftAll (NE.lit 0) [col8 g]) → ((∃ (g : Nat → Int), cs' = [Col.int IntKind.u8 fun e ↦ IE.var (g e)]) ∧ BGood (colG cs') len cap ∧ Nat.le len 1073741824) ∧ (∀ (b : WkR), WalkO t (colG cs') len b → (∃ a, I a ∧ 0 = NuSt.e a ∧ 0 = NuSt.p a ∧ NuSt.k a = 0 ∧ NuSt.c3 a = 0 ∧ WkR.q b = NuSt.q a ∧ WkR.c2 b = NuSt.c2 a ∧ (↑(WkR.q b) : Int) = (↑(NuSt.q a) : Int) ∧ 0 = (↑(NuSt.k a) : Int) ∧ cap = cap ∧ (∀ (e : Nat), e < cap → g e = g e) ∧ NuSt.c3 a = 0 ∧ WkR.c2 b = NuSt.c2 a ∧ (∀ (e : Nat), e < NuSt.c2 a → WkR.A b e = NuSt.A a e) ∧ (∀ (e : Nat), e < NuSt.c2 a → WkR.V b e = NuSt.V a e) ∧ True) ∧ nuLoop g cap I M R ∧ ∀ (u : Nat → Value) (b : Unit), False → False) ∧ ∀ (b : WkE), WalkB t (colG cs') len b → (∃ a, I a ∧ WkE.e b = NuSt.e a ∧ (↑(WkE.p b) : Int) = NuSt.p a ∧ NuSt.k a = 0 ∧ NuSt.c3 a = 0 ∧ NuSt.q a = 0 ∧ NuSt.c2 a = 0 ∧ 0 = (↑(NuSt.q a) : Int) ∧ 0 = (↑(NuSt.k a) : Int) ∧ cap = cap ∧ (∀ (e : Nat), e < cap → g e = g e) ∧ NuSt.c3 a = 0 ∧ NuSt.c2 a = 0 ∧ True) ∧ nuLoop g cap I M R ∧ ∀ (u : Nat → Value) (b : Unit), False → False) := by kernel_rfl
end Go.Proofs.Ytajcmjjgnbaahaa.Amd
