/- The places where code's instructions begin, and a number's place, as they are told. -/
import Derived.Test.YtajcmjjgnbaahaaSn5
namespace Go.Proofs.Ytajcmjjgnbaahaa.Amd
open Go Go.Proofs.Ytajcmjjgnbaahaa.Sx Go.RowKit
set_option linter.unusedVariables false
set_option linter.unusedSimpArgs false

/-- What the places are. -/
structure StR where
  e : Int
  p : Int
  n : Nat
  c : Nat
  S : Nat → Int
def stOuts (R : StR → Prop) : List Out :=
  [.any StR R (fun r n => .tuple [.sliceE true n 1 (.lit 0) (.var (StR.n r)) (.var (StR.c r)), .int .i64 (.var (StR.e r)), .int .i64 (.var (StR.p r))]) (fun r => [.row true true [colI8 (StR.S r)] (.var (StR.c r))]) (fun _ => [])]
def stQ (g : Nat → Int) (cap : Nat) (R : StR → Prop) : SV → List SObj → Prop :=
  fun v hp => outsE (stOuts R) fun o => o.some 1 fun val new _ => simAt 1 1 { tmps := [v], hp := hp } [(0, val)] ([rdRow g cap] ++ new)
/-- The heads of the search: the error, what was found, the place. -/
structure HsSt where
  e : Int
  q : Nat
  c2 : Nat
  A : Nat → Int
  V : Nat → Int
  i : Nat
def hsSlots (k : Int) (a : HsSt) : List (Nat × SV) :=
  [(2, .int .u32 (.var k)), (11, .int .i64 (.var (HsSt.e a))), (23, .sliceE true 1 2 (.lit 0) (.var (HsSt.q a)) (.var (HsSt.c2 a))), (24, .int .i64 (.var (HsSt.q a))), (25, .int .i64 (.var (HsSt.i a)))]
def hsHp (g : Nat → Int) (cap : Nat) (a : HsSt) : List SObj := [rdRow g cap, .row true true [colI8 (HsSt.A a), colI8 (HsSt.V a)] (.var (HsSt.c2 a))]
/-- What a search comes to. -/
structure HsR where
  at' : Int
  has : Bool
  e : Int
def hsOuts (R : HsR → Prop) : List Out :=
  [.any HsR R (fun r _ => .tuple [.int .i64 (.var (HsR.at' r)), .bool (.var (HsR.has r)), .int .i64 (.var (HsR.e r))]) (fun _ => []) (fun _ => [])]
def hsQ (g : Nat → Int) (cap : Nat) (R : HsR → Prop) : SV → List SObj → Prop :=
  fun v hp => outsE (hsOuts R) fun o => o.some 1 fun val new _ => simAt 1 1 { tmps := [v], hp := hp } [(0, val)] ([rdRow g cap] ++ new)
theorem st_nf (t : Int) (g : Nat → Int) (len cap : Nat) (R : StR → Prop) : sxFunc P NU (fun _ => 40) Try.f22 [.int .i64 (.var t), sA 0 len cap] [rdRow g cap] (stQ g cap R) =
    (BE.den (BE.ite (BE.var (decide (0 + cap ≤ cap))) (BE.var (decide (len ≤ cap))) (BE.lit false)) = true ∧ ∀ (cs' : List Col), cs' = List.map Col.nrm (shiftAll (NE.lit 0) [col8 g]) → ((∃ (g : Nat → Int), cs' = [Col.int IntKind.u8 fun e ↦ IE.var (g e)]) ∧ BGood (colG cs') len cap ∧ Nat.le len 1073741824) ∧ (∀ (b : WkR), WalkO t (colG cs') len b → ∃ b_1, R b_1 ∧ WkR.n b = StR.n b_1 ∧ WkR.c1 b = StR.c b_1 ∧ 0 = StR.e b_1 ∧ 0 = StR.p b_1 ∧ cap = cap ∧ (∀ (e : Nat), e < cap → g e = g e) ∧ WkR.c1 b = StR.c b_1 ∧ (∀ (e : Nat), e < StR.c b_1 → WkR.S b e = StR.S b_1 e) ∧ True) ∧ ∀ (b : WkE), WalkB t (colG cs') len b → ∃ b_1, R b_1 ∧ StR.n b_1 = 0 ∧ StR.c b_1 = 0 ∧ WkE.e b = StR.e b_1 ∧ (↑(WkE.p b) : Int) = StR.p b_1 ∧ cap = cap ∧ (∀ (e : Nat), e < cap → g e = g e) ∧ StR.c b_1 = 0 ∧ True) := by kernel_rfl
def hsLoop (k : Int) (g : Nat → Int) (cap : Nat) (I : HsSt → Prop) (M : HsSt → Nat) (R : HsR → Prop) : Prop :=
  (∀ (u : Nat → Value) (a : HsSt), I a → (BE.den (BE.cmp BinOp.lss (IE.var (↑(HsSt.i a) : Int)) (IE.var (↑(HsSt.q a) : Int))) = true → BE.den (BE.ite (BE.var (decide (HsSt.q a ≤ HsSt.c2 a ∧ 0 + HsSt.c2 a ≤ HsSt.c2 a))) (BE.var (decide (0 ≤ (↑(HsSt.i a) : Int) ∧ (↑(HsSt.i a) : Int) < (↑(HsSt.q a) : Int)))) (BE.lit false)) = true ∧ decide (0 + Int.toNat (↑(HsSt.i a) : Int) + 1 ≤ HsSt.c2 a) = true ∧ (BE.den (BE.cmp BinOp.eql (IE.conv IntKind.u32 (IE.var (HsSt.V a (0 + Int.toNat (↑(HsSt.i a) : Int))))) (IE.var k)) = true → ∃ b, R b ∧ HsSt.A a (0 + Int.toNat (↑(HsSt.i a) : Int)) = HsR.at' b ∧ BE.den (BE.lit true) = HsR.has b ∧ 0 = HsR.e b ∧ cap = cap ∧ (∀ (e : Nat), e < cap → g e = g e) ∧ True) ∧ (BE.den (BE.cmp BinOp.eql (IE.conv IntKind.u32 (IE.var (HsSt.V a (0 + Int.toNat (↑(HsSt.i a) : Int))))) (IE.var k)) = false → ∃ a', I a' ∧ Nat.le (Nat.succ (M a')) (M a) ∧ k = k ∧ HsSt.e a = HsSt.e a' ∧ HsSt.q a = HsSt.q a' ∧ HsSt.c2 a = HsSt.c2 a' ∧ (↑(HsSt.q a) : Int) = (↑(HsSt.q a') : Int) ∧ IE.den (IE.add IntKind.i64 (IE.var (↑(HsSt.i a) : Int)) (IE.lit 1)) = (↑(HsSt.i a') : Int) ∧ cap = cap ∧ (∀ (e : Nat), e < cap → g e = g e) ∧ HsSt.c2 a = HsSt.c2 a' ∧ (∀ (e : Nat), e < HsSt.c2 a' → HsSt.A a e = HsSt.A a' e) ∧ (∀ (e : Nat), e < HsSt.c2 a' → HsSt.V a e = HsSt.V a' e) ∧ True)) ∧ (BE.den (BE.cmp BinOp.lss (IE.var (↑(HsSt.i a) : Int)) (IE.var (↑(HsSt.q a) : Int))) = false → ∃ b, R b ∧ 0 = HsR.at' b ∧ BE.den (BE.lit false) = HsR.has b ∧ HsSt.e a = HsR.e b ∧ cap = cap ∧ (∀ (e : Nat), e < cap → g e = g e) ∧ True))
theorem hs_nf (t k : Int) (g : Nat → Int) (len cap : Nat) (I : HsSt → Prop) (M : HsSt → Nat) (R : HsR → Prop) : sxFunc P NU (fun _ => annS HsSt (hsSlots k) (hsHp g cap) I M) Try.f23 [.int .i64 (.var t), sA 0 len cap, .int .u32 (.var k)] [rdRow g cap] (hsQ g cap R) =
    (BE.den (BE.ite (BE.var (decide (0 + cap ≤ cap))) (BE.var (decide (len ≤ cap))) (BE.lit false)) = true ∧ ∀ (cs' : List Col), cs' = List.map Col.nrm (shiftAll (NE.lit 0) [col8 g]) → ((∃ (g : Nat → Int), cs' = [Col.int IntKind.u8 fun e ↦ IE.var (g e)]) ∧ BGood (colG cs') len cap ∧ Nat.le len 1073741824) ∧ (∀ (b : WkR), WalkO t (colG cs') len b → (∃ a, I a ∧ k = k ∧ 0 = HsSt.e a ∧ WkR.q b = HsSt.q a ∧ WkR.c2 b = HsSt.c2 a ∧ (↑(WkR.q b) : Int) = (↑(HsSt.q a) : Int) ∧ 0 = (↑(HsSt.i a) : Int) ∧ cap = cap ∧ (∀ (e : Nat), e < cap → g e = g e) ∧ WkR.c2 b = HsSt.c2 a ∧ (∀ (e : Nat), e < HsSt.c2 a → WkR.A b e = HsSt.A a e) ∧ (∀ (e : Nat), e < HsSt.c2 a → WkR.V b e = HsSt.V a e) ∧ True) ∧ hsLoop k g cap I M R ∧ ∀ (u : Nat → Value) (b : Unit), False → False) ∧ ∀ (b : WkE), WalkB t (colG cs') len b → (∃ a, I a ∧ k = k ∧ WkE.e b = HsSt.e a ∧ HsSt.q a = 0 ∧ HsSt.c2 a = 0 ∧ 0 = (↑(HsSt.q a) : Int) ∧ 0 = (↑(HsSt.i a) : Int) ∧ cap = cap ∧ (∀ (e : Nat), e < cap → g e = g e) ∧ HsSt.c2 a = 0 ∧ True) ∧ hsLoop k g cap I M R ∧ ∀ (u : Nat → Value) (b : Unit), False → False) := by kernel_rfl
end Go.Proofs.Ytajcmjjgnbaahaa.Amd
