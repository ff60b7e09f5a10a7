/- The law AmdjitRegisters, as it is told. -/
import Derived.Test.YtalifikpmlapgaaGreatJr1
import Derived.Test.YtalifikpmlapgaaGreatSxc
namespace Go.Proofs.YtalifikpmlapgaaGreat.jitNames
open Go Go.RowKit Go.Proofs.YtalifikpmlapgaaGreat.Sx
set_option linter.unusedVariables false
set_option linter.unusedSimpArgs false

def livesCl : Cl where
  args := []
  gs := []
  val := .bool (.lit true)
  new := []
noncomputable def livesS : SpecFn := clSpec [livesCl] fun _ _ _ => False
noncomputable def rgT : List (FuncId × Cal) := [(1000076, .pure fun _ => none), (1000080, .pure fun _ => none), (1000100, .pure fun _ => none), (1000106, .pure fun _ => none), (23, .spec livesS (clGuess [livesCl] fun _ _ => none)), (24, .pure fReg)]
noncomputable def RG : FuncId → Option Cal := inl P (fun _ _ => .plain 60) (table rgT) 4
def ann1 (α : Type) (slots : α → List (Nat × SV)) (hp : α → List SObj) (inv : α → Prop) (μ : α → Nat) : Plan :=
  .said { α := α, slots := slots, hp := hp, inv := inv, μ := μ, exit := 999999, β := Unit, slotsX := fun _ => [], hpX := fun _ => [], invX := fun _ => False }
def slR (len cap : Nat) : SV := .sliceE true 0 1 (.lit 0) (.var len) (.var cap)
def rSlots (len cap : Nat) (k : Nat) : List (Nat × SV) := [(0, slR len cap), (3, .bool (.lit true)), (4, .slice 1 0 (.lit 7) (.lit 7)), (5, .int .i64 (.var k))]
def rHp0 (g : Nat → Int) (cap : Nat) : List SObj := [.row false true [.int .i64 fun e => .var (g e)] (.var cap)]
def regCells : List SV := [6, 8, 9, 10, 11, 3, 5].map fun n => .int .i64 (.lit n)
def rHp (g : Nat → Int) (cap : Nat) (_ : Nat) : List SObj := rHp0 g cap ++ [.cells [.int .i64 (.lit 6), .int .i64 (.lit 8), .int .i64 (.lit 9), .int .i64 (.lit 10), .int .i64 (.lit 11), .int .i64 (.lit 3), .int .i64 (.lit 5)] 3]

theorem regs_nf (g : Nat → Int) (len cap : Nat) (I : Nat → Prop) (M : Nat → Nat) (Q : SV → Prop) : sxFunc P RG (fun _ => ann1 Nat (rSlots len cap) (rHp g cap) I M) Tryz.f7 [slR len cap] (rHp0 g cap) (fun v _ => Q v) =
    ((∃ a, I a ∧ len = len ∧ cap = cap ∧ 0 = (↑a : Int) ∧ cap = cap ∧ (∀ (e : Nat), e < cap → g e = g e) ∧ True) ∧ (∀ (u : Nat → Value) (a : Nat), I a → (BE.den (BE.cmp BinOp.lss (IE.var (↑a : Int)) (IE.var (↑len : Int))) = true → BE.den (BE.ite (BE.var (decide (len ≤ cap ∧ 0 + cap ≤ cap))) (BE.var (decide (0 ≤ (↑a : Int) ∧ (↑a : Int) < (↑len : Int)))) (BE.lit false)) = true ∧ decide (0 + Int.toNat (↑a : Int) + 1 ≤ cap) = true ∧ BE.den (BE.ite (BE.var (decide (len ≤ cap ∧ 0 + cap ≤ cap))) (BE.var (decide (0 ≤ (↑a : Int) ∧ (↑a : Int) < (↑len : Int)))) (BE.lit false)) = true ∧ decide (0 + Int.toNat (↑a : Int) + 1 ≤ cap) = true ∧ (BE.den (BE.cmp BinOp.lss (IE.var (g (0 + Int.toNat (↑a : Int)))) (IE.lit 0)) = true → BE.den (BE.cmp BinOp.neq (IE.var (regV (g (0 + Int.toNat (↑a : Int))))) (IE.lit 0)) = false ∧ regIn (g (0 + Int.toNat (↑a : Int))) = false ∧ ∃ a', I a' ∧ Nat.le (Nat.succ (M a')) (M a) ∧ len = len ∧ cap = cap ∧ IE.den (IE.add IntKind.i64 (IE.var (↑a : Int)) (IE.lit 1)) = (↑a' : Int) ∧ cap = cap ∧ (∀ (e : Nat), e < cap → g e = g e) ∧ True) ∧ (BE.den (BE.cmp BinOp.lss (IE.var (g (0 + Int.toNat (↑a : Int)))) (IE.lit 0)) = false → BE.den (BE.ite (BE.var (decide (len ≤ cap ∧ 0 + cap ≤ cap))) (BE.var (decide (0 ≤ (↑a : Int) ∧ (↑a : Int) < (↑len : Int)))) (BE.lit false)) = true ∧ decide (0 + Int.toNat (↑a : Int) + 1 ≤ cap) = true ∧ (BE.den (BE.cmp BinOp.gtr (IE.var (g (0 + Int.toNat (↑a : Int)))) (IE.lit 6)) = true → BE.den (BE.cmp BinOp.neq (IE.var (regV (g (0 + Int.toNat (↑a : Int))))) (IE.lit 0)) = false ∧ regIn (g (0 + Int.toNat (↑a : Int))) = false ∧ ∃ a', I a' ∧ Nat.le (Nat.succ (M a')) (M a) ∧ len = len ∧ cap = cap ∧ IE.den (IE.add IntKind.i64 (IE.var (↑a : Int)) (IE.lit 1)) = (↑a' : Int) ∧ cap = cap ∧ (∀ (e : Nat), e < cap → g e = g e) ∧ True) ∧ (BE.den (BE.cmp BinOp.gtr (IE.var (g (0 + Int.toNat (↑a : Int)))) (IE.lit 6)) = false → BE.den (BE.ite (BE.var (decide (len ≤ cap ∧ 0 + cap ≤ cap))) (BE.var (decide (0 ≤ (↑a : Int) ∧ (↑a : Int) < (↑len : Int)))) (BE.lit false)) = true ∧ decide (0 + Int.toNat (↑a : Int) + 1 ≤ cap) = true ∧ decide (0 ≤ g (0 + Int.toNat (↑a : Int)) ∧ g (0 + Int.toNat (↑a : Int)) < (↑7 : Int)) = true ∧ decide (0 + Int.toNat (g (0 + Int.toNat (↑a : Int))) + 1 ≤ 7) = true ∧ BE.den (BE.cmp BinOp.neq (IE.var (regV (g (0 + Int.toNat (↑a : Int))))) (IE.var (IE.den (match [SV.int IntKind.i64 (IE.lit 6), SV.int IntKind.i64 (IE.lit 8), SV.int IntKind.i64 (IE.lit 9), SV.int IntKind.i64 (IE.lit 10), SV.int IntKind.i64 (IE.lit 11), SV.int IntKind.i64 (IE.lit 3), SV.int IntKind.i64 (IE.lit 5)][(0 / 1 + NE.den (IE.nat (IE.var (g (0 + NE.den (IE.nat (IE.var (↑a : Int)))))))) * 1 + 0]? with | some (SV.int k a) => a | x => IE.lit 0)))) = false ∧ BE.den (BE.not (BE.var (regIn (g (0 + Int.toNat (↑a : Int)))))) = false ∧ ∃ a', I a' ∧ Nat.le (Nat.succ (M a')) (M a) ∧ len = len ∧ cap = cap ∧ IE.den (IE.add IntKind.i64 (IE.var (↑a : Int)) (IE.lit 1)) = (↑a' : Int) ∧ cap = cap ∧ (∀ (e : Nat), e < cap → g e = g e) ∧ True))) ∧ (BE.den (BE.cmp BinOp.lss (IE.var (↑a : Int)) (IE.var (↑len : Int))) = false → Q (SV.bool (BE.lit true)))) ∧ ∀ (u : Nat → Value) (b : Unit), False → False) := by kernel_rfl
end Go.Proofs.YtalifikpmlapgaaGreat.jitNames
