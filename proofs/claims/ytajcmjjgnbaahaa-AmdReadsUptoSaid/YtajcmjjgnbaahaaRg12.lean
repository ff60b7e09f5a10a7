/- The reference's Decode: its run, the contract of the program's own. -/
import Derived.Test.YtajcmjjgnbaahaaRg10
namespace Go.Proofs.Ytajcmjjgnbaahaa.Amd
open Go Go.Proofs.Ytajcmjjgnbaahaa.Sx Go.RowKit
set_option linter.unusedVariables false
set_option linter.unusedSimpArgs false

noncomputable def rdT : List (FuncId × Cal) := [(28, .spec (rdSpec [.rows 1 zz1, .plain, .plain] guPre guOuts) (rdGuess [.rows 1 zz1, .plain, .plain] guOuts)), (29, .spec (rdSpec [.rows 1 zz1, .plain, .plain] smPre smOuts) (rdGuess [.rows 1 zz1, .plain, .plain] smOuts))]
theorem rdT_ok : GammaOk P (table rdT) := table_cons (spec_cal rguess_ok) (table_cons (spec_cal rsame_ok) fun g s h => by simp [table] at h)
noncomputable def RD : FuncId → Option Cal := inl P (fun _ _ => .plain 40) (table rdT) 4
theorem RD_ok : GammaOk P RD := inl_ok rdT_ok 4
/-- A loop whose invariant is named where it is met. -/
def annW (α : Type) (slots : α → List (Nat × SV)) (hp : α → List SObj) : Plan := .told ⟨α, slots, hp, fun _ => True, fun _ => 0, 999999, Unit, fun _ => [], fun _ => [], fun _ => False⟩
/-- The loop over operations; the loop over guesses. -/
structure DSt where
  op : Nat
structure ESt where
  op : Nat
  r : GuR
  i : Nat
def dSlots (q : Int) (len cap : Nat) (op : Nat) : List (Nat × SV) := [(0, slA 0 len cap), (1, .int .i64 (.var q)), (4, .ptr 1 0), (5, .int .i64 (.lit 0)), (6, .int .i64 (.lit 0)), (7, .int .i64 (.var (op : Int)))]
def zCells : SObj := .cells [.int .i64 (.lit 0), .bool (.lit false), .bool (.lit false), .int .i64 (.lit 0), .int .i64 (.lit 0), .int .i64 (.lit 0), .int .i64 (.lit 0), .int .i64 (.lit 0)] 25
def dHp (g : Nat → Int) (cap : Nat) : List SObj := [rdRow g cap, zCells]
def dPlan (g : Nat → Int) (q : Int) (len cap : Nat) (I : DSt → Prop) (M : DSt → Nat) (b : Nat) : Plan :=
  match b with
  | 0 => annA DSt (fun a => dSlots q len cap (DSt.op a)) (fun a => dHp g cap) I M
  | _ => annW ESt (fun a => dSlots q len cap (ESt.op a) ++ [(8, .sliceE true 2 8 (.lit 0) (.var (GuR.n (ESt.r a))) (.var (GuR.c (ESt.r a)))), (9, .int .i64 (.var (ESt.i a)))]) (fun a => dHp g cap ++ [.row true true (cols8 (GuR.X (ESt.r a))) (.var (GuR.c (ESt.r a)))])
theorem rdec_nf (g : Nat → Int) (len cap : Nat) (q : Int) (I : DSt → Prop) (M : DSt → Nat) (y : AI) (v k : Int) : sxFunc P RD (dPlan g q len cap I M) Try.f14 [slA 0 len cap, .int .i64 (.var q)] [rdRow g cap] (decEnd g cap y v k) =
    ((BE.den (BE.cmp BinOp.lss (IE.var q) (IE.lit 0)) = true → 0 = AI.op y ∧ BE.den (BE.lit false) = AI.wide y ∧ BE.den (BE.lit false) = AI.long y ∧ 0 = AI.d y ∧ 0 = AI.s y ∧ 0 = AI.disp y ∧ 0 = AI.imm y ∧ 0 = AI.cc y ∧ 0 = v ∧ 1 = k ∧ cap = cap ∧ (∀ (e : Nat), e < cap → g e = g e) ∧ True) ∧ (BE.den (BE.cmp BinOp.lss (IE.var q) (IE.lit 0)) = false → (BE.den (BE.cmp BinOp.gtr (IE.var q) (IE.var (↑len : Int))) = true → 0 = AI.op y ∧ BE.den (BE.lit false) = AI.wide y ∧ BE.den (BE.lit false) = AI.long y ∧ 0 = AI.d y ∧ 0 = AI.s y ∧ 0 = AI.disp y ∧ 0 = AI.imm y ∧ 0 = AI.cc y ∧ 0 = v ∧ 1 = k ∧ cap = cap ∧ (∀ (e : Nat), e < cap → g e = g e) ∧ True) ∧ (BE.den (BE.cmp BinOp.gtr (IE.var q) (IE.var (↑len : Int))) = false → (∃ a, I a ∧ len = len ∧ cap = cap ∧ q = q ∧ 1 = (↑(DSt.op a) : Int) ∧ cap = cap ∧ (∀ (e : Nat), e < cap → g e = g e) ∧ True) ∧ (∀ (u : Nat → Value) (a : DSt), I a → (BE.den (BE.cmp BinOp.leq (IE.var (↑(DSt.op a) : Int)) (IE.lit 27)) = true → BE.den (BE.ite (BE.var (decide (0 + cap ≤ cap))) (BE.var (decide (len ≤ cap))) (BE.lit false)) = true ∧ ∀ (cs' : List Col), cs' = List.map Col.nrm (shiftAll (NE.lit 0) [col8 g]) → ((∃ (g : Nat → Int), cs' = [Col.int IntKind.u8 fun e ↦ IE.var (g e)]) ∧ BGood (colG cs') len cap ∧ (Int.NonNeg (q - 0) ∧ Int.NonNeg ((↑len : Int) - q)) ∧ Int.NonNeg ((↑(DSt.op a) : Int) - 1) ∧ Int.NonNeg (27 - (↑(DSt.op a) : Int))) ∧ ∀ (b : GuR), GuOO (colG cs') len (Int.toNat q) (↑(DSt.op a) : Int) b → ∃ (inv : ESt → Prop) (μ : ESt → Nat), (∃ a_5, inv a_5 ∧ len = len ∧ cap = cap ∧ q = q ∧ (↑(DSt.op a) : Int) = (↑(ESt.op a_5) : Int) ∧ GuR.n b = GuR.n (ESt.r a_5) ∧ GuR.c b = GuR.c (ESt.r a_5) ∧ 0 = (↑(ESt.i a_5) : Int) ∧ cap = cap ∧ (∀ (e : Nat), e < cap → g e = g e) ∧ GuR.c b = GuR.c (ESt.r a_5) ∧ (∀ (e : Nat), e < GuR.c (ESt.r a_5) → AI.op (GuR.X b e) = AI.op (GuR.X (ESt.r a_5) e)) ∧ (∀ (e : Nat), e < GuR.c (ESt.r a_5) → AI.wide (GuR.X b e) = AI.wide (GuR.X (ESt.r a_5) e)) ∧ (∀ (e : Nat), e < GuR.c (ESt.r a_5) → AI.long (GuR.X b e) = AI.long (GuR.X (ESt.r a_5) e)) ∧ (∀ (e : Nat), e < GuR.c (ESt.r a_5) → AI.d (GuR.X b e) = AI.d (GuR.X (ESt.r a_5) e)) ∧ (∀ (e : Nat), e < GuR.c (ESt.r a_5) → AI.s (GuR.X b e) = AI.s (GuR.X (ESt.r a_5) e)) ∧ (∀ (e : Nat), e < GuR.c (ESt.r a_5) → AI.disp (GuR.X b e) = AI.disp (GuR.X (ESt.r a_5) e)) ∧ (∀ (e : Nat), e < GuR.c (ESt.r a_5) → AI.imm (GuR.X b e) = AI.imm (GuR.X (ESt.r a_5) e)) ∧ (∀ (e : Nat), e < GuR.c (ESt.r a_5) → AI.cc (GuR.X b e) = AI.cc (GuR.X (ESt.r a_5) e)) ∧ True) ∧ (∀ (u : Nat → Value) (a_5 : ESt), inv a_5 → (BE.den (BE.cmp BinOp.lss (IE.var (↑(ESt.i a_5) : Int)) (IE.var (↑(GuR.n (ESt.r a_5)) : Int))) = true → BE.den (BE.ite (BE.var (decide (GuR.n (ESt.r a_5) ≤ GuR.c (ESt.r a_5) ∧ 0 + GuR.c (ESt.r a_5) ≤ GuR.c (ESt.r a_5)))) (BE.var (decide (0 ≤ (↑(ESt.i a_5) : Int) ∧ (↑(ESt.i a_5) : Int) < (↑(GuR.n (ESt.r a_5)) : Int)))) (BE.lit false)) = true ∧ decide (0 + Int.toNat (↑(ESt.i a_5) : Int) + 1 ≤ GuR.c (ESt.r a_5)) = true ∧ BE.den (BE.ite (BE.var (decide (0 + cap ≤ cap))) (BE.var (decide (len ≤ cap))) (BE.lit false)) = true ∧ ∀ (cs' : List Col), cs' = List.map Col.nrm (shiftAll (NE.lit 0) [col8 g]) → ((∃ (g : Nat → Int), cs' = [Col.int IntKind.u8 fun e ↦ IE.var (g e)]) ∧ BGood (colG cs') len cap ∧ Int.NonNeg (q - 0) ∧ Int.NonNeg ((↑len : Int) - q)) ∧ (smV (colG cs') len q { op := AI.op (GuR.X (ESt.r a_5) (0 + Int.toNat (↑(ESt.i a_5) : Int))), wide := AI.wide (GuR.X (ESt.r a_5) (0 + Int.toNat (↑(ESt.i a_5) : Int))), long := AI.long (GuR.X (ESt.r a_5) (0 + Int.toNat (↑(ESt.i a_5) : Int))), d := AI.d (GuR.X (ESt.r a_5) (0 + Int.toNat (↑(ESt.i a_5) : Int))), s := AI.s (GuR.X (ESt.r a_5) (0 + Int.toNat (↑(ESt.i a_5) : Int))), disp := AI.disp (GuR.X (ESt.r a_5) (0 + Int.toNat (↑(ESt.i a_5) : Int))), imm := AI.imm (GuR.X (ESt.r a_5) (0 + Int.toNat (↑(ESt.i a_5) : Int))), cc := AI.cc (GuR.X (ESt.r a_5) (0 + Int.toNat (↑(ESt.i a_5) : Int))) } = true → BE.den (BE.ite (BE.var (decide (GuR.n (ESt.r a_5) ≤ GuR.c (ESt.r a_5) ∧ 0 + GuR.c (ESt.r a_5) ≤ GuR.c (ESt.r a_5)))) (BE.var (decide (0 ≤ (↑(ESt.i a_5) : Int) ∧ (↑(ESt.i a_5) : Int) < (↑(GuR.n (ESt.r a_5)) : Int)))) (BE.lit false)) = true ∧ decide (0 + Int.toNat (↑(ESt.i a_5) : Int) + 1 ≤ GuR.c (ESt.r a_5)) = true ∧ AI.op (GuR.X (ESt.r a_5) (0 + Int.toNat (↑(ESt.i a_5) : Int))) = AI.op y ∧ AI.wide (GuR.X (ESt.r a_5) (0 + Int.toNat (↑(ESt.i a_5) : Int))) = AI.wide y ∧ AI.long (GuR.X (ESt.r a_5) (0 + Int.toNat (↑(ESt.i a_5) : Int))) = AI.long y ∧ AI.d (GuR.X (ESt.r a_5) (0 + Int.toNat (↑(ESt.i a_5) : Int))) = AI.d y ∧ AI.s (GuR.X (ESt.r a_5) (0 + Int.toNat (↑(ESt.i a_5) : Int))) = AI.s y ∧ AI.disp (GuR.X (ESt.r a_5) (0 + Int.toNat (↑(ESt.i a_5) : Int))) = AI.disp y ∧ AI.imm (GuR.X (ESt.r a_5) (0 + Int.toNat (↑(ESt.i a_5) : Int))) = AI.imm y ∧ AI.cc (GuR.X (ESt.r a_5) (0 + Int.toNat (↑(ESt.i a_5) : Int))) = AI.cc y ∧ smE (colG cs') len q { op := AI.op (GuR.X (ESt.r a_5) (0 + Int.toNat (↑(ESt.i a_5) : Int))), wide := AI.wide (GuR.X (ESt.r a_5) (0 + Int.toNat (↑(ESt.i a_5) : Int))), long := AI.long (GuR.X (ESt.r a_5) (0 + Int.toNat (↑(ESt.i a_5) : Int))), d := AI.d (GuR.X (ESt.r a_5) (0 + Int.toNat (↑(ESt.i a_5) : Int))), s := AI.s (GuR.X (ESt.r a_5) (0 + Int.toNat (↑(ESt.i a_5) : Int))), disp := AI.disp (GuR.X (ESt.r a_5) (0 + Int.toNat (↑(ESt.i a_5) : Int))), imm := AI.imm (GuR.X (ESt.r a_5) (0 + Int.toNat (↑(ESt.i a_5) : Int))), cc := AI.cc (GuR.X (ESt.r a_5) (0 + Int.toNat (↑(ESt.i a_5) : Int))) } = v ∧ 0 = k ∧ cap = cap ∧ (∀ (e : Nat), e < cap → g e = g e) ∧ True) ∧ (smV (colG cs') len q { op := AI.op (GuR.X (ESt.r a_5) (0 + Int.toNat (↑(ESt.i a_5) : Int))), wide := AI.wide (GuR.X (ESt.r a_5) (0 + Int.toNat (↑(ESt.i a_5) : Int))), long := AI.long (GuR.X (ESt.r a_5) (0 + Int.toNat (↑(ESt.i a_5) : Int))), d := AI.d (GuR.X (ESt.r a_5) (0 + Int.toNat (↑(ESt.i a_5) : Int))), s := AI.s (GuR.X (ESt.r a_5) (0 + Int.toNat (↑(ESt.i a_5) : Int))), disp := AI.disp (GuR.X (ESt.r a_5) (0 + Int.toNat (↑(ESt.i a_5) : Int))), imm := AI.imm (GuR.X (ESt.r a_5) (0 + Int.toNat (↑(ESt.i a_5) : Int))), cc := AI.cc (GuR.X (ESt.r a_5) (0 + Int.toNat (↑(ESt.i a_5) : Int))) } = false → ∃ a', inv a' ∧ Nat.le (Nat.succ (μ a')) (μ a_5) ∧ len = len ∧ cap = cap ∧ q = q ∧ (↑(ESt.op a_5) : Int) = (↑(ESt.op a') : Int) ∧ GuR.n (ESt.r a_5) = GuR.n (ESt.r a') ∧ GuR.c (ESt.r a_5) = GuR.c (ESt.r a') ∧ IE.den (IE.add IntKind.i64 (IE.var (↑(ESt.i a_5) : Int)) (IE.lit 1)) = (↑(ESt.i a') : Int) ∧ cap = cap ∧ (∀ (e : Nat), e < cap → g e = g e) ∧ GuR.c (ESt.r a_5) = GuR.c (ESt.r a') ∧ (∀ (e : Nat), e < GuR.c (ESt.r a') → AI.op (GuR.X (ESt.r a_5) e) = AI.op (GuR.X (ESt.r a') e)) ∧ (∀ (e : Nat), e < GuR.c (ESt.r a') → AI.wide (GuR.X (ESt.r a_5) e) = AI.wide (GuR.X (ESt.r a') e)) ∧ (∀ (e : Nat), e < GuR.c (ESt.r a') → AI.long (GuR.X (ESt.r a_5) e) = AI.long (GuR.X (ESt.r a') e)) ∧ (∀ (e : Nat), e < GuR.c (ESt.r a') → AI.d (GuR.X (ESt.r a_5) e) = AI.d (GuR.X (ESt.r a') e)) ∧ (∀ (e : Nat), e < GuR.c (ESt.r a') → AI.s (GuR.X (ESt.r a_5) e) = AI.s (GuR.X (ESt.r a') e)) ∧ (∀ (e : Nat), e < GuR.c (ESt.r a') → AI.disp (GuR.X (ESt.r a_5) e) = AI.disp (GuR.X (ESt.r a') e)) ∧ (∀ (e : Nat), e < GuR.c (ESt.r a') → AI.imm (GuR.X (ESt.r a_5) e) = AI.imm (GuR.X (ESt.r a') e)) ∧ (∀ (e : Nat), e < GuR.c (ESt.r a') → AI.cc (GuR.X (ESt.r a_5) e) = AI.cc (GuR.X (ESt.r a') e)) ∧ True)) ∧ (BE.den (BE.cmp BinOp.lss (IE.var (↑(ESt.i a_5) : Int)) (IE.var (↑(GuR.n (ESt.r a_5)) : Int))) = false → ∃ a', I a' ∧ Nat.le (Nat.succ (M a')) (M a) ∧ len = len ∧ cap = cap ∧ q = q ∧ IE.den (IE.add IntKind.i64 (IE.var (↑(ESt.op a_5) : Int)) (IE.lit 1)) = (↑(DSt.op a') : Int) ∧ cap = cap ∧ (∀ (e : Nat), e < cap → g e = g e) ∧ True)) ∧ ∀ (u : Nat → Value) (b : Unit), ((fun x ↦ False)) b → ∃ (b : Unit), False ∧ True) ∧ (BE.den (BE.cmp BinOp.leq (IE.var (↑(DSt.op a) : Int)) (IE.lit 27)) = false → 0 = AI.op y ∧ BE.den (BE.lit false) = AI.wide y ∧ BE.den (BE.lit false) = AI.long y ∧ 0 = AI.d y ∧ 0 = AI.s y ∧ 0 = AI.disp y ∧ 0 = AI.imm y ∧ 0 = AI.cc y ∧ 0 = v ∧ 5 = k ∧ cap = cap ∧ (∀ (e : Nat), e < cap → g e = g e) ∧ True)) ∧ ∀ (u : Nat → Value) (b : Unit), False → False))) := by kernel_rfl
section
variable {g : Nat → Int} {len cap i : Nat}
/-- What is guessed and stands there is what stands there. -/
theorem sm_dec {op : Int} {r : GuR} {n : Nat} (hr : GuOO g len i op r) (hn : n < r.n) (h : smV g len i (r.X n) = true) : amdDec g len i = some (r.X n, i + (amdBytes (r.X n)).length) ∧ (r.X n).op = op := by
  obtain ⟨f, hf, hO⟩ := hr
  obtain ⟨h1, h2, h3⟩ := smV_iff.1 h
  have hX := hO.X n hn
  have hn2 : n < (if gpI g len i < len then (if choice f = true then 2 else 1) else 0) := by rw [← hO.n]; exact hn
  have hc : decide (n = 1) = true → choice f = true := fun hd => by
    have hd := of_decide_eq_true hd
    cases hcf : choice f with
    | true => rfl
    | false =>
      rw [hcf] at hn2
      simp only [Bool.false_eq_true, if_false] at hn2
      split at hn2 <;> omega
  have hp : plain (r.X n) = r.X n := by rw [hX]; exact guess_plain hf hc
  refine ⟨?_, by rw [hX]; cases f <;> rfl⟩
  have := dec_enc h1 h3 h2
  rw [hp] at this; exact this
/-- What stands there is guessed. -/
theorem dec_sm (hg : BGood g len cap) {op : Int} {r : GuR} {y : AI} {e : Nat} (hr : GuOO g len i op r) (hy : amdDec g len i = some (y, e)) (ho : y.op = op) : ∃ n, n < r.n ∧ smV g len i (r.X n) = true := by
  obtain ⟨f, hf, hO⟩ := hr
  obtain ⟨d1, d2, d3, d4, d5⟩ := enc_dec hg.byte hy
  subst ho
  obtain ⟨g1, g2, g3⟩ := guess_of (len := len) hf d2 d3 d4 (by omega)
  have hn : (if y.long = true then 1 else 0) < r.n := by
    rw [hO.n, if_pos g1]
    split
    · rw [if_pos (g3 (by assumption))]; decide
    · split <;> decide
  refine ⟨_, hn, ?_⟩
  rw [hO.X _ hn]
  have e1 : decide ((if y.long = true then 1 else 0) = 1) = y.long := by cases y.long <;> rfl
  rw [e1, g2]
  exact smV_iff.2 ⟨d2, by omega, d4⟩
theorem dec_op (hg : BGood g len cap) {y : AI} {e : Nat} (hy : amdDec g len i = some (y, e)) : 1 ≤ y.op ∧ y.op ≤ 27 := by
  obtain ⟨d1, d2, d3, d4, d5⟩ := enc_dec hg.byte hy
  refine Classical.byContradiction fun hn => ?_
  unfold amdErr at d2
  rw [formOf_none hn] at d2
  cases d2
end
def dInv (g : Nat → Int) (len i : Nat) (a : DSt) : Prop := 1 ≤ a.op ∧ a.op ≤ 28 ∧ ∀ y e, amdDec g len i = some (y, e) → (a.op : Int) ≤ y.op
def eInv (g : Nat → Int) (len i op : Nat) (b : GuR) (s : ESt) : Prop := s.op = op ∧ s.r = b ∧ s.i ≤ b.n ∧ ∀ e, e < s.i → smV g len i (b.X e) = false
theorem rdecode_ok : SpecOk P 14 decM := by
  have hs := some_un fun un => func_sound (un := un) RD_ok Try.func14
  refine dec_spec hs ?_
  intro g len cap q hg
  refine ⟨dPlan g q len cap (dInv g len q.toNat) (fun a => 28 - a.op), ?_⟩
  have hsm := hg.small
  have hrm := hg.room
  show sxFunc P RD _ _ [slA 0 len cap, .int .i64 (.var q)] [rdRow g cap] _
  rw [rdec_nf]
  refine ⟨fun h1 => ?_, fun h1 => ⟨fun h2 => ?_, fun h2 => ?_⟩⟩
  · rw [d_lss] at h1
    have h1 := of_decide_eq_true h1
    have e : decOut g len q = (zI, 0, 1) := if_pos (.inl h1)
    rw [e]
    exact ⟨rfl, rfl, rfl, rfl, rfl, rfl, rfl, rfl, rfl, rfl, rfl, fun _ _ => rfl, trivial⟩
  · rw [gtr_d] at h2
    have h2 : (len : Int) < q := of_decide_eq_true h2
    have e : decOut g len q = (zI, 0, 1) := if_pos (.inr h2)
    rw [e]
    exact ⟨rfl, rfl, rfl, rfl, rfl, rfl, rfl, rfl, rfl, rfl, rfl, fun _ _ => rfl, trivial⟩
  rw [d_lss] at h1
  rw [gtr_d] at h2
  have h1 : ¬ q < 0 := of_decide_eq_false h1
  have h2 : ¬ (len : Int) < q := of_decide_eq_false h2
  obtain ⟨j, rfl⟩ := Int.eq_ofNat_of_zero_le (show 0 ≤ q by omega)
  have hj : j ≤ len := by omega
  rw [Int.toNat_natCast]
  have eD : decOut g len (j : Int) = decOf (amdDec g len j) := by
    unfold decOut; rw [if_neg (by omega), Int.toNat_natCast]
  rw [eD]
  refine ⟨⟨⟨1⟩, ⟨Nat.le_refl _, by decide, fun y e hy => (dec_op hg hy).1⟩, rfl, rfl, rfl, rfl, rfl, fun _ _ => rfl, trivial⟩, ?_, fun _ _ h => h⟩
  rintro _ ⟨op⟩ ⟨i1, i2, i3⟩
  dsimp only at i1 i2 i3 ⊢
  refine ⟨fun hle => ?_, fun hgt => ?_⟩
  · rw [c_leq] at hle
    have hle := of_decide_eq_true hle
    refine ⟨ask2 hrm, fun cs' hcs => ?_⟩
    have hc : colG cs' = g := by rw [hcs]; rfl
    rw [hc]
    refine ⟨⟨by rw [hcs]; exact ⟨g, rfl⟩, hg, ⟨show (0 : Int) ≤ (j : Int) by omega, show (j : Int) ≤ (len : Int) by omega⟩, show (1 : Int) ≤ (op : Int) by omega, show (op : Int) ≤ 27 by omega⟩, fun b hb => ?_⟩
    refine ⟨eInv g len j op b, fun s => b.n - s.i, ⟨⟨op, b, 0⟩, ⟨rfl, rfl, Nat.zero_le _, fun e he => absurd he (Nat.not_lt_zero e)⟩, rfl, rfl, rfl, rfl, rfl, rfl, rfl, rfl, fun _ _ => rfl, rfl, fun _ _ => rfl, fun _ _ => rfl, fun _ _ => rfl, fun _ _ => rfl, fun _ _ => rfl, fun _ _ => rfl, fun _ _ => rfl, fun _ _ => rfl, trivial⟩, ?_, fun _ _ h => h.elim⟩
    rintro _ ⟨op', r, i⟩ ⟨rfl, rfl, k1, k2⟩
    dsimp only at k1 k2 i1 i2 i3 hb hle ⊢
    have hb' := hb
    obtain ⟨f, hf, hO⟩ := hb'
    have rc := hO.rc
    refine ⟨fun hlt => ?_, fun hge => ?_⟩
    · have hlt : (i : Int) < (r.n : Int) := by simpa [BE.den, IE.den, cmpI_lss] using hlt
      have hi : i < r.n := by omega
      have t2 : 0 + Int.toNat (i : Int) = i := by omega
      rw [t2]
      have A1 := ask_in (len := r.n) (cap := r.c) (x := (i : Int)) rc (by omega) hlt
      have A2 : decide (i + 1 ≤ r.c) = true := decide_eq_true (by omega)
      refine ⟨A1, A2, ask2 hrm, fun cs' hcs => ?_⟩
      have hc : colG cs' = g := by rw [hcs]; rfl
      rw [hc]
      refine ⟨⟨by rw [hcs]; exact ⟨g, rfl⟩, hg, show (0 : Int) ≤ (j : Int) by omega, show (j : Int) ≤ (len : Int) by omega⟩, fun hv => ?_, fun hv => ?_⟩
      · have hv : smV g len (j : Int) (r.X i) = true := hv
        obtain ⟨hd, _⟩ := sm_dec hb hi hv
        have e1 : smE g len (j : Int) (r.X i) = ((j + (amdBytes (r.X i)).length : Nat) : Int) := by unfold smE; rw [if_pos hv]; omega
        rw [hd]
        exact ⟨A1, A2, rfl, rfl, rfl, rfl, rfl, rfl, rfl, rfl, e1, rfl, rfl, fun _ _ => rfl, trivial⟩
      · have hv : smV g len (j : Int) (r.X i) = false := hv
        have e2 : IE.den (IE.add IntKind.i64 (IE.var (i : Int)) (IE.lit 1)) = ((i + 1 : Nat) : Int) := by
          have := hO.cc
          simp only [IE.den]; rw [wrap_i64_in (by omega) (by omega)]; omega
        refine ⟨⟨op', r, i + 1⟩, ⟨rfl, rfl, hi, fun e he => ?_⟩, ?_, rfl, rfl, rfl, rfl, rfl, rfl, e2, rfl, fun _ _ => rfl, rfl, fun _ _ => rfl, fun _ _ => rfl, fun _ _ => rfl, fun _ _ => rfl, fun _ _ => rfl, fun _ _ => rfl, fun _ _ => rfl, fun _ _ => rfl, trivial⟩
        · have he : e < i + 1 := he
          by_cases h : e < i
          · exact k2 e h
          · obtain rfl : e = i := by omega
            exact hv
        · show r.n - (i + 1) + 1 ≤ r.n - i
          omega
    · have hge : ¬ (i : Int) < (r.n : Int) := by simpa [BE.den, IE.den, cmpI_lss] using hge
      have hi : i = r.n := by omega
      have e2 : IE.den (IE.add IntKind.i64 (IE.var (op' : Int)) (IE.lit 1)) = ((op' + 1 : Nat) : Int) := by
        simp only [IE.den]; rw [wrap_i64_in (by omega) (by omega)]; omega
      refine ⟨⟨op' + 1⟩, ⟨by dsimp only; omega, by dsimp only; omega, fun y e hy => ?_⟩, ?_, rfl, rfl, rfl, e2, rfl, fun _ _ => rfl, trivial⟩
      · have h3 := i3 y e hy
        show ((op' + 1 : Nat) : Int) ≤ y.op
        by_cases ho : y.op = (op' : Int)
        · obtain ⟨n, hn, hv⟩ := dec_sm hg hb hy ho
          rw [k2 n (by omega)] at hv
          cases hv
        · omega
      · show 28 - (op' + 1) + 1 ≤ 28 - op'
        omega
  · rw [c_leq] at hgt
    have hgt := of_decide_eq_false hgt
    have hN : amdDec g len j = none := by
      cases hd : amdDec g len j with
      | none => rfl
      | some z =>
        obtain ⟨y, e⟩ := z
        have := i3 y e hd
        have := dec_op hg hd
        omega
    rw [hN]
    exact ⟨rfl, rfl, rfl, rfl, rfl, rfl, rfl, rfl, rfl, rfl, rfl, fun _ _ => rfl, trivial⟩
end Go.Proofs.Ytajcmjjgnbaahaa.Amd
