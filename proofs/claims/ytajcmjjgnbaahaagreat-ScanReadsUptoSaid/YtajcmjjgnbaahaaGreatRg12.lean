/- The reference's Decode: its run, the contract of the program's own. -/
import Derived.Test.YtajcmjjgnbaahaaGreatRg10
set_option linter.unusedVariables false
set_option linter.unusedSimpArgs false
namespace Go.Proofs.YtajcmjjgnbaahaaGreat.Amd
open Go Go.Proofs.YtajcmjjgnbaahaaGreat.Sx Go.RowKit
noncomputable def rdT : List (FuncId × Cal) := [(23, .spec (zAK [.rows 1 zz1, .plain, .plain] zRi zLw) (zBn [.rows 1 zz1, .plain, .plain] zLw)), (24, .spec (zAK [.rows 1 zz1, .plain, .plain] zQH zLL) (zBn [.rows 1 zz1, .plain, .plain] zLL))]
theorem zYA : zO P (zx rdT) := zG (zAn zQW) (zG (zAn zSq) fun g s h => by simp [zx] at h)
noncomputable def RD : FuncId -> Option Cal := inl P (fun _ _ => .plain 40) (zx rdT) 4
theorem zba : zO P RD := zAh zYA 4
def annW (α : Type) (slots : α -> List (Nat × SV)) (hp : α -> List SObj) : Plan := .told ⟨α, slots, hp, fun _ => True, fun _ => 0, 999999, Unit, fun _ => [], fun _ => [], fun _ => False⟩
structure DSt where
 op : Nat
structure ESt where
 op : Nat
 r : GuR
 i : Nat
def zUg (q : Int) (len cap : Nat) (op : Nat) : List (Nat × SV) := [(0, slA 0 len cap), (1, .int .i64 (.var q)), (4, .ptr 1 0), (5, .int .i64 (.lit 0)), (6, .int .i64 (.lit 0)), (7, .int .i64 (.var (op : Int)))]
def zXF : SObj := .cells [.int .i64 (.lit 0), .bool (.lit false), .bool (.lit false), .int .i64 (.lit 0), .int .i64 (.lit 0), .int .i64 (.lit 0), .int .i64 (.lit 0), .int .i64 (.lit 0)] 67
def dHp (g : Nat -> Int) (cap : Nat) : List SObj := [rdRow g cap, zXF]
def zZZ (g : Nat -> Int) (q : Int) (len cap : Nat) (I : DSt -> Prop) (M : DSt -> Nat) (b : Nat) : Plan :=
 match b with
 | 0 => annA DSt (fun a => zUg q len cap (DSt.op a)) (fun a => dHp g cap) I M
 | _ => annW ESt (fun a => zUg q len cap (ESt.op a) ++ [(8, .sliceE true 2 8 (.lit 0) (.var (GuR.n (ESt.r a))) (.var (GuR.c (ESt.r a)))), (9, .int .i64 (.var (ESt.i a)))]) (fun a => dHp g cap ++ [.row true true (zW3 (GuR.X (ESt.r a))) (.var (GuR.c (ESt.r a)))])
theorem zVW (g : Nat -> Int) (len cap : Nat) (q : Int) (I : DSt -> Prop) (M : DSt -> Nat) (y : AI) (v k : Int) : zH P RD (zZZ g q len cap I M) Tryz.f17 [slA 0 len cap, .int .i64 (.var q)] [rdRow g cap] (zR5 g cap y v k) =
  ((BE.den (BE.cmp BinOp.lss (IE.var q) (IE.lit 0)) = true -> 0 = AI.op y /\ BE.den (BE.lit false) = AI.wide y /\ BE.den (BE.lit false) = AI.long y /\ 0 = AI.d y /\ 0 = AI.s y /\ 0 = AI.disp y /\ 0 = AI.imm y /\ 0 = AI.cc y /\ 0 = v /\ 1 = k /\ cap = cap /\ (∀ (e : Nat), e < cap -> g e = g e) /\ True) /\ (BE.den (BE.cmp BinOp.lss (IE.var q) (IE.lit 0)) = false -> (BE.den (BE.cmp BinOp.gtr (IE.var q) (IE.var (↑len : Int))) = true -> 0 = AI.op y /\ BE.den (BE.lit false) = AI.wide y /\ BE.den (BE.lit false) = AI.long y /\ 0 = AI.d y /\ 0 = AI.s y /\ 0 = AI.disp y /\ 0 = AI.imm y /\ 0 = AI.cc y /\ 0 = v /\ 1 = k /\ cap = cap /\ (∀ (e : Nat), e < cap -> g e = g e) /\ True) /\ (BE.den (BE.cmp BinOp.gtr (IE.var q) (IE.var (↑len : Int))) = false -> (∃ a, I a /\ len = len /\ cap = cap /\ q = q /\ 1 = (↑(DSt.op a) : Int) /\ cap = cap /\ (∀ (e : Nat), e < cap -> g e = g e) /\ True) /\ (∀ (u : Nat -> Value) (a : DSt), I a -> (BE.den (BE.cmp BinOp.leq (IE.var (↑(DSt.op a) : Int)) (IE.lit 27)) = true -> BE.den (BE.ite (BE.var (decide (0 + cap <= cap))) (BE.var (decide (len <= cap))) (BE.lit false)) = true /\ ∀ (cs' : List Col), cs' = List.map Col.nrm (zY (NE.lit 0) [col8 g]) -> ((∃ (g : Nat -> Int), cs' = [Col.int IntKind.u8 fun e => IE.var (g e)]) /\ BGood (colG cs') len cap /\ (Int.NonNeg (q - 0) /\ Int.NonNeg ((↑len : Int) - q)) /\ Int.NonNeg ((↑(DSt.op a) : Int) - 1) /\ Int.NonNeg (27 - (↑(DSt.op a) : Int))) /\ ∀ (b : GuR), GuOO (colG cs') len (Int.toNat q) (↑(DSt.op a) : Int) b -> ∃ (inv : ESt -> Prop) (μ : ESt -> Nat), (∃ a_5, inv a_5 /\ len = len /\ cap = cap /\ q = q /\ (↑(DSt.op a) : Int) = (↑(ESt.op a_5) : Int) /\ GuR.n b = GuR.n (ESt.r a_5) /\ GuR.c b = GuR.c (ESt.r a_5) /\ 0 = (↑(ESt.i a_5) : Int) /\ cap = cap /\ (∀ (e : Nat), e < cap -> g e = g e) /\ GuR.c b = GuR.c (ESt.r a_5) /\ (∀ (e : Nat), e < GuR.c (ESt.r a_5) -> AI.op (GuR.X b e) = AI.op (GuR.X (ESt.r a_5) e)) /\ (∀ (e : Nat), e < GuR.c (ESt.r a_5) -> AI.wide (GuR.X b e) = AI.wide (GuR.X (ESt.r a_5) e)) /\ (∀ (e : Nat), e < GuR.c (ESt.r a_5) -> AI.long (GuR.X b e) = AI.long (GuR.X (ESt.r a_5) e)) /\ (∀ (e : Nat), e < GuR.c (ESt.r a_5) -> AI.d (GuR.X b e) = AI.d (GuR.X (ESt.r a_5) e)) /\ (∀ (e : Nat), e < GuR.c (ESt.r a_5) -> AI.s (GuR.X b e) = AI.s (GuR.X (ESt.r a_5) e)) /\ (∀ (e : Nat), e < GuR.c (ESt.r a_5) -> AI.disp (GuR.X b e) = AI.disp (GuR.X (ESt.r a_5) e)) /\ (∀ (e : Nat), e < GuR.c (ESt.r a_5) -> AI.imm (GuR.X b e) = AI.imm (GuR.X (ESt.r a_5) e)) /\ (∀ (e : Nat), e < GuR.c (ESt.r a_5) -> AI.cc (GuR.X b e) = AI.cc (GuR.X (ESt.r a_5) e)) /\ True) /\ (∀ (u : Nat -> Value) (a_5 : ESt), inv a_5 -> (BE.den (BE.cmp BinOp.lss (IE.var (↑(ESt.i a_5) : Int)) (IE.var (↑(GuR.n (ESt.r a_5)) : Int))) = true -> BE.den (BE.ite (BE.var (decide (GuR.n (ESt.r a_5) <= GuR.c (ESt.r a_5) /\ 0 + GuR.c (ESt.r a_5) <= GuR.c (ESt.r a_5)))) (BE.var (decide (0 <= (↑(ESt.i a_5) : Int) /\ (↑(ESt.i a_5) : Int) < (↑(GuR.n (ESt.r a_5)) : Int)))) (BE.lit false)) = true /\ decide (0 + Int.toNat (↑(ESt.i a_5) : Int) + 1 <= GuR.c (ESt.r a_5)) = true /\ BE.den (BE.ite (BE.var (decide (0 + cap <= cap))) (BE.var (decide (len <= cap))) (BE.lit false)) = true /\ ∀ (cs' : List Col), cs' = List.map Col.nrm (zY (NE.lit 0) [col8 g]) -> ((∃ (g : Nat -> Int), cs' = [Col.int IntKind.u8 fun e => IE.var (g e)]) /\ BGood (colG cs') len cap /\ Int.NonNeg (q - 0) /\ Int.NonNeg ((↑len : Int) - q)) /\ (smV (colG cs') len q { op := AI.op (GuR.X (ESt.r a_5) (0 + Int.toNat (↑(ESt.i a_5) : Int))), wide := AI.wide (GuR.X (ESt.r a_5) (0 + Int.toNat (↑(ESt.i a_5) : Int))), long := AI.long (GuR.X (ESt.r a_5) (0 + Int.toNat (↑(ESt.i a_5) : Int))), d := AI.d (GuR.X (ESt.r a_5) (0 + Int.toNat (↑(ESt.i a_5) : Int))), s := AI.s (GuR.X (ESt.r a_5) (0 + Int.toNat (↑(ESt.i a_5) : Int))), disp := AI.disp (GuR.X (ESt.r a_5) (0 + Int.toNat (↑(ESt.i a_5) : Int))), imm := AI.imm (GuR.X (ESt.r a_5) (0 + Int.toNat (↑(ESt.i a_5) : Int))), cc := AI.cc (GuR.X (ESt.r a_5) (0 + Int.toNat (↑(ESt.i a_5) : Int))) } = true -> BE.den (BE.ite (BE.var (decide (GuR.n (ESt.r a_5) <= GuR.c (ESt.r a_5) /\ 0 + GuR.c (ESt.r a_5) <= GuR.c (ESt.r a_5)))) (BE.var (decide (0 <= (↑(ESt.i a_5) : Int) /\ (↑(ESt.i a_5) : Int) < (↑(GuR.n (ESt.r a_5)) : Int)))) (BE.lit false)) = true /\ decide (0 + Int.toNat (↑(ESt.i a_5) : Int) + 1 <= GuR.c (ESt.r a_5)) = true /\ AI.op (GuR.X (ESt.r a_5) (0 + Int.toNat (↑(ESt.i a_5) : Int))) = AI.op y /\ AI.wide (GuR.X (ESt.r a_5) (0 + Int.toNat (↑(ESt.i a_5) : Int))) = AI.wide y /\ AI.long (GuR.X (ESt.r a_5) (0 + Int.toNat (↑(ESt.i a_5) : Int))) = AI.long y /\ AI.d (GuR.X (ESt.r a_5) (0 + Int.toNat (↑(ESt.i a_5) : Int))) = AI.d y /\ AI.s (GuR.X (ESt.r a_5) (0 + Int.toNat (↑(ESt.i a_5) : Int))) = AI.s y /\ AI.disp (GuR.X (ESt.r a_5) (0 + Int.toNat (↑(ESt.i a_5) : Int))) = AI.disp y /\ AI.imm (GuR.X (ESt.r a_5) (0 + Int.toNat (↑(ESt.i a_5) : Int))) = AI.imm y /\ AI.cc (GuR.X (ESt.r a_5) (0 + Int.toNat (↑(ESt.i a_5) : Int))) = AI.cc y /\ smE (colG cs') len q { op := AI.op (GuR.X (ESt.r a_5) (0 + Int.toNat (↑(ESt.i a_5) : Int))), wide := AI.wide (GuR.X (ESt.r a_5) (0 + Int.toNat (↑(ESt.i a_5) : Int))), long := AI.long (GuR.X (ESt.r a_5) (0 + Int.toNat (↑(ESt.i a_5) : Int))), d := AI.d (GuR.X (ESt.r a_5) (0 + Int.toNat (↑(ESt.i a_5) : Int))), s := AI.s (GuR.X (ESt.r a_5) (0 + Int.toNat (↑(ESt.i a_5) : Int))), disp := AI.disp (GuR.X (ESt.r a_5) (0 + Int.toNat (↑(ESt.i a_5) : Int))), imm := AI.imm (GuR.X (ESt.r a_5) (0 + Int.toNat (↑(ESt.i a_5) : Int))), cc := AI.cc (GuR.X (ESt.r a_5) (0 + Int.toNat (↑(ESt.i a_5) : Int))) } = v /\ 0 = k /\ cap = cap /\ (∀ (e : Nat), e < cap -> g e = g e) /\ True) /\ (smV (colG cs') len q { op := AI.op (GuR.X (ESt.r a_5) (0 + Int.toNat (↑(ESt.i a_5) : Int))), wide := AI.wide (GuR.X (ESt.r a_5) (0 + Int.toNat (↑(ESt.i a_5) : Int))), long := AI.long (GuR.X (ESt.r a_5) (0 + Int.toNat (↑(ESt.i a_5) : Int))), d := AI.d (GuR.X (ESt.r a_5) (0 + Int.toNat (↑(ESt.i a_5) : Int))), s := AI.s (GuR.X (ESt.r a_5) (0 + Int.toNat (↑(ESt.i a_5) : Int))), disp := AI.disp (GuR.X (ESt.r a_5) (0 + Int.toNat (↑(ESt.i a_5) : Int))), imm := AI.imm (GuR.X (ESt.r a_5) (0 + Int.toNat (↑(ESt.i a_5) : Int))), cc := AI.cc (GuR.X (ESt.r a_5) (0 + Int.toNat (↑(ESt.i a_5) : Int))) } = false -> ∃ a', inv a' /\ Nat.le (Nat.succ (μ a')) (μ a_5) /\ len = len /\ cap = cap /\ q = q /\ (↑(ESt.op a_5) : Int) = (↑(ESt.op a') : Int) /\ GuR.n (ESt.r a_5) = GuR.n (ESt.r a') /\ GuR.c (ESt.r a_5) = GuR.c (ESt.r a') /\ IE.den (IE.add IntKind.i64 (IE.var (↑(ESt.i a_5) : Int)) (IE.lit 1)) = (↑(ESt.i a') : Int) /\ cap = cap /\ (∀ (e : Nat), e < cap -> g e = g e) /\ GuR.c (ESt.r a_5) = GuR.c (ESt.r a') /\ (∀ (e : Nat), e < GuR.c (ESt.r a') -> AI.op (GuR.X (ESt.r a_5) e) = AI.op (GuR.X (ESt.r a') e)) /\ (∀ (e : Nat), e < GuR.c (ESt.r a') -> AI.wide (GuR.X (ESt.r a_5) e) = AI.wide (GuR.X (ESt.r a') e)) /\ (∀ (e : Nat), e < GuR.c (ESt.r a') -> AI.long (GuR.X (ESt.r a_5) e) = AI.long (GuR.X (ESt.r a') e)) /\ (∀ (e : Nat), e < GuR.c (ESt.r a') -> AI.d (GuR.X (ESt.r a_5) e) = AI.d (GuR.X (ESt.r a') e)) /\ (∀ (e : Nat), e < GuR.c (ESt.r a') -> AI.s (GuR.X (ESt.r a_5) e) = AI.s (GuR.X (ESt.r a') e)) /\ (∀ (e : Nat), e < GuR.c (ESt.r a') -> AI.disp (GuR.X (ESt.r a_5) e) = AI.disp (GuR.X (ESt.r a') e)) /\ (∀ (e : Nat), e < GuR.c (ESt.r a') -> AI.imm (GuR.X (ESt.r a_5) e) = AI.imm (GuR.X (ESt.r a') e)) /\ (∀ (e : Nat), e < GuR.c (ESt.r a') -> AI.cc (GuR.X (ESt.r a_5) e) = AI.cc (GuR.X (ESt.r a') e)) /\ True)) /\ (BE.den (BE.cmp BinOp.lss (IE.var (↑(ESt.i a_5) : Int)) (IE.var (↑(GuR.n (ESt.r a_5)) : Int))) = false -> ∃ a', I a' /\ Nat.le (Nat.succ (M a')) (M a) /\ len = len /\ cap = cap /\ q = q /\ IE.den (IE.add IntKind.i64 (IE.var (↑(ESt.op a_5) : Int)) (IE.lit 1)) = (↑(DSt.op a') : Int) /\ cap = cap /\ (∀ (e : Nat), e < cap -> g e = g e) /\ True)) /\ ∀ (u : Nat -> Value) (b : Unit), ((fun x => False)) b -> ∃ (b : Unit), False /\ True) /\ (BE.den (BE.cmp BinOp.leq (IE.var (↑(DSt.op a) : Int)) (IE.lit 27)) = false -> 0 = AI.op y /\ BE.den (BE.lit false) = AI.wide y /\ BE.den (BE.lit false) = AI.long y /\ 0 = AI.d y /\ 0 = AI.s y /\ 0 = AI.disp y /\ 0 = AI.imm y /\ 0 = AI.cc y /\ 0 = v /\ 5 = k /\ cap = cap /\ (∀ (e : Nat), e < cap -> g e = g e) /\ True)) /\ ∀ (u : Nat -> Value) (b : Unit), False -> False))) := by kernel_rfl
section
variable {g : Nat -> Int} {len cap i : Nat}
theorem zXY {op : Int} {r : GuR} {n : Nat} (hr : GuOO g len i op r) (hn : n < r.n) (h : smV g len i (r.X n) = true) : zr g len i = some (r.X n, i + (zD (r.X n)).length) /\ (r.X n).op = op := by
 obtain ⟨f, hf, hO⟩ := hr
 obtain ⟨h1, h2, h3⟩ := zKE.1 h
 have hX := hO.X n hn
 have hn2 : n < (if gpI g len i < len then (if zEV f = true then 2 else 1) else 0) := by rw [<- hO.n]; exact hn
 have hc : decide (n = 1) = true -> zEV f = true := fun hd => by
  have hd := of_decide_eq_true hd
  cases hcf : zEV f with
  | true => rfl
  | false =>
   rw [hcf] at hn2
   simp only [Bool.false_eq_true, if_false] at hn2
   split at hn2 <;> omega
 have hp : plain (r.X n) = r.X n := by rw [hX]; exact zM9 hf hc
 refine ⟨?_, by rw [hX]; cases f <;> rfl⟩
 have := zKy h1 h3 h2
 rw [hp] at this; exact this
theorem zY6 (hg : BGood g len cap) {op : Int} {r : GuR} {y : AI} {e : Nat} (hr : GuOO g len i op r) (hy : zr g len i = some (y, e)) (ho : y.op = op) : ∃ n, n < r.n /\ smV g len i (r.X n) = true := by
 obtain ⟨f, hf, hO⟩ := hr
 obtain ⟨d1, d2, d3, d4, d5⟩ := zGe hg.byte hy
 subst ho
 obtain ⟨g1, g2, g3⟩ := zTd (len := len) hf d2 d3 d4 (by omega)
 have hn : (if y.long = true then 1 else 0) < r.n := by
  rw [hO.n, if_pos g1]
  split
  ·rw [if_pos (g3 (by assumption))]; decide
  ·split <;> decide
 refine ⟨_, hn, ?_⟩
 rw [hO.X _ hn]
 have e1 : decide ((if y.long = true then 1 else 0) = 1) = y.long := by cases y.long <;> rfl
 rw [e1, g2]
 exact zKE.2 ⟨d2, by omega, d4⟩
theorem zUf (hg : BGood g len cap) {y : AI} {e : Nat} (hy : zr g len i = some (y, e)) : 1 <= y.op /\ y.op <= 27 := by
 obtain ⟨d1, d2, d3, d4, d5⟩ := zGe hg.byte hy
 refine Classical.byContradiction fun hn => ?_
 unfold zM at d2
 rw [zIW hn] at d2
 cases d2
end
def dInv (g : Nat -> Int) (len i : Nat) (a : DSt) : Prop := 1 <= a.op /\ a.op <= 28 /\ ∀ y e, zr g len i = some (y, e) -> (a.op : Int) <= y.op
def eInv (g : Nat -> Int) (len i op : Nat) (b : GuR) (s : ESt) : Prop := s.op = op /\ s.r = b /\ s.i <= b.n /\ ∀ e, e < s.i -> smV g len i (b.X e) = false
theorem zPE : zZ P 17 decM := by
 have hs := zDi fun un => zN (un := un) zba Tryz.func17
 refine zOk hs ?_
 intro g len cap q hg
 refine ⟨zZZ g q len cap (dInv g len q.toNat) (fun a => 28 - a.op), ?_⟩
 have hsm := hg.small
 have hrm := hg.room
 show zH P RD _ _ [slA 0 len cap, .int .i64 (.var q)] [rdRow g cap] _
 rw [zVW]
 refine ⟨fun h1 => ?_, fun h1 => ⟨fun h2 => ?_, fun h2 => ?_⟩⟩
 ·rw [zPc] at h1
  have h1 := of_decide_eq_true h1
  have e : zi g len q = (zI, 0, 1) := if_pos (.inl h1)
  rw [e]
  exact ⟨rfl, rfl, rfl, rfl, rfl, rfl, rfl, rfl, rfl, rfl, rfl, fun _ _ => rfl, trivial⟩
 ·rw [zPY] at h2
  have h2 : (len : Int) < q := of_decide_eq_true h2
  have e : zi g len q = (zI, 0, 1) := if_pos (.inr h2)
  rw [e]
  exact ⟨rfl, rfl, rfl, rfl, rfl, rfl, rfl, rfl, rfl, rfl, rfl, fun _ _ => rfl, trivial⟩
 rw [zPc] at h1
 rw [zPY] at h2
 have h1 : ¬ q < 0 := of_decide_eq_false h1
 have h2 : ¬ (len : Int) < q := of_decide_eq_false h2
 obtain ⟨j, rfl⟩ := Int.eq_ofNat_of_zero_le (show 0 <= q by omega)
 have hj : j <= len := by omega
 rw [Int.toNat_natCast]
 have eD : zi g len (j : Int) = zIj (zr g len j) := by
  unfold zi; rw [if_neg (by omega), Int.toNat_natCast]
 rw [eD]
 refine ⟨⟨⟨1⟩, ⟨Nat.le_refl _, by decide, fun y e hy => (zUf hg hy).1⟩, rfl, rfl, rfl, rfl, rfl, fun _ _ => rfl, trivial⟩, ?_, fun _ _ h => h⟩
 rintro _ ⟨op⟩ ⟨i1, i2, i3⟩
 dsimp only at i1 i2 i3 ⊢
 refine ⟨fun hle => ?_, fun hgt => ?_⟩
 ·rw [zNG] at hle
  have hle := of_decide_eq_true hle
  refine ⟨ask2 hrm, fun cs' hcs => ?_⟩
  have hc : colG cs' = g := by rw [hcs]; rfl
  rw [hc]
  refine ⟨⟨by rw [hcs]; exact ⟨g, rfl⟩, hg, ⟨show (0 : Int) <= (j : Int) by omega, show (j : Int) <= (len : Int) by omega⟩, show (1 : Int) <= (op : Int) by omega, show (op : Int) <= 27 by omega⟩, fun b hb => ?_⟩
  refine ⟨eInv g len j op b, fun s => b.n - s.i, ⟨⟨op, b, 0⟩, ⟨rfl, rfl, Nat.zero_le _, fun e he => absurd he (Nat.not_lt_zero e)⟩, rfl, rfl, rfl, rfl, rfl, rfl, rfl, rfl, fun _ _ => rfl, rfl, fun _ _ => rfl, fun _ _ => rfl, fun _ _ => rfl, fun _ _ => rfl, fun _ _ => rfl, fun _ _ => rfl, fun _ _ => rfl, fun _ _ => rfl, trivial⟩, ?_, fun _ _ h => h.elim⟩
  rintro _ ⟨op', r, i⟩ ⟨rfl, rfl, k1, k2⟩
  dsimp only at k1 k2 i1 i2 i3 hb hle ⊢
  have hb' := hb
  obtain ⟨f, hf, hO⟩ := hb'
  have rc := hO.rc
  refine ⟨fun hlt => ?_, fun hge => ?_⟩
  ·have hlt : (i : Int) < (r.n : Int) := by simpa [BE.den, IE.den, zQ] using hlt
   have hi : i < r.n := by omega
   have t2 : 0 + Int.toNat (i : Int) = i := by omega
   rw [t2]
   have A1 := zEX (len := r.n) (cap := r.c) (x := (i : Int)) rc (by omega) hlt
   have A2 : decide (i + 1 <= r.c) = true := decide_eq_true (by omega)
   refine ⟨A1, A2, ask2 hrm, fun cs' hcs => ?_⟩
   have hc : colG cs' = g := by rw [hcs]; rfl
   rw [hc]
   refine ⟨⟨by rw [hcs]; exact ⟨g, rfl⟩, hg, show (0 : Int) <= (j : Int) by omega, show (j : Int) <= (len : Int) by omega⟩, fun hv => ?_, fun hv => ?_⟩
   ·have hv : smV g len (j : Int) (r.X i) = true := hv
    obtain ⟨hd, _⟩ := zXY hb hi hv
    have e1 : smE g len (j : Int) (r.X i) = ((j + (zD (r.X i)).length : Nat) : Int) := by unfold smE; rw [if_pos hv]; omega
    rw [hd]
    exact ⟨A1, A2, rfl, rfl, rfl, rfl, rfl, rfl, rfl, rfl, e1, rfl, rfl, fun _ _ => rfl, trivial⟩
   ·have hv : smV g len (j : Int) (r.X i) = false := hv
    have e2 : IE.den (IE.add IntKind.i64 (IE.var (i : Int)) (IE.lit 1)) = ((i + 1 : Nat) : Int) := by
     have := hO.cc
     simp only [IE.den]; rw [zE (by omega) (by omega)]; omega
    refine ⟨⟨op', r, i + 1⟩, ⟨rfl, rfl, hi, fun e he => ?_⟩, ?_, rfl, rfl, rfl, rfl, rfl, rfl, e2, rfl, fun _ _ => rfl, rfl, fun _ _ => rfl, fun _ _ => rfl, fun _ _ => rfl, fun _ _ => rfl, fun _ _ => rfl, fun _ _ => rfl, fun _ _ => rfl, fun _ _ => rfl, trivial⟩
    ·have he : e < i + 1 := he
     by_cases h : e < i
     ·exact k2 e h
     ·obtain rfl : e = i := by omega
      exact hv
    ·show r.n - (i + 1) + 1 <= r.n - i
     omega
  ·have hge : ¬ (i : Int) < (r.n : Int) := by simpa [BE.den, IE.den, zQ] using hge
   have hi : i = r.n := by omega
   have e2 : IE.den (IE.add IntKind.i64 (IE.var (op' : Int)) (IE.lit 1)) = ((op' + 1 : Nat) : Int) := by
    simp only [IE.den]; rw [zE (by omega) (by omega)]; omega
   refine ⟨⟨op' + 1⟩, ⟨by dsimp only; omega, by dsimp only; omega, fun y e hy => ?_⟩, ?_, rfl, rfl, rfl, e2, rfl, fun _ _ => rfl, trivial⟩
   ·have h3 := i3 y e hy
    show ((op' + 1 : Nat) : Int) <= y.op
    by_cases ho : y.op = (op' : Int)
    ·obtain ⟨n, hn, hv⟩ := zY6 hg hb hy ho
     rw [k2 n (by omega)] at hv
     cases hv
    ·omega
   ·show 28 - (op' + 1) + 1 <= 28 - op'
    omega
 ·rw [zNG] at hgt
  have hgt := of_decide_eq_false hgt
  have hN : zr g len j = none := by
   cases hd : zr g len j with
   | none => rfl
   | some z =>
    obtain ⟨y, e⟩ := z
    have := i3 y e hd
    have := zUf hg hd
    omega
  rw [hN]
  exact ⟨rfl, rfl, rfl, rfl, rfl, rfl, rfl, rfl, rfl, rfl, rfl, fun _ _ => rfl, trivial⟩
end Go.Proofs.YtajcmjjgnbaahaaGreat.Amd
