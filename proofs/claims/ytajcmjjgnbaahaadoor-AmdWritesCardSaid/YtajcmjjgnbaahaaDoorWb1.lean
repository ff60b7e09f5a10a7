/- Bytes of both sides: their contract. -/
import Derived.Test.YtajcmjjgnbaahaaDoorRe6
import Derived.Test.YtajcmjjgnbaahaaDoorAm5
import Derived.Test.YtajcmjjgnbaahaaDoorBl1
namespace Go.Proofs.YtajcmjjgnbaahaaDoor.Amd
open Go Go.Proofs.YtajcmjjgnbaahaaDoor.Sx Go.RowKit
set_option linter.unusedVariables false
set_option linter.unusedSimpArgs false
def ebT : List (FuncId × Cal) := [(7, .spec encM encG), (9, .spec encM encG)]
theorem ebT_ok : GammaOk P (table ebT) := table_cons (spec_cal encode_ok) (table_cons (spec_cal rencode_ok) fun g s h => by simp [table] at h)
noncomputable def EB : FuncId -> Option Cal := inl P (fun _ _ => 40) (table ebT) 4
theorem EB_ok : GammaOk P EB := inl_ok ebT_ok 4
def sl8 (len cap : Nat) : SV := .sliceE true 0 8 (.lit 0) (.var len) (.var cap)
def row8 (X : Nat -> AI) (cap : Nat) : SObj := .row false true (cols8 X) (.var cap)
structure BySt where
  k : Nat
  n : Nat
  c : Nat
  w : Nat -> Int
def bySlots (len cap : Nat) (a : BySt) : List (Nat × SV) := [(5, .sliceE true 1 1 (.lit 0) (.var (BySt.n a)) (.var (BySt.c a))), (10, sl8 len cap), (11, .int .i64 (.var len)), (12, .int .i64 (.var (BySt.k a)))]
def byHp (X : Nat -> AI) (cap : Nat) (a : BySt) : List SObj := [row8 X cap, .row true true [col8 (BySt.w a)] (.var (BySt.c a))]
def byOuts (O : Nat × (Nat -> Int) -> Prop) (B : Nat -> Prop) (T : Nat) (eV : Nat -> Int) : List Out :=
  [.any (Nat × (Nat -> Int)) O (fun c n => .tuple [.sliceE true n 1 (.lit 0) (.var T) (.var c.1), .int .i64 (.lit 0), .int .i64 (.lit 0)]) (fun c => [.row true true [col8 c.2] (.var c.1)]) (fun _ => []),
   .any Nat B (fun i _ => .tuple [.nils, .int .i64 (.var (eV i)), .int .i64 (.var (i : Nat))]) (fun _ => []) fun _ => []]
def byQ (X : Nat -> AI) (cap : Nat) (O : Nat × (Nat -> Int) -> Prop) (B : Nat -> Prop) (T : Nat) (eV : Nat -> Int) : SV -> List SObj -> Prop :=
  fun v hp => outsE (byOuts O B T eV) fun o => o.some 1 fun val new _ => simAt 1 1 { tmps := [v], hp := hp } [(0, val)] ([row8 X cap] ++ new)
def bySlotsR (len cap : Nat) (a : BySt) : List (Nat × SV) := [(0, sl8 len cap), (5, .sliceE true 1 1 (.lit 0) (.var (BySt.n a)) (.var (BySt.c a))), (6, .int .i64 (.var (BySt.k a)))]
theorem bytes_nf (X : Nat -> AI) (len cap : Nat) (I : BySt -> Prop) (M : BySt -> Nat) (O : Nat × (Nat -> Int) -> Prop) (B : Nat -> Prop) (T : Nat) (eV : Nat -> Int) : sxFunc P EB (fun _ => annA BySt (bySlots len cap) (byHp X cap) I M) Tryd.f12 [sl8 len cap] [row8 X cap] (byQ X cap O B T eV) =
    ((∃ a, I a /\ BySt.n a = 0 /\ BySt.c a = 0 /\ len = len /\ cap = cap /\ (↑len : Int) = (↑len : Int) /\ 0 = (↑(BySt.k a) : Int) /\ cap = cap /\ (∀ (e : Nat), e < cap -> AI.op (X e) = AI.op (X e)) /\ (∀ (e : Nat), e < cap -> AI.wide (X e) = AI.wide (X e)) /\ (∀ (e : Nat), e < cap -> AI.long (X e) = AI.long (X e)) /\ (∀ (e : Nat), e < cap -> AI.d (X e) = AI.d (X e)) /\ (∀ (e : Nat), e < cap -> AI.s (X e) = AI.s (X e)) /\ (∀ (e : Nat), e < cap -> AI.disp (X e) = AI.disp (X e)) /\ (∀ (e : Nat), e < cap -> AI.imm (X e) = AI.imm (X e)) /\ (∀ (e : Nat), e < cap -> AI.cc (X e) = AI.cc (X e)) /\ BySt.c a = 0 /\ True) /\ (∀ (u : Nat -> Value) (a : BySt), I a -> (BE.den (.cmp .lss (.var (↑(BySt.k a) : Int)) (.var (↑len : Int))) = true -> BE.den (.ite (.var (decide (len <= cap /\ 0 + cap <= cap))) (.var (decide (0 <= (↑(BySt.k a) : Int) /\ (↑(BySt.k a) : Int) < (↑len : Int)))) (.lit false)) = true /\ decide (0 + Int.toNat (↑(BySt.k a) : Int) + 1 <= cap) = true /\ True /\ (∀ (b : Nat × (Nat -> Int)), EncO (X (0 + Int.toNat (↑(BySt.k a) : Int))) b -> decide (0 + List.length (amdBytes (X (0 + Int.toNat (↑(BySt.k a) : Int)))) <= Prod.fst b) = true /\ decide (0 + BySt.n a <= BySt.c a) = true /\ decide (BySt.c a <= BySt.c a) = true /\ decide (BySt.c a <= 9223372036854775807) = true /\ Nat.le (NE.den (NE.two (fun x1 x2 => x1 + x2) (NE.var (BySt.n a)) (NE.var (List.length (amdBytes (X (0 + Int.toNat (↑(BySt.k a) : Int))))))) * 1) 140737488355328 /\ ∀ (U : Unk) (cap_1 : Nat), NE.den (NE.two (fun x1 x2 => x1 + x2) (NE.var (BySt.n a)) (NE.var (List.length (amdBytes (X (0 + Int.toNat (↑(BySt.k a) : Int))))))) <= cap_1 -> cap_1 <= 9223372036854775807 -> ∃ a', I a' /\ Nat.le (Nat.succ (M a')) (M a) /\ BySt.n a + List.length (amdBytes (X (0 + Int.toNat (↑(BySt.k a) : Int)))) = BySt.n a' /\ cap_1 = BySt.c a' /\ len = len /\ cap = cap /\ (↑len : Int) = (↑len : Int) /\ IE.den (.add .i64 (.var (↑(BySt.k a) : Int)) (.lit 1)) = (↑(BySt.k a') : Int) /\ cap = cap /\ (∀ (e : Nat), e < cap -> AI.op (X e) = AI.op (X e)) /\ (∀ (e : Nat), e < cap -> AI.wide (X e) = AI.wide (X e)) /\ (∀ (e : Nat), e < cap -> AI.long (X e) = AI.long (X e)) /\ (∀ (e : Nat), e < cap -> AI.d (X e) = AI.d (X e)) /\ (∀ (e : Nat), e < cap -> AI.s (X e) = AI.s (X e)) /\ (∀ (e : Nat), e < cap -> AI.disp (X e) = AI.disp (X e)) /\ (∀ (e : Nat), e < cap -> AI.imm (X e) = AI.imm (X e)) /\ (∀ (e : Nat), e < cap -> AI.cc (X e) = AI.cc (X e)) /\ cap_1 = BySt.c a' /\ (∀ (e : Nat), e < BySt.c a' -> IE.den (Bool.rec (motive := fun _ => IE) (bif Nat.blt e (BySt.n a + List.length (amdBytes (X (0 + Int.toNat (↑(BySt.k a) : Int))))) then IE.var (Prod.snd b (0 + (e - BySt.n a))) else IE.var (Unk.i U 0 e)) (.var (BySt.w a e)) (Nat.blt e (BySt.n a))) = BySt.w a' e) /\ True) /\ ∀ (b : Unit), amdErr (X (0 + Int.toNat (↑(BySt.k a) : Int))) ≠ 0 -> (BE.den (.cmp .neq (.var (amdErr (X (0 + Int.toNat (↑(BySt.k a) : Int))))) (.lit 0)) = true -> (∃ (b : _), O b /\ T = 0 /\ Prod.fst b = 0 /\ amdErr (X (0 + Int.toNat (↑(BySt.k a) : Int))) = 0 /\ (↑(BySt.k a) : Int) = 0 /\ cap = cap /\ (∀ (e : Nat), e < cap -> AI.op (X e) = AI.op (X e)) /\ (∀ (e : Nat), e < cap -> AI.wide (X e) = AI.wide (X e)) /\ (∀ (e : Nat), e < cap -> AI.long (X e) = AI.long (X e)) /\ (∀ (e : Nat), e < cap -> AI.d (X e) = AI.d (X e)) /\ (∀ (e : Nat), e < cap -> AI.s (X e) = AI.s (X e)) /\ (∀ (e : Nat), e < cap -> AI.disp (X e) = AI.disp (X e)) /\ (∀ (e : Nat), e < cap -> AI.imm (X e) = AI.imm (X e)) /\ (∀ (e : Nat), e < cap -> AI.cc (X e) = AI.cc (X e)) /\ Prod.fst b = 0 /\ True) ∨ ∃ (b : _), B b /\ amdErr (X (0 + Int.toNat (↑(BySt.k a) : Int))) = eV b /\ (↑(BySt.k a) : Int) = (↑b : Int) /\ cap = cap /\ (∀ (e : Nat), e < cap -> AI.op (X e) = AI.op (X e)) /\ (∀ (e : Nat), e < cap -> AI.wide (X e) = AI.wide (X e)) /\ (∀ (e : Nat), e < cap -> AI.long (X e) = AI.long (X e)) /\ (∀ (e : Nat), e < cap -> AI.d (X e) = AI.d (X e)) /\ (∀ (e : Nat), e < cap -> AI.s (X e) = AI.s (X e)) /\ (∀ (e : Nat), e < cap -> AI.disp (X e) = AI.disp (X e)) /\ (∀ (e : Nat), e < cap -> AI.imm (X e) = AI.imm (X e)) /\ (∀ (e : Nat), e < cap -> AI.cc (X e) = AI.cc (X e)) /\ True) /\ (BE.den (.cmp .neq (.var (amdErr (X (0 + Int.toNat (↑(BySt.k a) : Int))))) (.lit 0)) = false -> decide (0 + BySt.n a <= BySt.c a) = true /\ decide (BySt.c a <= BySt.c a) = true /\ decide (BySt.c a <= 9223372036854775807) = true /\ Nat.le (NE.den (NE.two (fun x1 x2 => x1 + x2) (NE.var (BySt.n a)) (NE.lit 0)) * 1) 140737488355328 /\ ∀ (U : Unk) (cap_1 : Nat), NE.den (NE.two (fun x1 x2 => x1 + x2) (NE.var (BySt.n a)) (NE.lit 0)) <= cap_1 -> cap_1 <= 9223372036854775807 -> ∃ a', I a' /\ Nat.le (Nat.succ (M a')) (M a) /\ BySt.n a + 0 = BySt.n a' /\ cap_1 = BySt.c a' /\ len = len /\ cap = cap /\ (↑len : Int) = (↑len : Int) /\ IE.den (.add .i64 (.var (↑(BySt.k a) : Int)) (.lit 1)) = (↑(BySt.k a') : Int) /\ cap = cap /\ (∀ (e : Nat), e < cap -> AI.op (X e) = AI.op (X e)) /\ (∀ (e : Nat), e < cap -> AI.wide (X e) = AI.wide (X e)) /\ (∀ (e : Nat), e < cap -> AI.long (X e) = AI.long (X e)) /\ (∀ (e : Nat), e < cap -> AI.d (X e) = AI.d (X e)) /\ (∀ (e : Nat), e < cap -> AI.s (X e) = AI.s (X e)) /\ (∀ (e : Nat), e < cap -> AI.disp (X e) = AI.disp (X e)) /\ (∀ (e : Nat), e < cap -> AI.imm (X e) = AI.imm (X e)) /\ (∀ (e : Nat), e < cap -> AI.cc (X e) = AI.cc (X e)) /\ cap_1 = BySt.c a' /\ (∀ (e : Nat), e < BySt.c a' -> IE.den (Bool.rec (motive := fun _ => IE) (bif Nat.blt e (BySt.n a + 0) then IE.lit 0 else IE.var (Unk.i U 0 e)) (.var (BySt.w a e)) (Nat.blt e (BySt.n a))) = BySt.w a' e) /\ True)) /\ (BE.den (.cmp .lss (.var (↑(BySt.k a) : Int)) (.var (↑len : Int))) = false -> (∃ (b : _), O b /\ BySt.n a = T /\ BySt.c a = Prod.fst b /\ cap = cap /\ (∀ (e : Nat), e < cap -> AI.op (X e) = AI.op (X e)) /\ (∀ (e : Nat), e < cap -> AI.wide (X e) = AI.wide (X e)) /\ (∀ (e : Nat), e < cap -> AI.long (X e) = AI.long (X e)) /\ (∀ (e : Nat), e < cap -> AI.d (X e) = AI.d (X e)) /\ (∀ (e : Nat), e < cap -> AI.s (X e) = AI.s (X e)) /\ (∀ (e : Nat), e < cap -> AI.disp (X e) = AI.disp (X e)) /\ (∀ (e : Nat), e < cap -> AI.imm (X e) = AI.imm (X e)) /\ (∀ (e : Nat), e < cap -> AI.cc (X e) = AI.cc (X e)) /\ BySt.c a = Prod.fst b /\ (∀ (e : Nat), e < Prod.fst b -> BySt.w a e = Prod.snd b e) /\ True) ∨ ∃ (b : _), B b /\ StuckAt 65)) /\ ∀ (u : Nat -> Value) (b : Unit), False -> False) := by kernel_rfl
theorem rbytes_nf (X : Nat -> AI) (len cap : Nat) (I : BySt -> Prop) (M : BySt -> Nat) (O : Nat × (Nat -> Int) -> Prop) (B : Nat -> Prop) (T : Nat) (eV : Nat -> Int) : sxFunc P EB (fun _ => annA BySt (bySlotsR len cap) (byHp X cap) I M) Tryd.f13 [sl8 len cap] [row8 X cap] (byQ X cap O B T eV) =
    ((∃ a, I a /\ len = len /\ cap = cap /\ BySt.n a = 0 /\ BySt.c a = 0 /\ 0 = (↑(BySt.k a) : Int) /\ cap = cap /\ (∀ (e : Nat), e < cap -> AI.op (X e) = AI.op (X e)) /\ (∀ (e : Nat), e < cap -> AI.wide (X e) = AI.wide (X e)) /\ (∀ (e : Nat), e < cap -> AI.long (X e) = AI.long (X e)) /\ (∀ (e : Nat), e < cap -> AI.d (X e) = AI.d (X e)) /\ (∀ (e : Nat), e < cap -> AI.s (X e) = AI.s (X e)) /\ (∀ (e : Nat), e < cap -> AI.disp (X e) = AI.disp (X e)) /\ (∀ (e : Nat), e < cap -> AI.imm (X e) = AI.imm (X e)) /\ (∀ (e : Nat), e < cap -> AI.cc (X e) = AI.cc (X e)) /\ BySt.c a = 0 /\ True) /\ (∀ (u : Nat -> Value) (a : BySt), I a -> (BE.den (.cmp .lss (.var (↑(BySt.k a) : Int)) (.var (↑len : Int))) = true -> BE.den (.ite (.var (decide (len <= cap /\ 0 + cap <= cap))) (.var (decide (0 <= (↑(BySt.k a) : Int) /\ (↑(BySt.k a) : Int) < (↑len : Int)))) (.lit false)) = true /\ decide (0 + Int.toNat (↑(BySt.k a) : Int) + 1 <= cap) = true /\ True /\ (∀ (b : Nat × (Nat -> Int)), EncO (X (0 + Int.toNat (↑(BySt.k a) : Int))) b -> decide (0 + List.length (amdBytes (X (0 + Int.toNat (↑(BySt.k a) : Int)))) <= Prod.fst b) = true /\ decide (0 + BySt.n a <= BySt.c a) = true /\ decide (BySt.c a <= BySt.c a) = true /\ decide (BySt.c a <= 9223372036854775807) = true /\ Nat.le (NE.den (NE.two (fun x1 x2 => x1 + x2) (NE.var (BySt.n a)) (NE.var (List.length (amdBytes (X (0 + Int.toNat (↑(BySt.k a) : Int))))))) * 1) 140737488355328 /\ ∀ (U : Unk) (cap_1 : Nat), NE.den (NE.two (fun x1 x2 => x1 + x2) (NE.var (BySt.n a)) (NE.var (List.length (amdBytes (X (0 + Int.toNat (↑(BySt.k a) : Int))))))) <= cap_1 -> cap_1 <= 9223372036854775807 -> ∃ a', I a' /\ Nat.le (Nat.succ (M a')) (M a) /\ len = len /\ cap = cap /\ BySt.n a + List.length (amdBytes (X (0 + Int.toNat (↑(BySt.k a) : Int)))) = BySt.n a' /\ cap_1 = BySt.c a' /\ IE.den (.add .i64 (.var (↑(BySt.k a) : Int)) (.lit 1)) = (↑(BySt.k a') : Int) /\ cap = cap /\ (∀ (e : Nat), e < cap -> AI.op (X e) = AI.op (X e)) /\ (∀ (e : Nat), e < cap -> AI.wide (X e) = AI.wide (X e)) /\ (∀ (e : Nat), e < cap -> AI.long (X e) = AI.long (X e)) /\ (∀ (e : Nat), e < cap -> AI.d (X e) = AI.d (X e)) /\ (∀ (e : Nat), e < cap -> AI.s (X e) = AI.s (X e)) /\ (∀ (e : Nat), e < cap -> AI.disp (X e) = AI.disp (X e)) /\ (∀ (e : Nat), e < cap -> AI.imm (X e) = AI.imm (X e)) /\ (∀ (e : Nat), e < cap -> AI.cc (X e) = AI.cc (X e)) /\ cap_1 = BySt.c a' /\ (∀ (e : Nat), e < BySt.c a' -> IE.den (Bool.rec (motive := fun _ => IE) (bif Nat.blt e (BySt.n a + List.length (amdBytes (X (0 + Int.toNat (↑(BySt.k a) : Int))))) then IE.var (Prod.snd b (0 + (e - BySt.n a))) else IE.var (Unk.i U 0 e)) (.var (BySt.w a e)) (Nat.blt e (BySt.n a))) = BySt.w a' e) /\ True) /\ ∀ (b : Unit), amdErr (X (0 + Int.toNat (↑(BySt.k a) : Int))) ≠ 0 -> (BE.den (.cmp .neq (.var (amdErr (X (0 + Int.toNat (↑(BySt.k a) : Int))))) (.lit 0)) = true -> (∃ (b : _), O b /\ T = 0 /\ Prod.fst b = 0 /\ amdErr (X (0 + Int.toNat (↑(BySt.k a) : Int))) = 0 /\ (↑(BySt.k a) : Int) = 0 /\ cap = cap /\ (∀ (e : Nat), e < cap -> AI.op (X e) = AI.op (X e)) /\ (∀ (e : Nat), e < cap -> AI.wide (X e) = AI.wide (X e)) /\ (∀ (e : Nat), e < cap -> AI.long (X e) = AI.long (X e)) /\ (∀ (e : Nat), e < cap -> AI.d (X e) = AI.d (X e)) /\ (∀ (e : Nat), e < cap -> AI.s (X e) = AI.s (X e)) /\ (∀ (e : Nat), e < cap -> AI.disp (X e) = AI.disp (X e)) /\ (∀ (e : Nat), e < cap -> AI.imm (X e) = AI.imm (X e)) /\ (∀ (e : Nat), e < cap -> AI.cc (X e) = AI.cc (X e)) /\ Prod.fst b = 0 /\ True) ∨ ∃ (b : _), B b /\ amdErr (X (0 + Int.toNat (↑(BySt.k a) : Int))) = eV b /\ (↑(BySt.k a) : Int) = (↑b : Int) /\ cap = cap /\ (∀ (e : Nat), e < cap -> AI.op (X e) = AI.op (X e)) /\ (∀ (e : Nat), e < cap -> AI.wide (X e) = AI.wide (X e)) /\ (∀ (e : Nat), e < cap -> AI.long (X e) = AI.long (X e)) /\ (∀ (e : Nat), e < cap -> AI.d (X e) = AI.d (X e)) /\ (∀ (e : Nat), e < cap -> AI.s (X e) = AI.s (X e)) /\ (∀ (e : Nat), e < cap -> AI.disp (X e) = AI.disp (X e)) /\ (∀ (e : Nat), e < cap -> AI.imm (X e) = AI.imm (X e)) /\ (∀ (e : Nat), e < cap -> AI.cc (X e) = AI.cc (X e)) /\ True) /\ (BE.den (.cmp .neq (.var (amdErr (X (0 + Int.toNat (↑(BySt.k a) : Int))))) (.lit 0)) = false -> decide (0 + BySt.n a <= BySt.c a) = true /\ decide (BySt.c a <= BySt.c a) = true /\ decide (BySt.c a <= 9223372036854775807) = true /\ Nat.le (NE.den (NE.two (fun x1 x2 => x1 + x2) (NE.var (BySt.n a)) (NE.lit 0)) * 1) 140737488355328 /\ ∀ (U : Unk) (cap_1 : Nat), NE.den (NE.two (fun x1 x2 => x1 + x2) (NE.var (BySt.n a)) (NE.lit 0)) <= cap_1 -> cap_1 <= 9223372036854775807 -> ∃ a', I a' /\ Nat.le (Nat.succ (M a')) (M a) /\ len = len /\ cap = cap /\ BySt.n a + 0 = BySt.n a' /\ cap_1 = BySt.c a' /\ IE.den (.add .i64 (.var (↑(BySt.k a) : Int)) (.lit 1)) = (↑(BySt.k a') : Int) /\ cap = cap /\ (∀ (e : Nat), e < cap -> AI.op (X e) = AI.op (X e)) /\ (∀ (e : Nat), e < cap -> AI.wide (X e) = AI.wide (X e)) /\ (∀ (e : Nat), e < cap -> AI.long (X e) = AI.long (X e)) /\ (∀ (e : Nat), e < cap -> AI.d (X e) = AI.d (X e)) /\ (∀ (e : Nat), e < cap -> AI.s (X e) = AI.s (X e)) /\ (∀ (e : Nat), e < cap -> AI.disp (X e) = AI.disp (X e)) /\ (∀ (e : Nat), e < cap -> AI.imm (X e) = AI.imm (X e)) /\ (∀ (e : Nat), e < cap -> AI.cc (X e) = AI.cc (X e)) /\ cap_1 = BySt.c a' /\ (∀ (e : Nat), e < BySt.c a' -> IE.den (Bool.rec (motive := fun _ => IE) (bif Nat.blt e (BySt.n a + 0) then IE.lit 0 else IE.var (Unk.i U 0 e)) (.var (BySt.w a e)) (Nat.blt e (BySt.n a))) = BySt.w a' e) /\ True)) /\ (BE.den (.cmp .lss (.var (↑(BySt.k a) : Int)) (.var (↑len : Int))) = false -> (∃ (b : _), O b /\ BySt.n a = T /\ BySt.c a = Prod.fst b /\ cap = cap /\ (∀ (e : Nat), e < cap -> AI.op (X e) = AI.op (X e)) /\ (∀ (e : Nat), e < cap -> AI.wide (X e) = AI.wide (X e)) /\ (∀ (e : Nat), e < cap -> AI.long (X e) = AI.long (X e)) /\ (∀ (e : Nat), e < cap -> AI.d (X e) = AI.d (X e)) /\ (∀ (e : Nat), e < cap -> AI.s (X e) = AI.s (X e)) /\ (∀ (e : Nat), e < cap -> AI.disp (X e) = AI.disp (X e)) /\ (∀ (e : Nat), e < cap -> AI.imm (X e) = AI.imm (X e)) /\ (∀ (e : Nat), e < cap -> AI.cc (X e) = AI.cc (X e)) /\ BySt.c a = Prod.fst b /\ (∀ (e : Nat), e < Prod.fst b -> BySt.w a e = Prod.snd b e) /\ True) ∨ ∃ (b : _), B b /\ StuckAt 65)) /\ ∀ (u : Nat -> Value) (b : Unit), False -> False) := by kernel_rfl
def zz8 : List Col := cols8 fun _ => zI
def byPre : Ins -> List SV -> Prop := fun ins pl => match ins, pl with
  | [(cs, len, cap)], [] => (∃ X : Nat -> AI, cs = cols8 X) /\ Nat.le len cap /\ Nat.le len 4398046511104
  | _, _ => False
def byOutsP : Ins -> List SV -> List Out := fun ins pl => match ins, pl with
  | [(cs, len, _)], [] => byOuts (BytesO (XG cs) len) (BytesB (XG cs) len) (catB (XG cs) len).length (fun i => amdErr (XG cs i))
  | _, _ => []
theorem byPre_of {ins : Ins} {pl : List SV} (h : byPre ins pl) : ∃ (X : Nat -> AI) (len cap : Nat), ins = [(cols8 X, len, cap)] /\ pl = [] /\ len <= cap /\ len <= 4398046511104 := by
  unfold byPre at h
  split at h
  · obtain ⟨⟨X, rfl⟩, h2, h3⟩ := h
    exact ⟨X, _, _, rfl, rfl, h2, h3⟩
  · exact h.elim
theorem byOuts_good (O : Nat × (Nat -> Int) -> Prop) (B : Nat -> Prop) (T : Nat) (eV : Nat -> Int) : ∀ o ∈ byOuts O B T eV, o.good := by
  intro o ho
  unfold byOuts at ho
  simp only [List.mem_cons, List.not_mem_nil, or_false] at ho
  rcases ho with rfl | rfl
  · intro c
    refine ⟨⟨fun n m ν ν' h => ?_, fun n p h => ?_⟩, rfl, trivial⟩
    · have := h 0 (by simp)
      simp only [Nat.add_zero] at this
      simp [SV.den, SV.denL, this]
    · exact ⟨h 0 (by simp), trivial, trivial, trivial⟩
  · intro c
    exact ⟨⟨fun n m ν ν' h => rfl, fun n p h => ⟨trivial, trivial, trivial, trivial⟩⟩, rfl, trivial⟩
theorem by_spec {f : FuncId} {s : SpecFn} (hs : SpecOk P f s)
    (h : ∀ (X : Nat -> AI) (len cap : Nat), len <= cap -> len <= 4398046511104 -> s [sl8 len cap] [row8 X cap] (byQ X cap (BytesO X len) (BytesB X len) (catB X len).length (fun i => amdErr (X i)))) :
    SpecOk P f (rdSpec [.rows 8 zz8] byPre byOutsP) := by
  refine rd_ok hs (fun sz zs h => by simp at h; obtain ⟨rfl, rfl⟩ := h; rfl) ?_ ?_
  · intro ins pl o ho
    unfold byOutsP at ho
    split at ho
    · exact byOuts_good _ _ _ _ o ho
    · simp at ho
  · intro ins pl u hi hw hp
    obtain ⟨X, len, cap, rfl, rfl, h1, h2⟩ := byPre_of hp
    exact h X len cap h1 h2
def byInv (X : Nat -> AI) (len : Nat) (a : BySt) : Prop :=
  a.k <= len /\ a.n = (catB X a.k).length /\ a.n <= a.c /\ a.c <= 9223372036854775807 /\ (∀ i, i < a.k -> amdErr (X i) = 0) /\ ∀ e, e < a.n -> a.w e = (catB X a.k).getD e 0
def newW (n m : Nat) (w b : Nat -> Int) (U : Unk) (e : Nat) : Int := if e < n then w e else if e < n + m then b (e - n) else U.i 0 e
theorem newW_col {n m e : Nat} {w b : Nat -> Int} {U : Unk} : IE.den (Bool.rec (motive := fun _ => IE) (bif Nat.blt e (n + m) then IE.var (b (0 + (e - n))) else IE.var (Unk.i U 0 e)) (.var (w e)) (Nat.blt e n)) = newW n m w b U e := by
  unfold newW
  by_cases h1 : e < n
  · rw [blt_t h1, if_pos h1]; rfl
  · have hb : Nat.blt e n = false := blt_f (by omega)
    rw [hb, if_neg h1]
    by_cases h2 : e < n + m
    · rw [blt_t h2, if_pos h2, Nat.zero_add]; rfl
    · rw [blt_f (show n + m <= e by omega), if_neg h2]; rfl
set_option maxRecDepth 100000 in
theorem lbytes_ok : SpecOk P 12 (rdSpec [.rows 8 zz8] byPre byOutsP) := by
  have hs := some_un fun un => func_sound (un := un) EB_ok Tryd.func12
  refine by_spec hs ?_
  intro X len cap hlc hl
  refine ⟨fun _ => annA BySt (bySlots len cap) (byHp X cap) (byInv X len) (fun a => len - a.k), ?_⟩
  rw [bytes_nf]
  refine ⟨⟨⟨0, 0, 0, fun _ => 0⟩, ⟨Nat.zero_le _, rfl, Nat.le_refl _, by decide, fun i hi => absurd hi (Nat.not_lt_zero i), fun e he => absurd he (by simp)⟩, rfl, rfl, rfl, rfl, rfl, rfl, rfl, fun _ _ => rfl, fun _ _ => rfl, fun _ _ => rfl, fun _ _ => rfl, fun _ _ => rfl, fun _ _ => rfl, fun _ _ => rfl, fun _ _ => rfl, rfl, trivial⟩, ?_, fun _ _ h => h⟩
  rintro _ ⟨k, n, c, w⟩ ⟨i1, i2, i3, i4, i5, i6⟩
  dsimp only at i1 i2 i3 i4 i5 i6 ⊢
  have hkt : 0 + Int.toNat (k : Int) = k := by simp
  have hle := catB_le X i5
  refine ⟨fun hlt => ?_, fun hge => ?_⟩
  · have hlt : (k : Int) < (len : Int) := by simpa [BE.den, IE.den, cmpI_lss] using hlt
    have hk : k < len := by omega
    rw [hkt]
    refine ⟨ask_ix (by simp; omega) (by simp; omega), by simp; omega, trivial, fun b hx => ?_, fun _ hne => ⟨fun hn => ?_, fun hn => absurd (by simpa [BE.den, IE.den, cmpI_neq] using hn) hne⟩⟩
    · have hm := bytes_len hx.err
      have hc := hx.len
      refine ⟨decide_eq_true (by omega), decide_eq_true (by omega), decide_eq_true (Nat.le_refl _), decide_eq_true i4, ?_, fun U cap' h1 h2 => ?_⟩
      · show (n + (amdBytes (X k)).length) * 1 <= 140737488355328
        omega
      · have h1 : n + (amdBytes (X k)).length <= cap' := h1
        refine ⟨⟨k + 1, n + (amdBytes (X k)).length, cap', newW n (amdBytes (X k)).length w b.2 U⟩, ⟨hk, ?_, h1, h2, fun i hi => ?_, fun e he => ?_⟩, ?_, rfl, rfl, rfl, rfl, rfl, ?_, rfl, fun _ _ => rfl, fun _ _ => rfl, fun _ _ => rfl, fun _ _ => rfl, fun _ _ => rfl, fun _ _ => rfl, fun _ _ => rfl, fun _ _ => rfl, rfl, fun e _ => newW_col, trivial⟩
        · show n + (amdBytes (X k)).length = (catB X (k + 1)).length
          rw [catB_len, i2]
        · have hi : i < k + 1 := hi
          by_cases hik : i < k
          · exact i5 i hik
          · obtain rfl : i = k := by omega
            exact hx.err
        · have he : e < n + (amdBytes (X k)).length := he
          show newW n (amdBytes (X k)).length w b.2 U e = (catB X k ++ amdBytes (X k)).getD e 0
          unfold newW
          rw [List.getD_eq_getElem?_getD]
          by_cases h : e < n
          · rw [if_pos h, List.getElem?_append_left (by omega), i6 e h, List.getD_eq_getElem?_getD]
          · rw [if_neg h, if_pos he, List.getElem?_append_right (by omega), hx.cell (e - n) (by omega), List.getD_eq_getElem?_getD, i2]
        · show len - (k + 1) < len - k
          omega
        · show IntKind.i64.wrap ((k : Int) + 1) = ((k + 1 : Nat) : Int)
          rw [wrap_i64_in (by omega) (by omega)]; omega
    · right
      exact ⟨k, ⟨hk, hne, i5⟩, rfl, rfl, rfl, fun _ _ => rfl, fun _ _ => rfl, fun _ _ => rfl, fun _ _ => rfl, fun _ _ => rfl, fun _ _ => rfl, fun _ _ => rfl, fun _ _ => rfl, trivial⟩
  · have hge : ¬ (k : Int) < (len : Int) := by simpa [BE.den, IE.den, cmpI_lss] using hge
    obtain rfl : k = len := by omega
    left
    exact ⟨(c, w), ⟨i5, by rw [<- i2]; exact i3, i4, by rw [<- i2]; exact i6⟩, i2, rfl, rfl, fun _ _ => rfl, fun _ _ => rfl, fun _ _ => rfl, fun _ _ => rfl, fun _ _ => rfl, fun _ _ => rfl, fun _ _ => rfl, fun _ _ => rfl, rfl, fun _ _ => rfl, trivial⟩
set_option maxRecDepth 100000 in
theorem rlbytes_ok : SpecOk P 13 (rdSpec [.rows 8 zz8] byPre byOutsP) := by
  have hs := some_un fun un => func_sound (un := un) EB_ok Tryd.func13
  refine by_spec hs ?_
  intro X len cap hlc hl
  refine ⟨fun _ => annA BySt (bySlotsR len cap) (byHp X cap) (byInv X len) (fun a => len - a.k), ?_⟩
  rw [rbytes_nf]
  refine ⟨⟨⟨0, 0, 0, fun _ => 0⟩, ⟨Nat.zero_le _, rfl, Nat.le_refl _, by decide, fun i hi => absurd hi (Nat.not_lt_zero i), fun e he => absurd he (by simp)⟩, rfl, rfl, rfl, rfl, rfl, rfl, fun _ _ => rfl, fun _ _ => rfl, fun _ _ => rfl, fun _ _ => rfl, fun _ _ => rfl, fun _ _ => rfl, fun _ _ => rfl, fun _ _ => rfl, rfl, trivial⟩, ?_, fun _ _ h => h⟩
  rintro _ ⟨k, n, c, w⟩ ⟨i1, i2, i3, i4, i5, i6⟩
  dsimp only at i1 i2 i3 i4 i5 i6 ⊢
  have hkt : 0 + Int.toNat (k : Int) = k := by simp
  have hle := catB_le X i5
  refine ⟨fun hlt => ?_, fun hge => ?_⟩
  · have hlt : (k : Int) < (len : Int) := by simpa [BE.den, IE.den, cmpI_lss] using hlt
    have hk : k < len := by omega
    rw [hkt]
    refine ⟨ask_ix (by simp; omega) (by simp; omega), by simp; omega, trivial, fun b hx => ?_, fun _ hne => ⟨fun hn => ?_, fun hn => absurd (by simpa [BE.den, IE.den, cmpI_neq] using hn) hne⟩⟩
    · have hm := bytes_len hx.err
      have hc := hx.len
      refine ⟨decide_eq_true (by omega), decide_eq_true (by omega), decide_eq_true (Nat.le_refl _), decide_eq_true i4, ?_, fun U cap' h1 h2 => ?_⟩
      · show (n + (amdBytes (X k)).length) * 1 <= 140737488355328
        omega
      · have h1 : n + (amdBytes (X k)).length <= cap' := h1
        refine ⟨⟨k + 1, n + (amdBytes (X k)).length, cap', newW n (amdBytes (X k)).length w b.2 U⟩, ⟨hk, ?_, h1, h2, fun i hi => ?_, fun e he => ?_⟩, ?_, rfl, rfl, rfl, rfl, ?_, rfl, fun _ _ => rfl, fun _ _ => rfl, fun _ _ => rfl, fun _ _ => rfl, fun _ _ => rfl, fun _ _ => rfl, fun _ _ => rfl, fun _ _ => rfl, rfl, fun e _ => newW_col, trivial⟩
        · show n + (amdBytes (X k)).length = (catB X (k + 1)).length
          rw [catB_len, i2]
        · have hi : i < k + 1 := hi
          by_cases hik : i < k
          · exact i5 i hik
          · obtain rfl : i = k := by omega
            exact hx.err
        · have he : e < n + (amdBytes (X k)).length := he
          show newW n (amdBytes (X k)).length w b.2 U e = (catB X k ++ amdBytes (X k)).getD e 0
          unfold newW
          rw [List.getD_eq_getElem?_getD]
          by_cases h : e < n
          · rw [if_pos h, List.getElem?_append_left (by omega), i6 e h, List.getD_eq_getElem?_getD]
          · rw [if_neg h, if_pos he, List.getElem?_append_right (by omega), hx.cell (e - n) (by omega), List.getD_eq_getElem?_getD, i2]
        · show len - (k + 1) < len - k
          omega
        · show IntKind.i64.wrap ((k : Int) + 1) = ((k + 1 : Nat) : Int)
          rw [wrap_i64_in (by omega) (by omega)]; omega
    · right
      exact ⟨k, ⟨hk, hne, i5⟩, rfl, rfl, rfl, fun _ _ => rfl, fun _ _ => rfl, fun _ _ => rfl, fun _ _ => rfl, fun _ _ => rfl, fun _ _ => rfl, fun _ _ => rfl, fun _ _ => rfl, trivial⟩
  · have hge : ¬ (k : Int) < (len : Int) := by simpa [BE.den, IE.den, cmpI_lss] using hge
    obtain rfl : k = len := by omega
    left
    exact ⟨(c, w), ⟨i5, by rw [<- i2]; exact i3, i4, by rw [<- i2]; exact i6⟩, i2, rfl, rfl, fun _ _ => rfl, fun _ _ => rfl, fun _ _ => rfl, fun _ _ => rfl, fun _ _ => rfl, fun _ _ => rfl, fun _ _ => rfl, fun _ _ => rfl, rfl, fun _ _ => rfl, trivial⟩
end Go.Proofs.YtajcmjjgnbaahaaDoor.Amd
