/- What Decode makes of a word. -/
import Derived.Test.YtajcmjjgnbaahaaSr1
namespace Go.Proofs.Ytajcmjjgnbaahaa.Rv
open Go Go.Proofs.Ytajcmjjgnbaahaa.Sx Go.RowKit
set_option linter.unusedVariables false
set_option linter.unusedSimpArgs false

def maskOf : Nat → Int
  | 1 | 8 => 127
  | 3 => 4227887231
  | 4 | 6 => 4261441663
  | _ => 28799
def signedOf : Nat → Int
  | 2 | 5 => 12
  | 7 => 13
  | 8 => 21
  | _ => 0

def fieldE (w : Int) (named : Bool) (at_ : Int) : IE := match named with | true => .conv .i64 (.bits .and .u32 (.shr .u32 (.var w) (.lit at_)) (.lit 31)) | false => .lit 0
def pieceD (w : Int) (p : Int × Int × Int) : IE := .shl .u64 (.bits .and .u64 (.shr .u64 (.conv .u64 (.var w)) (.lit p.2.2)) (.lit p.2.1)) (.lit p.1)
def valueE (form : Nat) (w : Int) : IE := (pieces form).foldl (fun v p => .bits .or .u64 v (pieceD w p)) (.lit 0)
def immE (form : Nat) (w : Int) : IE :=
  match form with
  | 6 => .lit 0
  | 2 | 5 | 7 | 8 => .shr .i64 (.conv .i64 (.shl .u64 (valueE form w) (.lit (64 - signedOf form)))) (.lit (64 - signedOf form))
  | _ => .conv .i64 (valueE form w)

def eqU (u : Nat → Value) : List Nat → Prop → Prop
  | [], R => R
  | i :: l, R => u i = u i ∧ eqU u l R
def eqW (w : Int) : Nat → Prop → Prop
  | 0, R => R
  | n + 1, R => w = w ∧ eqW w n R
def sameK : Nat → Nat
  | 1 | 8 => 2
  | 6 => 4
  | _ => 3
def sameD (form : Nat) (w : Int) (u : Nat → Value) : Prop :=
  eqU u [0, 4, 13, 14, 15, 16] (eqW w (2 * sameK form) (eqU u [53, 54, 55, 56, 57, 58, 59, 60, 61, 62, 63, 64, 65, 66, 67, 68, 69, 70, 71, 72, 73, 74, 75, 76, 77, 78, 79, 80, 81, 82, 83, 84, 85, 86, 87, 88] (eqW w (sameK form) True)))
def leafD (form : Nat) (w : Int) (u : Nat → Value) (R : Prop) : Prop := asked (pieces form) R ∧ (((sameD form w u ∧ sameD form w u) ∧ sameD form w u) ∧ sameD form w u)
def foundD (r : RvRow) (w : Int) : SV := .tuple [.agg [.int .i64 (.lit r.op), .int .i64 (fieldE w (names r.form).1 7), .int .i64 (fieldE w (names r.form).2.1 15), .int .i64 (fieldE w (names r.form).2.2 20), .int .i64 (immE r.form w)], .int .i64 (.lit 0)]
def noneD : SV := .tuple [.agg [.int .i64 (.lit 0), .int .i64 (.lit 0), .int .i64 (.lit 0), .int .i64 (.lit 0), .int .i64 (.lit 0)], .int .i64 (.lit 5)]
def missE (r : RvRow) (w : Int) : BE := .cmp .neq (.bits .and .u32 (.var w) (.lit (maskOf r.form))) (.lit (fixedOf r))

/-! The loop's head. -/
noncomputable def decCode : Code := (Try.f101.body).getD .skip
def decLive : List Nat := [1, 2, 3, 17, 18, 19]
noncomputable def decTmps (k : Int) : List SV := setAt (setAt (setAt (setAt (setAt (setAt (List.replicate Try.f101.ntmps SV.undef) 1 (.ptr 0 0)) 2 (.ptr 1 0)) 3 (.int .i64 (.lit 0))) 17 (.slice 2 0 (.lit 34) (.lit 34))) 18 (.int .i64 (.lit 34))) 19 (.int .i64 (.lit k))
def rowCells : List SV := rvRows.flatMap fun r => match rowSV r with | .agg l => l | _ => []
noncomputable def decSt (w k : Int) (u : Nat → Value) : St :=
  { tmps := forget decLive u 0 (decTmps k), hp := [.cells [.int .u32 (.var w)] 55, .cells [.int .i64 (.lit 0), .int .i64 (.lit 0), .int .i64 (.lit 0), .int .i64 (.lit 0), .int .i64 (.lit 0)] 133, .cells rowCells 169] }
def loopIn : Code → Nat → List (Nat × Code)
  | .seq a b, n => loopIn a n ++ loopIn b n
  | .cond _ a b, n => loopIn a n ++ loopIn b n
  | .block id c, _ => loopIn c id
  | .loop c, n => [(n, c)]
  | _, _ => []
noncomputable def decBody (σ : St) (K : SExit → St → Prop) : Prop :=
  match (loopIn decCode 0)[0]? with
  | some (b, c) => sxCode P G2 (fun n => if n = 0 then 0 else 10) 0 c b σ K
  | none => False
/-- What follows a function's body. -/
def endK (fn : Func) (Q : SV → Prop) : SExit → St → Prop := fun e σ =>
  match e with
  | .exit _ => False
  | _ => match sxResults P σ fn.results.toList with
    | some vs => Q (single vs)
    | none => False
/-- What follows the first loop. -/
def ctxK (run : Code → Nat → St → (SExit → St → Prop) → Prop) : Code → Nat → (SExit → St → Prop) → Option (SExit → St → Prop)
  | .seq a b, n, K =>
    match ctxK run a n (thenS (fun σ' => run b n σ' K) K) with
    | some k => some k
    | none => ctxK run b n K
  | .cond _ a b, n, K =>
    match ctxK run a n K with
    | some k => some k
    | none => ctxK run b n K
  | .block id c, _, K => ctxK run c id (inBlockS id K)
  | .loop _, _, K => some K
  | _, _, _ => none
noncomputable def decK (Q : SV → Prop) : SExit → St → Prop := (ctxK (sxCode P G2 (fun n => if n = 0 then 0 else 10) 0) decCode 0 (endK Try.f101 Q)).getD fun _ _ => False

/-- One round. -/
def DecRound (w : Int) (u : Nat → Value) (Q : SV → Prop) (R : St → Prop) (k : Nat) : Prop :=
  decBody (decSt w (k : Int) u) (thenS (fun σ => headK 0 decLive σ R) (decK Q)) =
    ((BE.den (missE (rvRows.getD k ⟨0, 0, 0, 0, 0, []⟩) w) = true → ∀ u, R (decSt w ((k + 1 : Nat) : Int) u)) ∧ (BE.den (missE (rvRows.getD k ⟨0, 0, 0, 0, 0, []⟩) w) = false → leafD (rvRows.getD k ⟨0, 0, 0, 0, 0, []⟩).form w u (Q (foundD (rvRows.getD k ⟨0, 0, 0, 0, 0, []⟩) w))))

theorem dec_start (w : Int) (Q : SV → Prop) : sxFunc P G2 (fun n => if n = 0 then 0 else 10) Try.f101 [.int .u32 (.var w)] [] (fun v _ => Q v) =
    ∃ (live : List Nat) (I : St → Prop) (μ : St → Nat), headK 0 live { tmps := setAt (decTmps 0) 0 (.int .u32 (.var w)), hp := [.cells [.int .u32 (.var w)] 55, .cells [.int .i64 (.lit 0), .int .i64 (.lit 0), .int .i64 (.lit 0), .int .i64 (.lit 0), .int .i64 (.lit 0)] 133, .cells rowCells 169] } I ∧
      ∀ σ', I σ' → decBody σ' (thenS (fun σ'' => headK 0 live σ'' fun σ3 => I σ3 ∧ μ σ3 < μ σ') (decK Q)) := by kernel_rfl

theorem dec_0 (w : Int) (u : Nat → Value) (Q : SV → Prop) (R : St → Prop) : DecRound w u Q R 0 := by
  unfold DecRound; kernel_rfl
theorem dec_1 (w : Int) (u : Nat → Value) (Q : SV → Prop) (R : St → Prop) : DecRound w u Q R 1 := by
  unfold DecRound; kernel_rfl
theorem dec_2 (w : Int) (u : Nat → Value) (Q : SV → Prop) (R : St → Prop) : DecRound w u Q R 2 := by
  unfold DecRound; kernel_rfl
theorem dec_3 (w : Int) (u : Nat → Value) (Q : SV → Prop) (R : St → Prop) : DecRound w u Q R 3 := by
  unfold DecRound; kernel_rfl
theorem dec_4 (w : Int) (u : Nat → Value) (Q : SV → Prop) (R : St → Prop) : DecRound w u Q R 4 := by
  unfold DecRound; kernel_rfl
theorem dec_5 (w : Int) (u : Nat → Value) (Q : SV → Prop) (R : St → Prop) : DecRound w u Q R 5 := by
  unfold DecRound; kernel_rfl
theorem dec_6 (w : Int) (u : Nat → Value) (Q : SV → Prop) (R : St → Prop) : DecRound w u Q R 6 := by
  unfold DecRound; kernel_rfl
theorem dec_7 (w : Int) (u : Nat → Value) (Q : SV → Prop) (R : St → Prop) : DecRound w u Q R 7 := by
  unfold DecRound; kernel_rfl
theorem dec_8 (w : Int) (u : Nat → Value) (Q : SV → Prop) (R : St → Prop) : DecRound w u Q R 8 := by
  unfold DecRound; kernel_rfl
theorem dec_9 (w : Int) (u : Nat → Value) (Q : SV → Prop) (R : St → Prop) : DecRound w u Q R 9 := by
  unfold DecRound; kernel_rfl
theorem dec_10 (w : Int) (u : Nat → Value) (Q : SV → Prop) (R : St → Prop) : DecRound w u Q R 10 := by
  unfold DecRound; kernel_rfl
theorem dec_11 (w : Int) (u : Nat → Value) (Q : SV → Prop) (R : St → Prop) : DecRound w u Q R 11 := by
  unfold DecRound; kernel_rfl
theorem dec_12 (w : Int) (u : Nat → Value) (Q : SV → Prop) (R : St → Prop) : DecRound w u Q R 12 := by
  unfold DecRound; kernel_rfl
theorem dec_13 (w : Int) (u : Nat → Value) (Q : SV → Prop) (R : St → Prop) : DecRound w u Q R 13 := by
  unfold DecRound; kernel_rfl
theorem dec_14 (w : Int) (u : Nat → Value) (Q : SV → Prop) (R : St → Prop) : DecRound w u Q R 14 := by
  unfold DecRound; kernel_rfl
theorem dec_15 (w : Int) (u : Nat → Value) (Q : SV → Prop) (R : St → Prop) : DecRound w u Q R 15 := by
  unfold DecRound; kernel_rfl
theorem dec_16 (w : Int) (u : Nat → Value) (Q : SV → Prop) (R : St → Prop) : DecRound w u Q R 16 := by
  unfold DecRound; kernel_rfl
theorem dec_17 (w : Int) (u : Nat → Value) (Q : SV → Prop) (R : St → Prop) : DecRound w u Q R 17 := by
  unfold DecRound; kernel_rfl
theorem dec_18 (w : Int) (u : Nat → Value) (Q : SV → Prop) (R : St → Prop) : DecRound w u Q R 18 := by
  unfold DecRound; kernel_rfl
theorem dec_19 (w : Int) (u : Nat → Value) (Q : SV → Prop) (R : St → Prop) : DecRound w u Q R 19 := by
  unfold DecRound; kernel_rfl
theorem dec_20 (w : Int) (u : Nat → Value) (Q : SV → Prop) (R : St → Prop) : DecRound w u Q R 20 := by
  unfold DecRound; kernel_rfl
theorem dec_21 (w : Int) (u : Nat → Value) (Q : SV → Prop) (R : St → Prop) : DecRound w u Q R 21 := by
  unfold DecRound; kernel_rfl
theorem dec_22 (w : Int) (u : Nat → Value) (Q : SV → Prop) (R : St → Prop) : DecRound w u Q R 22 := by
  unfold DecRound; kernel_rfl
theorem dec_23 (w : Int) (u : Nat → Value) (Q : SV → Prop) (R : St → Prop) : DecRound w u Q R 23 := by
  unfold DecRound; kernel_rfl
theorem dec_24 (w : Int) (u : Nat → Value) (Q : SV → Prop) (R : St → Prop) : DecRound w u Q R 24 := by
  unfold DecRound; kernel_rfl
theorem dec_25 (w : Int) (u : Nat → Value) (Q : SV → Prop) (R : St → Prop) : DecRound w u Q R 25 := by
  unfold DecRound; kernel_rfl
theorem dec_26 (w : Int) (u : Nat → Value) (Q : SV → Prop) (R : St → Prop) : DecRound w u Q R 26 := by
  unfold DecRound; kernel_rfl
theorem dec_27 (w : Int) (u : Nat → Value) (Q : SV → Prop) (R : St → Prop) : DecRound w u Q R 27 := by
  unfold DecRound; kernel_rfl
theorem dec_28 (w : Int) (u : Nat → Value) (Q : SV → Prop) (R : St → Prop) : DecRound w u Q R 28 := by
  unfold DecRound; kernel_rfl
theorem dec_29 (w : Int) (u : Nat → Value) (Q : SV → Prop) (R : St → Prop) : DecRound w u Q R 29 := by
  unfold DecRound; kernel_rfl
theorem dec_30 (w : Int) (u : Nat → Value) (Q : SV → Prop) (R : St → Prop) : DecRound w u Q R 30 := by
  unfold DecRound; kernel_rfl
theorem dec_31 (w : Int) (u : Nat → Value) (Q : SV → Prop) (R : St → Prop) : DecRound w u Q R 31 := by
  unfold DecRound; kernel_rfl
theorem dec_32 (w : Int) (u : Nat → Value) (Q : SV → Prop) (R : St → Prop) : DecRound w u Q R 32 := by
  unfold DecRound; kernel_rfl
theorem dec_33 (w : Int) (u : Nat → Value) (Q : SV → Prop) (R : St → Prop) : DecRound w u Q R 33 := by
  unfold DecRound; kernel_rfl
theorem dec_34 (w : Int) (u : Nat → Value) (Q : SV → Prop) (R : St → Prop) : decBody (decSt w 34 u) (thenS (fun σ => headK 0 decLive σ R) (decK Q)) = Q noneD := by kernel_rfl
end Go.Proofs.Ytajcmjjgnbaahaa.Rv
