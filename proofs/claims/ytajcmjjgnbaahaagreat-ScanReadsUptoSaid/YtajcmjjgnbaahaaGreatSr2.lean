/- What Decode makes of a word. -/
import Derived.Test.YtajcmjjgnbaahaaGreatSr1
set_option linter.unusedVariables false
set_option linter.unusedSimpArgs false
namespace Go.Proofs.YtajcmjjgnbaahaaGreat.Rv
open Go Go.Proofs.YtajcmjjgnbaahaaGreat.Sx Go.RowKit
def zOA : Nat -> Int
 | 1 | 8 => 127
 | 3 => 4227887231
 | 4 | 6 => 4261441663
 | _ => 28799
def zEf : Nat -> Int
 | 2 | 5 => 12
 | 7 => 13
 | 8 => 21
 | _ => 0
def zG6 (w : Int) (named : Bool) (at_ : Int) : IE := match named with | true => .conv .i64 (.bits .and .u32 (.shr .u32 (.var w) (.lit at_)) (.lit 31)) | false => .lit 0
def zLb (w : Int) (p : Int × Int × Int) : IE := .shl .u64 (.bits .and .u64 (.shr .u64 (.conv .u64 (.var w)) (.lit p.2.2)) (.lit p.2.1)) (.lit p.1)
def zNU (form : Nat) (w : Int) : IE := (zC8 form).foldl (fun v p => .bits .or .u64 v (zLb w p)) (.lit 0)
def immE (form : Nat) (w : Int) : IE :=
 match form with
 | 6 => .lit 0
 | 2 | 5 | 7 | 8 => .shr .i64 (.conv .i64 (.shl .u64 (zNU form w) (.lit (64 - zEf form)))) (.lit (64 - zEf form))
 | _ => .conv .i64 (zNU form w)
def eqU (u : Nat -> Value) : List Nat -> Prop -> Prop
 | [], R => R
 | i :: l, R => u i = u i /\ eqU u l R
def eqW (w : Int) : Nat -> Prop -> Prop
 | 0, R => R
 | n + 1, R => w = w /\ eqW w n R
def zXe : Nat -> Nat
 | 1 | 8 => 2
 | 6 => 4
 | _ => 3
def zQN (form : Nat) (w : Int) (u : Nat -> Value) : Prop :=
 eqU u [0, 4, 13, 14, 15, 16] (eqW w (2 * zXe form) (eqU u [53, 54, 55, 56, 57, 58, 59, 60, 61, 62, 63, 64, 65, 66, 67, 68, 69, 70, 71, 72, 73, 74, 75, 76, 77, 78, 79, 80, 81, 82, 83, 84, 85, 86, 87, 88] (eqW w (zXe form) True)))
def zYj (form : Nat) (w : Int) (u : Nat -> Value) (R : Prop) : Prop := zNH (zC8 form) R /\ (((zQN form w u /\ zQN form w u) /\ zQN form w u) /\ zQN form w u)
def zOb (r : z9) (w : Int) : SV := .tuple [.agg [.int .i64 (.lit r.op), .int .i64 (zG6 w (zd r.form).1 7), .int .i64 (zG6 w (zd r.form).2.1 15), .int .i64 (zG6 w (zd r.form).2.2 20), .int .i64 (immE r.form w)], .int .i64 (.lit 0)]
def zPQ : SV := .tuple [.agg [.int .i64 (.lit 0), .int .i64 (.lit 0), .int .i64 (.lit 0), .int .i64 (.lit 0), .int .i64 (.lit 0)], .int .i64 (.lit 5)]
def zLm (r : z9) (w : Int) : BE := .cmp .neq (.bits .and .u32 (.var w) (.lit (zOA r.form))) (.lit (zAp r))
noncomputable def zR7 : Code := (Tryz.f64.body).getD .skip
def zFS : List Nat := [1, 2, 3, 17, 18, 19]
noncomputable def zKz (k : Int) : List SV := zS (zS (zS (zS (zS (zS (List.replicate Tryz.f64.ntmps SV.undef) 1 (.ptr 0 0)) 2 (.ptr 1 0)) 3 (.int .i64 (.lit 0))) 17 (.slice 2 0 (.lit 34) (.lit 34))) 18 (.int .i64 (.lit 34))) 19 (.int .i64 (.lit k))
def zHQ : List SV := zf.flatMap fun r => match zaG r with | .agg l => l | _ => []
noncomputable def zHJ (w k : Int) (u : Nat -> Value) : St :=
 { tmps := zFy zFS u 0 (zKz k), hp := [.cells [.int .u32 (.var w)] 33, .cells [.int .i64 (.lit 0), .int .i64 (.lit 0), .int .i64 (.lit 0), .int .i64 (.lit 0), .int .i64 (.lit 0)] 60, .cells zHQ 133] }
def zIM : Code -> Nat -> List (Nat × Code)
 | .seq a b, n => zIM a n ++ zIM b n
 | .cond _ a b, n => zIM a n ++ zIM b n
 | .block id c, _ => zIM c id
 | .loop c, n => [(n, c)]
 | _, _ => []
noncomputable def zK0 (σ : St) (K : zAW -> St -> Prop) : Prop :=
 match (zIM zR7 0)[0]? with
 | some (b, c) => zAP P G2 (fun n => if n = 0 then 0 else 10) 0 c b σ K
 | none => False
def endK (fn : Func) (Q : SV -> Prop) : zAW -> St -> Prop := fun e σ =>
 match e with
 | .exit _ => False
 | _ => match zBh P σ fn.results.toList with
  | some vs => Q (zD1 vs)
  | none => False
def ctxK (run : Code -> Nat -> St -> (zAW -> St -> Prop) -> Prop) : Code -> Nat -> (zAW -> St -> Prop) -> Option (zAW -> St -> Prop)
 | .seq a b, n, K =>
  match ctxK run a n (zFZ (fun σ' => run b n σ' K) K) with
  | some k => some k
  | none => ctxK run b n K
 | .cond _ a b, n, K =>
  match ctxK run a n K with
  | some k => some k
  | none => ctxK run b n K
 | .block id c, _, K => ctxK run c id (zKp id K)
 | .loop _, _, K => some K
 | _, _, _ => none
noncomputable def decK (Q : SV -> Prop) : zAW -> St -> Prop := (ctxK (zAP P G2 (fun n => if n = 0 then 0 else 10) 0) zR7 0 (endK Tryz.f64 Q)).getD fun _ _ => False
def zL (w : Int) (u : Nat -> Value) (Q : SV -> Prop) (R : St -> Prop) (k : Nat) : Prop :=
 zK0 (zHJ w (k : Int) u) (zFZ (fun σ => zEx 0 zFS σ R) (decK Q)) =
  ((BE.den (zLm (zf.getD k ⟨0, 0, 0, 0, 0, []⟩) w) = true -> ∀ u, R (zHJ w ((k + 1 : Nat) : Int) u)) /\ (BE.den (zLm (zf.getD k ⟨0, 0, 0, 0, 0, []⟩) w) = false -> zYj (zf.getD k ⟨0, 0, 0, 0, 0, []⟩).form w u (Q (zOb (zf.getD k ⟨0, 0, 0, 0, 0, []⟩) w))))
theorem zR0 (w : Int) (Q : SV -> Prop) : zH P G2 (fun n => if n = 0 then 0 else 10) Tryz.f64 [.int .u32 (.var w)] [] (fun v _ => Q v) =
  ∃ (live : List Nat) (I : St -> Prop) (μ : St -> Nat), zEx 0 live { tmps := zS (zKz 0) 0 (.int .u32 (.var w)), hp := [.cells [.int .u32 (.var w)] 33, .cells [.int .i64 (.lit 0), .int .i64 (.lit 0), .int .i64 (.lit 0), .int .i64 (.lit 0), .int .i64 (.lit 0)] 60, .cells zHQ 133] } I /\
   ∀ σ', I σ' -> zK0 σ' (zFZ (fun σ'' => zEx 0 live σ'' fun σ3 => I σ3 /\ μ σ3 < μ σ') (decK Q)) := by kernel_rfl
theorem zbD (w : Int) (u : Nat -> Value) (Q : SV -> Prop) (R : St -> Prop) : zL w u Q R 0 := by
 unfold zL; kernel_rfl
theorem zbC (w : Int) (u : Nat -> Value) (Q : SV -> Prop) (R : St -> Prop) : zL w u Q R 1 := by
 unfold zL; kernel_rfl
theorem zbB (w : Int) (u : Nat -> Value) (Q : SV -> Prop) (R : St -> Prop) : zL w u Q R 2 := by
 unfold zL; kernel_rfl
theorem zbA (w : Int) (u : Nat -> Value) (Q : SV -> Prop) (R : St -> Prop) : zL w u Q R 3 := by
 unfold zL; kernel_rfl
theorem za9 (w : Int) (u : Nat -> Value) (Q : SV -> Prop) (R : St -> Prop) : zL w u Q R 4 := by
 unfold zL; kernel_rfl
theorem za8 (w : Int) (u : Nat -> Value) (Q : SV -> Prop) (R : St -> Prop) : zL w u Q R 5 := by
 unfold zL; kernel_rfl
theorem za7 (w : Int) (u : Nat -> Value) (Q : SV -> Prop) (R : St -> Prop) : zL w u Q R 6 := by
 unfold zL; kernel_rfl
theorem za6 (w : Int) (u : Nat -> Value) (Q : SV -> Prop) (R : St -> Prop) : zL w u Q R 7 := by
 unfold zL; kernel_rfl
theorem za5 (w : Int) (u : Nat -> Value) (Q : SV -> Prop) (R : St -> Prop) : zL w u Q R 8 := by
 unfold zL; kernel_rfl
theorem za4 (w : Int) (u : Nat -> Value) (Q : SV -> Prop) (R : St -> Prop) : zL w u Q R 9 := by
 unfold zL; kernel_rfl
theorem zZW (w : Int) (u : Nat -> Value) (Q : SV -> Prop) (R : St -> Prop) : zL w u Q R 10 := by
 unfold zL; kernel_rfl
theorem zZV (w : Int) (u : Nat -> Value) (Q : SV -> Prop) (R : St -> Prop) : zL w u Q R 11 := by
 unfold zL; kernel_rfl
theorem zZU (w : Int) (u : Nat -> Value) (Q : SV -> Prop) (R : St -> Prop) : zL w u Q R 12 := by
 unfold zL; kernel_rfl
theorem zZT (w : Int) (u : Nat -> Value) (Q : SV -> Prop) (R : St -> Prop) : zL w u Q R 13 := by
 unfold zL; kernel_rfl
theorem zZS (w : Int) (u : Nat -> Value) (Q : SV -> Prop) (R : St -> Prop) : zL w u Q R 14 := by
 unfold zL; kernel_rfl
theorem zZR (w : Int) (u : Nat -> Value) (Q : SV -> Prop) (R : St -> Prop) : zL w u Q R 15 := by
 unfold zL; kernel_rfl
theorem zZQ (w : Int) (u : Nat -> Value) (Q : SV -> Prop) (R : St -> Prop) : zL w u Q R 16 := by
 unfold zL; kernel_rfl
theorem zZP (w : Int) (u : Nat -> Value) (Q : SV -> Prop) (R : St -> Prop) : zL w u Q R 17 := by
 unfold zL; kernel_rfl
theorem zZO (w : Int) (u : Nat -> Value) (Q : SV -> Prop) (R : St -> Prop) : zL w u Q R 18 := by
 unfold zL; kernel_rfl
theorem zZN (w : Int) (u : Nat -> Value) (Q : SV -> Prop) (R : St -> Prop) : zL w u Q R 19 := by
 unfold zL; kernel_rfl
theorem zZM (w : Int) (u : Nat -> Value) (Q : SV -> Prop) (R : St -> Prop) : zL w u Q R 20 := by
 unfold zL; kernel_rfl
theorem zZL (w : Int) (u : Nat -> Value) (Q : SV -> Prop) (R : St -> Prop) : zL w u Q R 21 := by
 unfold zL; kernel_rfl
theorem zZK (w : Int) (u : Nat -> Value) (Q : SV -> Prop) (R : St -> Prop) : zL w u Q R 22 := by
 unfold zL; kernel_rfl
theorem zZJ (w : Int) (u : Nat -> Value) (Q : SV -> Prop) (R : St -> Prop) : zL w u Q R 23 := by
 unfold zL; kernel_rfl
theorem zZI (w : Int) (u : Nat -> Value) (Q : SV -> Prop) (R : St -> Prop) : zL w u Q R 24 := by
 unfold zL; kernel_rfl
theorem zZH (w : Int) (u : Nat -> Value) (Q : SV -> Prop) (R : St -> Prop) : zL w u Q R 25 := by
 unfold zL; kernel_rfl
theorem zZG (w : Int) (u : Nat -> Value) (Q : SV -> Prop) (R : St -> Prop) : zL w u Q R 26 := by
 unfold zL; kernel_rfl
theorem zZF (w : Int) (u : Nat -> Value) (Q : SV -> Prop) (R : St -> Prop) : zL w u Q R 27 := by
 unfold zL; kernel_rfl
theorem zZE (w : Int) (u : Nat -> Value) (Q : SV -> Prop) (R : St -> Prop) : zL w u Q R 28 := by
 unfold zL; kernel_rfl
theorem zZD (w : Int) (u : Nat -> Value) (Q : SV -> Prop) (R : St -> Prop) : zL w u Q R 29 := by
 unfold zL; kernel_rfl
theorem zZC (w : Int) (u : Nat -> Value) (Q : SV -> Prop) (R : St -> Prop) : zL w u Q R 30 := by
 unfold zL; kernel_rfl
theorem zZB (w : Int) (u : Nat -> Value) (Q : SV -> Prop) (R : St -> Prop) : zL w u Q R 31 := by
 unfold zL; kernel_rfl
theorem zZA (w : Int) (u : Nat -> Value) (Q : SV -> Prop) (R : St -> Prop) : zL w u Q R 32 := by
 unfold zL; kernel_rfl
theorem zY9 (w : Int) (u : Nat -> Value) (Q : SV -> Prop) (R : St -> Prop) : zL w u Q R 33 := by
 unfold zL; kernel_rfl
theorem zY8 (w : Int) (u : Nat -> Value) (Q : SV -> Prop) (R : St -> Prop) : zK0 (zHJ w 34 u) (zFZ (fun σ => zEx 0 zFS σ R) (decK Q)) = Q zPQ := by kernel_rfl
end Go.Proofs.YtajcmjjgnbaahaaGreat.Rv
