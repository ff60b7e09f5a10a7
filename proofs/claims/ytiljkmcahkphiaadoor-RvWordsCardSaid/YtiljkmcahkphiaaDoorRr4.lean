/- The document's answer to layer 15: immediates out of words and into them. -/
import Derived.Test.YtiljkmcahkphiaaDoorRr3
namespace Go.Proofs.YtiljkmcahkphiaaDoor.Rv
open Go Go.Proofs.YtiljkmcahkphiaaDoor.Sx Go.RowKit
set_option linter.unusedVariables false
set_option linter.unusedSimpArgs false

/-! lay -/
def layParts : Nat → List (Nat × Nat × Nat)
  | 1 => [(0, 20, 12)]
  | 2 => [(0, 12, 20)]
  | 3 | 4 => [(0, 6, 20)]
  | 5 => [(0, 5, 7), (5, 7, 25)]
  | 7 => [(1, 4, 8), (5, 6, 25), (11, 1, 7), (12, 1, 31)]
  | 8 => [(1, 10, 21), (11, 1, 20), (12, 8, 12), (20, 1, 31)]
  | _ => []
def layP (d : Int) (p : Nat × Nat × Nat) : IE := .var (d / 2 ^ p.1 % 2 ^ p.2.1 * 2 ^ p.2.2)
def layE (f : Nat) (d : Int) : IE :=
  match layParts f with
  | [] => .lit 0
  | p :: l => l.foldl (fun w p => orU w (layP d p)) (layP d p)
def askedB {α : Type} (b : Bool) : List α → Prop → Prop
  | [], R => R
  | _ :: l, R => BE.den (.var b) = true ∧ askedB b l R
theorem askedB_of {α : Type} {b : Bool} (hb : b = true) {R : Prop} (h : R) : ∀ l : List α, askedB b l R
  | [] => h
  | _ :: l => ⟨hb, askedB_of hb h l⟩
theorem lay_run (f : Nat) (hf : f ∈ [1, 2, 3, 4, 5, 6, 7, 8]) (d : Int) (Q : SV → Prop) : sxFunc P H1 (fun _ => 40) Tryd.f18 [.int .i64 (.lit (f : Nat)), .int .i64 (.var d)] [] (fun v _ => Q v) = askedB (inI64 d) (layParts f) (Q (.int .u32 (layE f d))) := by
  simp only [List.mem_cons, List.not_mem_nil, or_false] at hf
  rcases hf with rfl | rfl | rfl | rfl | rfl | rfl | rfl | rfl <;> kernel_rfl

def layW : Nat → Int → Int
  | 4, d => d % 64 * 1048576
  | f, d => immW f d

theorem lay_or (d : Int) (p : Nat × Nat × Nat) (l : List (Nat × Nat × Nat)) (hp : ∀ q ∈ p :: l, q.2.1 + q.2.2 ≤ 32)
    (hd : (l.foldl (fun (s : Bool × Nat) q => (s.1 && s.2 &&& ((2 ^ q.2.1 - 1) * 2 ^ q.2.2) == 0, s.2 ||| ((2 ^ q.2.1 - 1) * 2 ^ q.2.2))) (true, (2 ^ p.2.1 - 1) * 2 ^ p.2.2)).1 = true) :
    (l.foldl (fun w p => orU w (layP d p)) (layP d p)).den = l.foldl (fun x q => x + d / 2 ^ q.1 % 2 ^ q.2.1 * 2 ^ q.2.2) (d / 2 ^ p.1 % 2 ^ p.2.1 * 2 ^ p.2.2) := by
  have hlt : ∀ q ∈ p :: l, (2 ^ q.2.1 - 1) * 2 ^ q.2.2 < 2 ^ 32 := fun q hq => by
    have e1 : (2 ^ q.2.1 - 1) * 2 ^ q.2.2 < 2 ^ q.2.1 * 2 ^ q.2.2 := Nat.mul_lt_mul_of_pos_right (by have := Nat.two_pow_pos q.2.1; omega) (Nat.two_pow_pos _)
    rw [← Nat.pow_add] at e1
    exact Nat.lt_of_lt_of_le e1 (Nat.pow_le_pow_right (by decide) (hp q hq))
  have h := fold_or (l.map fun q => ((2 ^ q.2.1 - 1) * 2 ^ q.2.2, d / 2 ^ q.1 % 2 ^ q.2.1 * 2 ^ q.2.2, layP d q)) (layP d p) _ _ rfl (piece_sub d p.1 p.2.1 p.2.2) (hlt p (List.mem_cons_self ..)) (fun x hx => by
    obtain ⟨q, hq, rfl⟩ := List.mem_map.1 hx
    exact ⟨rfl, piece_sub d q.1 q.2.1 q.2.2, hlt q (List.mem_cons_of_mem _ hq)⟩) (by rw [List.foldl_map]; exact hd)
  rw [List.foldl_map, List.foldl_map] at h
  exact h

theorem lay_den (f : Nat) (hf : f ∈ [1, 2, 3, 4, 5, 6, 7, 8]) (d : Int) : (layE f d).den = layW f d := by
  simp only [List.mem_cons, List.not_mem_nil, or_false] at hf
  rcases hf with rfl | rfl | rfl | rfl | rfl | rfl | rfl | rfl
  · simp [layE, layParts, layP, IE.den, layW, immW]
  · simp [layE, layParts, layP, IE.den, layW, immW]
  · simp [layE, layParts, layP, IE.den, layW, immW]
  · simp [layE, layParts, layP, IE.den, layW, immW]
  · have := lay_or d (0, 5, 7) [(5, 7, 25)] (by decide) (by decide)
    simpa [layE, layParts, layW, immW] using this
  · simp [layE, layParts, layP, IE.den, layW, immW]
  · have := lay_or d (1, 4, 8) [(5, 6, 25), (11, 1, 7), (12, 1, 31)] (by decide) (by decide)
    simpa [layE, layParts, layW, immW] using this
  · have := lay_or d (1, 10, 21) [(11, 1, 20), (12, 8, 12), (20, 1, 31)] (by decide) (by decide)
    simpa [layE, layParts, layW, immW] using this

def fRLay : PureFn
  | [.int .i64 (.lit f), .int .i64 e] => if (decide (f.toNat ∈ [1, 2, 3, 4, 5, 6, 7, 8]) && decide (0 ≤ f)) = true then some (some (.var (inI64 e.den)), .int .u32 (.var (layW f.toNat e.den))) else none
  | _ => none
theorem lay_ok : PureOk P 18 fRLay := by
  refine pure_of (func_sound (un := fun _ => 40) H1_ok Tryd.func18) ?_
  intro args p v hF hp
  unfold fRLay at hF
  split at hF
  · rename_i f e
    split at hF
    · rename_i hc
      simp only [Bool.and_eq_true, decide_eq_true_eq] at hc
      obtain ⟨h1, h2⟩ := hc
      simp only [Option.some.injEq, Prod.mk.injEq] at hF; obtain ⟨rfl, rfl⟩ := hF
      refine ⟨[.int .i64 (.lit ((f.toNat : Nat) : Int)), .int .i64 (.var e.den)], by simp [SV.denL, SV.den, IE.den, Int.toNat_of_nonneg h2], by simp [SV.wfL, SV.wf], by simp [SV.wfL, SV.wf], by simp [SV.wf], ?_⟩
      rw [lay_run _ h1]
      refine askedB_of hp (fun ν => ?_) _
      simp only [SV.den, lay_den _ h1, IE.den]
    · simp at hF
  · simp at hF

/-! take -/
theorem or_i64 (x y : Int) : bitsI .or .i64 x y = IntKind.i64.wrap (bitsI .or .u64 x y) := by
  simp only [bitsI]
  rw [wrap_u64, Int.emod_eq_of_lt]
  · rfl
  · omega
  · have := (BitVec.ofInt 64 x ||| BitVec.ofInt 64 y).isLt
    have e : (2 : Nat) ^ 64 = 18446744073709551616 := rfl
    simp only [IntKind.bits] at *
    omega

def rrT2 : List (FuncId × Cal) := (18, .pure fRLay) :: rrT1
theorem rrT2_ok : GammaOk P (table rrT2) := table_cons lay_ok rrT1_ok
noncomputable def H2 : FuncId → Option Cal := inl P (fun _ _ => 40) (table rrT2) 6
theorem H2_ok : GammaOk P H2 := inl_ok rrT2_ok 6

end Go.Proofs.YtiljkmcahkphiaaDoor.Rv
