/- The document's answer to layer 15: Find and Encode. -/
import Derived.Test.YtiljkmcahkphiaaRr4
namespace Go.Proofs.Ytiljkmcahkphiaa.Rv
open Go Go.Proofs.Ytiljkmcahkphiaa.Sx Go.RowKit
set_option linter.unusedVariables false
set_option linter.unusedSimpArgs false

/-- The same rows, in the document's order. -/
def rrRows : List RvRow := [
  ⟨1, 1, 55, 0, 0, [108, 117, 105]⟩,
  ⟨2, 2, 19, 0, 0, [97, 100, 100, 105]⟩,
  ⟨3, 2, 27, 0, 0, [97, 100, 100, 105, 119]⟩,
  ⟨6, 2, 19, 4, 0, [120, 111, 114, 105]⟩,
  ⟨5, 2, 19, 6, 0, [111, 114, 105]⟩,
  ⟨4, 2, 19, 7, 0, [97, 110, 100, 105]⟩,
  ⟨12, 2, 3, 2, 0, [108, 119]⟩,
  ⟨11, 2, 3, 3, 0, [108, 100]⟩,
  ⟨13, 2, 3, 6, 0, [108, 119, 117]⟩,
  ⟨34, 2, 103, 0, 0, [106, 97, 108, 114]⟩,
  ⟨7, 3, 19, 1, 0, [115, 108, 108, 105]⟩,
  ⟨8, 3, 19, 5, 0, [115, 114, 108, 105]⟩,
  ⟨9, 4, 27, 1, 0, [115, 108, 108, 105, 119]⟩,
  ⟨10, 4, 27, 5, 0, [115, 114, 108, 105, 119]⟩,
  ⟨15, 5, 35, 2, 0, [115, 119]⟩,
  ⟨14, 5, 35, 3, 0, [115, 100]⟩,
  ⟨16, 6, 51, 0, 0, [97, 100, 100]⟩,
  ⟨17, 6, 51, 0, 32, [115, 117, 98]⟩,
  ⟨21, 6, 51, 1, 0, [115, 108, 108]⟩,
  ⟨20, 6, 51, 4, 0, [120, 111, 114]⟩,
  ⟨22, 6, 51, 5, 0, [115, 114, 108]⟩,
  ⟨19, 6, 51, 6, 0, [111, 114]⟩,
  ⟨18, 6, 51, 7, 0, [97, 110, 100]⟩,
  ⟨23, 6, 59, 0, 0, [97, 100, 100, 119]⟩,
  ⟨24, 6, 59, 0, 32, [115, 117, 98, 119]⟩,
  ⟨27, 6, 59, 1, 0, [115, 108, 108, 119]⟩,
  ⟨28, 6, 59, 5, 0, [115, 114, 108, 119]⟩,
  ⟨25, 6, 59, 0, 1, [109, 117, 108, 119]⟩,
  ⟨26, 6, 59, 5, 1, [100, 105, 118, 117, 119]⟩,
  ⟨29, 7, 99, 0, 0, [98, 101, 113]⟩,
  ⟨30, 7, 99, 1, 0, [98, 110, 101]⟩,
  ⟨31, 7, 99, 6, 0, [98, 108, 116, 117]⟩,
  ⟨32, 7, 99, 7, 0, [98, 103, 101, 117]⟩,
  ⟨33, 8, 111, 0, 0, [106, 97, 108]⟩]

def rrRowSV (r : RvRow) : SV := .agg [.int .i64 (.lit r.op), .int .i64 (.lit (r.form : Nat)), .int .u32 (.lit r.code), .int .u32 (.lit r.f3), .int .u32 (.lit r.f7), .str ⟨r.name.toArray⟩]
def rrNoRow : SV := .agg [.int .i64 (.lit 0), .int .i64 (.lit 0), .int .u32 (.lit 0), .int .u32 (.lit 0), .int .u32 (.lit 0), .str ⟨#[]⟩]
def findRE (n : Int) (Q : SV → Prop) : List RvRow → Prop
  | [] => Q (.tuple [rrNoRow, .bool (.lit false)])
  | r :: l => (BE.den (BE.cmp BinOp.eql (IE.lit r.op) (IE.var n)) = true → Q (.tuple [rrRowSV r, .bool (.lit true)])) ∧ (BE.den (BE.cmp BinOp.eql (IE.lit r.op) (IE.var n)) = false → findRE n Q l)

theorem rfind_run (n : Int) (Q : SV → Prop) : sxFunc P H2 (fun _ => 40) Try.f27 [.int .i64 (.var n)] [] (fun v _ => Q v) = findRE n Q rrRows := by kernel_rfl

def rfoundSV (n : Int) : SV :=
  match rowOf rrRows n with
  | some r => .tuple [rrRowSV r, .bool (.lit true)]
  | none => .tuple [rrNoRow, .bool (.lit false)]

def fRFind : PureFn
  | [.int .i64 (.lit n)] => some (none, rfoundSV n)
  | [.int .i64 (.var n)] => some (some (.var (rowOf rrRows n).isNone), .tuple [rrNoRow, .bool (.lit false)])
  | _ => none

theorem findRE_of (n : Int) (Q : SV → Prop) : ∀ l : List RvRow, Q (match rowOf l n with | some r => .tuple [rrRowSV r, .bool (.lit true)] | none => .tuple [rrNoRow, .bool (.lit false)]) → findRE n Q l
  | [], h => h
  | r :: l, h => by
    simp only [findRE, BE.den, IE.den, cmpI_eql, decide_eq_true_eq, decide_eq_false_iff_not]
    unfold rowOf at h
    refine ⟨fun e => ?_, fun e => ?_⟩
    · rw [if_pos e] at h; exact h
    · rw [if_neg e] at h; exact findRE_of n Q l h

theorem rrRowSV_wf (p : Nat → Prop) (r : RvRow) : (rrRowSV r).wf p := by simp [rrRowSV, SV.wf, SV.wfL]

theorem rfind_ok : PureOk P 27 fRFind := by
  refine pure_of (func_sound (un := fun _ => 40) H2_ok Try.func27) ?_
  intro args p v hF hp
  unfold fRFind at hF
  split at hF
  · rename_i n
    simp only [Option.some.injEq, Prod.mk.injEq] at hF; obtain ⟨rfl, rfl⟩ := hF
    refine ⟨[.int .i64 (.var n)], rfl, by simp [SV.wfL, SV.wf], by simp [SV.wfL, SV.wf], ?_, ?_⟩
    · unfold rfoundSV; split <;> simp [SV.wf, SV.wfL, rrRowSV_wf, rrNoRow]
    · rw [rfind_run]
      exact findRE_of n _ rrRows (fun ν => rfl)
  · rename_i n
    simp only [Option.some.injEq, Prod.mk.injEq] at hF; obtain ⟨rfl, rfl⟩ := hF
    refine ⟨[.int .i64 (.var n)], rfl, by simp [SV.wfL, SV.wf], by simp [SV.wfL, SV.wf], by simp [SV.wf, SV.wfL, rrNoRow], ?_⟩
    rw [rfind_run]
    refine findRE_of n _ rrRows ?_
    have hn : rowOf rrRows n = none := by simpa [Holds, BE.den] using hp
    rw [hn]
    exact fun ν => rfl
  · simp at hF

def rrT3 : List (FuncId × Cal) := (27, .pure fRFind) :: rrT2
theorem rrT3_ok : GammaOk P (table rrT3) := table_cons rfind_ok rrT2_ok
noncomputable def H3 : FuncId → Option Cal := inl P (fun _ _ => 40) (table rrT3) 6
theorem H3_ok : GammaOk P H3 := inl_ok rrT3_ok 6

theorem rowOf_rr (n : Int) : rowOf rrRows n = rowOf rvRows n := by
  by_cases h : 1 ≤ n ∧ n ≤ 34
  · have key : (List.range 35).map (fun k => rowOf rrRows (k : Nat)) = (List.range 35).map (fun k => rowOf rvRows (k : Nat)) := by kernel_rfl
    have h1 := congrArg (fun l => l[n.toNat]?) key
    have h2 : n.toNat < 35 := by omega
    simp only [List.getElem?_map, List.getElem?_range h2, Option.map_some, Option.some.injEq] at h1
    rwa [Int.toNat_of_nonneg (show 0 ≤ n by omega)] at h1
  · have none_of : ∀ l : List RvRow, (∀ r ∈ l, 1 ≤ r.op ∧ r.op ≤ 34) → rowOf l n = none := by
      intro l
      induction l with
      | nil => intro _; rfl
      | cons r l ih =>
        intro hl
        have hr := hl r (List.mem_cons_self ..)
        unfold rowOf
        rw [if_neg (by intro e; omega)]
        exact ih fun x hx => hl x (List.mem_cons_of_mem _ hx)
    rw [none_of rrRows (by decide), none_of rvRows (by decide)]

/-! Encode -/
def orIf (b : Bool) (w e : IE) : IE := match b with | true => orU w e | false => w
def wordR (r : RvRow) (a b c d : Int) : IE :=
  orIf (r.form == 6) (orIf (!(r.form == 1) && !(r.form == 8)) (orIf (names r.form).2.2 (orIf (names r.form).2.1 (orIf (names r.form).1 (orU (.lit r.code) (.var (layW r.form d)))
    (shU (.conv .u32 (.var a)) 7)) (shU (.conv .u32 (.var b)) 15)) (shU (.conv .u32 (.var c)) 20)) (.lit (r.f3 * 4096))) (.lit (r.f7 * 33554432))
def encR (r : RvRow) (a b c d : Int) (Q : SV → Prop) : Prop :=
  unlessB (regB a (names r.form).1) (Q (errSV 151)) (unlessB (regB b (names r.form).2.1) (Q (errSV 151)) (unlessB (regB c (names r.form).2.2) (Q (errSV 151))
    (unlessB (fitsB r.form d) (Q (errSV 152)) (BE.den (.var (inI64 d)) = true ∧ Q (.tuple [.int .u32 (wordR r a b c d), .int .i64 (.lit 0)])))))

theorem renc_run (r : RvRow) (hr : r ∈ rvRows) (a b c d : Int) (Q : SV → Prop) : sxFunc P H3 (fun _ => 40) Try.f12 (rvArg (.lit r.op) a b c d) [] (fun v _ => Q v) = encR r a b c d Q := by
  simp only [rvRows, List.mem_cons, List.not_mem_nil, or_false] at hr
  rcases hr with rfl | rfl | rfl | rfl | rfl | rfl | rfl | rfl | rfl | rfl | rfl | rfl | rfl | rfl | rfl | rfl | rfl | rfl | rfl | rfl | rfl | rfl | rfl | rfl | rfl | rfl | rfl | rfl | rfl | rfl | rfl | rfl | rfl | rfl <;> kernel_rfl

theorem renc_none (n a b c d : Int) (Q : SV → Prop) : sxFunc P H3 (fun _ => 40) Try.f12 (rvArg (.var n) a b c d) [] (fun v _ => Q v) = (BE.den (.var (rowOf rrRows n).isNone) = true ∧ Q (errSV 153)) := by kernel_rfl

end Go.Proofs.Ytiljkmcahkphiaa.Rv
