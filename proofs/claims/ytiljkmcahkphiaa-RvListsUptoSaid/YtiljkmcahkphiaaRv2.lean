/- Package rv's table, and what 'find' and 'Encode' make. -/
import Derived.Test.YtiljkmcahkphiaaRv1
namespace Go.Proofs.Ytiljkmcahkphiaa.Rv
open Go Go.Proofs.Ytiljkmcahkphiaa.Sx
set_option linter.unusedVariables false
set_option linter.unusedSimpArgs false

/-- An operation: its number, format (1 U, 2 I, 3 H, 4 W, 5 S, 6 R, 7 B, 8 J), opcode, f3, f7, name. -/
structure RvRow where
  op : Int
  form : Nat
  code : Int
  f3 : Int
  f7 : Int
  name : List UInt8

def rvRows : List RvRow := [
  ⟨1, 1, 55, 0, 0, [108, 117, 105]⟩,
  ⟨2, 2, 19, 0, 0, [97, 100, 100, 105]⟩,
  ⟨3, 2, 27, 0, 0, [97, 100, 100, 105, 119]⟩,
  ⟨4, 2, 19, 7, 0, [97, 110, 100, 105]⟩,
  ⟨5, 2, 19, 6, 0, [111, 114, 105]⟩,
  ⟨6, 2, 19, 4, 0, [120, 111, 114, 105]⟩,
  ⟨7, 3, 19, 1, 0, [115, 108, 108, 105]⟩,
  ⟨8, 3, 19, 5, 0, [115, 114, 108, 105]⟩,
  ⟨9, 4, 27, 1, 0, [115, 108, 108, 105, 119]⟩,
  ⟨10, 4, 27, 5, 0, [115, 114, 108, 105, 119]⟩,
  ⟨11, 2, 3, 3, 0, [108, 100]⟩,
  ⟨12, 2, 3, 2, 0, [108, 119]⟩,
  ⟨13, 2, 3, 6, 0, [108, 119, 117]⟩,
  ⟨14, 5, 35, 3, 0, [115, 100]⟩,
  ⟨15, 5, 35, 2, 0, [115, 119]⟩,
  ⟨16, 6, 51, 0, 0, [97, 100, 100]⟩,
  ⟨17, 6, 51, 0, 32, [115, 117, 98]⟩,
  ⟨18, 6, 51, 7, 0, [97, 110, 100]⟩,
  ⟨19, 6, 51, 6, 0, [111, 114]⟩,
  ⟨20, 6, 51, 4, 0, [120, 111, 114]⟩,
  ⟨21, 6, 51, 1, 0, [115, 108, 108]⟩,
  ⟨22, 6, 51, 5, 0, [115, 114, 108]⟩,
  ⟨23, 6, 59, 0, 0, [97, 100, 100, 119]⟩,
  ⟨24, 6, 59, 0, 32, [115, 117, 98, 119]⟩,
  ⟨25, 6, 59, 0, 1, [109, 117, 108, 119]⟩,
  ⟨26, 6, 59, 5, 1, [100, 105, 118, 117, 119]⟩,
  ⟨27, 6, 59, 1, 0, [115, 108, 108, 119]⟩,
  ⟨28, 6, 59, 5, 0, [115, 114, 108, 119]⟩,
  ⟨29, 7, 99, 0, 0, [98, 101, 113]⟩,
  ⟨30, 7, 99, 1, 0, [98, 110, 101]⟩,
  ⟨31, 7, 99, 6, 0, [98, 108, 116, 117]⟩,
  ⟨32, 7, 99, 7, 0, [98, 103, 101, 117]⟩,
  ⟨33, 8, 111, 0, 0, [106, 97, 108]⟩,
  ⟨34, 2, 103, 0, 0, [106, 97, 108, 114]⟩]

def formSV : Nat → SV
  | 1 => .iface 85 (.agg [])
  | 2 => .iface 86 (.agg [])
  | 3 => .iface 88 (.agg [.int .i64 (.lit 6)])
  | 4 => .iface 88 (.agg [.int .i64 (.lit 5)])
  | 5 => .iface 89 (.agg [])
  | 6 => .iface 90 (.agg [])
  | 7 => .iface 91 (.agg [])
  | _ => .iface 92 (.agg [])

def rowSV (r : RvRow) : SV := .agg [.int .i64 (.lit r.op), .str ⟨r.name.toArray⟩, formSV r.form, .int .u32 (.lit r.code), .int .u32 (.lit r.f3), .int .u32 (.lit r.f7)]
def noRow : SV := .agg [.int .i64 (.lit 0), .str ⟨#[]⟩, .nili, .int .u32 (.lit 0), .int .u32 (.lit 0), .int .u32 (.lit 0)]

def rowOf : List RvRow → Int → Option RvRow
  | [], _ => none
  | r :: l, n => if r.op = n then some r else rowOf l n

def findE (n : Int) (Q : SV → Prop) : List RvRow → Prop
  | [] => Q (.tuple [noRow, .bool (.lit false)])
  | r :: l => (BE.den (BE.cmp BinOp.eql (IE.lit r.op) (IE.var n)) = true → Q (.tuple [rowSV r, .bool (.lit true)])) ∧ (BE.den (BE.cmp BinOp.eql (IE.lit r.op) (IE.var n)) = false → findE n Q l)

theorem find_run (n : Int) (Q : SV → Prop) : sxFunc P G1 (fun _ => 40) Try.f25 [.int .i64 (.var n)] [] (fun v _ => Q v) = findE n Q rvRows := by kernel_rfl

def foundSV (n : Int) : SV :=
  match rowOf rvRows n with
  | some r => .tuple [rowSV r, .bool (.lit true)]
  | none => .tuple [noRow, .bool (.lit false)]

def fFind : PureFn
  | [.int .i64 (.lit n)] => some (none, foundSV n)
  | [.int .i64 (.var n)] => some (some (.var (rowOf rvRows n).isNone), .tuple [noRow, .bool (.lit false)])
  | _ => none

theorem findE_of (n : Int) (Q : SV → Prop) : ∀ l : List RvRow, Q (match rowOf l n with | some r => .tuple [rowSV r, .bool (.lit true)] | none => .tuple [noRow, .bool (.lit false)]) → findE n Q l
  | [], h => h
  | r :: l, h => by
    simp only [findE, BE.den, IE.den, cmpI_eql, decide_eq_true_eq, decide_eq_false_iff_not]
    unfold rowOf at h
    refine ⟨fun e => ?_, fun e => ?_⟩
    · rw [if_pos e] at h; exact h
    · rw [if_neg e] at h; exact findE_of n Q l h

theorem formSV_wf (p : Nat → Prop) (k : Nat) : (formSV k).wf p := by unfold formSV; split <;> simp [SV.wf, SV.wfL]
theorem rowSV_wf (p : Nat → Prop) (r : RvRow) : (rowSV r).wf p := by simp [rowSV, SV.wf, SV.wfL, formSV_wf]

theorem find_ok : PureOk P 25 fFind := by
  refine pure_of (func_sound (un := fun _ => 40) G1_ok Try.func25) ?_
  intro args p v hF hp
  unfold fFind at hF
  split at hF
  · rename_i n
    simp only [Option.some.injEq, Prod.mk.injEq] at hF; obtain ⟨rfl, rfl⟩ := hF
    refine ⟨[.int .i64 (.var n)], rfl, by simp [SV.wfL, SV.wf], by simp [SV.wfL, SV.wf], ?_, ?_⟩
    · unfold foundSV; split <;> simp [SV.wf, SV.wfL, rowSV_wf, noRow]
    · rw [find_run]
      exact findE_of n _ rvRows (fun ν => rfl)
  · rename_i n
    simp only [Option.some.injEq, Prod.mk.injEq] at hF; obtain ⟨rfl, rfl⟩ := hF
    refine ⟨[.int .i64 (.var n)], rfl, by simp [SV.wfL, SV.wf], by simp [SV.wfL, SV.wf], by simp [SV.wf, SV.wfL, noRow], ?_⟩
    rw [find_run]
    refine findE_of n _ rvRows ?_
    have hn : rowOf rvRows n = none := by simpa [Holds, BE.den] using hp
    rw [hn]
    exact fun ν => rfl
  · simp at hF

def rvT2 : List (FuncId × Cal) := (25, .pure fFind) :: rvT
theorem rvT2_ok : GammaOk P (table rvT2) := by
  refine table_ok fun p hp => ?_
  simp only [rvT2, rvT, List.mem_cons, List.not_mem_nil, or_false] at hp
  rcases hp with rfl | rfl | rfl | rfl | rfl | rfl | rfl | rfl | rfl | rfl
  · exact find_ok
  · exact reg_ok
  · exact bits_ok
  · exact fits_upper_ok
  · exact fits_short_ok
  · exact fits_shift_ok
  · exact fits_store_ok
  · exact fits_plain_ok
  · exact fits_branch_ok
  · exact fits_jump_ok
noncomputable def G2 : FuncId → Option Cal := inl P (fun _ _ => 10) (table rvT2) 4
theorem G2_ok : GammaOk P G2 := inl_ok rvT2_ok 4

/-! Encode -/
def names : Nat → Bool × Bool × Bool
  | 1 | 8 => (true, false, false)
  | 2 | 3 | 4 => (true, true, false)
  | 5 | 7 => (false, true, true)
  | _ => (true, true, true)
/-- An immediate's pieces: from which bit, the mask of its bits there, to which bit of the word. -/
def pieces : Nat → List (Int × Int × Int)
  | 1 => [(0, 1048575, 12)]
  | 2 => [(0, 4095, 20)]
  | 3 => [(0, 63, 20)]
  | 4 => [(0, 31, 20)]
  | 5 => [(0, 31, 7), (5, 127, 25)]
  | 7 => [(1, 15, 8), (5, 63, 25), (11, 1, 7), (12, 1, 31)]
  | 8 => [(1, 1023, 21), (11, 1, 20), (12, 255, 12), (20, 1, 31)]
  | _ => []
def fixedOf (r : RvRow) : Int := if r.form = 1 ∨ r.form = 8 then r.code else r.code + r.f3 * 4096 + r.f7 * 33554432

def orU (a b : IE) : IE := .bits .or .u32 a b
def shU (a : IE) (n : Int) : IE := .shl .u32 a (.lit n)
def pieceE (d : Int) (p : Int × Int × Int) : IE := shU (.conv .u32 (.bits .and .u64 (.shr .u64 (.conv .u64 (.var d)) (.lit p.1)) (.lit p.2.1))) p.2.2
def regsE (a b c : Int) : IE := orU (orU (shU (.conv .u32 (.var a)) 7) (shU (.conv .u32 (.var b)) 15)) (shU (.conv .u32 (.var c)) 20)
def wordE (r : RvRow) (a b c d : Int) : IE := (pieces r.form).foldl (fun w p => orU w (pieceE d p)) (orU (.lit (fixedOf r)) (regsE a b c))
def asked {α : Type} : List α → Prop → Prop
  | [], R => R
  | _ :: l, R => BE.den (.lit true) = true ∧ asked l R
def errSV (e : Int) : SV := .tuple [.int .u32 (.lit 0), .int .i64 (.lit e)]
def unlessB (b : Bool) (A B : Prop) : Prop := (BE.den (.not (.var b)) = true → A) ∧ (BE.den (.not (.var b)) = false → B)

def encE (r : RvRow) (a b c d : Int) (Q : SV → Prop) : Prop :=
  unlessB (regB a (names r.form).1) (Q (errSV 151)) (unlessB (regB b (names r.form).2.1) (Q (errSV 151)) (unlessB (regB c (names r.form).2.2) (Q (errSV 151))
    (BE.den (.var (inI64 d)) = true ∧ unlessB (fitsB r.form d) (Q (errSV 152)) (asked (pieces r.form) (Q (.tuple [.int .u32 (wordE r a b c d), .int .i64 (.lit 0)]))))))

def rvArg (op : IE) (a b c d : Int) : List SV := [.agg [.int .i64 op, .int .i64 (.var a), .int .i64 (.var b), .int .i64 (.var c), .int .i64 (.var d)]]

theorem enc_run (r : RvRow) (hr : r ∈ rvRows) (a b c d : Int) (Q : SV → Prop) : sxFunc P G2 (fun _ => 10) Try.f10 (rvArg (.lit r.op) a b c d) [] (fun v _ => Q v) = encE r a b c d Q := by
  simp only [rvRows, List.mem_cons, List.not_mem_nil, or_false] at hr
  rcases hr with rfl | rfl | rfl | rfl | rfl | rfl | rfl | rfl | rfl | rfl | rfl | rfl | rfl | rfl | rfl | rfl | rfl | rfl | rfl | rfl | rfl | rfl | rfl | rfl | rfl | rfl | rfl | rfl | rfl | rfl | rfl | rfl | rfl | rfl <;> kernel_rfl

theorem enc_none (n a b c d : Int) (Q : SV → Prop) : sxFunc P G2 (fun _ => 10) Try.f10 (rvArg (.var n) a b c d) [] (fun v _ => Q v) = (BE.den (.var (rowOf rvRows n).isNone) = true ∧ Q (errSV 153)) := by kernel_rfl

end Go.Proofs.Ytiljkmcahkphiaa.Rv
