/- Bits of a word, package rv's table. -/
import Derived.Test.YtajcmjjgnbaahaaChecked
import Derived.Test.YtajcmjjgnbaahaaSx5
import Derived.Test.YtajcmjjgnbaahaaBm
import Derived.KernelRfl
namespace Go.Proofs.Ytajcmjjgnbaahaa.Rv
open Go Go.Proofs.Ytajcmjjgnbaahaa.Sx Go.RowKit
set_option linter.unusedVariables false
set_option linter.unusedSimpArgs false

noncomputable abbrev P := Go.Proofs.Try.prog
noncomputable def G0 : FuncId → Option Cal := inl P (fun _ _ => 0) (fun _ => none) 6
theorem G0_ok : GammaOk P G0 := inl_ok none_ok 6

def inI64 (n : Int) : Bool := decide (-9223372036854775808 ≤ n) && decide (n < 9223372036854775808)
theorem inI64_iff (n : Int) : inI64 n = true ↔ -9223372036854775808 ≤ n ∧ n < 9223372036854775808 := by simp [inI64]

def fBits : PureFn
  | [.int .u64 v, .int .i64 lo, .int .i64 n] => some (some (BE.andS (.cmpS .geq lo (.lit 0)) (BE.andS (.cmpS .leq lo (.lit 63)) (BE.andS (.cmpS .geq n (.lit 1)) (.cmpS .leq n (.lit 63))))),
      .int .u64 (.bits .and .u64 (IE.two (.shr .u64) v lo) (IE.two (.sub .u64) (IE.two (.shl .u64) (.lit 1) n) (.lit 1))))
  | _ => none

theorem bits_run (a b c : Int) (K : SV → List SObj → Prop) : sxFunc P G0 (fun _ => 0) Try.f106 [.int .u64 (.var a), .int .i64 (.var b), .int .i64 (.var c)] [] K =
    ((BE.den (BE.cmp BinOp.lss (IE.var b) (IE.lit 0)) = true → K (SV.int IntKind.u64 (IE.lit 0)) []) ∧ (BE.den (BE.cmp BinOp.lss (IE.var b) (IE.lit 0)) = false → (BE.den (BE.cmp BinOp.gtr (IE.var b) (IE.lit 63)) = true → K (SV.int IntKind.u64 (IE.lit 0)) []) ∧ (BE.den (BE.cmp BinOp.gtr (IE.var b) (IE.lit 63)) = false → BE.den (BE.cmp BinOp.geq (IE.var b) (IE.lit 0)) = true ∧ (BE.den (BE.cmp BinOp.lss (IE.var c) (IE.lit 1)) = true → K (SV.int IntKind.u64 (IE.bits BinOp.and IntKind.u64 (IE.shr IntKind.u64 (IE.var a) (IE.var b)) (IE.lit 0))) []) ∧ (BE.den (BE.cmp BinOp.lss (IE.var c) (IE.lit 1)) = false → (BE.den (BE.cmp BinOp.gtr (IE.var c) (IE.lit 63)) = true → K (SV.int IntKind.u64 (IE.bits BinOp.and IntKind.u64 (IE.shr IntKind.u64 (IE.var a) (IE.var b)) (IE.lit 18446744073709551615))) []) ∧ (BE.den (BE.cmp BinOp.gtr (IE.var c) (IE.lit 63)) = false → BE.den (BE.cmp BinOp.geq (IE.var c) (IE.lit 0)) = true ∧ K (SV.int IntKind.u64 (IE.bits BinOp.and IntKind.u64 (IE.shr IntKind.u64 (IE.var a) (IE.var b)) (IE.sub IntKind.u64 (IE.shl IntKind.u64 (IE.lit 1) (IE.var c)) (IE.lit 1)))) []))))) := by kernel_rfl

theorem bits_ok : PureOk P 106 fBits := by
  refine pure_of (func_sound (un := fun _ => 0) G0_ok Try.func106) ?_
  intro args p v hF hp
  unfold fBits at hF
  split at hF
  · rename_i x lo n
    simp only [Option.some.injEq, Prod.mk.injEq] at hF; obtain ⟨rfl, rfl⟩ := hF
    refine ⟨[.int .u64 (.var x.den), .int .i64 (.var lo.den), .int .i64 (.var n.den)], rfl, by simp [SV.wfL, SV.wf], by simp [SV.wfL, SV.wf], trivial, ?_⟩
    simp [Holds, andS_den, cmpS_den, cmpI_eql, cmpI_neq, cmpI_lss, cmpI_leq, cmpI_gtr, cmpI_geq, IE.den] at hp
    rw [bits_run]
    have h1 : ¬ lo.den < 0 := by omega
    have h2 : ¬ 63 < lo.den := by omega
    have h3 : ¬ n.den < 1 := by omega
    have h4 : ¬ 63 < n.den := by omega
    have h5 : 0 ≤ lo.den := by omega
    have h6 : 0 ≤ n.den := by omega
    simp [BE.den, IE.den, cmpI_eql, cmpI_neq, cmpI_lss, cmpI_leq, cmpI_gtr, cmpI_geq, SV.den, two_den, h1, h2, h3, h4, h5, h6]
  · simp at hF

def rvT2 : List (FuncId × Cal) := [(106, .pure fBits)]
theorem rvT2_ok : GammaOk P (table rvT2) := by
  refine table_ok fun p hp => ?_
  simp only [rvT2, List.mem_singleton] at hp
  subst hp; exact bits_ok
noncomputable def G2 : FuncId → Option Cal := inl P (fun _ _ => 10) (table rvT2) 4
theorem G2_ok : GammaOk P G2 := inl_ok rvT2_ok 4

/-- An operation: its number, format (1 U, 2 I, 3 H, 4 W, 5 S, 6 R, 7 B, 8 J), opcode, f3, f7, name. -/
structure RvRow where
  op : Int
  form : Nat
  code : Int
  f3 : Int
  f7 : Int
  name : List UInt8

def rvRows : List RvRow := [
  ⟨1, 1, 55, 0, 0, [108, 117, 105]⟩,
  ⟨2, 2, 19, 0, 0, [97, 100, 100, 105]⟩,
  ⟨3, 2, 27, 0, 0, [97, 100, 100, 105, 119]⟩,
  ⟨4, 2, 19, 7, 0, [97, 110, 100, 105]⟩,
  ⟨5, 2, 19, 6, 0, [111, 114, 105]⟩,
  ⟨6, 2, 19, 4, 0, [120, 111, 114, 105]⟩,
  ⟨7, 3, 19, 1, 0, [115, 108, 108, 105]⟩,
  ⟨8, 3, 19, 5, 0, [115, 114, 108, 105]⟩,
  ⟨9, 4, 27, 1, 0, [115, 108, 108, 105, 119]⟩,
  ⟨10, 4, 27, 5, 0, [115, 114, 108, 105, 119]⟩,
  ⟨11, 2, 3, 3, 0, [108, 100]⟩,
  ⟨12, 2, 3, 2, 0, [108, 119]⟩,
  ⟨13, 2, 3, 6, 0, [108, 119, 117]⟩,
  ⟨14, 5, 35, 3, 0, [115, 100]⟩,
  ⟨15, 5, 35, 2, 0, [115, 119]⟩,
  ⟨16, 6, 51, 0, 0, [97, 100, 100]⟩,
  ⟨17, 6, 51, 0, 32, [115, 117, 98]⟩,
  ⟨18, 6, 51, 7, 0, [97, 110, 100]⟩,
  ⟨19, 6, 51, 6, 0, [111, 114]⟩,
  ⟨20, 6, 51, 4, 0, [120, 111, 114]⟩,
  ⟨21, 6, 51, 1, 0, [115, 108, 108]⟩,
  ⟨22, 6, 51, 5, 0, [115, 114, 108]⟩,
  ⟨23, 6, 59, 0, 0, [97, 100, 100, 119]⟩,
  ⟨24, 6, 59, 0, 32, [115, 117, 98, 119]⟩,
  ⟨25, 6, 59, 0, 1, [109, 117, 108, 119]⟩,
  ⟨26, 6, 59, 5, 1, [100, 105, 118, 117, 119]⟩,
  ⟨27, 6, 59, 1, 0, [115, 108, 108, 119]⟩,
  ⟨28, 6, 59, 5, 0, [115, 114, 108, 119]⟩,
  ⟨29, 7, 99, 0, 0, [98, 101, 113]⟩,
  ⟨30, 7, 99, 1, 0, [98, 110, 101]⟩,
  ⟨31, 7, 99, 6, 0, [98, 108, 116, 117]⟩,
  ⟨32, 7, 99, 7, 0, [98, 103, 101, 117]⟩,
  ⟨33, 8, 111, 0, 0, [106, 97, 108]⟩,
  ⟨34, 2, 103, 0, 0, [106, 97, 108, 114]⟩]

def formSV : Nat → SV
  | 1 => .iface 181 (.agg [])
  | 2 => .iface 182 (.agg [])
  | 3 => .iface 184 (.agg [.int .i64 (.lit 6)])
  | 4 => .iface 184 (.agg [.int .i64 (.lit 5)])
  | 5 => .iface 185 (.agg [])
  | 6 => .iface 186 (.agg [])
  | 7 => .iface 187 (.agg [])
  | _ => .iface 188 (.agg [])

def rowSV (r : RvRow) : SV := .agg [.int .i64 (.lit r.op), .str ⟨r.name.toArray⟩, formSV r.form, .int .u32 (.lit r.code), .int .u32 (.lit r.f3), .int .u32 (.lit r.f7)]
def noRow : SV := .agg [.int .i64 (.lit 0), .str ⟨#[]⟩, .nili, .int .u32 (.lit 0), .int .u32 (.lit 0), .int .u32 (.lit 0)]

def names : Nat → Bool × Bool × Bool
  | 1 | 8 => (true, false, false)
  | 2 | 3 | 4 => (true, true, false)
  | 5 | 7 => (false, true, true)
  | _ => (true, true, true)
/-- An immediate's pieces: from which bit, the mask of its bits there, to which bit of the word. -/
def pieces : Nat → List (Int × Int × Int)
  | 1 => [(0, 1048575, 12)]
  | 2 => [(0, 4095, 20)]
  | 3 => [(0, 63, 20)]
  | 4 => [(0, 31, 20)]
  | 5 => [(0, 31, 7), (5, 127, 25)]
  | 7 => [(1, 15, 8), (5, 63, 25), (11, 1, 7), (12, 1, 31)]
  | 8 => [(1, 1023, 21), (11, 1, 20), (12, 255, 12), (20, 1, 31)]
  | _ => []
def fixedOf (r : RvRow) : Int := if r.form = 1 ∨ r.form = 8 then r.code else r.code + r.f3 * 4096 + r.f7 * 33554432

def asked {α : Type} : List α → Prop → Prop
  | [], R => R
  | _ :: l, R => BE.den (.lit true) = true ∧ asked l R
end Go.Proofs.Ytajcmjjgnbaahaa.Rv
