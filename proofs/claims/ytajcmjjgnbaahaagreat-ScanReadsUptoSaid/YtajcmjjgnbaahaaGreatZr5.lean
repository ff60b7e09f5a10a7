/- The document's answer to layer 15: Find and Encode. -/
import Derived.Test.YtajcmjjgnbaahaaGreatZr4
set_option linter.unusedVariables false
set_option linter.unusedSimpArgs false
namespace Go.Proofs.YtajcmjjgnbaahaaGreat.Rv
open Go Go.Proofs.YtajcmjjgnbaahaaGreat.Sx Go.RowKit
def zAU : List z9 := [
 ⟨1, 1, 55, 0, 0, [108, 117, 105]⟩,
 ⟨2, 2, 19, 0, 0, [97, 100, 100, 105]⟩,
 ⟨3, 2, 27, 0, 0, [97, 100, 100, 105, 119]⟩,
 ⟨6, 2, 19, 4, 0, [120, 111, 114, 105]⟩,
 ⟨5, 2, 19, 6, 0, [111, 114, 105]⟩,
 ⟨4, 2, 19, 7, 0, [97, 110, 100, 105]⟩,
 ⟨12, 2, 3, 2, 0, [108, 119]⟩,
 ⟨11, 2, 3, 3, 0, [108, 100]⟩,
 ⟨13, 2, 3, 6, 0, [108, 119, 117]⟩,
 ⟨34, 2, 103, 0, 0, [106, 97, 108, 114]⟩,
 ⟨7, 3, 19, 1, 0, [115, 108, 108, 105]⟩,
 ⟨8, 3, 19, 5, 0, [115, 114, 108, 105]⟩,
 ⟨9, 4, 27, 1, 0, [115, 108, 108, 105, 119]⟩,
 ⟨10, 4, 27, 5, 0, [115, 114, 108, 105, 119]⟩,
 ⟨15, 5, 35, 2, 0, [115, 119]⟩,
 ⟨14, 5, 35, 3, 0, [115, 100]⟩,
 ⟨16, 6, 51, 0, 0, [97, 100, 100]⟩,
 ⟨17, 6, 51, 0, 32, [115, 117, 98]⟩,
 ⟨21, 6, 51, 1, 0, [115, 108, 108]⟩,
 ⟨20, 6, 51, 4, 0, [120, 111, 114]⟩,
 ⟨22, 6, 51, 5, 0, [115, 114, 108]⟩,
 ⟨19, 6, 51, 6, 0, [111, 114]⟩,
 ⟨18, 6, 51, 7, 0, [97, 110, 100]⟩,
 ⟨23, 6, 59, 0, 0, [97, 100, 100, 119]⟩,
 ⟨24, 6, 59, 0, 32, [115, 117, 98, 119]⟩,
 ⟨27, 6, 59, 1, 0, [115, 108, 108, 119]⟩,
 ⟨28, 6, 59, 5, 0, [115, 114, 108, 119]⟩,
 ⟨25, 6, 59, 0, 1, [109, 117, 108, 119]⟩,
 ⟨26, 6, 59, 5, 1, [100, 105, 118, 117, 119]⟩,
 ⟨29, 7, 99, 0, 0, [98, 101, 113]⟩,
 ⟨30, 7, 99, 1, 0, [98, 110, 101]⟩,
 ⟨31, 7, 99, 6, 0, [98, 108, 116, 117]⟩,
 ⟨32, 7, 99, 7, 0, [98, 103, 101, 117]⟩,
 ⟨33, 8, 111, 0, 0, [106, 97, 108]⟩]
def zGQ (r : z9) : SV := .agg [.int .i64 (.lit r.op), .int .i64 (.lit (r.form : Nat)), .int .u32 (.lit r.code), .int .u32 (.lit r.f3), .int .u32 (.lit r.f7), .str ⟨r.name.toArray⟩]
def zGR : SV := .agg [.int .i64 (.lit 0), .int .i64 (.lit 0), .int .u32 (.lit 0), .int .u32 (.lit 0), .int .u32 (.lit 0), .str ⟨#[]⟩]
def zOc (n : Int) (Q : SV -> Prop) : List z9 -> Prop
 | [] => Q (.tuple [zGR, .bool (.lit false)])
 | r :: l => (BE.den (BE.cmp BinOp.eql (IE.lit r.op) (IE.var n)) = true -> Q (.tuple [zGQ r, .bool (.lit true)])) /\ (BE.den (BE.cmp BinOp.eql (IE.lit r.op) (IE.var n)) = false -> zOc n Q l)
theorem zLT (n : Int) (Q : SV -> Prop) : zH P H2 (fun _ => 40) Tryz.f27 [.int .i64 (.var n)] [] (fun v _ => Q v) = zOc n Q zAU := by kernel_rfl
def zNo (n : Int) : SV :=
 match zCz zAU n with
 | some r => .tuple [zGQ r, .bool (.lit true)]
 | none => .tuple [zGR, .bool (.lit false)]
def zRs : zBN
 | [.int .i64 (.lit n)] => some (none, zNo n)
 | [.int .i64 (.var n)] => some (some (.var (zCz zAU n).isNone), .tuple [zGR, .bool (.lit false)])
 | _ => none
theorem zIX (n : Int) (Q : SV -> Prop) : ∀ l : List z9, Q (match zCz l n with | some r => .tuple [zGQ r, .bool (.lit true)] | none => .tuple [zGR, .bool (.lit false)]) -> zOc n Q l
 | [], h => h
 | r :: l, h => by
  simp only [zOc, BE.den, IE.den, za, decide_eq_true_eq, decide_eq_false_iff_not]
  unfold zCz at h
  refine ⟨fun e => ?_, fun e => ?_⟩
  ·rw [if_pos e] at h; exact h
  ·rw [if_neg e] at h; exact zIX n Q l h
theorem zO6 (p : Nat -> Prop) (r : z9) : (zGQ r).wf p := by simp [zGQ, SV.wf, SV.wfL]
theorem zSz : zAr P 27 zRs := by
 refine zBO (zN (un := fun _ => 40) zbl Tryz.func27) ?_
 intro args p v hF hp
 unfold zRs at hF
 split at hF
 ·rename_i n
  simp only [Option.some.injEq, Prod.mk.injEq] at hF; obtain ⟨rfl, rfl⟩ := hF
  refine ⟨[.int .i64 (.var n)], rfl, by simp [SV.wfL, SV.wf], by simp [SV.wfL, SV.wf], ?_, ?_⟩
  ·unfold zNo; split <;> simp [SV.wf, SV.wfL, zO6, zGR]
  ·rw [zLT]
   exact zIX n _ zAU (fun ν => rfl)
 ·rename_i n
  simp only [Option.some.injEq, Prod.mk.injEq] at hF; obtain ⟨rfl, rfl⟩ := hF
  refine ⟨[.int .i64 (.var n)], rfl, by simp [SV.wfL, SV.wf], by simp [SV.wfL, SV.wf], by simp [SV.wf, SV.wfL, zGR], ?_⟩
  rw [zLT]
  refine zIX n _ zAU ?_
  have hn : zCz zAU n = none := by simpa [zAJ, BE.den] using hp
  rw [hn]
  exact fun ν => rfl
 ·simp at hF
def rrT3 : List (FuncId × Cal) := (27, .pure zRs) :: rrT2
theorem zQQ : zO P (zx rrT3) := zG zSz zQR
noncomputable def H3 : FuncId -> Option Cal := inl P (fun _ _ => 40) (zx rrT3) 6
theorem zbk : zO P H3 := zAh zQQ 6
theorem zKN (n : Int) : zCz zAU n = zCz zf n := by
 by_cases h : 1 <= n /\ n <= 34
 ·have key : (List.range 35).map (fun k => zCz zAU (k : Nat)) = (List.range 35).map (fun k => zCz zf (k : Nat)) := by kernel_rfl
  have h1 := congrArg (fun l => l[n.toNat]?) key
  have h2 : n.toNat < 35 := by omega
  simp only [List.getElem?_map, List.getElem?_range h2, Option.map_some, Option.some.injEq] at h1
  rwa [Int.toNat_of_nonneg (show 0 <= n by omega)] at h1
 ·have none_of : ∀ l : List z9, (∀ r ∈ l, 1 <= r.op /\ r.op <= 34) -> zCz l n = none := by
   intro l
   induction l with
   | nil => intro _; rfl
   | cons r l ih =>
    intro hl
    have hr := hl r (List.mem_cons_self ..)
    unfold zCz
    rw [if_neg (by intro e; omega)]
    exact ih fun x hx => hl x (List.mem_cons_of_mem _ hx)
  rw [none_of zAU (by decide), none_of zf (by decide)]
def orIf (b : Bool) (w e : IE) : IE := match b with | true => orU w e | false => w
def zST (r : z9) (a b c d : Int) : IE :=
 orIf (r.form == 6) (orIf (!(r.form == 1) && !(r.form == 8)) (orIf (zd r.form).2.2 (orIf (zd r.form).2.1 (orIf (zd r.form).1 (orU (.lit r.code) (.var (layW r.form d)))
  (shU (.conv .u32 (.var a)) 7)) (shU (.conv .u32 (.var b)) 15)) (shU (.conv .u32 (.var c)) 20)) (.lit (r.f3 * 4096))) (.lit (r.f7 * 33554432))
def encR (r : z9) (a b c d : Int) (Q : SV -> Prop) : Prop :=
 zDh (regB a (zd r.form).1) (Q (zF1 151)) (zDh (regB b (zd r.form).2.1) (Q (zF1 151)) (zDh (regB c (zd r.form).2.2) (Q (zF1 151))
  (zDh (zC0 r.form d) (Q (zF1 152)) (BE.den (.var (zHG d)) = true /\ Q (.tuple [.int .u32 (zST r a b c d), .int .i64 (.lit 0)])))))
theorem zS2 (r : z9) (hr : r ∈ zf) (a b c d : Int) (Q : SV -> Prop) : zH P H3 (fun _ => 40) Tryz.f22 (zMj (.lit r.op) a b c d) [] (fun v _ => Q v) = encR r a b c d Q := by
 simp only [zf, List.mem_cons, List.not_mem_nil, or_false] at hr
 rcases hr with rfl | rfl | rfl | rfl | rfl | rfl | rfl | rfl | rfl | rfl | rfl | rfl | rfl | rfl | rfl | rfl | rfl | rfl | rfl | rfl | rfl | rfl | rfl | rfl | rfl | rfl | rfl | rfl | rfl | rfl | rfl | rfl | rfl | rfl <;> kernel_rfl
theorem zQY (n a b c d : Int) (Q : SV -> Prop) : zH P H3 (fun _ => 40) Tryz.f22 (zMj (.var n) a b c d) [] (fun v _ => Q v) = (BE.den (.var (zCz zAU n).isNone) = true /\ Q (zF1 153)) := by kernel_rfl
end Go.Proofs.YtajcmjjgnbaahaaGreat.Rv
