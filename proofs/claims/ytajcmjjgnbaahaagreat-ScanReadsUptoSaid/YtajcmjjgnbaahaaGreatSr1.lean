/- Bits of a word, package rv's table. -/
import Derived.Test.YtajcmjjgnbaahaaGreatAb
import Derived.Test.YtajcmjjgnbaahaaGreatChecked
import Derived.Test.YtajcmjjgnbaahaaGreatSx5
import Derived.Test.YtajcmjjgnbaahaaGreatAp1
import Derived.KernelRfl
set_option linter.unusedVariables false
set_option linter.unusedSimpArgs false
namespace Go.Proofs.YtajcmjjgnbaahaaGreat.Amd
open Go Go.Proofs.YtajcmjjgnbaahaaGreat.Sx Go.RowKit
def rvIn (op rd r1 r2 imm : Int) : SV := .agg [.int .i64 (.var op), .int .i64 (.var rd), .int .i64 (.var r1), .int .i64 (.var r2), .int .i64 (.var imm)]
theorem zVv (x : AI) (Q : SV -> Prop) : zH P A0 (fun _ => 40) Tryz.f14 [.iface 67 (xIn x)] [] (fun v _ => Q v) =
  ((BE.den (.cmp .eql (.var (AI.op x)) (.lit 3)) = true -> Q (SV.tuple [SV.int .i64 (.var (AI.disp x)), SV.bool (.lit true)])) /\ (BE.den (.cmp .eql (.var (AI.op x)) (.lit 3)) = false -> (BE.den (.cmp .eql (.var (AI.op x)) (.lit 4)) = true -> Q (SV.tuple [SV.int .i64 (.var (AI.disp x)), SV.bool (.lit true)])) /\ (BE.den (.cmp .eql (.var (AI.op x)) (.lit 4)) = false -> (BE.den (.cmp .eql (.var (AI.op x)) (.lit 1)) = true -> Q (SV.tuple [SV.int .i64 (.var (AI.imm x)), SV.bool (.lit true)])) /\ (BE.den (.cmp .eql (.var (AI.op x)) (.lit 1)) = false -> (BE.den (.cmp .eql (.var (AI.op x)) (.lit 14)) = true -> Q (SV.tuple [SV.int .i64 (.var (AI.imm x)), SV.bool (.lit true)])) /\ (BE.den (.cmp .eql (.var (AI.op x)) (.lit 14)) = false -> (BE.den (.cmp .eql (.var (AI.op x)) (.lit 15)) = true -> Q (SV.tuple [SV.int .i64 (.var (AI.imm x)), SV.bool (.lit true)])) /\ (BE.den (.cmp .eql (.var (AI.op x)) (.lit 15)) = false -> (BE.den (.cmp .eql (.var (AI.op x)) (.lit 16)) = true -> Q (SV.tuple [SV.int .i64 (.var (AI.imm x)), SV.bool (.lit true)])) /\ (BE.den (.cmp .eql (.var (AI.op x)) (.lit 16)) = false -> (BE.den (.cmp .eql (.var (AI.op x)) (.lit 17)) = true -> Q (SV.tuple [SV.int .i64 (.var (AI.imm x)), SV.bool (.lit true)])) /\ (BE.den (.cmp .eql (.var (AI.op x)) (.lit 17)) = false -> (BE.den (.cmp .eql (.var (AI.op x)) (.lit 25)) = true -> Q (SV.tuple [SV.int .i64 (.var (AI.imm x)), SV.bool (.lit true)])) /\ (BE.den (.cmp .eql (.var (AI.op x)) (.lit 25)) = false -> (BE.den (.cmp .eql (.var (AI.op x)) (.lit 26)) = true -> Q (SV.tuple [SV.int .i64 (.var (AI.imm x)), SV.bool (.lit true)])) /\ (BE.den (.cmp .eql (.var (AI.op x)) (.lit 26)) = false -> Q (SV.tuple [SV.int .i64 (.lit 0), SV.bool (.lit false)]))))))))))) := by kernel_rfl
theorem zVs (op rd r1 r2 imm : Int) (Q : SV -> Prop) : zH P A0 (fun _ => 40) Tryz.f14 [.iface 60 (rvIn op rd r1 r2 imm)] [] (fun v _ => Q v) =
  ((BE.den (.cmp .lss (.var op) (.lit 16)) = true -> Q (SV.tuple [SV.int .i64 (.var imm), SV.bool (.lit true)])) /\ (BE.den (.cmp .lss (.var op) (.lit 16)) = false -> Q (SV.tuple [SV.int .i64 (.var imm), SV.bool (.cmp .gtr (.var op) (.lit 28))]))) := by kernel_rfl
def numA (y : AI) : Int × Bool :=
 if y.op = 3 ∨ y.op = 4 then (y.disp, true) else if y.op = 1 ∨ y.op = 14 ∨ y.op = 15 ∨ y.op = 16 ∨ y.op = 17 ∨ y.op = 25 ∨ y.op = 26 then (y.imm, true) else (0, false)
def numR (op imm : Int) : Int × Bool := (imm, decide (op < 16 ∨ 28 < op))
def zYT (z : Int × Bool) : SV := .tuple [.int .i64 (.var (Prod.fst z)), .bool (.var (Prod.snd z))]
def nmF : zBN := fun args => match args with
 | [.iface ty (.agg [.int .i64 op, .bool w, .bool l, .int .i64 d, .int .i64 s, .int .i64 dp, .int .i64 im, .int .i64 cc])] => if Nat.beq ty 67 = true then some (none, zYT (numA ⟨op.den, w.den, l.den, d.den, s.den, dp.den, im.den, cc.den⟩)) else none
 | [.iface ty (.agg [.int .i64 op, .int .i64 _, .int .i64 _, .int .i64 _, .int .i64 im])] => if Nat.beq ty 60 = true then some (none, zYT (numR op.den im.den)) else none
 | _ => none
theorem zMz : zAr P 14 nmF := by
 have hs := zN (un := fun _ => 40) zK7 Tryz.func14
 refine zBO hs ?_
 intro args p v hF hp
 unfold nmF at hF
 split at hF
 ·rename_i ty op w l d s dp im cc
  split at hF
  ·rename_i hty
   obtain rfl := Nat.eq_of_beq_eq_true hty
   simp only [Option.some.injEq, Prod.mk.injEq] at hF
   obtain ⟨rfl, rfl⟩ := hF
   refine ⟨[.iface 67 (xIn ⟨op.den, w.den, l.den, d.den, s.den, dp.den, im.den, cc.den⟩)], rfl, ⟨⟨trivial, trivial, trivial, trivial, trivial, trivial, trivial, trivial, trivial⟩, trivial⟩, ⟨⟨trivial, trivial, trivial, trivial, trivial, trivial, trivial, trivial, trivial⟩, trivial⟩, ⟨trivial, trivial, trivial⟩, ?_⟩
   rw [zVv]
   generalize (⟨op.den, w.den, l.den, d.den, s.den, dp.den, im.den, cc.den⟩ : AI) = x
   simp only [zTr, decide_eq_true_eq, decide_eq_false_iff_not]
   refine ⟨fun h ν => ?_, fun n3 => ?_⟩
   ·rw [show numA x = (x.disp, true) by unfold numA; simp [h]]; rfl
   refine ⟨fun h ν => ?_, fun n4 => ?_⟩
   ·rw [show numA x = (x.disp, true) by unfold numA; simp [h]]; rfl
   refine ⟨fun h ν => ?_, fun n1 => ?_⟩
   ·rw [show numA x = (x.imm, true) by unfold numA; simp [h]]; rfl
   refine ⟨fun h ν => ?_, fun n14 => ?_⟩
   ·rw [show numA x = (x.imm, true) by unfold numA; simp [h]]; rfl
   refine ⟨fun h ν => ?_, fun n15 => ?_⟩
   ·rw [show numA x = (x.imm, true) by unfold numA; simp [h]]; rfl
   refine ⟨fun h ν => ?_, fun n16 => ?_⟩
   ·rw [show numA x = (x.imm, true) by unfold numA; simp [h]]; rfl
   refine ⟨fun h ν => ?_, fun n17 => ?_⟩
   ·rw [show numA x = (x.imm, true) by unfold numA; simp [h]]; rfl
   refine ⟨fun h ν => ?_, fun n25 => ?_⟩
   ·rw [show numA x = (x.imm, true) by unfold numA; simp [h]]; rfl
   refine ⟨fun h ν => ?_, fun n26 => ?_⟩
   ·rw [show numA x = (x.imm, true) by unfold numA; simp [h]]; rfl
   ·intro ν
    rw [show numA x = (0, false) by unfold numA; rw [if_neg (by omega), if_neg (by omega)]]; rfl
  ·simp at hF
 ·rename_i ty op a b c im
  split at hF
  ·rename_i hty
   obtain rfl := Nat.eq_of_beq_eq_true hty
   simp only [Option.some.injEq, Prod.mk.injEq] at hF
   obtain ⟨rfl, rfl⟩ := hF
   refine ⟨[.iface 60 (rvIn op.den a.den b.den c.den im.den)], rfl, ⟨⟨trivial, trivial, trivial, trivial, trivial, trivial⟩, trivial⟩, ⟨⟨trivial, trivial, trivial, trivial, trivial, trivial⟩, trivial⟩, ⟨trivial, trivial, trivial⟩, ?_⟩
   rw [zVs]
   refine ⟨fun h ν => ?_, fun h ν => ?_⟩
   ·have h : op.den < 16 := by rw [zPc] at h; simpa using h
    rw [show numR op.den im.den = (im.den, true) by unfold numR; simp [h]]; rfl
   ·have h : ¬ op.den < 16 := by rw [zPc] at h; simpa using h
    have e : numR op.den im.den = (im.den, decide (28 < op.den)) := by unfold numR; simp [h]
    rw [e]
    show Value.tuple #[.int .i64 im.den, .bool (BE.den (.cmp .gtr (.var op.den) (.lit 28)))] = _
    rw [zZY]; rfl
  ·simp at hF
 ·simp at hF
def zW3 (X : Nat -> AI) : List Col :=
 [.int .i64 fun e => .var (AI.op (X e)), .bool fun e => .var (AI.wide (X e)), .bool fun e => .var (AI.long (X e)), .int .i64 fun e => .var (AI.d (X e)), .int .i64 fun e => .var (AI.s (X e)), .int .i64 fun e => .var (AI.disp (X e)), .int .i64 fun e => .var (AI.imm (X e)), .int .i64 fun e => .var (AI.cc (X e))]
def zFT (g : Nat -> Int) : Col := .int .i64 fun e => .var (g e)
end Go.Proofs.YtajcmjjgnbaahaaGreat.Amd
namespace Go.Proofs.YtajcmjjgnbaahaaGreat.Rv
open Go Go.Proofs.YtajcmjjgnbaahaaGreat.Sx Go.RowKit
noncomputable abbrev P := Go.Proofs.Tryz.prog
noncomputable def G0 : FuncId -> Option Cal := inl P (fun _ _ => 0) (fun _ => none) 6
theorem zXE : zO P G0 := zAh none_ok 6
def zHG (n : Int) : Bool := decide (-9223372036854775808 <= n) && decide (n < 9223372036854775808)
theorem zLu (n : Int) : zHG n = true ↔ -9223372036854775808 <= n /\ n < 9223372036854775808 := by simp [zHG]
def zWz : zBN
 | [.int .u64 v, .int .i64 lo, .int .i64 n] => some (some (BE.andS (.cmpS .geq lo (.lit 0)) (BE.andS (.cmpS .leq lo (.lit 63)) (BE.andS (.cmpS .geq n (.lit 1)) (.cmpS .leq n (.lit 63))))),
   .int .u64 (.bits .and .u64 (IE.two (.shr .u64) v lo) (IE.two (.sub .u64) (IE.two (.shl .u64) (.lit 1) n) (.lit 1))))
 | _ => none
theorem zTy (a b c : Int) (K : SV -> List SObj -> Prop) : zH P G0 (fun _ => 0) Tryz.f69 [.int .u64 (.var a), .int .i64 (.var b), .int .i64 (.var c)] [] K =
  ((BE.den (.cmp .lss (.var b) (.lit 0)) = true -> K (SV.int .u64 (.lit 0)) []) /\ (BE.den (.cmp .lss (.var b) (.lit 0)) = false -> (BE.den (.cmp .gtr (.var b) (.lit 63)) = true -> K (SV.int .u64 (.lit 0)) []) /\ (BE.den (.cmp .gtr (.var b) (.lit 63)) = false -> BE.den (.cmp .geq (.var b) (.lit 0)) = true /\ (BE.den (.cmp .lss (.var c) (.lit 1)) = true -> K (SV.int .u64 (.bits .and .u64 (.shr .u64 (.var a) (.var b)) (.lit 0))) []) /\ (BE.den (.cmp .lss (.var c) (.lit 1)) = false -> (BE.den (.cmp .gtr (.var c) (.lit 63)) = true -> K (SV.int .u64 (.bits .and .u64 (.shr .u64 (.var a) (.var b)) (.lit 18446744073709551615))) []) /\ (BE.den (.cmp .gtr (.var c) (.lit 63)) = false -> BE.den (.cmp .geq (.var c) (.lit 0)) = true /\ K (SV.int .u64 (.bits .and .u64 (.shr .u64 (.var a) (.var b)) (.sub .u64 (.shl .u64 (.lit 1) (.var c)) (.lit 1)))) []))))) := by kernel_rfl
theorem zW5 : zAr P 69 zWz := by
 refine zBO (zN (un := fun _ => 0) zXE Tryz.func69) ?_
 intro args p v hF hp
 unfold zWz at hF
 split at hF
 ·rename_i x lo n
  simp only [Option.some.injEq, Prod.mk.injEq] at hF; obtain ⟨rfl, rfl⟩ := hF
  refine ⟨[.int .u64 (.var x.den), .int .i64 (.var lo.den), .int .i64 (.var n.den)], rfl, by simp [SV.wfL, SV.wf], by simp [SV.wfL, SV.wf], trivial, ?_⟩
  simp [zAJ, zOr, zK3, za, zAd, zQ, zAo, zAS, zAG, IE.den] at hp
  rw [zTy]
  have h1 : ¬ lo.den < 0 := by omega
  have h2 : ¬ 63 < lo.den := by omega
  have h3 : ¬ n.den < 1 := by omega
  have h4 : ¬ 63 < n.den := by omega
  have h5 : 0 <= lo.den := by omega
  have h6 : 0 <= n.den := by omega
  simp [BE.den, IE.den, za, zAd, zQ, zAo, zAS, zAG, SV.den, zBf, h1, h2, h3, h4, h5, h6]
 ·simp at hF
def rvT2 : List (FuncId × Cal) := [(69, .pure zWz)]
theorem zVE : zO P (zx rvT2) := by
 refine zJw fun p hp => ?_
 simp only [rvT2, List.mem_singleton] at hp
 subst hp; exact zW5
noncomputable def G2 : FuncId -> Option Cal := inl P (fun _ _ => 10) (zx rvT2) 4
theorem zbm : zO P G2 := zAh zVE 4
structure z9 where
 op : Int
 form : Nat
 code : Int
 f3 : Int
 f7 : Int
 name : List UInt8
def zf : List z9 := [
 ⟨1, 1, 55, 0, 0, [108, 117, 105]⟩,
 ⟨2, 2, 19, 0, 0, [97, 100, 100, 105]⟩,
 ⟨3, 2, 27, 0, 0, [97, 100, 100, 105, 119]⟩,
 ⟨4, 2, 19, 7, 0, [97, 110, 100, 105]⟩,
 ⟨5, 2, 19, 6, 0, [111, 114, 105]⟩,
 ⟨6, 2, 19, 4, 0, [120, 111, 114, 105]⟩,
 ⟨7, 3, 19, 1, 0, [115, 108, 108, 105]⟩,
 ⟨8, 3, 19, 5, 0, [115, 114, 108, 105]⟩,
 ⟨9, 4, 27, 1, 0, [115, 108, 108, 105, 119]⟩,
 ⟨10, 4, 27, 5, 0, [115, 114, 108, 105, 119]⟩,
 ⟨11, 2, 3, 3, 0, [108, 100]⟩,
 ⟨12, 2, 3, 2, 0, [108, 119]⟩,
 ⟨13, 2, 3, 6, 0, [108, 119, 117]⟩,
 ⟨14, 5, 35, 3, 0, [115, 100]⟩,
 ⟨15, 5, 35, 2, 0, [115, 119]⟩,
 ⟨16, 6, 51, 0, 0, [97, 100, 100]⟩,
 ⟨17, 6, 51, 0, 32, [115, 117, 98]⟩,
 ⟨18, 6, 51, 7, 0, [97, 110, 100]⟩,
 ⟨19, 6, 51, 6, 0, [111, 114]⟩,
 ⟨20, 6, 51, 4, 0, [120, 111, 114]⟩,
 ⟨21, 6, 51, 1, 0, [115, 108, 108]⟩,
 ⟨22, 6, 51, 5, 0, [115, 114, 108]⟩,
 ⟨23, 6, 59, 0, 0, [97, 100, 100, 119]⟩,
 ⟨24, 6, 59, 0, 32, [115, 117, 98, 119]⟩,
 ⟨25, 6, 59, 0, 1, [109, 117, 108, 119]⟩,
 ⟨26, 6, 59, 5, 1, [100, 105, 118, 117, 119]⟩,
 ⟨27, 6, 59, 1, 0, [115, 108, 108, 119]⟩,
 ⟨28, 6, 59, 5, 0, [115, 114, 108, 119]⟩,
 ⟨29, 7, 99, 0, 0, [98, 101, 113]⟩,
 ⟨30, 7, 99, 1, 0, [98, 110, 101]⟩,
 ⟨31, 7, 99, 6, 0, [98, 108, 116, 117]⟩,
 ⟨32, 7, 99, 7, 0, [98, 103, 101, 117]⟩,
 ⟨33, 8, 111, 0, 0, [106, 97, 108]⟩,
 ⟨34, 2, 103, 0, 0, [106, 97, 108, 114]⟩]
def zY2 : Nat -> SV
 | 1 => .iface 142 (.agg [])
 | 2 => .iface 143 (.agg [])
 | 3 => .iface 145 (.agg [.int .i64 (.lit 6)])
 | 4 => .iface 145 (.agg [.int .i64 (.lit 5)])
 | 5 => .iface 146 (.agg [])
 | 6 => .iface 147 (.agg [])
 | 7 => .iface 148 (.agg [])
 | _ => .iface 149 (.agg [])
def zaG (r : z9) : SV := .agg [.int .i64 (.lit r.op), .str ⟨r.name.toArray⟩, zY2 r.form, .int .u32 (.lit r.code), .int .u32 (.lit r.f3), .int .u32 (.lit r.f7)]
def zd : Nat -> Bool × Bool × Bool
 | 1 | 8 => (true, false, false)
 | 2 | 3 | 4 => (true, true, false)
 | 5 | 7 => (false, true, true)
 | _ => (true, true, true)
def zC8 : Nat -> List (Int × Int × Int)
 | 1 => [(0, 1048575, 12)]
 | 2 => [(0, 4095, 20)]
 | 3 => [(0, 63, 20)]
 | 4 => [(0, 31, 20)]
 | 5 => [(0, 31, 7), (5, 127, 25)]
 | 7 => [(1, 15, 8), (5, 63, 25), (11, 1, 7), (12, 1, 31)]
 | 8 => [(1, 1023, 21), (11, 1, 20), (12, 255, 12), (20, 1, 31)]
 | _ => []
def zAp (r : z9) : Int := if r.form = 1 ∨ r.form = 8 then r.code else r.code + r.f3 * 4096 + r.f7 * 33554432
def zNH {α : Type} : List α -> Prop -> Prop
 | [], R => R
 | _ :: l, R => BE.den (.lit true) = true /\ zNH l R
end Go.Proofs.YtajcmjjgnbaahaaGreat.Rv
