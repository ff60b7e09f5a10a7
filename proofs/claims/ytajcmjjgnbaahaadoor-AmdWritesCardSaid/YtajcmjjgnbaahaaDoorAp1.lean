/- Instructions of x86-64 in bytes, and back, in plain words. -/
import Derived.Test.YtajcmjjgnbaahaaDoorBm
namespace Go.Proofs.YtajcmjjgnbaahaaDoor.Amd
open Go
set_option linter.unusedVariables false
set_option linter.unusedSimpArgs false
structure AI where
  op : Int
  wide : Bool
  long : Bool
  d : Int
  s : Int
  disp : Int
  imm : Int
  cc : Int
inductive Form where
  | movImm
  | two (c : Int)
  | load
  | store
  | imul
  | imm (n : Int)
  | one (c n : Int)
  | stack (c : Int)
  | jmp
  | jcc
  | ret
def formOf (op : Int) : Option Form :=
  if op = 1 then some .movImm else if op = 2 then some (.two 137) else if op = 3 then some .load else if op = 4 then some .store
  else if op = 5 then some (.two 1) else if op = 6 then some (.two 9) else if op = 7 then some (.two 33) else if op = 8 then some (.two 41)
  else if op = 9 then some (.two 49) else if op = 10 then some (.two 57) else if op = 11 then some (.two 133) else if op = 12 then some (.two 135)
  else if op = 13 then some .imul else if op = 14 then some (.imm 0) else if op = 15 then some (.imm 5) else if op = 16 then some (.imm 7)
  else if op = 17 then some (.imm 4) else if op = 18 then some (.one 247 3) else if op = 19 then some (.one 247 2) else if op = 20 then some (.one 247 6)
  else if op = 21 then some (.one 211 4) else if op = 22 then some (.one 211 5) else if op = 23 then some (.stack 80) else if op = 24 then some (.stack 88)
  else if op = 25 then some .jmp else if op = 26 then some .jcc else if op = 27 then some .ret else none
def badReg (r : Int) : Bool := decide (r < 0) || decide (15 < r)
def pfx (w : Bool) (r b : Int) : Int := (if w = true then 8 else 0) + (if 7 < r then 4 else 0) + (if 7 < b then 1 else 0)
def withP (p : Int) (l : List Int) : List Int := if p = 0 then l else (64 + p) :: l
def le4 (v : Int) : List Int := [v % 256, v / 256 % 256, v / 65536 % 256, v / 16777216 % 256]
def numB (v : Int) (long : Bool) : List Int := if long = true then le4 v else [v % 256]
def numOk (v : Int) (long : Bool) : Prop := if long = true then -2147483648 <= v /\ v <= 2147483647 else -128 <= v /\ v <= 127
instance (v : Int) (long : Bool) : Decidable (numOk v long) := by unfold numOk; infer_instance
def pairB (mm r b : Int) : Int := 64 * mm + 8 * (r % 8) + b % 8
def memB (r b disp : Int) (long : Bool) : List Int := pairB (if long = true then 2 else 1) r b :: ((if b % 8 = 4 then [36] else []) ++ numB disp long)
def encE : Form -> AI -> Int
  | .movImm, x => if badReg x.d = true then 182 else if x.imm < 0 ∨ 4294967295 < x.imm then 183 else 0
  | .two _, x | .imul, x => if badReg x.s = true ∨ badReg x.d = true then 182 else 0
  | .load, x | .store, x => if badReg x.d = true ∨ badReg x.s = true then 182 else if numOk x.disp x.long then 0 else 183
  | .imm _, x => if badReg x.d = true then 182 else if numOk x.imm x.long then 0 else 183
  | .one _ _, x | .stack _, x => if badReg x.d = true then 182 else 0
  | .jmp, x => if numOk x.imm x.long then 0 else 183
  | .jcc, x => if x.cc < 2 ∨ 7 < x.cc then 181 else if numOk x.imm x.long then 0 else 183
  | .ret, _ => 0
def encL : Form -> AI -> List Int
  | .movImm, x => withP (pfx false 0 x.d) ((184 + x.d % 8) :: le4 x.imm)
  | .two c, x => withP (pfx x.wide x.s x.d) [c, pairB 3 x.s x.d]
  | .load, x => withP (pfx x.wide x.d x.s) (139 :: memB x.d x.s x.disp x.long)
  | .store, x => withP (pfx x.wide x.s x.d) (137 :: memB x.s x.d x.disp x.long)
  | .imul, x => withP (pfx x.wide x.d x.s) [15, 175, pairB 3 x.d x.s]
  | .imm n, x => withP (pfx x.wide 0 x.d) ((if x.long = true then 129 else 131) :: pairB 3 n x.d :: numB x.imm x.long)
  | .one c n, x => withP (pfx x.wide 0 x.d) [c, pairB 3 n x.d]
  | .stack c, x => withP (pfx false 0 x.d) [c + x.d % 8]
  | .jmp, x => (if x.long = true then 233 else 235) :: numB x.imm x.long
  | .jcc, x => if x.long = true then 15 :: (128 + x.cc) :: numB x.imm true else (112 + x.cc) :: numB x.imm false
  | .ret, _ => [195]
def amdErr (x : AI) : Int := match formOf x.op with | some f => encE f x | none => 181
def amdBytes (x : AI) : List Int := match formOf x.op with | some f => encL f x | none => []
def plainF : Form -> AI -> AI
  | .movImm, x => ⟨x.op, false, false, x.d, 0, 0, x.imm, 0⟩
  | .two _, x | .imul, x => ⟨x.op, x.wide, false, x.d, x.s, 0, 0, 0⟩
  | .load, x | .store, x => ⟨x.op, x.wide, x.long, x.d, x.s, x.disp, 0, 0⟩
  | .imm _, x => ⟨x.op, x.wide, x.long, x.d, 0, 0, x.imm, 0⟩
  | .one _ _, x => ⟨x.op, x.wide, false, x.d, 0, 0, 0, 0⟩
  | .stack _, x => ⟨x.op, false, false, x.d, 0, 0, 0, 0⟩
  | .jmp, x => ⟨x.op, false, x.long, 0, 0, 0, x.imm, 0⟩
  | .jcc, x => ⟨x.op, false, x.long, 0, 0, 0, x.imm, x.cc⟩
  | .ret, x => ⟨x.op, false, false, 0, 0, 0, 0, 0⟩
def plain (x : AI) : AI := match formOf x.op with | some f => plainF f x | none => ⟨x.op, false, false, 0, 0, 0, 0, 0⟩
def numK (long : Bool) : Nat := if long = true then 4 else 1
def hiR (p : Int) : Int := if p / 4 % 2 = 1 then 8 else 0
def hiB (p : Int) : Int := if p % 2 = 1 then 8 else 0
def pr (g : Nat -> Int) (i : Nat) (p : Int) : Int := g i / 8 % 8 + hiR p
def pb (g : Nat -> Int) (i : Nat) (p : Int) : Int := g i % 8 + hiB p
def sib (g : Nat -> Int) (i : Nat) : Nat := if g i % 8 = 4 then 1 else 0
def memL (g : Nat -> Int) (i : Nat) : Bool := decide (g i / 64 = 2)
def memEnd (g : Nat -> Int) (i : Nat) : Nat := i + 1 + sib g i + numK (memL g i)
def memOk (g : Nat -> Int) (len i : Nat) : Prop := i < len /\ (g i / 64 = 1 ∨ g i / 64 = 2) /\ (g i % 8 = 4 -> i + 1 < len /\ g (i + 1) = 36) /\ memEnd g i <= len
instance (g : Nat -> Int) (len i : Nat) : Decidable (memOk g len i) := by unfold memOk; infer_instance
section
variable (g : Nat -> Int) (len : Nat)
end
def reads (g : Nat -> Int) : Nat -> List Int -> Prop
  | _, [] => True
  | i, c :: r => g i = c /\ reads g (i + 1) r
theorem reg_split {r : Int} (h : badReg r = false) : 0 <= r /\ r <= 15 := by
  simp only [badReg, Bool.or_eq_false_iff, decide_eq_false_iff_not] at h
  omega
theorem pfx_ok (w : Bool) (r b : Int) : 0 <= pfx w r b /\ pfx w r b < 16 /\ pfx w r b / 2 % 2 = 0 := by
  unfold pfx
  cases w <;> by_cases h1 : 7 < r <;> by_cases h2 : 7 < b <;> simp [h1, h2]
end Go.Proofs.YtajcmjjgnbaahaaDoor.Amd
