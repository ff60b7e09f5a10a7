/- Instructions of x86-64 in bytes, and back, in plain words. -/
import Derived.Test.YtajcmjjgnbaahaaDoorBm
namespace Go.Proofs.YtajcmjjgnbaahaaDoor.Amd
open Go
set_option linter.unusedVariables false
set_option linter.unusedSimpArgs false

structure AI where
  op : Int
  wide : Bool
  long : Bool
  d : Int
  s : Int
  disp : Int
  imm : Int
  cc : Int

/-- How an operation is written. -/
inductive Form where
  | movImm
  | two (c : Int)
  | load
  | store
  | imul
  | imm (n : Int)
  | one (c n : Int)
  | stack (c : Int)
  | jmp
  | jcc
  | ret
def formOf (op : Int) : Option Form :=
  if op = 1 then some .movImm else if op = 2 then some (.two 137) else if op = 3 then some .load else if op = 4 then some .store
  else if op = 5 then some (.two 1) else if op = 6 then some (.two 9) else if op = 7 then some (.two 33) else if op = 8 then some (.two 41)
  else if op = 9 then some (.two 49) else if op = 10 then some (.two 57) else if op = 11 then some (.two 133) else if op = 12 then some (.two 135)
  else if op = 13 then some .imul else if op = 14 then some (.imm 0) else if op = 15 then some (.imm 5) else if op = 16 then some (.imm 7)
  else if op = 17 then some (.imm 4) else if op = 18 then some (.one 247 3) else if op = 19 then some (.one 247 2) else if op = 20 then some (.one 247 6)
  else if op = 21 then some (.one 211 4) else if op = 22 then some (.one 211 5) else if op = 23 then some (.stack 80) else if op = 24 then some (.stack 88)
  else if op = 25 then some .jmp else if op = 26 then some .jcc else if op = 27 then some .ret else none

def badReg (r : Int) : Bool := decide (r < 0) || decide (15 < r)
def pfx (w : Bool) (r b : Int) : Int := (if w = true then 8 else 0) + (if 7 < r then 4 else 0) + (if 7 < b then 1 else 0)
def withP (p : Int) (l : List Int) : List Int := if p = 0 then l else (64 + p) :: l
def le4 (v : Int) : List Int := [v % 256, v / 256 % 256, v / 65536 % 256, v / 16777216 % 256]
def numB (v : Int) (long : Bool) : List Int := if long = true then le4 v else [v % 256]
def numOk (v : Int) (long : Bool) : Prop := if long = true then -2147483648 ≤ v ∧ v ≤ 2147483647 else -128 ≤ v ∧ v ≤ 127
instance (v : Int) (long : Bool) : Decidable (numOk v long) := by unfold numOk; infer_instance
def pairB (mm r b : Int) : Int := 64 * mm + 8 * (r % 8) + b % 8
def memB (r b disp : Int) (long : Bool) : List Int := pairB (if long = true then 2 else 1) r b :: ((if b % 8 = 4 then [36] else []) ++ numB disp long)

def encE : Form → AI → Int
  | .movImm, x => if badReg x.d = true then 182 else if x.imm < 0 ∨ 4294967295 < x.imm then 183 else 0
  | .two _, x | .imul, x => if badReg x.s = true ∨ badReg x.d = true then 182 else 0
  | .load, x | .store, x => if badReg x.d = true ∨ badReg x.s = true then 182 else if numOk x.disp x.long then 0 else 183
  | .imm _, x => if badReg x.d = true then 182 else if numOk x.imm x.long then 0 else 183
  | .one _ _, x | .stack _, x => if badReg x.d = true then 182 else 0
  | .jmp, x => if numOk x.imm x.long then 0 else 183
  | .jcc, x => if x.cc < 2 ∨ 7 < x.cc then 181 else if numOk x.imm x.long then 0 else 183
  | .ret, _ => 0
def encL : Form → AI → List Int
  | .movImm, x => withP (pfx false 0 x.d) ((184 + x.d % 8) :: le4 x.imm)
  | .two c, x => withP (pfx x.wide x.s x.d) [c, pairB 3 x.s x.d]
  | .load, x => withP (pfx x.wide x.d x.s) (139 :: memB x.d x.s x.disp x.long)
  | .store, x => withP (pfx x.wide x.s x.d) (137 :: memB x.s x.d x.disp x.long)
  | .imul, x => withP (pfx x.wide x.d x.s) [15, 175, pairB 3 x.d x.s]
  | .imm n, x => withP (pfx x.wide 0 x.d) ((if x.long = true then 129 else 131) :: pairB 3 n x.d :: numB x.imm x.long)
  | .one c n, x => withP (pfx x.wide 0 x.d) [c, pairB 3 n x.d]
  | .stack c, x => withP (pfx false 0 x.d) [c + x.d % 8]
  | .jmp, x => (if x.long = true then 233 else 235) :: numB x.imm x.long
  | .jcc, x => if x.long = true then 15 :: (128 + x.cc) :: numB x.imm true else (112 + x.cc) :: numB x.imm false
  | .ret, _ => [195]
/-- The error, and the bytes, of an instruction. -/
def amdErr (x : AI) : Int := match formOf x.op with | some f => encE f x | none => 181
def amdBytes (x : AI) : List Int := match formOf x.op with | some f => encL f x | none => []

/-- The fields that count. -/
def plainF : Form → AI → AI
  | .movImm, x => ⟨x.op, false, false, x.d, 0, 0, x.imm, 0⟩
  | .two _, x | .imul, x => ⟨x.op, x.wide, false, x.d, x.s, 0, 0, 0⟩
  | .load, x | .store, x => ⟨x.op, x.wide, x.long, x.d, x.s, x.disp, 0, 0⟩
  | .imm _, x => ⟨x.op, x.wide, x.long, x.d, 0, 0, x.imm, 0⟩
  | .one _ _, x => ⟨x.op, x.wide, false, x.d, 0, 0, 0, 0⟩
  | .stack _, x => ⟨x.op, false, false, x.d, 0, 0, 0, 0⟩
  | .jmp, x => ⟨x.op, false, x.long, 0, 0, 0, x.imm, 0⟩
  | .jcc, x => ⟨x.op, false, x.long, 0, 0, 0, x.imm, x.cc⟩
  | .ret, x => ⟨x.op, false, false, 0, 0, 0, 0, 0⟩
def plain (x : AI) : AI := match formOf x.op with | some f => plainF f x | none => ⟨x.op, false, false, 0, 0, 0, 0, 0⟩

/-! Reading. -/
def u4 (g : Nat → Int) (p : Nat) : Int := g p + g (p + 1) * 256 + g (p + 2) * 65536 + g (p + 3) * 16777216
def s8 (v : Int) : Int := if 128 ≤ v then v - 256 else v
def s32 (v : Int) : Int := if 2147483648 ≤ v then v - 4294967296 else v
def numK (long : Bool) : Nat := if long = true then 4 else 1
def numV (g : Nat → Int) (p : Nat) (long : Bool) : Int := if long = true then s32 (u4 g p) else s8 (g p)
def hiW (p : Int) : Bool := decide (p / 8 % 2 = 1)
def hiR (p : Int) : Int := if p / 4 % 2 = 1 then 8 else 0
def hiB (p : Int) : Int := if p % 2 = 1 then 8 else 0
def pr (g : Nat → Int) (i : Nat) (p : Int) : Int := g i / 8 % 8 + hiR p
def pb (g : Nat → Int) (i : Nat) (p : Int) : Int := g i % 8 + hiB p
def sib (g : Nat → Int) (i : Nat) : Nat := if g i % 8 = 4 then 1 else 0
def memL (g : Nat → Int) (i : Nat) : Bool := decide (g i / 64 = 2)
def memEnd (g : Nat → Int) (i : Nat) : Nat := i + 1 + sib g i + numK (memL g i)
def memOk (g : Nat → Int) (len i : Nat) : Prop := i < len ∧ (g i / 64 = 1 ∨ g i / 64 = 2) ∧ (g i % 8 = 4 → i + 1 < len ∧ g (i + 1) = 36) ∧ memEnd g i ≤ len
instance (g : Nat → Int) (len i : Nat) : Decidable (memOk g len i) := by unfold memOk; infer_instance
def memD (g : Nat → Int) (i : Nat) : Int := numV g (i + 1 + sib g i) (memL g i)

section
variable (g : Nat → Int) (len : Nat)
def dTwo (op p : Int) (i : Nat) : Option (AI × Nat) := if i < len ∧ g i / 64 = 3 then some (⟨op, hiW p, false, pb g i p, pr g i p, 0, 0, 0⟩, i + 1) else none
def dImul (p : Int) (i : Nat) : Option (AI × Nat) := if i < len ∧ g i / 64 = 3 then some (⟨13, hiW p, false, pr g i p, pb g i p, 0, 0, 0⟩, i + 1) else none
def dLoad (p : Int) (i : Nat) : Option (AI × Nat) := if memOk g len i then some (⟨3, hiW p, memL g i, pr g i p, pb g i p, memD g i, 0, 0⟩, memEnd g i) else none
def dStore (p : Int) (i : Nat) : Option (AI × Nat) := if memOk g len i then some (⟨4, hiW p, memL g i, pb g i p, pr g i p, memD g i, 0, 0⟩, memEnd g i) else none
def dImm (op p code : Int) (i : Nat) : Option (AI × Nat) :=
  if p / 4 % 2 = 0 ∧ i < len ∧ g i / 64 = 3 ∧ i + 1 + numK (decide (code = 129)) ≤ len then some (⟨op, hiW p, decide (code = 129), pb g i p, 0, 0, numV g (i + 1) (decide (code = 129)), 0⟩, i + 1 + numK (decide (code = 129))) else none
def dOne (op p : Int) (i : Nat) : Option (AI × Nat) := if p / 4 % 2 = 0 ∧ i < len ∧ g i / 64 = 3 then some (⟨op, hiW p, false, pb g i p, 0, 0, 0, 0⟩, i + 1) else none
def dStack (op p code : Int) (i : Nat) : Option (AI × Nat) := if p / 4 = 0 then some (⟨op, false, false, code % 8 + hiB p, 0, 0, 0, 0⟩, i) else none
def dMov (p code : Int) (i : Nat) : Option (AI × Nat) := if p / 4 = 0 ∧ i + 4 ≤ len then some (⟨1, false, false, code % 8 + hiB p, 0, 0, u4 g i, 0⟩, i + 4) else none
def dJmp (p code : Int) (i : Nat) : Option (AI × Nat) := if p = 0 ∧ i + numK (decide (code = 233)) ≤ len then some (⟨25, false, decide (code = 233), 0, 0, 0, numV g i (decide (code = 233)), 0⟩, i + numK (decide (code = 233))) else none
def dJcc (p cc : Int) (long : Bool) (i : Nat) : Option (AI × Nat) := if p = 0 ∧ 2 ≤ cc ∧ cc ≤ 7 ∧ i + numK long ≤ len then some (⟨26, false, long, 0, 0, 0, numV g i long, cc⟩, i + numK long) else none
def dRet (p : Int) (i : Nat) : Option (AI × Nat) := if p = 0 then some (⟨27, false, false, 0, 0, 0, 0, 0⟩, i) else none
def ahead (i : Nat) : Int := if i < len then g i else 0
/-- Behind the prefix and the code. -/
def decC (p code : Int) (i : Nat) : Option (AI × Nat) :=
  if code = 15 ∧ i < len then (if g i = 175 then dImul g len p (i + 1) else if g i / 16 = 8 then dJcc g len p (g i % 16) true (i + 1) else none)
  else if code / 8 = 23 then dMov g len p code i
  else if code / 8 = 10 then dStack 23 p code i
  else if code / 8 = 11 then dStack 24 p code i
  else if code / 16 = 7 then dJcc g len p (code % 16) false i
  else if code = 235 then dJmp g len p code i
  else if code = 233 then dJmp g len p code i
  else if code = 195 then dRet p i
  else if code = 139 then dLoad g len p i
  else if code = 137 then (if ahead g len i / 64 = 3 then dTwo g len 2 p i else dStore g len p i)
  else if code = 1 then dTwo g len 5 p i
  else if code = 9 then dTwo g len 6 p i
  else if code = 33 then dTwo g len 7 p i
  else if code = 41 then dTwo g len 8 p i
  else if code = 49 then dTwo g len 9 p i
  else if code = 57 then dTwo g len 10 p i
  else if code = 133 then dTwo g len 11 p i
  else if code = 135 then dTwo g len 12 p i
  else if code = 131 ∨ code = 129 then
    (if ahead g len i / 8 % 8 = 0 then dImm g len 14 p code i else if ahead g len i / 8 % 8 = 4 then dImm g len 17 p code i
     else if ahead g len i / 8 % 8 = 5 then dImm g len 15 p code i else if ahead g len i / 8 % 8 = 7 then dImm g len 16 p code i else none)
  else if code = 247 then
    (if ahead g len i / 8 % 8 = 2 then dOne g len 19 p i else if ahead g len i / 8 % 8 = 3 then dOne g len 18 p i else if ahead g len i / 8 % 8 = 6 then dOne g len 20 p i else none)
  else if code = 211 then
    (if ahead g len i / 8 % 8 = 4 then dOne g len 21 p i else if ahead g len i / 8 % 8 = 5 then dOne g len 22 p i else none)
  else none
/-- What stands in bytes at a place, and where it ends. -/
def amdDec (i : Nat) : Option (AI × Nat) :=
  if len ≤ i then none
  else if g i / 16 = 4 then (if g i % 16 = 0 ∨ g i / 2 % 2 = 1 ∨ len ≤ i + 1 then none else decC g len (g i % 16) (g (i + 1)) (i + 2))
  else decC g len 0 (g i) (i + 1)
end

/-- These bytes stand from a place on. -/
def reads (g : Nat → Int) : Nat → List Int → Prop
  | _, [] => True
  | i, c :: r => g i = c ∧ reads g (i + 1) r
theorem reads_append {g : Nat → Int} : ∀ {l r : List Int} {i : Nat}, reads g i (l ++ r) ↔ reads g i l ∧ reads g (i + l.length) r
  | [], r, i => by simp [reads]
  | c :: l, r, i => by
    simp only [List.cons_append, reads, List.length_cons]
    rw [reads_append (l := l), and_assoc, show i + (l.length + 1) = i + 1 + l.length by omega]

/-! What is written is read. -/
theorem reg_split {r : Int} (h : badReg r = false) : 0 ≤ r ∧ r ≤ 15 := by
  simp only [badReg, Bool.or_eq_false_iff, decide_eq_false_iff_not] at h
  omega
theorem pfx_ok (w : Bool) (r b : Int) : 0 ≤ pfx w r b ∧ pfx w r b < 16 ∧ pfx w r b / 2 % 2 = 0 := by
  unfold pfx
  cases w <;> by_cases h1 : 7 < r <;> by_cases h2 : 7 < b <;> simp [h1, h2]
theorem pfx_W (w : Bool) (r b : Int) : hiW (pfx w r b) = w := by
  unfold pfx hiW
  cases w <;> by_cases h1 : 7 < r <;> by_cases h2 : 7 < b <;> simp [h1, h2]
theorem pfx_R (w : Bool) {r : Int} (b : Int) (h : badReg r = false) : r % 8 + hiR (pfx w r b) = r := by
  have := reg_split h
  unfold pfx hiR
  cases w <;> by_cases h1 : 7 < r <;> by_cases h2 : 7 < b <;> simp [h1, h2] <;> omega
theorem pfx_B (w : Bool) (r : Int) {b : Int} (h : badReg b = false) : b % 8 + hiB (pfx w r b) = b := by
  have := reg_split h
  unfold pfx hiB
  cases w <;> by_cases h1 : 7 < r <;> by_cases h2 : 7 < b <;> simp [h1, h2] <;> omega
theorem pfx_noR (w : Bool) (b : Int) : pfx w 0 b / 4 % 2 = 0 := by
  unfold pfx
  cases w <;> by_cases h2 : 7 < b <;> simp [h2]
theorem pfx_noWR (b : Int) : pfx false 0 b / 4 = 0 := by
  unfold pfx
  by_cases h2 : 7 < b <;> simp [h2]
theorem pairB_parts (mm r b : Int) : pairB mm r b / 64 = mm ∧ pairB mm r b / 8 % 8 = r % 8 ∧ pairB mm r b % 8 = b % 8 := by
  unfold pairB; omega
theorem pairB_pr {g : Nat → Int} {i : Nat} {mm r b p : Int} (h : g i = pairB mm r b) : pr g i p = r % 8 + hiR p ∧ pb g i p = b % 8 + hiB p ∧ g i / 64 = mm := by
  have := pairB_parts mm r b
  unfold pr pb
  rw [h, this.2.1, this.2.2]
  exact ⟨rfl, rfl, this.1⟩
theorem num_read {g : Nat → Int} {i : Nat} {v : Int} {long : Bool} (h : reads g i (numB v long)) (hv : numOk v long) : numV g i long = v ∧ (numB v long).length = numK long := by
  unfold numB numOk numV numK at *
  cases long with
  | true =>
    simp only [if_true, le4, reads] at h hv ⊢
    obtain ⟨h0, h1, h2, h3, _⟩ := h
    refine ⟨?_, rfl⟩
    unfold u4 s32
    rw [h0, h1, h2, h3]
    split <;> omega
  | false =>
    simp only [Bool.false_eq_true, if_false, reads] at h hv ⊢
    obtain ⟨h0, _⟩ := h
    refine ⟨?_, rfl⟩
    unfold s8
    rw [h0]
    split <;> omega
theorem u4_read {g : Nat → Int} {i : Nat} {v : Int} (h : reads g i (le4 v)) (h0 : 0 ≤ v) (h1 : v ≤ 4294967295) : u4 g i = v := by
  simp only [le4, reads] at h
  obtain ⟨a, b, c, d, _⟩ := h
  unfold u4
  rw [a, b, c, d]
  omega

/-- Bytes behind a prefix. -/
theorem dec_pfx {g : Nat → Int} {len i : Nat} {p c : Int} {r : List Int} (hp : 0 ≤ p ∧ p < 16 ∧ p / 2 % 2 = 0) (hc : c / 16 ≠ 4) (hr : reads g i (withP p (c :: r))) (hl : i + (withP p (c :: r)).length ≤ len) :
    ∃ j, amdDec g len i = decC g len p c j ∧ reads g j r ∧ j + r.length = i + (withP p (c :: r)).length ∧ j + r.length ≤ len := by
  unfold withP at *
  by_cases h : p = 0
  · subst h
    simp only [if_true, reads, List.length_cons] at hr hl ⊢
    refine ⟨i + 1, ?_, hr.2, by omega, by omega⟩
    unfold amdDec
    rw [if_neg (by omega), hr.1, if_neg hc]
  · simp only [if_neg h, reads, List.length_cons] at hr hl ⊢
    refine ⟨i + 2, ?_, hr.2.2, by omega, by omega⟩
    unfold amdDec
    rw [if_neg (by omega), hr.1, hr.2.1, if_pos (by omega), if_neg (by omega), show (64 + p) % 16 = p by omega]
end Go.Proofs.YtajcmjjgnbaahaaDoor.Amd
