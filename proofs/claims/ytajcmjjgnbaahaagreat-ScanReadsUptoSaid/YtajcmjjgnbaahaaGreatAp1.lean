/- Instructions of x86-64 in bytes, and back, in plain words. -/
import Derived.Test.YtajcmjjgnbaahaaGreatSx2
set_option linter.unusedVariables false
set_option linter.unusedSimpArgs false
namespace Go.Proofs.YtajcmjjgnbaahaaGreat.Sx
open Go
theorem zBe (n : Int) : IntKind.u64.wrap n = n % 18446744073709551616 := by simp [IntKind.wrap, IntKind.bits, IntKind.signed]
theorem zEa (n : Int) : IntKind.u32.wrap n = n % 4294967296 := by simp [IntKind.wrap, IntKind.bits, IntKind.signed]
theorem zGE (n : Int) : IntKind.u8.wrap n = n % 256 := by simp [IntKind.wrap, IntKind.bits, IntKind.signed]
theorem zFW (n : Int) : IntKind.i64.wrap n = if n % 18446744073709551616 >= 9223372036854775808 then n % 18446744073709551616 - 18446744073709551616 else n % 18446744073709551616 := by
 simp [IntKind.wrap, IntKind.bits, IntKind.signed]
theorem zE {n : Int} (h0 : -9223372036854775808 <= n) (h1 : n < 9223372036854775808) : IntKind.i64.wrap n = n := by rw [zFW]; split <;> omega
theorem zAE {n : Int} (h0 : 0 <= n) (h1 : n < 18446744073709551616) : IntKind.u64.wrap n = n := by rw [zBe]; omega
theorem z8 {n : Int} (h0 : 0 <= n) (h1 : n < 4294967296) : IntKind.u32.wrap n = n := by rw [zEa]; omega
theorem zCU (k : IntKind) (x : Int) (n : Nat) (hn : n <= k.bits) : shrI k x n = x / 2 ^ n := by
 have e : min ((n : Int).toNat) k.bits = n := by simp [Nat.min_eq_left hn]
 rw [shrI, e, Int.fdiv_eq_ediv_of_nonneg _ (Int.le_of_lt (Int.pow_pos (by decide)))]
theorem zCN (k : IntKind) (x : Int) (n : Nat) (hn : n <= k.bits) : shlI k x n = k.wrap (x * 2 ^ n) := by
 have e : min ((n : Int).toNat) k.bits = n := by simp [Nat.min_eq_left hn]
 rw [shlI, e]
theorem zMJ (op : Nat -> Nat -> Nat) (o : BinOp) (k : IntKind) (w : Nat) (hw : k.bits = w) (hs : k.signed = false) (x y : Nat) (hx : x < 2 ^ w) (hy : y < 2 ^ w) (hop : ∀ a b, a < 2 ^ w -> b < 2 ^ w -> op a b < 2 ^ w)
  (ho : ∀ a b : Int, zAy o k a b = k.wrap ((op (BitVec.ofInt k.bits a).toNat (BitVec.ofInt k.bits b).toNat : Nat) : Int)) : zAy o k x y = (op x y : Nat) := by
 have tn : ∀ n : Nat, n < 2 ^ w -> (BitVec.ofInt k.bits (n : Int)).toNat = n := by
  intro n hn
  rw [hw, BitVec.ofInt_natCast, BitVec.toNat_ofNat]
  exact Nat.mod_eq_of_lt hn
 rw [ho, tn x hx, tn y hy]
 have h := hop x y hx hy
 unfold IntKind.wrap
 rw [hs, hw]
 simp only [Bool.false_and, Bool.false_eq_true, if_false]
 exact Int.emod_eq_of_lt (Int.natCast_nonneg _) (by exact_mod_cast h)
theorem zSJ (x y : Nat) (hx : x < 2 ^ 32) (hy : y < 2 ^ 32) : zAy .and .u32 x y = ((x &&& y : Nat) : Int) :=
 zMJ (· &&& ·) .and .u32 32 rfl rfl x y hx hy (fun a b ha _ => Nat.and_lt_two_pow _ (by omega)) (fun a b => by simp [zAy])
theorem zYJ (x y : Nat) (hx : x < 2 ^ 32) (hy : y < 2 ^ 32) : zAy .or .u32 x y = ((x ||| y : Nat) : Int) :=
 zMJ (· ||| ·) .or .u32 32 rfl rfl x y hx hy (fun a b ha hb => Nat.or_lt_two_pow ha hb) (fun a b => by simp [zAy])
theorem zW7 (x y : Nat) (hx : x < 2 ^ 64) (hy : y < 2 ^ 64) : zAy .and .u64 x y = ((x &&& y : Nat) : Int) :=
 zMJ (· &&& ·) .and .u64 64 rfl rfl x y hx hy (fun a b ha _ => Nat.and_lt_two_pow _ (by omega)) (fun a b => by simp [zAy])
theorem zYI (x y : Nat) (hx : x < 2 ^ 64) (hy : y < 2 ^ 64) : zAy .or .u64 x y = ((x ||| y : Nat) : Int) :=
 zMJ (· ||| ·) .or .u64 64 rfl rfl x y hx hy (fun a b ha hb => Nat.or_lt_two_pow ha hb) (fun a b => by simp [zAy])
theorem zDB (x : Int) (k : Nat) (hk : k <= 64) (h0 : 0 <= x) (h1 : x < 18446744073709551616) : zAy .and .u64 x (2 ^ k - 1) = x % 2 ^ k := by
 obtain ⟨n, rfl⟩ := Int.eq_ofNat_of_zero_le h0
 have hp : (2 ^ k : Nat) <= 2 ^ 64 := Nat.pow_le_pow_right (by decide) hk
 have hpos : 0 < 2 ^ k := Nat.two_pow_pos k
 have e : ((2 : Int) ^ k - 1) = ((2 ^ k - 1 : Nat) : Int) := by
  rw [Int.natCast_sub hpos]; simp
 rw [e, zW7 n _ (by omega) (by omega), Nat.and_two_pow_sub_one_eq_mod]
 simp
theorem zMN (x : Int) (k : Nat) (hk : k <= 32) (h0 : 0 <= x) (h1 : x < 4294967296) : zAy .and .u32 x (2 ^ k - 1) = x % 2 ^ k := by
 obtain ⟨n, rfl⟩ := Int.eq_ofNat_of_zero_le h0
 have hp : (2 ^ k : Nat) <= 2 ^ 32 := Nat.pow_le_pow_right (by decide) hk
 have hpos : 0 < 2 ^ k := Nat.two_pow_pos k
 have e : ((2 : Int) ^ k - 1) = ((2 ^ k - 1 : Nat) : Int) := by
  rw [Int.natCast_sub hpos]; simp
 rw [e, zSJ n _ (by omega) (by omega), Nat.and_two_pow_sub_one_eq_mod]
 simp
theorem zEI (x y : Nat) (h : x &&& y = 0) : x ||| y = x + y := by
 have hlt : ∀ n, n < 2 ^ n := fun n => Nat.lt_two_pow_self
 have h1 : x + y < 2 ^ (x + y) := hlt _
 have hx : x < 2 ^ (x + y) := by omega
 have hy : y < 2 ^ (x + y) := by omega
 have hb : BitVec.ofNat (x + y) x &&& BitVec.ofNat (x + y) y = 0#(x + y) := by
  apply BitVec.eq_of_toNat_eq
  simp [BitVec.toNat_ofNat, Nat.mod_eq_of_lt hx, Nat.mod_eq_of_lt hy, h]
 have := congrArg BitVec.toNat (BitVec.add_eq_or_of_and_eq_zero _ _ hb)
 simpa [BitVec.toNat_add, BitVec.toNat_ofNat, Nat.mod_eq_of_lt hx, Nat.mod_eq_of_lt hy, Nat.mod_eq_of_lt h1] using this.symm
def Sub (m : Nat) (x : Int) : Prop := ∃ n : Nat, x = n /\ n &&& m = n
theorem Sub.lt {m : Nat} {x : Int} (h : Sub m x) : 0 <= x /\ x <= m := by
 obtain ⟨n, rfl, hn⟩ := h
 have : n <= m := by rw [<- hn]; exact Nat.and_le_right
 omega
theorem Sub.zero (m : Nat) : Sub m 0 := ⟨0, rfl, by simp⟩
theorem Sub.or {m m' : Nat} {x y : Int} (hx : Sub m x) (hy : Sub m' y) (hd : m &&& m' = 0) (hm : m < 2 ^ 32) (hm' : m' < 2 ^ 32) : zAy .or .u32 x y = x + y /\ Sub (m ||| m') (x + y) := by
 have l1 := hx.lt
 have l2 := hy.lt
 obtain ⟨a, rfl, ha⟩ := hx
 obtain ⟨b, rfl, hb⟩ := hy
 have hz : a &&& b = 0 := by
  rw [<- ha, <- hb]
  have : (a &&& m) &&& (b &&& m') = (a &&& b) &&& (m &&& m') := by
   rw [Nat.and_assoc, <- Nat.and_assoc m b m', Nat.and_comm m b, Nat.and_assoc b m m', <- Nat.and_assoc]
  rw [this, hd]; simp
 have hab := zEI a b hz
 rw [zYJ a b (by omega) (by omega), hab]
 refine ⟨by simp, a + b, by simp, ?_⟩
 rw [<- hab, Nat.and_or_distrib_right]
 have e1 : a &&& (m ||| m') = a := by rw [Nat.and_or_distrib_left, ha, <- ha, Nat.and_assoc, hd]; simp
 have e2 : b &&& (m ||| m') = b := by rw [Nat.and_or_distrib_left, hb, <- hb, Nat.and_assoc, Nat.and_comm m' m, hd]; simp
 rw [e1, e2]
theorem Sub.shift (x : Int) (k s : Nat) (h0 : 0 <= x) (h1 : x < 2 ^ k) : Sub ((2 ^ k - 1) * 2 ^ s) (x * 2 ^ s) := by
 obtain ⟨n, rfl⟩ := Int.eq_ofNat_of_zero_le h0
 have hn : n < 2 ^ k := by exact_mod_cast h1
 refine ⟨n * 2 ^ s, by simp, ?_⟩
 rw [<- Nat.shiftLeft_eq, <- Nat.shiftLeft_eq, <- Nat.shiftLeft_and_distrib, Nat.and_two_pow_sub_one_eq_mod, Nat.mod_eq_of_lt hn]
end Go.Proofs.YtajcmjjgnbaahaaGreat.Sx
namespace Go.Proofs.YtajcmjjgnbaahaaGreat.Amd
open Go
structure AI where
 op : Int
 wide : Bool
 long : Bool
 d : Int
 s : Int
 disp : Int
 imm : Int
 cc : Int
inductive Form where
 | movImm
 | two (c : Int)
 | load
 | store
 | imul
 | imm (n : Int)
 | one (c n : Int)
 | stack (c : Int)
 | jmp
 | jcc
 | ret
def zA (op : Int) : Option Form :=
 if op = 1 then some .movImm else if op = 2 then some (.two 137) else if op = 3 then some .load else if op = 4 then some .store
 else if op = 5 then some (.two 1) else if op = 6 then some (.two 9) else if op = 7 then some (.two 33) else if op = 8 then some (.two 41)
 else if op = 9 then some (.two 49) else if op = 10 then some (.two 57) else if op = 11 then some (.two 133) else if op = 12 then some (.two 135)
 else if op = 13 then some .imul else if op = 14 then some (.imm 0) else if op = 15 then some (.imm 5) else if op = 16 then some (.imm 7)
 else if op = 17 then some (.imm 4) else if op = 18 then some (.one 247 3) else if op = 19 then some (.one 247 2) else if op = 20 then some (.one 247 6)
 else if op = 21 then some (.one 211 4) else if op = 22 then some (.one 211 5) else if op = 23 then some (.stack 80) else if op = 24 then some (.stack 88)
 else if op = 25 then some .jmp else if op = 26 then some .jcc else if op = 27 then some .ret else none
def zV (r : Int) : Bool := decide (r < 0) || decide (15 < r)
def pfx (w : Bool) (r b : Int) : Int := (if w = true then 8 else 0) + (if 7 < r then 4 else 0) + (if 7 < b then 1 else 0)
def zAO (p : Int) (l : List Int) : List Int := if p = 0 then l else (64 + p) :: l
def le4 (v : Int) : List Int := [v % 256, v / 256 % 256, v / 65536 % 256, v / 16777216 % 256]
def numB (v : Int) (long : Bool) : List Int := if long = true then le4 v else [v % 256]
def zAs (v : Int) (long : Bool) : Prop := if long = true then -2147483648 <= v /\ v <= 2147483647 else -128 <= v /\ v <= 127
instance (v : Int) (long : Bool) : Decidable (zAs v long) := by unfold zAs; infer_instance
def zAm (mm r b : Int) : Int := 64 * mm + 8 * (r % 8) + b % 8
def memB (r b disp : Int) (long : Bool) : List Int := zAm (if long = true then 2 else 1) r b :: ((if b % 8 = 4 then [36] else []) ++ numB disp long)
def encE : Form -> AI -> Int
 | .movImm, x => if zV x.d = true then 182 else if x.imm < 0 ∨ 4294967295 < x.imm then 183 else 0
 | .two _, x | .imul, x => if zV x.s = true ∨ zV x.d = true then 182 else 0
 | .load, x | .store, x => if zV x.d = true ∨ zV x.s = true then 182 else if zAs x.disp x.long then 0 else 183
 | .imm _, x => if zV x.d = true then 182 else if zAs x.imm x.long then 0 else 183
 | .one _ _, x | .stack _, x => if zV x.d = true then 182 else 0
 | .jmp, x => if zAs x.imm x.long then 0 else 183
 | .jcc, x => if x.cc < 2 ∨ 7 < x.cc then 181 else if zAs x.imm x.long then 0 else 183
 | .ret, _ => 0
def encL : Form -> AI -> List Int
 | .movImm, x => zAO (pfx false 0 x.d) ((184 + x.d % 8) :: le4 x.imm)
 | .two c, x => zAO (pfx x.wide x.s x.d) [c, zAm 3 x.s x.d]
 | .load, x => zAO (pfx x.wide x.d x.s) (139 :: memB x.d x.s x.disp x.long)
 | .store, x => zAO (pfx x.wide x.s x.d) (137 :: memB x.s x.d x.disp x.long)
 | .imul, x => zAO (pfx x.wide x.d x.s) [15, 175, zAm 3 x.d x.s]
 | .imm n, x => zAO (pfx x.wide 0 x.d) ((if x.long = true then 129 else 131) :: zAm 3 n x.d :: numB x.imm x.long)
 | .one c n, x => zAO (pfx x.wide 0 x.d) [c, zAm 3 n x.d]
 | .stack c, x => zAO (pfx false 0 x.d) [c + x.d % 8]
 | .jmp, x => (if x.long = true then 233 else 235) :: numB x.imm x.long
 | .jcc, x => if x.long = true then 15 :: (128 + x.cc) :: numB x.imm true else (112 + x.cc) :: numB x.imm false
 | .ret, _ => [195]
def zM (x : AI) : Int := match zA x.op with | some f => encE f x | none => 181
def zD (x : AI) : List Int := match zA x.op with | some f => encL f x | none => []
def zAx : Form -> AI -> AI
 | .movImm, x => ⟨x.op, false, false, x.d, 0, 0, x.imm, 0⟩
 | .two _, x | .imul, x => ⟨x.op, x.wide, false, x.d, x.s, 0, 0, 0⟩
 | .load, x | .store, x => ⟨x.op, x.wide, x.long, x.d, x.s, x.disp, 0, 0⟩
 | .imm _, x => ⟨x.op, x.wide, x.long, x.d, 0, 0, x.imm, 0⟩
 | .one _ _, x => ⟨x.op, x.wide, false, x.d, 0, 0, 0, 0⟩
 | .stack _, x => ⟨x.op, false, false, x.d, 0, 0, 0, 0⟩
 | .jmp, x => ⟨x.op, false, x.long, 0, 0, 0, x.imm, 0⟩
 | .jcc, x => ⟨x.op, false, x.long, 0, 0, 0, x.imm, x.cc⟩
 | .ret, x => ⟨x.op, false, false, 0, 0, 0, 0, 0⟩
def plain (x : AI) : AI := match zA x.op with | some f => zAx f x | none => ⟨x.op, false, false, 0, 0, 0, 0, 0⟩
def u4 (g : Nat -> Int) (p : Nat) : Int := g p + g (p + 1) * 256 + g (p + 2) * 65536 + g (p + 3) * 16777216
def s8 (v : Int) : Int := if 128 <= v then v - 256 else v
def s32 (v : Int) : Int := if 2147483648 <= v then v - 4294967296 else v
def numK (long : Bool) : Nat := if long = true then 4 else 1
def numV (g : Nat -> Int) (p : Nat) (long : Bool) : Int := if long = true then s32 (u4 g p) else s8 (g p)
def hiW (p : Int) : Bool := decide (p / 8 % 2 = 1)
def hiR (p : Int) : Int := if p / 4 % 2 = 1 then 8 else 0
def hiB (p : Int) : Int := if p % 2 = 1 then 8 else 0
def pr (g : Nat -> Int) (i : Nat) (p : Int) : Int := g i / 8 % 8 + hiR p
def pb (g : Nat -> Int) (i : Nat) (p : Int) : Int := g i % 8 + hiB p
def sib (g : Nat -> Int) (i : Nat) : Nat := if g i % 8 = 4 then 1 else 0
def memL (g : Nat -> Int) (i : Nat) : Bool := decide (g i / 64 = 2)
def zD3 (g : Nat -> Int) (i : Nat) : Nat := i + 1 + sib g i + numK (memL g i)
def zLn (g : Nat -> Int) (len i : Nat) : Prop := i < len /\ (g i / 64 = 1 ∨ g i / 64 = 2) /\ (g i % 8 = 4 -> i + 1 < len /\ g (i + 1) = 36) /\ zD3 g i <= len
instance (g : Nat -> Int) (len i : Nat) : Decidable (zLn g len i) := by unfold zLn; infer_instance
def memD (g : Nat -> Int) (i : Nat) : Int := numV g (i + 1 + sib g i) (memL g i)
section
variable (g : Nat -> Int) (len : Nat)
def dTwo (op p : Int) (i : Nat) : Option (AI × Nat) := if i < len /\ g i / 64 = 3 then some (⟨op, hiW p, false, pb g i p, pr g i p, 0, 0, 0⟩, i + 1) else none
def zTs (p : Int) (i : Nat) : Option (AI × Nat) := if i < len /\ g i / 64 = 3 then some (⟨13, hiW p, false, pr g i p, pb g i p, 0, 0, 0⟩, i + 1) else none
def zR8 (p : Int) (i : Nat) : Option (AI × Nat) := if zLn g len i then some (⟨3, hiW p, memL g i, pr g i p, pb g i p, memD g i, 0, 0⟩, zD3 g i) else none
def zMF (p : Int) (i : Nat) : Option (AI × Nat) := if zLn g len i then some (⟨4, hiW p, memL g i, pb g i p, pr g i p, memD g i, 0, 0⟩, zD3 g i) else none
def dImm (op p code : Int) (i : Nat) : Option (AI × Nat) :=
 if p / 4 % 2 = 0 /\ i < len /\ g i / 64 = 3 /\ i + 1 + numK (decide (code = 129)) <= len then some (⟨op, hiW p, decide (code = 129), pb g i p, 0, 0, numV g (i + 1) (decide (code = 129)), 0⟩, i + 1 + numK (decide (code = 129))) else none
def dOne (op p : Int) (i : Nat) : Option (AI × Nat) := if p / 4 % 2 = 0 /\ i < len /\ g i / 64 = 3 then some (⟨op, hiW p, false, pb g i p, 0, 0, 0, 0⟩, i + 1) else none
def zIk (op p code : Int) (i : Nat) : Option (AI × Nat) := if p / 4 = 0 then some (⟨op, false, false, code % 8 + hiB p, 0, 0, 0, 0⟩, i) else none
def dMov (p code : Int) (i : Nat) : Option (AI × Nat) := if p / 4 = 0 /\ i + 4 <= len then some (⟨1, false, false, code % 8 + hiB p, 0, 0, u4 g i, 0⟩, i + 4) else none
def dJmp (p code : Int) (i : Nat) : Option (AI × Nat) := if p = 0 /\ i + numK (decide (code = 233)) <= len then some (⟨25, false, decide (code = 233), 0, 0, 0, numV g i (decide (code = 233)), 0⟩, i + numK (decide (code = 233))) else none
def dJcc (p cc : Int) (long : Bool) (i : Nat) : Option (AI × Nat) := if p = 0 /\ 2 <= cc /\ cc <= 7 /\ i + numK long <= len then some (⟨26, false, long, 0, 0, 0, numV g i long, cc⟩, i + numK long) else none
def dRet (p : Int) (i : Nat) : Option (AI × Nat) := if p = 0 then some (⟨27, false, false, 0, 0, 0, 0, 0⟩, i) else none
def zCO (i : Nat) : Int := if i < len then g i else 0
def decC (p code : Int) (i : Nat) : Option (AI × Nat) :=
 if code = 15 /\ i < len then (if g i = 175 then zTs g len p (i + 1) else if g i / 16 = 8 then dJcc g len p (g i % 16) true (i + 1) else none)
 else if code / 8 = 23 then dMov g len p code i
 else if code / 8 = 10 then zIk 23 p code i
 else if code / 8 = 11 then zIk 24 p code i
 else if code / 16 = 7 then dJcc g len p (code % 16) false i
 else if code = 235 then dJmp g len p code i
 else if code = 233 then dJmp g len p code i
 else if code = 195 then dRet p i
 else if code = 139 then zR8 g len p i
 else if code = 137 then (if zCO g len i / 64 = 3 then dTwo g len 2 p i else zMF g len p i)
 else if code = 1 then dTwo g len 5 p i
 else if code = 9 then dTwo g len 6 p i
 else if code = 33 then dTwo g len 7 p i
 else if code = 41 then dTwo g len 8 p i
 else if code = 49 then dTwo g len 9 p i
 else if code = 57 then dTwo g len 10 p i
 else if code = 133 then dTwo g len 11 p i
 else if code = 135 then dTwo g len 12 p i
 else if code = 131 ∨ code = 129 then
  (if zCO g len i / 8 % 8 = 0 then dImm g len 14 p code i else if zCO g len i / 8 % 8 = 4 then dImm g len 17 p code i
   else if zCO g len i / 8 % 8 = 5 then dImm g len 15 p code i else if zCO g len i / 8 % 8 = 7 then dImm g len 16 p code i else none)
 else if code = 247 then
  (if zCO g len i / 8 % 8 = 2 then dOne g len 19 p i else if zCO g len i / 8 % 8 = 3 then dOne g len 18 p i else if zCO g len i / 8 % 8 = 6 then dOne g len 20 p i else none)
 else if code = 211 then
  (if zCO g len i / 8 % 8 = 4 then dOne g len 21 p i else if zCO g len i / 8 % 8 = 5 then dOne g len 22 p i else none)
 else none
def zr (i : Nat) : Option (AI × Nat) :=
 if len <= i then none
 else if g i / 16 = 4 then (if g i % 16 = 0 ∨ g i / 2 % 2 = 1 ∨ len <= i + 1 then none else decC g len (g i % 16) (g (i + 1)) (i + 2))
 else decC g len 0 (g i) (i + 1)
end
def zu (g : Nat -> Int) : Nat -> List Int -> Prop
 | _, [] => True
 | i, c :: r => g i = c /\ zu g (i + 1) r
theorem zC7 {g : Nat -> Int} : ∀ {l r : List Int} {i : Nat}, zu g i (l ++ r) ↔ zu g i l /\ zu g (i + l.length) r
 | [], r, i => by simp [zu]
 | c :: l, r, i => by
  simp only [List.cons_append, zu, List.length_cons]
  rw [zC7 (l := l), and_assoc, show i + (l.length + 1) = i + 1 + l.length by omega]
theorem zEG {r : Int} (h : zV r = false) : 0 <= r /\ r <= 15 := by
 simp only [zV, Bool.or_eq_false_iff, decide_eq_false_iff_not] at h
 omega
theorem zCQ (w : Bool) (r b : Int) : 0 <= pfx w r b /\ pfx w r b < 16 /\ pfx w r b / 2 % 2 = 0 := by
 unfold pfx
 cases w <;> by_cases h1 : 7 < r <;> by_cases h2 : 7 < b <;> simp [h1, h2]
theorem zHE (w : Bool) (r b : Int) : hiW (pfx w r b) = w := by
 unfold pfx hiW
 cases w <;> by_cases h1 : 7 < r <;> by_cases h2 : 7 < b <;> simp [h1, h2]
theorem zLe (w : Bool) {r : Int} (b : Int) (h : zV r = false) : r % 8 + hiR (pfx w r b) = r := by
 have := zEG h
 unfold pfx hiR
 cases w <;> by_cases h1 : 7 < r <;> by_cases h2 : 7 < b <;> simp [h1, h2] <;> omega
theorem zEv (w : Bool) (r : Int) {b : Int} (h : zV b = false) : b % 8 + hiB (pfx w r b) = b := by
 have := zEG h
 unfold pfx hiB
 cases w <;> by_cases h1 : 7 < r <;> by_cases h2 : 7 < b <;> simp [h1, h2] <;> omega
theorem zQl (w : Bool) (b : Int) : pfx w 0 b / 4 % 2 = 0 := by
 unfold pfx
 cases w <;> by_cases h2 : 7 < b <;> simp [h2]
theorem zNt (b : Int) : pfx false 0 b / 4 = 0 := by
 unfold pfx
 by_cases h2 : 7 < b <;> simp [h2]
theorem zB2 (mm r b : Int) : zAm mm r b / 64 = mm /\ zAm mm r b / 8 % 8 = r % 8 /\ zAm mm r b % 8 = b % 8 := by
 unfold zAm; omega
theorem zFo {g : Nat -> Int} {i : Nat} {mm r b p : Int} (h : g i = zAm mm r b) : pr g i p = r % 8 + hiR p /\ pb g i p = b % 8 + hiB p /\ g i / 64 = mm := by
 have := zB2 mm r b
 unfold pr pb
 rw [h, this.2.1, this.2.2]
 exact ⟨rfl, rfl, this.1⟩
theorem zEk {g : Nat -> Int} {i : Nat} {v : Int} {long : Bool} (h : zu g i (numB v long)) (hv : zAs v long) : numV g i long = v /\ (numB v long).length = numK long := by
 unfold numB zAs numV numK at *
 cases long with
 | true =>
  simp only [if_true, le4, zu] at h hv ⊢
  obtain ⟨h0, h1, h2, h3, _⟩ := h
  refine ⟨?_, rfl⟩
  unfold u4 s32
  rw [h0, h1, h2, h3]
  split <;> omega
 | false =>
  simp only [Bool.false_eq_true, if_false, zu] at h hv ⊢
  obtain ⟨h0, _⟩ := h
  refine ⟨?_, rfl⟩
  unfold s8
  rw [h0]
  split <;> omega
theorem zPv {g : Nat -> Int} {i : Nat} {v : Int} (h : zu g i (le4 v)) (h0 : 0 <= v) (h1 : v <= 4294967295) : u4 g i = v := by
 simp only [le4, zu] at h
 obtain ⟨a, b, c, d, _⟩ := h
 unfold u4
 rw [a, b, c, d]
 omega
theorem zEU {g : Nat -> Int} {len i : Nat} {p c : Int} {r : List Int} (hp : 0 <= p /\ p < 16 /\ p / 2 % 2 = 0) (hc : c / 16 ≠ 4) (hr : zu g i (zAO p (c :: r))) (hl : i + (zAO p (c :: r)).length <= len) :
  ∃ j, zr g len i = decC g len p c j /\ zu g j r /\ j + r.length = i + (zAO p (c :: r)).length /\ j + r.length <= len := by
 unfold zAO at *
 by_cases h : p = 0
 ·subst h
  simp only [if_true, zu, List.length_cons] at hr hl ⊢
  refine ⟨i + 1, ?_, hr.2, by omega, by omega⟩
  unfold zr
  rw [if_neg (by omega), hr.1, if_neg hc]
 ·simp only [if_neg h, zu, List.length_cons] at hr hl ⊢
  refine ⟨i + 2, ?_, hr.2.2, by omega, by omega⟩
  unfold zr
  rw [if_neg (by omega), hr.1, hr.2.1, if_pos (by omega), if_neg (by omega), show (64 + p) % 16 = p by omega]
end Go.Proofs.YtajcmjjgnbaahaaGreat.Amd
