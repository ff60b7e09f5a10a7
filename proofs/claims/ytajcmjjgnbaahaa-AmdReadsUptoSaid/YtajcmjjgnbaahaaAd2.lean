/- What the reader's numbers and pairs of registers are. -/
import Derived.Test.YtajcmjjgnbaahaaAd1
import Derived.Test.YtajcmjjgnbaahaaAp3
namespace Go.Proofs.Ytajcmjjgnbaahaa.Amd
open Go Go.Proofs.Ytajcmjjgnbaahaa.Sx Go.RowKit
set_option linter.unusedVariables false
set_option linter.unusedSimpArgs false

theorem number_nf (g : Nat → Int) (len cap : Nat) (a p : Int) (b : Bool) (long : Bool) (v' a' : Int) (b' : Bool) : sxFunc P R1 (fun _ => 40) Try.f54 [.ptr 1 0, .bool (.var long)] [rdRow g cap, rdCells len cap a p b] (rdEnd g len cap p (.int .i64 (.var v')) a' b') =
    (BE.den (BE.ite (BE.var (decide (0 + cap ≤ cap))) (BE.var (decide (len ≤ cap))) (BE.lit false)) = true ∧ ((∃ (g_1 : Nat → Int), List.map Col.nrm (shiftAll (NE.lit 0) [col8 g]) = [Col.int IntKind.u8 fun e ↦ IE.var (g_1 e)]) ∧ RGood (g) len cap a p ∧ True) ∧ (BE.den (BE.not (BE.var long)) = true → IE.den (IE.conv IntKind.i64 (IE.conv IntKind.i8 (IE.conv IntKind.u32 (IE.var (nxV (g) len a))))) = v' ∧ len = len ∧ cap = cap ∧ nxA len a = a' ∧ p = p ∧ nxB len a b = b' ∧ cap = cap ∧ (∀ (e : Nat), e < cap → g e = g e) ∧ True) ∧ (BE.den (BE.not (BE.var long)) = false → BE.den (BE.ite (BE.var (decide (0 + cap ≤ cap))) (BE.var (decide (len ≤ cap))) (BE.lit false)) = true ∧ ((∃ (g_1 : Nat → Int), List.map Col.nrm (shiftAll (NE.lit 0) [col8 g]) = [Col.int IntKind.u8 fun e ↦ IE.var (g_1 e)]) ∧ RGood (g) len cap (nxA len a) p ∧ True) ∧ BE.den (BE.ite (BE.var (decide (0 + cap ≤ cap))) (BE.var (decide (len ≤ cap))) (BE.lit false)) = true ∧ ((∃ (g_1 : Nat → Int), List.map Col.nrm (shiftAll (NE.lit 0) [col8 g]) = [Col.int IntKind.u8 fun e ↦ IE.var (g_1 e)]) ∧ RGood (g) len cap (nxA len (nxA len a)) p ∧ True) ∧ BE.den (BE.ite (BE.var (decide (0 + cap ≤ cap))) (BE.var (decide (len ≤ cap))) (BE.lit false)) = true ∧ ((∃ (g_1 : Nat → Int), List.map Col.nrm (shiftAll (NE.lit 0) [col8 g]) = [Col.int IntKind.u8 fun e ↦ IE.var (g_1 e)]) ∧ RGood (g) len cap (nxA len (nxA len (nxA len a))) p ∧ True) ∧ IE.den (IE.conv IntKind.i64 (IE.conv IntKind.i32 (IE.bits BinOp.or IntKind.u32 (IE.bits BinOp.or IntKind.u32 (IE.bits BinOp.or IntKind.u32 (IE.conv IntKind.u32 (IE.var (nxV (g) len a))) (IE.shl IntKind.u32 (IE.conv IntKind.u32 (IE.var (nxV (g) len (nxA len a)))) (IE.lit 8))) (IE.shl IntKind.u32 (IE.conv IntKind.u32 (IE.var (nxV (g) len (nxA len (nxA len a))))) (IE.lit 16))) (IE.shl IntKind.u32 (IE.conv IntKind.u32 (IE.var (nxV (g) len (nxA len (nxA len (nxA len a)))))) (IE.lit 24))))) = v' ∧ len = len ∧ cap = cap ∧ nxA len (nxA len (nxA len (nxA len a))) = a' ∧ p = p ∧ nxB len (nxA len (nxA len (nxA len a))) (nxB len (nxA len (nxA len a)) (nxB len (nxA len a) (nxB len a b))) = b' ∧ cap = cap ∧ (∀ (e : Nat), e < cap → g e = g e) ∧ True)) := by kernel_rfl
theorem pair_nf (g : Nat → Int) (len cap : Nat) (a p : Int) (b : Bool) (mm : Int) (v1 v2 a' : Int) (b' : Bool) : sxFunc P R1 (fun _ => 40) Try.f56 [.ptr 1 0, .int .u8 (.var mm)] [rdRow g cap, rdCells len cap a p b] (rdEnd g len cap p (.tuple [.int .i64 (.var v1), .int .i64 (.var v2)]) a' b') =
    (BE.den (BE.ite (BE.var (decide (0 + cap ≤ cap))) (BE.var (decide (len ≤ cap))) (BE.lit false)) = true ∧ ((∃ (g_1 : Nat → Int), List.map Col.nrm (shiftAll (NE.lit 0) [col8 g]) = [Col.int IntKind.u8 fun e ↦ IE.var (g_1 e)]) ∧ RGood (g) len cap a p ∧ True) ∧ (nxB len a b = true → BE.den (BE.ite (BE.var (decide (0 + cap ≤ cap))) (BE.var (decide (len ≤ cap))) (BE.lit false)) = true ∧ ((∃ (g_1 : Nat → Int), List.map Col.nrm (shiftAll (NE.lit 0) [col8 g]) = [Col.int IntKind.u8 fun e ↦ IE.var (g_1 e)]) ∧ RGood (g) len cap (nxA len a) p ∧ True) ∧ BE.den (BE.ite (BE.var (decide (0 + cap ≤ cap))) (BE.var (decide (len ≤ cap))) (BE.lit false)) = true ∧ ((∃ (g_1 : Nat → Int), List.map Col.nrm (shiftAll (NE.lit 0) [col8 g]) = [Col.int IntKind.u8 fun e ↦ IE.var (g_1 e)]) ∧ RGood (g) len cap (nxA len a) p ∧ True) ∧ IE.den (IE.add IntKind.i64 (IE.conv IntKind.i64 (IE.bits BinOp.and IntKind.u8 (IE.shr IntKind.u8 (IE.var (nxV (g) len a)) (IE.lit 3)) (IE.lit 7))) (IE.var (hiV p 4))) = v1 ∧ IE.den (IE.add IntKind.i64 (IE.conv IntKind.i64 (IE.bits BinOp.and IntKind.u8 (IE.var (nxV (g) len a)) (IE.lit 7))) (IE.var (hiV p 1))) = v2 ∧ len = len ∧ cap = cap ∧ nxA len a = a' ∧ p = p ∧ BE.den (BE.lit true) = b' ∧ cap = cap ∧ (∀ (e : Nat), e < cap → g e = g e) ∧ True) ∧ (nxB len a b = false → BE.den (BE.ite (BE.var (decide (0 + cap ≤ cap))) (BE.var (decide (len ≤ cap))) (BE.lit false)) = true ∧ ((∃ (g_1 : Nat → Int), List.map Col.nrm (shiftAll (NE.lit 0) [col8 g]) = [Col.int IntKind.u8 fun e ↦ IE.var (g_1 e)]) ∧ RGood (g) len cap (nxA len a) p ∧ True) ∧ BE.den (BE.ite (BE.var (decide (0 + cap ≤ cap))) (BE.var (decide (len ≤ cap))) (BE.lit false)) = true ∧ ((∃ (g_1 : Nat → Int), List.map Col.nrm (shiftAll (NE.lit 0) [col8 g]) = [Col.int IntKind.u8 fun e ↦ IE.var (g_1 e)]) ∧ RGood (g) len cap (nxA len a) p ∧ True) ∧ IE.den (IE.add IntKind.i64 (IE.conv IntKind.i64 (IE.bits BinOp.and IntKind.u8 (IE.shr IntKind.u8 (IE.var (nxV (g) len a)) (IE.lit 3)) (IE.lit 7))) (IE.var (hiV p 4))) = v1 ∧ IE.den (IE.add IntKind.i64 (IE.conv IntKind.i64 (IE.bits BinOp.and IntKind.u8 (IE.var (nxV (g) len a)) (IE.lit 7))) (IE.var (hiV p 1))) = v2 ∧ len = len ∧ cap = cap ∧ nxA len a = a' ∧ p = p ∧ BE.den (BE.cmp BinOp.neq (IE.shr IntKind.u8 (IE.var (nxV (g) len a)) (IE.lit 6)) (IE.var mm)) = b' ∧ cap = cap ∧ (∀ (e : Nat), e < cap → g e = g e) ∧ True)) := by kernel_rfl
theorem none_nf (g : Nat → Int) (len cap : Nat) (a p : Int) (b : Bool) (mm : Int) (a' : Int) (b' : Bool) : sxFunc P R1 (fun _ => 40) Try.f52 [.ptr 1 0, .int .u8 (.var mm)] [rdRow g cap, rdCells len cap a p b] (rdEnd g len cap p (.tuple []) a' b') =
    ((b = true → len = len ∧ cap = cap ∧ a = a' ∧ p = p ∧ BE.den (BE.lit true) = b' ∧ cap = cap ∧ (∀ (e : Nat), e < cap → g e = g e) ∧ True) ∧ (b = false → len = len ∧ cap = cap ∧ a = a' ∧ p = p ∧ BE.den (BE.cmp BinOp.neq (IE.bits BinOp.and IntKind.u8 (IE.var p) (IE.var mm)) (IE.lit 0)) = b' ∧ cap = cap ∧ (∀ (e : Nat), e < cap → g e = g e) ∧ True)) := by kernel_rfl
theorem want_nf (g : Nat → Int) (len cap : Nat) (a p : Int) (b : Bool) (mm : Int) (a' : Int) (b' : Bool) : sxFunc P R1 (fun _ => 40) Try.f62 [.ptr 1 0, .int .u8 (.var mm)] [rdRow g cap, rdCells len cap a p b] (rdEnd g len cap p (.tuple []) a' b') =
    (BE.den (BE.ite (BE.var (decide (0 + cap ≤ cap))) (BE.var (decide (len ≤ cap))) (BE.lit false)) = true ∧ ((∃ (g_1 : Nat → Int), List.map Col.nrm (shiftAll (NE.lit 0) [col8 g]) = [Col.int IntKind.u8 fun e ↦ IE.var (g_1 e)]) ∧ RGood (g) len cap a p ∧ True) ∧ (BE.den (BE.cmp BinOp.neq (IE.var (nxV (g) len a)) (IE.var mm)) = true → len = len ∧ cap = cap ∧ nxA len a = a' ∧ p = p ∧ BE.den (BE.lit true) = b' ∧ cap = cap ∧ (∀ (e : Nat), e < cap → g e = g e) ∧ True) ∧ (BE.den (BE.cmp BinOp.neq (IE.var (nxV (g) len a)) (IE.var mm)) = false → len = len ∧ cap = cap ∧ nxA len a = a' ∧ p = p ∧ nxB len a b = b' ∧ cap = cap ∧ (∀ (e : Nat), e < cap → g e = g e) ∧ True)) := by kernel_rfl

theorem wrap_i8 (n : Int) : IntKind.i8.wrap n = if n % 256 ≥ 128 then n % 256 - 256 else n % 256 := by simp [IntKind.wrap, IntKind.bits, IntKind.signed]
theorem wrap_i32 (n : Int) : IntKind.i32.wrap n = if n % 4294967296 ≥ 2147483648 then n % 4294967296 - 4294967296 else n % 4294967296 := by simp [IntKind.wrap, IntKind.bits, IntKind.signed]
theorem and_u8 (x y : Nat) (hx : x < 2 ^ 8) (hy : y < 2 ^ 8) : bitsI .and .u8 x y = ((x &&& y : Nat) : Int) :=
  bits_u (· &&& ·) .and .u8 8 rfl rfl x y hx hy (fun a b ha hb => Nat.and_lt_two_pow _ hb) (fun a b => by simp [bitsI])
theorem or_u8 (x y : Nat) (hx : x < 2 ^ 8) (hy : y < 2 ^ 8) : bitsI .or .u8 x y = ((x ||| y : Nat) : Int) :=
  bits_u (· ||| ·) .or .u8 8 rfl rfl x y hx hy (fun a b ha hb => Nat.or_lt_two_pow ha hb) (fun a b => by simp [bitsI])
theorem and_mask_u8 (x : Int) (k : Nat) (hk : k ≤ 8) (h0 : 0 ≤ x) (h1 : x < 256) : bitsI .and .u8 x (2 ^ k - 1) = x % 2 ^ k := by
  obtain ⟨n, rfl⟩ := Int.eq_ofNat_of_zero_le h0
  have hp : 2 ^ k ≤ 2 ^ 8 := Nat.pow_le_pow_right (by decide) hk
  have hpos : 0 < 2 ^ k := Nat.two_pow_pos k
  have e : ((2 : Int) ^ k - 1) = ((2 ^ k - 1 : Nat) : Int) := by
    rw [Int.natCast_sub hpos]; simp
  rw [e, and_u8 n _ (by omega) (by omega), Nat.and_two_pow_sub_one_eq_mod]
  simp
theorem and7 {x : Int} (h0 : 0 ≤ x) (h1 : x < 256) : bitsI .and .u8 x 7 = x % 8 := by
  have := and_mask_u8 x 3 (by decide) h0 h1
  simpa using this
theorem and15 {x : Int} (h0 : 0 ≤ x) (h1 : x < 256) : bitsI .and .u8 x 15 = x % 16 := by
  have := and_mask_u8 x 4 (by decide) h0 h1
  simpa using this
theorem shr_u8 (x : Int) (n : Nat) (hn : n ≤ 8) : shrI .u8 x n = x / 2 ^ n := shr_ediv .u8 x n (by simpa [IntKind.bits] using hn)
theorem hiV4 {p : Int} (h0 : 0 ≤ p) (h1 : p < 16) : hiV p 4 = hiR p := by
  have : ∀ n : Fin 16, hiV ((n.val : Nat) : Int) 4 = hiR ((n.val : Nat) : Int) := by decide
  have h := this ⟨p.toNat, by omega⟩
  simpa [Int.toNat_of_nonneg h0] using h
theorem hiV1 {p : Int} (h0 : 0 ≤ p) (h1 : p < 16) : hiV p 1 = hiB p := by
  have : ∀ n : Fin 16, hiV ((n.val : Nat) : Int) 1 = hiB ((n.val : Nat) : Int) := by decide
  have h := this ⟨p.toNat, by omega⟩
  simpa [Int.toNat_of_nonneg h0] using h
theorem shl32 {b : Int} (s : Nat) (hs : s ≤ 24) (h0 : 0 ≤ b) (h1 : b < 256) : shlI .u32 (IntKind.u32.wrap b) s = b * 2 ^ s := by
  have hle : (2 : Int) ^ s ≤ 2 ^ 24 := by exact_mod_cast Nat.pow_le_pow_right (by decide : 0 < 2) hs
  have hp : (0 : Int) < 2 ^ s := Int.pow_pos (by decide)
  have h2 : b * 2 ^ s ≤ 255 * 2 ^ 24 := Int.mul_le_mul (by omega) hle (Int.le_of_lt hp) (by decide)
  have h3 : 0 ≤ b * 2 ^ s := Int.mul_nonneg h0 (Int.le_of_lt hp)
  rw [wrap_u32_in h0 (by omega), shl_mul .u32 b s (by simp [IntKind.bits]; omega)]
  exact wrap_u32_in h3 (by omega)
theorem or4 {b0 b1 b2 b3 : Int} (h0 : 0 ≤ b0 ∧ b0 < 256) (h1 : 0 ≤ b1 ∧ b1 < 256) (h2 : 0 ≤ b2 ∧ b2 < 256) (h3 : 0 ≤ b3 ∧ b3 < 256) :
    IE.den (.bits .or .u32 (.bits .or .u32 (.bits .or .u32 (.conv .u32 (.var b0)) (.shl .u32 (.conv .u32 (.var b1)) (.lit 8))) (.shl .u32 (.conv .u32 (.var b2)) (.lit 16))) (.shl .u32 (.conv .u32 (.var b3)) (.lit 24))) = b0 + b1 * 256 + b2 * 65536 + b3 * 16777216 := by
  have s0 := Sub.shift b0 8 0 h0.1 (by simpa using h0.2)
  have s1 := Sub.shift b1 8 8 h1.1 (by simpa using h1.2)
  have s2 := Sub.shift b2 8 16 h2.1 (by simpa using h2.2)
  have s3 := Sub.shift b3 8 24 h3.1 (by simpa using h3.2)
  have o1 := Sub.or s0 s1 (by decide) (by decide) (by decide)
  have o2 := Sub.or o1.2 s2 (by decide) (by decide) (by decide)
  have o3 := Sub.or o2.2 s3 (by decide) (by decide) (by decide)
  simp only [IE.den]
  have e1 : shlI .u32 (IntKind.u32.wrap b1) 8 = b1 * 2 ^ 8 := shl32 8 (by decide) h1.1 h1.2
  have e2 : shlI .u32 (IntKind.u32.wrap b2) 16 = b2 * 2 ^ 16 := shl32 16 (by decide) h2.1 h2.2
  have e3 : shlI .u32 (IntKind.u32.wrap b3) 24 = b3 * 2 ^ 24 := shl32 24 (by decide) h3.1 h3.2
  rw [wrap_u32_in h0.1 (by omega)]
  have e0 : b0 = b0 * 2 ^ 0 := by omega
  rw [e1, e2, e3, e0, o1.1, o2.1, o3.1]
  omega

theorem ask2 {len cap : Nat} (h : len ≤ cap) : BE.den (BE.ite (BE.var (decide (0 + cap ≤ cap))) (BE.var (decide (len ≤ cap))) (BE.lit false)) = true := ask_ix (by simp) (by simpa using h)
theorem preG {g : Nat → Int} {len cap : Nat} {a p : Int} (h : RGood g len cap a p) : (∃ (g_1 : Nat → Int), List.map Col.nrm (shiftAll (NE.lit 0) [col8 g]) = [Col.int IntKind.u8 fun e ↦ IE.var (g_1 e)]) ∧ RGood g len cap a p ∧ True := ⟨⟨g, rfl⟩, h, trivial⟩
theorem RGood.next {g : Nat → Int} {len cap : Nat} {a p : Int} (h : RGood g len cap a p) : RGood g len cap (nxA len a) p := by
  have h0 := h.pos0
  have h1 := h.pos1
  refine ⟨h.room, h.small, ?_, ?_, h.p0, h.p1, h.byte⟩ <;> unfold nxA <;> split <;> omega
theorem RGood.nx {g : Nat → Int} {len cap : Nat} {a p : Int} (h : RGood g len cap a p) : 0 ≤ nxV g len a ∧ nxV g len a < 256 := by
  have h0 := h.pos0
  unfold nxV
  split
  · exact h.byte _ (by omega)
  · omega

/-! A number. -/
def nuV (g : Nat → Int) (len : Nat) (a : Int) (long : Bool) : Int :=
  if long = true then s32 (nxV g len a + nxV g len (nxA len a) * 256 + nxV g len (nxA len (nxA len a)) * 65536 + nxV g len (nxA len (nxA len (nxA len a))) * 16777216) else s8 (nxV g len a)
def nuA (len : Nat) (a : Int) (long : Bool) : Int := if long = true then nxA len (nxA len (nxA len (nxA len a))) else nxA len a
def nuB (len : Nat) (a : Int) (b : Bool) (long : Bool) : Bool := if long = true then nxB len (nxA len (nxA len (nxA len a))) (nxB len (nxA len (nxA len a)) (nxB len (nxA len a) (nxB len a b))) else nxB len a b
theorem RGood.num {g : Nat → Int} {len cap : Nat} {a p : Int} (h : RGood g len cap a p) (long : Bool) : RGood g len cap (nuA len a long) p := by
  unfold nuA
  split
  · exact h.next.next.next.next
  · exact h.next
def arB : List SV → Option Bool
  | [.bool e] => some e.den
  | _ => none
theorem arB_S (pl : List SV) (x : Bool) (h : arB pl = some x) : formalArgs [.plain] [] pl [] 1 = [.bool (.var x)] := by
  unfold arB at h
  split at h
  · simp only [Option.some.injEq] at h; subst h; rfl
  · simp at h
abbrev numberM : SpecFn := mtSpec rdTy rdK [.plain] (rdPre arB) (rdOuts arB (fun g len a _ _ x => .int .i64 (.var (nuV g len a x))) (fun _ len a p b x => rdCs (nuA len a x) p (nuB len a b x)))
abbrev numberG : Guess := mtGuess rdTy rdK [.plain] (rdOuts arB (fun g len a _ _ x => .int .i64 (.var (nuV g len a x))) (fun _ len a p b x => rdCs (nuA len a x) p (nuB len a b x)))
theorem not_true {b : Bool} (h : BE.den (.not (.var b)) = true) : b = false := by simpa [BE.den] using h
theorem not_false' {b : Bool} (h : BE.den (.not (.var b)) = false) : b = true := by simpa [BE.den] using h
theorem number_ok : SpecOk P 54 numberM := by
  have hs := func_sound (un := fun _ => 40) R1_ok Try.func54
  refine meth_spec hs (by simp) (arS := fun x => [.bool (.var x)]) arB_S (posF := fun _ len a _ _ x => nuA len a x) (badF := fun _ len a _ b x => nuB len a b x) (fun _ _ _ _ _ _ => trivial) (fun _ _ _ _ _ _ => rfl) ?_
  intro g len cap a p b x hg
  rw [number_nf]
  have hb := hg.nx
  refine ⟨ask2 hg.room, preG hg, fun h => ?_, fun h => ?_⟩
  · obtain rfl := not_true h
    refine ⟨?_, rfl, rfl, rfl, rfl, rfl, rfl, fun _ _ => rfl, trivial⟩
    simp only [IE.den, nuV, Bool.false_eq_true, if_false]
    rw [wrap_u32_in hb.1 (by omega), wrap_i8]
    unfold s8
    split <;> split <;> (rw [wrap_i64_in (by omega) (by omega)]; omega)
  · obtain rfl := not_false' h
    refine ⟨ask2 hg.room, preG hg.next, ask2 hg.room, preG hg.next.next, ask2 hg.room, preG hg.next.next.next, ?_, rfl, rfl, rfl, rfl, rfl, rfl, fun _ _ => rfl, trivial⟩
    have h1 := hg.next.nx
    have h2 := hg.next.next.nx
    have h3 := hg.next.next.next.nx
    have e := or4 hb h1 h2 h3
    rw [show nuV g len a true = s32 (nxV g len a + nxV g len (nxA len a) * 256 + nxV g len (nxA len (nxA len a)) * 65536 + nxV g len (nxA len (nxA len (nxA len a))) * 16777216) from rfl, ← e]
    rw [show ∀ X : IE, IE.den (.conv .i64 (.conv .i32 X)) = IntKind.i64.wrap (IntKind.i32.wrap X.den) from fun _ => rfl]
    generalize IE.den _ = z at *
    rw [wrap_i32]
    unfold s32
    split <;> split <;> (rw [wrap_i64_in (by omega) (by omega)]; omega)

/-! Two registers. -/
def paR (g : Nat → Int) (len : Nat) (a p : Int) : Int := nxV g len a / 8 % 8 + hiR p
def paB (g : Nat → Int) (len : Nat) (a p : Int) : Int := nxV g len a % 8 + hiB p
def paF (g : Nat → Int) (len : Nat) (a : Int) (b : Bool) (mm : Int) : Bool := nxB len a b || !decide (nxV g len a / 64 = mm)
abbrev pairM : SpecFn := mtSpec rdTy rdK [.plain] (rdPre ar8) (rdOuts ar8 (fun g len a p _ _ => .tuple [.int .i64 (.var (paR g len a p)), .int .i64 (.var (paB g len a p))]) (fun g len a p b x => rdCs (nxA len a) p (paF g len a b x)))
abbrev pairG : Guess := mtGuess rdTy rdK [.plain] (rdOuts ar8 (fun g len a p _ _ => .tuple [.int .i64 (.var (paR g len a p)), .int .i64 (.var (paB g len a p))]) (fun g len a p b x => rdCs (nxA len a) p (paF g len a b x)))
theorem paR_den {g : Nat → Int} {len cap : Nat} {a p : Int} (h : RGood g len cap a p) : IE.den (IE.add IntKind.i64 (IE.conv IntKind.i64 (IE.bits BinOp.and IntKind.u8 (IE.shr IntKind.u8 (IE.var (nxV (g) len a)) (IE.lit 3)) (IE.lit 7))) (IE.var (hiV p 4))) = paR g len a p := by
  have hb := h.nx
  have hh := hiR_or p
  simp only [IE.den, hiV4 h.p0 h.p1]
  rw [show shrI .u8 (nxV g len a) 3 = nxV g len a / 2 ^ 3 from shr_u8 _ 3 (by decide), and7 (by omega) (by omega)]
  unfold paR
  rw [wrap_i64_in (n := nxV g len a / 2 ^ 3 % 8) (by omega) (by omega), wrap_i64_in (by omega) (by omega)]
  rfl
theorem paB_den {g : Nat → Int} {len cap : Nat} {a p : Int} (h : RGood g len cap a p) : IE.den (IE.add IntKind.i64 (IE.conv IntKind.i64 (IE.bits BinOp.and IntKind.u8 (IE.var (nxV (g) len a)) (IE.lit 7))) (IE.var (hiV p 1))) = paB g len a p := by
  have hb := h.nx
  have hh := hiB_or p
  simp only [IE.den, hiV1 h.p0 h.p1]
  rw [and7 (by omega) (by omega)]
  unfold paB
  rw [wrap_i64_in (n := nxV g len a % 8) (by omega) (by omega), wrap_i64_in (by omega) (by omega)]
theorem shr6_den {x mm : Int} : BE.den (BE.cmp BinOp.neq (IE.shr IntKind.u8 (IE.var x) (IE.lit 6)) (IE.var mm)) = !decide (x / 64 = mm) := by
  simp only [BE.den, IE.den, cmpI_neq]
  rw [show shrI .u8 x 6 = x / 2 ^ 6 from shr_u8 _ 6 (by decide)]
  rfl
theorem pair_ok : SpecOk P 56 pairM := by
  have hs := func_sound (un := fun _ => 40) R1_ok Try.func56
  refine meth_spec hs (by simp) (arS := fun x => [.int .u8 (.var x)]) ar8_S (posF := fun _ len a _ _ _ => nxA len a) (badF := fun g len a _ b x => paF g len a b x) (fun _ _ _ _ _ _ => ⟨trivial, trivial, trivial⟩) (fun _ _ _ _ _ _ => rfl) ?_
  intro g len cap a p b x hg
  rw [pair_nf]
  refine ⟨ask2 hg.room, preG hg, fun h => ?_, fun h => ?_⟩
  · refine ⟨ask2 hg.room, preG hg.next, ask2 hg.room, preG hg.next, paR_den hg, paB_den hg, rfl, rfl, rfl, rfl, ?_, rfl, fun _ _ => rfl, trivial⟩
    unfold paF; rw [h]; rfl
  · refine ⟨ask2 hg.room, preG hg.next, ask2 hg.room, preG hg.next, paR_den hg, paB_den hg, rfl, rfl, rfl, rfl, ?_, rfl, fun _ _ => rfl, trivial⟩
    unfold paF; rw [h, shr6_den]; rfl

/-! Bits that must not be; a byte that must. -/
def noF (p mm : Int) (b : Bool) : Bool := b || !decide (bitsI .and .u8 p mm = 0)
def waF (g : Nat → Int) (len : Nat) (a : Int) (b : Bool) (mm : Int) : Bool := nxB len a b || !decide (nxV g len a = mm)
abbrev noneM : SpecFn := mtSpec rdTy rdK [.plain] (rdPre ar8) (rdOuts ar8 (fun _ _ _ _ _ _ => .tuple []) (fun _ _ a p b x => rdCs a p (noF p x b)))
abbrev noneG : Guess := mtGuess rdTy rdK [.plain] (rdOuts ar8 (fun _ _ _ _ _ _ => .tuple []) (fun _ _ a p b x => rdCs a p (noF p x b)))
abbrev wantM : SpecFn := mtSpec rdTy rdK [.plain] (rdPre ar8) (rdOuts ar8 (fun _ _ _ _ _ _ => .tuple []) (fun g len a p b x => rdCs (nxA len a) p (waF g len a b x)))
abbrev wantG : Guess := mtGuess rdTy rdK [.plain] (rdOuts ar8 (fun _ _ _ _ _ _ => .tuple []) (fun g len a p b x => rdCs (nxA len a) p (waF g len a b x)))
theorem none_ok : SpecOk P 52 noneM := by
  have hs := func_sound (un := fun _ => 40) R1_ok Try.func52
  refine meth_spec hs (by simp) (arS := fun x => [.int .u8 (.var x)]) ar8_S (posF := fun _ _ a _ _ _ => a) (badF := fun _ _ _ p b x => noF p x b) (fun _ _ _ _ _ _ => trivial) (fun _ _ _ _ _ _ => rfl) ?_
  intro g len cap a p b x hg
  rw [none_nf]
  refine ⟨fun h => ?_, fun h => ?_⟩
  · exact ⟨rfl, rfl, rfl, rfl, by unfold noF; rw [h]; rfl, rfl, fun _ _ => rfl, trivial⟩
  · exact ⟨rfl, rfl, rfl, rfl, by unfold noF; rw [h]; simp only [BE.den, IE.den, cmpI_neq]; rfl, rfl, fun _ _ => rfl, trivial⟩
theorem want_ok : SpecOk P 62 wantM := by
  have hs := func_sound (un := fun _ => 40) R1_ok Try.func62
  refine meth_spec hs (by simp) (arS := fun x => [.int .u8 (.var x)]) ar8_S (posF := fun _ len a _ _ _ => nxA len a) (badF := fun g len a _ b x => waF g len a b x) (fun _ _ _ _ _ _ => trivial) (fun _ _ _ _ _ _ => rfl) ?_
  intro g len cap a p b x hg
  rw [want_nf]
  refine ⟨ask2 hg.room, preG hg, fun h => ?_, fun h => ?_⟩
  · have h : ¬ nxV g len a = x := by simpa [BE.den, IE.den, cmpI_neq] using h
    exact ⟨rfl, rfl, rfl, rfl, by simp [waF, h, BE.den], rfl, fun _ _ => rfl, trivial⟩
  · have h : nxV g len a = x := by simpa [BE.den, IE.den, cmpI_neq] using h
    exact ⟨rfl, rfl, rfl, rfl, by simp [waF, h], rfl, fun _ _ => rfl, trivial⟩

def rdT2 : List (FuncId × Cal) :=
  [(25, .spec nextM nextG), (34, .spec aheadM aheadG), (53, .spec highM highG),
   (54, .spec numberM numberG), (56, .spec pairM pairG), (52, .spec noneM noneG), (62, .spec wantM wantG)]
theorem rdT2_ok : GammaOk P (table rdT2) :=
  table_cons next_ok (table_cons ahead_ok (table_cons high_ok (table_cons number_ok (table_cons pair_ok (table_cons none_ok (table_cons want_ok (fun g s h => by simp [table] at h)))))))
noncomputable def R2 : FuncId → Option Cal := inl P (fun _ _ => 40) (table rdT2) 6
theorem R2_ok : GammaOk P R2 := inl_ok rdT2_ok 6
end Go.Proofs.Ytajcmjjgnbaahaa.Amd
