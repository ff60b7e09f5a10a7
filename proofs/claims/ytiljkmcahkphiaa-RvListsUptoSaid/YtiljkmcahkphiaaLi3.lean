/- Read of lists: what the calls say. -/
import Derived.Test.YtiljkmcahkphiaaLi2
import Derived.Test.YtiljkmcahkphiaaBm
namespace Go.Proofs.Ytiljkmcahkphiaa.Rv
open Go Go.Proofs.Ytiljkmcahkphiaa.Sx Go.RowKit
set_option linter.unusedVariables false
set_option linter.unusedSimpArgs false

theorem ie_var (n : Int) : IE.den (.var n) = n := rfl
theorem some_un {f : FuncId} {G : FuncId → Option Cal} {fn : Func} (h : ∀ un, SpecOk P f (sxFunc P G un fn)) : SpecOk P f (fun args hp K => ∃ un, sxFunc P G un fn args hp K) := by
  intro B ν hp w args K h1 h2 h3 ⟨un, hx⟩
  exact h un B ν hp w args K h1 h2 h3 hx

theorem neq_true {x : Int} (h : BE.den (.cmp .neq (.var x) (.lit 0)) = true) : x ≠ 0 := by simpa [BE.den, IE.den, cmpI_neq] using h
theorem neq_false {x : Int} (h : BE.den (.cmp .neq (.var x) (.lit 0)) = false) : x = 0 := by simpa [BE.den, IE.den, cmpI_neq] using h
theorem lss_true {x y : Int} (h : BE.den (.cmp .lss (.var x) (.var y)) = true) : x < y := by simpa [BE.den, IE.den, cmpI_lss] using h
theorem lss_false {x y : Int} (h : BE.den (.cmp .lss (.var x) (.var y)) = false) : y ≤ x := by simpa [BE.den, IE.den, cmpI_lss] using h
theorem ask_ix {a b : Bool} (ha : a = true) (hb : b = true) : BE.den (.ite (.var a) (.var b) (.lit false)) = true := by simp [BE.den, ha, hb]
theorem ins_ext {x : RvIns} {a b c d e : Int} (h0 : a = x.op) (h1 : b = x.rd) (h2 : c = x.r1) (h3 : d = x.r2) (h4 : e = x.imm) (h5 : x.err = 0) : (⟨a, b, c, d, e, 0⟩ : RvIns) = x := by
  cases x; simp_all
theorem blt_t {i k : Nat} (h : i < k) : Nat.blt i k = true := by simp [Nat.blt, Nat.ble_eq]; omega
theorem blt_f {i k : Nat} (h : k ≤ i) : Nat.blt i k = false := by
  cases hb : Nat.blt i k with
  | false => rfl
  | true => simp [Nat.blt, Nat.ble_eq] at hb; omega
theorem col_lt {A Z : IE} {i k : Nat} (h : i < k) : IE.den (Bool.rec (motive := fun _ => IE) A Z (Nat.blt i k)) = Z.den := by rw [blt_t h]
theorem col_at {X Y Z : IE} {i k : Nat} (h : i = k) : IE.den (Bool.rec (motive := fun _ => IE) (bif Nat.blt i (k + (0 + 1)) then X else Y) Z (Nat.blt i k)) = X.den := by
  subst h
  rw [blt_f (Nat.le_refl _), blt_t (show i < i + (0 + 1) by omega)]; rfl

theorem col_new {X Y Z : IE} {i k n : Nat} (hn : n = k + 1) {x : Int} (h1 : i < k → Z.den = x) (h2 : i = k → X.den = x) (h3 : k < i → Y.den = x) : IE.den (Bool.rec (motive := fun _ => IE) (bif Nat.blt i n then X else Y) Z (Nat.blt i k)) = x := by
  subst hn
  by_cases h : i < k
  · rw [blt_t h]; exact h1 h
  · have hb : Nat.blt i k = false := blt_f (by omega)
    rw [hb]
    by_cases h' : i = k
    · rw [blt_t (show i < k + 1 by omega)]; exact h2 h'
    · rw [blt_f (show k + 1 ≤ i by omega)]; exact h3 (by omega)
theorem at_op (dec : Int → RvIns) {x : RvIns} {N : Int} (hx : dec N = x) {k e : Nat} (h : e = k) : IE.den (match [SV.int IntKind.i64 (IE.var (RvIns.op (dec N))), SV.int IntKind.i64 (IE.var (RvIns.rd (dec N))), SV.int IntKind.i64 (IE.var (RvIns.r1 (dec N))), SV.int IntKind.i64 (IE.var (RvIns.r2 (dec N))), SV.int IntKind.i64 (IE.var (RvIns.imm (dec N)))][(0 / 5 + (e - k)) * 5 + 0]? with | some (SV.int k a) => a | x => IE.lit 0) = x.op := by
  subst h; subst hx
  rw [Nat.sub_self]; rfl
theorem at_rd (dec : Int → RvIns) {x : RvIns} {N : Int} (hx : dec N = x) {k e : Nat} (h : e = k) : IE.den (match [SV.int IntKind.i64 (IE.var (RvIns.op (dec N))), SV.int IntKind.i64 (IE.var (RvIns.rd (dec N))), SV.int IntKind.i64 (IE.var (RvIns.r1 (dec N))), SV.int IntKind.i64 (IE.var (RvIns.r2 (dec N))), SV.int IntKind.i64 (IE.var (RvIns.imm (dec N)))][(0 / 5 + (e - k)) * 5 + 1]? with | some (SV.int k a) => a | x => IE.lit 0) = x.rd := by
  subst h; subst hx
  rw [Nat.sub_self]; rfl
theorem at_r1 (dec : Int → RvIns) {x : RvIns} {N : Int} (hx : dec N = x) {k e : Nat} (h : e = k) : IE.den (match [SV.int IntKind.i64 (IE.var (RvIns.op (dec N))), SV.int IntKind.i64 (IE.var (RvIns.rd (dec N))), SV.int IntKind.i64 (IE.var (RvIns.r1 (dec N))), SV.int IntKind.i64 (IE.var (RvIns.r2 (dec N))), SV.int IntKind.i64 (IE.var (RvIns.imm (dec N)))][(0 / 5 + (e - k)) * 5 + 2]? with | some (SV.int k a) => a | x => IE.lit 0) = x.r1 := by
  subst h; subst hx
  rw [Nat.sub_self]; rfl
theorem at_r2 (dec : Int → RvIns) {x : RvIns} {N : Int} (hx : dec N = x) {k e : Nat} (h : e = k) : IE.den (match [SV.int IntKind.i64 (IE.var (RvIns.op (dec N))), SV.int IntKind.i64 (IE.var (RvIns.rd (dec N))), SV.int IntKind.i64 (IE.var (RvIns.r1 (dec N))), SV.int IntKind.i64 (IE.var (RvIns.r2 (dec N))), SV.int IntKind.i64 (IE.var (RvIns.imm (dec N)))][(0 / 5 + (e - k)) * 5 + 3]? with | some (SV.int k a) => a | x => IE.lit 0) = x.r2 := by
  subst h; subst hx
  rw [Nat.sub_self]; rfl
theorem at_imm (dec : Int → RvIns) {x : RvIns} {N : Int} (hx : dec N = x) {k e : Nat} (h : e = k) : IE.den (match [SV.int IntKind.i64 (IE.var (RvIns.op (dec N))), SV.int IntKind.i64 (IE.var (RvIns.rd (dec N))), SV.int IntKind.i64 (IE.var (RvIns.r1 (dec N))), SV.int IntKind.i64 (IE.var (RvIns.r2 (dec N))), SV.int IntKind.i64 (IE.var (RvIns.imm (dec N)))][(0 / 5 + (e - k)) * 5 + 4]? with | some (SV.int k a) => a | x => IE.lit 0) = x.imm := by
  subst h; subst hx
  rw [Nat.sub_self]; rfl
/-- What has been read, and one more. -/
def newH (k : Nat) (H : Nat → RvIns) (x : RvIns) (U : Unk) (e : Nat) : RvIns := if e < k then H e else if e = k then x else ⟨U.i 0 e, U.i 1 e, U.i 2 e, U.i 3 e, U.i 4 e, 0⟩
theorem newH_lt {k : Nat} {H : Nat → RvIns} {x : RvIns} {U : Unk} {e : Nat} (h : e < k) : newH k H x U e = H e := if_pos h
theorem newH_at {k : Nat} {H : Nat → RvIns} {x : RvIns} {U : Unk} {e : Nat} (h : e = k) : newH k H x U e = x := by subst h; simp [newH]
theorem newH_gt {k : Nat} {H : Nat → RvIns} {x : RvIns} {U : Unk} {e : Nat} (h : k < e) : newH k H x U e = ⟨U.i 0 e, U.i 1 e, U.i 2 e, U.i 3 e, U.i 4 e, 0⟩ := by
  unfold newH; rw [if_neg (by omega), if_neg (by omega)]

theorem shl64 {b : Int} (s : Nat) (hs : s ≤ 24) (h0 : 0 ≤ b) (h1 : b < 256) : shlI .u64 (IntKind.u64.wrap b) s = b * 2 ^ s := by
  have hle : (2 : Int) ^ s ≤ 2 ^ 24 := ipow_le hs
  have hp : (0 : Int) < 2 ^ s := Int.pow_pos (by decide)
  have h2 : b * 2 ^ s ≤ 255 * 2 ^ 24 := Int.mul_le_mul (by omega) hle (Int.le_of_lt hp) (by decide)
  have h3 : 0 ≤ b * 2 ^ s := Int.mul_nonneg h0 (Int.le_of_lt hp)
  rw [wrap_u64_in h0 (by omega), shl_mul .u64 b s (by simp [IntKind.bits]; omega)]
  exact wrap_u64_in h3 (by omega)
theorem loadE {b0 b1 b2 b3 : Int} (h0 : 0 ≤ b0 ∧ b0 < 256) (h1 : 0 ≤ b1 ∧ b1 < 256) (h2 : 0 ≤ b2 ∧ b2 < 256) (h3 : 0 ≤ b3 ∧ b3 < 256) :
    IE.den (.conv .u32 (.bits .or .u64 (.bits .or .u64 (.bits .or .u64 (.bits .or .u64 (.lit 0) (.shl .u64 (.conv .u64 (.var b0)) (.lit 0))) (.shl .u64 (.conv .u64 (.var b1)) (.lit 8))) (.shl .u64 (.conv .u64 (.var b2)) (.lit 16))) (.shl .u64 (.conv .u64 (.var b3)) (.lit 24)))) = b0 + b1 * 256 + b2 * 65536 + b3 * 16777216 := by
  have s0 := Sub.shift b0 8 0 h0.1 (by simpa using h0.2)
  have s1 := Sub.shift b1 8 8 h1.1 (by simpa using h1.2)
  have s2 := Sub.shift b2 8 16 h2.1 (by simpa using h2.2)
  have s3 := Sub.shift b3 8 24 h3.1 (by simpa using h3.2)
  have o0 := or64 (Sub.zero 0) s0 (by decide) (by decide) (by decide)
  have o1 := or64 o0.2 s1 (by decide) (by decide) (by decide)
  have o2 := or64 o1.2 s2 (by decide) (by decide) (by decide)
  have o3 := or64 o2.2 s3 (by decide) (by decide) (by decide)
  simp only [IE.den]
  have e0 : shlI .u64 (IntKind.u64.wrap b0) 0 = b0 * 2 ^ 0 := shl64 0 (by decide) h0.1 h0.2
  have e1 : shlI .u64 (IntKind.u64.wrap b1) 8 = b1 * 2 ^ 8 := shl64 8 (by decide) h1.1 h1.2
  have e2 : shlI .u64 (IntKind.u64.wrap b2) 16 = b2 * 2 ^ 16 := shl64 16 (by decide) h2.1 h2.2
  have e3 : shlI .u64 (IntKind.u64.wrap b3) 24 = b3 * 2 ^ 24 := shl64 24 (by decide) h3.1 h3.2
  rw [e0, e1, e2, e3, o0.1, o1.1, o2.1, o3.1, wrap_u32]
  simp
  omega
theorem shlOr {x b : Int} {m : Nat} (hx : Sub m x) (hm : m < 2 ^ 24) (h0 : 0 ≤ b) (h1 : b < 256) : bitsI .or .u64 (shlI .u64 x 8) (IntKind.u64.wrap b) = x * 256 + b ∧ Sub (m * 256 + 255) (x * 256 + b) := by
  have l := hx.lt
  have e : shlI .u64 x 8 = x * 256 := by
    have := shl_mul .u64 x 8 (by simp [IntKind.bits])
    rw [show ((8 : Nat) : Int) = 8 from rfl] at this
    rw [this]
    exact wrap_u64_in (by simp; omega) (by simp; omega)
  obtain ⟨n, rfl, hn⟩ := hx
  obtain ⟨k, rfl⟩ := Int.eq_ofNat_of_zero_le h0
  have hk : k < 256 := by omega
  have hm2 : n * 256 &&& 255 = 0 := by
    rw [show (255 : Nat) = 2 ^ 8 - 1 from rfl, Nat.and_two_pow_sub_one_eq_mod]; omega
  have hk2 : k &&& 255 = k := by rw [show (255 : Nat) = 2 ^ 8 - 1 from rfl, Nat.and_two_pow_sub_one_eq_mod]; omega
  have hs1 : Sub (m * 256) ((n : Int) * 256) := ⟨n * 256, by simp, by
    rw [show (256 : Nat) = 2 ^ 8 from rfl, ← Nat.shiftLeft_eq, ← Nat.shiftLeft_eq, ← Nat.shiftLeft_and_distrib, hn]⟩
  have hs2 : Sub 255 (k : Int) := ⟨k, rfl, hk2⟩
  have hd : m * 256 &&& 255 = 0 := by rw [show (255 : Nat) = 2 ^ 8 - 1 from rfl, Nat.and_two_pow_sub_one_eq_mod]; omega
  have o := or64 hs1 hs2 hd (by omega) (by omega)
  rw [e, wrap_u64_in (by omega) (by omega)]
  refine ⟨o.1, ?_⟩
  have h2 := o.2
  rw [or_eq_add _ _ hd] at h2
  exact h2
theorem loadR {b0 b1 b2 b3 : Int} (h0 : 0 ≤ b0 ∧ b0 < 256) (h1 : 0 ≤ b1 ∧ b1 < 256) (h2 : 0 ≤ b2 ∧ b2 < 256) (h3 : 0 ≤ b3 ∧ b3 < 256) :
    IE.den (.conv .u32 (.bits .or .u64 (.shl .u64 (.bits .or .u64 (.shl .u64 (.bits .or .u64 (.shl .u64 (.bits .or .u64 (.lit 0) (.conv .u64 (.var b3))) (.lit 8)) (.conv .u64 (.var b2))) (.lit 8)) (.conv .u64 (.var b1))) (.lit 8)) (.conv .u64 (.var b0)))) = b0 + b1 * 256 + b2 * 65536 + b3 * 16777216 := by
  have e3 : bitsI .or .u64 0 (IntKind.u64.wrap b3) = b3 ∧ Sub 255 b3 := by
    have := shlOr (Sub.zero 0) (by decide) h3.1 h3.2
    rw [show shlI .u64 0 8 = 0 by decide] at this
    simpa using this
  have e2 := shlOr e3.2 (by decide) h2.1 h2.2
  have e1 := shlOr e2.2 (by decide) h1.1 h1.2
  have e0 : bitsI .or .u64 (shlI .u64 ((b3 * 256 + b2) * 256 + b1) 8) (IntKind.u64.wrap b0) = ((b3 * 256 + b2) * 256 + b1) * 256 + b0 := (shlOr e1.2 (by decide) h0.1 h0.2).1
  simp only [IE.den]
  rw [e3.1, e2.1, e1.1, e0, wrap_u32]
  omega

theorem addE {k : Nat} (hk : k ≤ 8388608) (j : Nat) (hj : j ≤ 4) : IE.den (.add .i64 (.var ((4 * k : Nat) : Int)) (.lit j)) = ((4 * k + j : Nat) : Int) := by
  simp only [IE.den]
  rw [wrap_i64_in (by omega) (by omega)]
  omega
def z1 : List Col := [.int .u8 fun _ => .var 0]

/-- What stands at the head. -/
def rInv (g : Nat → Int) (len : Nat) (a : RSt) : Prop := 4 * a.1 ≤ len ∧ a.1 ≤ a.2.1 ∧ a.2.1 ≤ 9223372036854775807 ∧ ∀ i, i < a.1 → (rvDec (wordB g (4 * i))).err = 0 ∧ a.2.2 i = rvDec (wordB g (4 * i))

theorem rOuts_good : ∀ ins pl, ∀ o ∈ rOuts ins pl, o.good := by
  intro ins pl o ho
  unfold rOuts at ho
  split at ho
  · simp only [List.mem_cons, List.not_mem_nil, or_false] at ho
    rcases ho with rfl | rfl
    · intro c
      refine ⟨⟨fun n m ν ν' h => ?_, fun n p h => ?_⟩, rfl, trivial⟩
      · have := h 0 (by simp)
        simp only [Nat.add_zero] at this
        simp [SV.den, SV.denL, this]
      · exact ⟨h 0 (by simp), trivial, trivial, trivial⟩
    · intro c
      exact ⟨⟨fun n m ν ν' h => rfl, fun n p h => ⟨trivial, trivial, trivial, trivial⟩⟩, rfl, trivial⟩
  · simp at ho
end Go.Proofs.Ytiljkmcahkphiaa.Rv
