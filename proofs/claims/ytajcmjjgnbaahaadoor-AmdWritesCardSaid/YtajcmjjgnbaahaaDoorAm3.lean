/- What Encode writes: its cells and its errors. -/
import Derived.Test.YtajcmjjgnbaahaaDoorAm2b
import Derived.Test.YtajcmjjgnbaahaaDoorAm2c
import Derived.Test.YtajcmjjgnbaahaaDoorAp2
import Derived.Test.YtajcmjjgnbaahaaDoorAdp
namespace Go.Proofs.YtajcmjjgnbaahaaDoor.Amd
open Go Go.Proofs.YtajcmjjgnbaahaaDoor.Sx Go.RowKit
set_option linter.unusedVariables false
set_option linter.unusedSimpArgs false
theorem or64_d {p : Int} (h0 : 0 <= p) (h1 : p < 16) : IE.den (.bits .or .u8 (.lit 64) (.var p)) = 64 + p := of16 (P := fun p => IE.den (.bits .or .u8 (.lit 64) (.var p)) = 64 + p) (by decide) h0 h1
theorem ok_pfx {x : AI} {P pI : Int} {l : List Int} {cells : List SV} {E : Prop} (he : amdErr x = 0) (hB : amdBytes x = withP P l) (hP : 0 <= P /\ P < 16) (hp : pI = P) (h0 : pI ≠ 0) (hl : cells.map cellI = l) (hk : cells.all intB = true) :
    okLeaf (EncO x) E (amdBytes x).length (SV.int .u8 (.bits .or .u8 (.lit 64) (.var pI)) :: cells) := by
  subst hp
  refine ok_of he ?_ (by simpa [intB] using hk)
  rw [hB]; unfold withP
  rw [if_neg h0, List.map_cons, hl]
  show _ = IE.den _ :: l
  rw [or64_d hP.1 hP.2]
theorem ok_bare {x : AI} {P pI : Int} {l : List Int} {cells : List SV} {E : Prop} (he : amdErr x = 0) (hB : amdBytes x = withP P l) (hp : pI = P) (h0 : pI = 0) (hl : cells.map cellI = l) (hk : cells.all intB = true) :
    okLeaf (EncO x) E (amdBytes x).length cells := by
  subst hp
  refine ok_of he ?_ hk
  rw [hB]; unfold withP
  rw [if_pos h0, hl]
theorem failI_ne (e : Int) {r : Int} (hr : r ≠ 0) : failI e r ≠ 0 := by unfold failI; split <;> omega
theorem regE2 (a b : Int) : regE (regE 0 a) b = if badReg a = true ∨ badReg b = true then 182 else 0 := by
  unfold regE failI
  cases badReg a <;> cases badReg b <;> simp
theorem regE1 (a : Int) : regE 0 a = if badReg a = true then 182 else 0 := by
  unfold regE failI
  cases badReg a <;> simp
theorem bad2 {a b : Int} (h : regE (regE 0 a) b = 0) : badReg a = false /\ badReg b = false := by
  rw [regE2] at h
  cases ha : badReg a <;> cases hb : badReg b <;> simp_all
theorem bad1 {a : Int} (h : regE 0 a = 0) : badReg a = false := by
  rw [regE1] at h
  cases ha : badReg a <;> simp_all
theorem fail182 (c : Prop) [Decidable c] : failI (if c then 182 else 0) 183 = if c then 182 else 183 := by
  unfold failI; split <;> simp
theorem pfx_run2 {wide : Bool} {a b : Int} (ha : badReg a = false) (hb : badReg b = false) : regP (regP (if wide = true then bitsI BinOp.or IntKind.u8 0 8 else 0) a 4) b 1 = pfx wide a b := by
  unfold regP pfx
  simp only [ha, hb, true_and]
  cases wide <;> by_cases h1 : 7 < a <;> by_cases h2 : 7 < b <;> simp only [h1, h2, if_true, if_false, Bool.false_eq_true] <;> decide
theorem pfx_run1 {b : Int} (hb : badReg b = false) : regP 0 b 1 = pfx false 0 b := by
  unfold regP pfx
  simp only [hb, true_and]
  by_cases h2 : 7 < b <;> simp only [h2, if_true, if_false, Bool.false_eq_true] <;> decide
theorem pfx_low {wide : Bool} {n b : Int} (h : ¬ 7 < n) : pfx wide n b = pfx wide 0 b := by
  unfold pfx; simp [h]
theorem regV_eq {r : Int} (h : badReg r = false) : regV r = r % 8 := by
  obtain ⟨h0, h1⟩ := reg_split h
  have : ∀ n : Fin 16, IntKind.u8.wrap (bitsI .and .i64 ((n.val : Nat) : Int) 7) = ((n.val : Nat) : Int) % 8 := by decide
  have e := this ⟨r.toNat, by omega⟩
  unfold regV
  rw [h]
  simpa [Int.toNat_of_nonneg h0] using e
theorem or_pair (mm : Int) (hm : mm = 64 ∨ mm = 128 ∨ mm = 192) {a b : Int} (ha : 0 <= a /\ a < 8) (hb : 0 <= b /\ b < 8) : IE.den (.bits .or .u8 (.bits .or .u8 (.lit mm) (.shl .u8 (.var a) (.lit 3))) (.var b)) = mm + 8 * a + b := by
  have h1 : ∀ m : Fin 3, ∀ n k : Fin 8, IE.den (.bits .or .u8 (.bits .or .u8 (.lit (64 * (((m.val : Nat) : Int) + 1))) (.shl .u8 (.var ((n.val : Nat) : Int)) (.lit 3))) (.var ((k.val : Nat) : Int))) = 64 * (((m.val : Nat) : Int) + 1) + 8 * ((n.val : Nat) : Int) + ((k.val : Nat) : Int) := by decide +kernel
  have ea : ((a.toNat : Nat) : Int) = a := Int.toNat_of_nonneg ha.1
  have eb : ((b.toNat : Nat) : Int) = b := Int.toNat_of_nonneg hb.1
  rcases hm with rfl | rfl | rfl
  · have := h1 0 ⟨a.toNat, by omega⟩ ⟨b.toNat, by omega⟩
    simpa [ea, eb] using this
  · have := h1 1 ⟨a.toNat, by omega⟩ ⟨b.toNat, by omega⟩
    simpa [ea, eb] using this
  · have := h1 2 ⟨a.toNat, by omega⟩ ⟨b.toNat, by omega⟩
    simpa [ea, eb] using this
theorem pair_d {a b : Int} (ha : badReg a = false) (hb : badReg b = false) : IE.den (.bits .or .u8 (.bits .or .u8 (.lit 192) (.shl .u8 (.var (regV a)) (.lit 3))) (.var (regV b))) = pairB 3 a b := by
  rw [regV_eq ha, regV_eq hb, or_pair 192 (by simp) (by omega) (by omega)]; rfl
theorem mem1_d {a b : Int} (ha : badReg a = false) (hb : badReg b = false) : IE.den (.bits .or .u8 (.bits .or .u8 (.lit 64) (.shl .u8 (.var (regV a)) (.lit 3))) (.var (regV b))) = pairB 1 a b := by
  rw [regV_eq ha, regV_eq hb, or_pair 64 (by simp) (by omega) (by omega)]; rfl
theorem mem2_d {a b : Int} (ha : badReg a = false) (hb : badReg b = false) : IE.den (.bits .or .u8 (.bits .or .u8 (.lit 128) (.shl .u8 (.var (regV a)) (.lit 3))) (.var (regV b))) = pairB 2 a b := by
  rw [regV_eq ha, regV_eq hb, or_pair 128 (by simp) (by omega) (by omega)]; rfl
theorem or_reg (c : Int) (hc : c = 80 ∨ c = 88 ∨ c = 184) {b : Int} (hb : badReg b = false) : IE.den (.bits .or .u8 (.lit c) (.var (regV b))) = c + b % 8 := by
  rw [regV_eq hb]
  have h1 : ∀ k : Fin 8, IE.den (.bits .or .u8 (.lit 80) (.var ((k.val : Nat) : Int))) = 80 + ((k.val : Nat) : Int) /\ IE.den (.bits .or .u8 (.lit 88) (.var ((k.val : Nat) : Int))) = 88 + ((k.val : Nat) : Int) /\ IE.den (.bits .or .u8 (.lit 184) (.var ((k.val : Nat) : Int))) = 184 + ((k.val : Nat) : Int) := by decide +kernel
  have := h1 ⟨(b % 8).toNat, by omega⟩
  simp only [Int.toNat_of_nonneg (show 0 <= b % 8 by omega)] at this
  rcases hc with rfl | rfl | rfl
  · exact this.1
  · exact this.2.1
  · exact this.2.2
def mvE (v : Int) : IE := .conv .i64 (.conv .i32 (.conv .u32 (.var v)))
theorem mv_den {v : Int} (h0 : 0 <= v) (h1 : v <= 4294967295) : (mvE v).den = if 2147483648 <= v then v - 4294967296 else v := by
  unfold mvE; simp only [IE.den]
  rw [wrap_u32_in h0 (by omega), wrap_i32]
  split <;> split <;> (rw [wrap_i64_in (by omega) (by omega)]; omega)
theorem mv_same (v : Int) : BE.den (.cmp .neq (.conv .i64 (.conv .i32 (mvE v))) (mvE v)) = false := by
  have hu : 0 <= IntKind.u32.wrap v /\ IntKind.u32.wrap v < 4294967296 := by rw [wrap_u32]; omega
  have e : (mvE v).den = if 2147483648 <= IntKind.u32.wrap v then IntKind.u32.wrap v - 4294967296 else IntKind.u32.wrap v := by
    unfold mvE; simp only [IE.den]
    generalize IntKind.u32.wrap v = u at hu
    rw [wrap_i32]
    split <;> split <;> (rw [wrap_i64_in (by omega) (by omega)]; omega)
  simp only [BE.den, IE.den, cmpI_neq, Bool.not_eq_false', decide_eq_true_eq]
  rw [e, wrap_i32]
  generalize IntKind.u32.wrap v = u at hu
  split <;> split <;> (rw [wrap_i64_in (by omega) (by omega)]; omega)
theorem mv8 {v : Int} (h0 : 0 <= v) (h1 : v <= 4294967295) : IE.den (.conv .u8 (mvE v)) = v % 256 := by
  show IntKind.u8.wrap (mvE v).den = _
  rw [mv_den h0 h1, wrap_u8]; split <;> omega
theorem mv16 {v : Int} (h0 : 0 <= v) (h1 : v <= 4294967295) : IE.den (.conv .u8 (.shr .i64 (mvE v) (.lit 8))) = v / 256 % 256 := by
  show IntKind.u8.wrap (shrI .i64 (mvE v).den 8) = _
  rw [mv_den h0 h1, show ∀ y, shrI .i64 y 8 = y / 256 from fun y => shr_ediv .i64 y 8 (by decide), wrap_u8]; split <;> omega
theorem mv24 {v : Int} (h0 : 0 <= v) (h1 : v <= 4294967295) : IE.den (.conv .u8 (.shr .i64 (mvE v) (.lit 16))) = v / 65536 % 256 := by
  show IntKind.u8.wrap (shrI .i64 (mvE v).den 16) = _
  rw [mv_den h0 h1, show ∀ y, shrI .i64 y 16 = y / 65536 from fun y => shr_ediv .i64 y 16 (by decide), wrap_u8]; split <;> omega
theorem mv32 {v : Int} (h0 : 0 <= v) (h1 : v <= 4294967295) : IE.den (.conv .u8 (.shr .i64 (mvE v) (.lit 24))) = v / 16777216 % 256 := by
  show IntKind.u8.wrap (shrI .i64 (mvE v).den 24) = _
  rw [mv_den h0 h1, show ∀ y, shrI .i64 y 24 = y / 16777216 from fun y => shr_ediv .i64 y 24 (by decide), wrap_u8]; split <;> omega
theorem cc112 {c : Int} (h : ¬ (c < 2 ∨ 7 < c)) : IE.den (.bits .or .u8 (.lit 112) (.conv .u8 (.var c))) = 112 + c := by
  have h1 : ∀ k : Fin 8, IE.den (.bits .or .u8 (.lit 112) (.conv .u8 (.var ((k.val : Nat) : Int)))) = 112 + ((k.val : Nat) : Int) := by decide +kernel
  have := h1 ⟨c.toNat, by omega⟩
  simpa only [Int.toNat_of_nonneg (show 0 <= c by omega)] using this
theorem cc128 {c : Int} (h : ¬ (c < 2 ∨ 7 < c)) : IE.den (.bits .or .u8 (.lit 128) (.conv .u8 (.var c))) = 128 + c := by
  have h1 : ∀ k : Fin 8, IE.den (.bits .or .u8 (.lit 128) (.conv .u8 (.var ((k.val : Nat) : Int)))) = 128 + ((k.val : Nat) : Int) := by decide +kernel
  have := h1 ⟨c.toNat, by omega⟩
  simpa only [Int.toNat_of_nonneg (show 0 <= c by omega)] using this
end Go.Proofs.YtajcmjjgnbaahaaDoor.Amd
