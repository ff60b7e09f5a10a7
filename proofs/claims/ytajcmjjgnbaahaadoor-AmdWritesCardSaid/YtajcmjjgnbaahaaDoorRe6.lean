/- The reference's Encode writes the bytes: its contract. -/
import Derived.Test.YtajcmjjgnbaahaaDoorRe4
namespace Go.Proofs.YtajcmjjgnbaahaaDoor.Amd
open Go Go.Proofs.YtajcmjjgnbaahaaDoor.Sx Go.RowKit
set_option linter.unusedVariables false
set_option linter.unusedSimpArgs false
theorem ae {x : AI} {f : Form} (hf : formOf x.op = some f) : amdErr x = encE f x := by unfold amdErr; rw [hf]
theorem ab {x : AI} {f : Form} {l : List Int} (hf : formOf x.op = some f) (h : encL f x = l) : amdBytes x = l := by unfold amdBytes; rw [hf]; exact h
theorem n0t {v : Int} (h : BE.den (.cmp .neq (.var v) (.lit 0)) = true) : v ≠ 0 := by rw [d_ne] at h; simpa using h
theorem n0f {v : Int} (h : BE.den (.cmp .neq (.var v) (.lit 0)) = false) : v = 0 := by rw [d_ne] at h; simpa using h
theorem er0 {x : AI} (hf : formOf x.op = none) : erLeaf (EncO x) (amdErr x ≠ 0) (amdErr x) 181 := er_of (by unfold amdErr; rw [hf]) (by decide)
theorem t7i {op : Int} {wide : Bool} {d s disp imm cc : Int} {R : Prop} (h : R) : t7 op wide d s disp imm cc R := ⟨rfl, rfl, rfl, rfl, rfl, rfl, rfl, h⟩
theorem t8i {op : Int} {wide long : Bool} {d s disp imm cc : Int} {R : Prop} (h : R) : t8 op wide long d s disp imm cc R := ⟨rfl, rfl, rfl, rfl, rfl, rfl, rfl, rfl, h⟩
def pN (w x y : Bool) : Int := (if w = true then 8 else 0) + (if x = true then 4 else 0) + (if y = true then 1 else 0)
theorem g7_d {a : Int} {x : Bool} (h : BE.den (g7 a) = x) : (7 < a) = (x = true) := by
  unfold g7 at h; rw [d_gtr] at h; subst h; simp
theorem pv {wide w : Bool} {a b : Int} {x y : Bool} (hw : wide = w) (ha : BE.den (g7 a) = x) (hb : BE.den (g7 b) = y) : pfx wide a b = pN w x y := by
  unfold pfx pN; simp only [hw, g7_d ha, g7_d hb]
theorem pv0 {wide w : Bool} {b : Int} {y : Bool} (hw : wide = w) (hb : BE.den (g7 b) = y) : pfx wide 0 b = pN w false y := by
  unfold pfx pN; simp only [hw, g7_d hb]; simp
theorem pvf {b : Int} {y : Bool} (hb : BE.den (g7 b) = y) : pfx false 0 b = pN false false y := by
  unfold pfx pN; simp only [g7_d hb]; simp
theorem wp_z {p : Int} {l : List Int} {cells : List SV} (hp : p = 0) (hl : cells.map cellI = l) : withP p l = cells.map cellI := by rw [hp, hl]; rfl
theorem wp_n {p P Q : Int} {l : List Int} {cells : List SV} (hp : p = P) (h0 : P ≠ 0) (hq : Q = 64 + P) (hl : cells.map cellI = l) : withP p l = (c8 (.lit Q) :: cells).map cellI := by
  subst hp
  subst hq
  unfold withP
  rw [if_neg h0, <- hl]; rfl
theorem wz {p : Int} {l : List Int} {cells : List SV} (hp : p = 0) (hl : cells.map cellI = l) : withP p l = cells.map cellI := wp_z hp hl
theorem wn {p : Int} (P : Int) {l : List Int} {cells : List SV} (hp : p = P) (hl : cells.map cellI = l) (h0 : P ≠ 0 := by decide) : withP p l = (c8 (.lit (64 + P)) :: cells).map cellI := wp_n hp h0 rfl hl
theorem fix_of {x : AI} {cells : List SV} {E : Prop} (hn : cells.length <= 9223372036854775807) (he : amdErr x = 0) (hB : amdBytes x = cells.map cellI) (hk : cells.all intB = true) : okFix (EncO x) E (amdBytes x).length cells := by
  have hl : (amdBytes x).length = cells.length := by rw [hB, List.length_map]
  refine .inl ⟨(cells.length, fun e => (fixIE cells (e * 1 + 0)).den), ⟨he, by rw [hl]; exact Nat.le_refl _, hn, fun e h => ?_⟩, hl.symm, rfl, rfl, fun _ _ => rfl, trivial⟩
  rw [hl] at h
  have hx : cells[e]? = some cells[e] := List.getElem?_eq_getElem h
  have hi : intB cells[e] = true := List.all_eq_true.1 hk _ (List.getElem_mem h)
  show (fixIE cells (e * 1 + 0)).den = _
  unfold fixIE
  rw [hB, List.getD_eq_getElem?_getD, List.getElem?_map, Nat.mul_one, Nat.add_zero, hx]
  cases hc : cells[e] <;> rw [hc] at hi <;> first | rfl | simp [intB] at hi
theorem er1 {a e : Int} (h : (if badReg a = true then 182 else e) = (0 : Int)) : 0 <= a /\ a <= 15 := reg_split (not_bad (if_zero (by decide) h).1)
theorem er2 {a b e : Int} (h : (if badReg a = true ∨ badReg b = true then 182 else e) = (0 : Int)) : (0 <= a /\ a <= 15) /\ 0 <= b /\ b <= 15 :=
  ⟨reg_split (not_bad fun hh => (if_zero (by decide) h).1 (.inl hh)), reg_split (not_bad fun hh => (if_zero (by decide) h).1 (.inr hh))⟩
theorem shr64 (v : Int) (n : Nat) (hn : n <= 24) : IntKind.u8.wrap (shrI .u64 (IntKind.u64.wrap v) n) = v / 2 ^ n % 256 := by
  rw [shr_ediv .u64 _ n (by simp [IntKind.bits]; omega), wrap_u8, wrap_u64]
  have hp : (2 : Int) ^ n * 2 ^ (24 - n) = 2 ^ 24 := by rw [<- Int.pow_add]; congr 1; omega
  have hpos : (0 : Int) < 2 ^ n := Int.pow_pos (by decide)
  have h1 : v % 18446744073709551616 = v - 18446744073709551616 * (v / 18446744073709551616) := by omega
  have h2 : (18446744073709551616 : Int) = 2 ^ n * (2 ^ (24 - n) * 1099511627776) := by rw [<- Int.mul_assoc, hp]; decide
  rw [h1, h2, Int.mul_assoc, Int.sub_mul_ediv_left _ _ (by omega), Int.mul_assoc]
  have h3 : (1099511627776 : Int) = 256 * 4294967296 := by decide
  rw [h3]
  generalize v / 2 ^ n = q
  generalize v / (2 ^ n * (2 ^ (24 - n) * (256 * 4294967296))) = r
  rw [show (2 : Int) ^ (24 - n) * (256 * 4294967296 * r) = 256 * (2 ^ (24 - n) * 4294967296 * r) by
    rw [Int.mul_assoc, Int.mul_left_comm, Int.mul_assoc]]
  omega
theorem nb0 (v : Int) : (nbC0 (.var v)).den = v % 256 := by
  have := shr64 v 0 (by decide); simp only [Int.pow_zero, Int.ediv_one] at this; exact this
theorem nb1 (v : Int) : (nbC1 (.var v)).den = v / 256 % 256 := shr64 v 8 (by decide)
theorem nb2 (v : Int) : (nbC2 (.var v)).den = v / 65536 % 256 := shr64 v 16 (by decide)
theorem nb3 (v : Int) : (nbC3 (.var v)).den = v / 16777216 % 256 := shr64 v 24 (by decide)
theorem tmod8 {r : Int} (h : 0 <= r) : r.tmod 8 = r % 8 := Int.tmod_eq_emod_of_nonneg h
theorem pr_d {e1 e2 : IE} {n mm r b : Int} (h1 : e1.den = r) (h2 : e2.den = b) (hn : n = 64 * mm) (hm : 0 <= mm /\ mm <= 3) (hr : 0 <= r) (hb : 0 <= b) : (prA n e1 e2).den = pairB mm r b := by
  unfold prA pairB
  simp only [IE.den, h1, h2, tmod8 hr, tmod8 hb]
  rw [wrap_i64_in (n := 8 * (r % 8)) (by omega) (by omega), wrap_i64_in (n := n + 8 * (r % 8)) (by omega) (by omega), wrap_i64_in (by omega) (by omega), wrap_u8]
  omega
theorem pr_v {n mm r b : Int} (hn : n = 64 * mm) (hm : 0 <= mm /\ mm <= 3) (hr : 0 <= r) (hb : 0 <= b) : (prA n (.var r) (.var b)).den = pairB mm r b := pr_d (e1 := .var r) (e2 := .var b) rfl rfl hn hm hr hb
theorem sib_t {s : Int} (h0 : 0 <= s) (hb : BE.den (.cmp .eql (.rem (.var s) (.lit 8)) (.lit 4)) = true) : s % 8 = 4 := by
  simp only [BE.den, IE.den, cmpI_eql, tmod8 h0, decide_eq_true_eq] at hb; exact hb
theorem sib_f {s : Int} (h0 : 0 <= s) (hb : BE.den (.cmp .eql (.rem (.var s) (.lit 8)) (.lit 4)) = false) : ¬ s % 8 = 4 := by
  simp only [BE.den, IE.den, cmpI_eql, tmod8 h0, decide_eq_false_iff_not] at hb; exact hb
theorem reg8 {c d : Int} (hc : c = 184 ∨ c = 80 ∨ c = 88) (hd : 0 <= d) : IntKind.u8.wrap (c + IntKind.u8.wrap (d.tmod 8)) = c + d % 8 := by
  rw [tmod8 hd, wrap_u8, wrap_u8]; omega
theorem cc8 {c k : Int} (hc : c = 112 ∨ c = 128) (h : ¬ (k < 2 ∨ 7 < k)) : IntKind.u8.wrap (c + IntKind.u8.wrap k) = c + k := by
  rw [wrap_u8, wrap_u8]; omega
theorem cl_1 {d imm e : Int} (h : (if badReg d = true then 182 else e) = (0 : Int)) :
    [c8 (.add .u8 (.lit 184) (IE.one (.conv .u8) (IE.two .rem (.var d) (.lit 8)))), c8 (nbC0 (.var imm)), c8 (nbC1 (.var imm)), c8 (nbC2 (.var imm)), c8 (nbC3 (.var imm))].map cellI = (184 + d % 8) :: le4 imm := by
  show [IntKind.u8.wrap (184 + IntKind.u8.wrap (d.tmod 8)), (nbC0 (.var imm)).den, (nbC1 (.var imm)).den, (nbC2 (.var imm)).den, (nbC3 (.var imm)).den] = _
  rw [reg8 (.inl rfl) (er1 h).1, nb0, nb1, nb2, nb3]; rfl
theorem cl_2 {c s d e : Int} (h : (if badReg s = true ∨ badReg d = true then 182 else e) = (0 : Int)) : [c8 (.var c), c8 (prA 192 (.var s) (.var d))].map cellI = [c, pairB 3 s d] := by
  show [c, (prA 192 (.var s) (.var d)).den] = _
  rw [pr_v (mm := 3) (by decide) (by decide) (er2 h).1.1 (er2 h).2.1]
theorem cl_5 {s d e : Int} (h : (if badReg s = true ∨ badReg d = true then 182 else e) = (0 : Int)) : [c8 (.lit 15), c8 (.lit 175), c8 (prA 192 (.var d) (.var s))].map cellI = [15, 175, pairB 3 d s] := by
  show [15, 175, (prA 192 (.var d) (.var s)).den] = _
  rw [pr_v (mm := 3) (by decide) (by decide) (er2 h).2.1 (er2 h).1.1]
theorem cl_3tt {d s disp e : Int} (hb : BE.den (.cmp .eql (.rem (.var s) (.lit 8)) (.lit 4)) = true) (h : (if badReg d = true ∨ badReg s = true then 182 else e) = (0 : Int)) :
    [c8 (.lit 139), c8 (prB 2 (.var d) (.var s)), c8 (.lit 36), c8 (nbC0 (.var disp)), c8 (nbC1 (.var disp)), c8 (nbC2 (.var disp)), c8 (nbC3 (.var disp))].map cellI = 139 :: memB d s disp true := by
  show [139, (prA 128 (.var d) (.var s)).den, 36, (nbC0 (.var disp)).den, (nbC1 (.var disp)).den, (nbC2 (.var disp)).den, (nbC3 (.var disp)).den] = _
  rw [pr_v (mm := 2) (by decide) (by decide) (er2 h).1.1 (er2 h).2.1, nb0, nb1, nb2, nb3]
  unfold memB
  rw [if_pos (sib_t (er2 h).2.1 hb)]; rfl
theorem cl_3tf {d s disp e : Int} (hb : BE.den (.cmp .eql (.rem (.var s) (.lit 8)) (.lit 4)) = false) (h : (if badReg d = true ∨ badReg s = true then 182 else e) = (0 : Int)) :
    [c8 (.lit 139), c8 (prB 2 (.var d) (.var s)), c8 (nbC0 (.var disp)), c8 (nbC1 (.var disp)), c8 (nbC2 (.var disp)), c8 (nbC3 (.var disp))].map cellI = 139 :: memB d s disp true := by
  show [139, (prA 128 (.var d) (.var s)).den, (nbC0 (.var disp)).den, (nbC1 (.var disp)).den, (nbC2 (.var disp)).den, (nbC3 (.var disp)).den] = _
  rw [pr_v (mm := 2) (by decide) (by decide) (er2 h).1.1 (er2 h).2.1, nb0, nb1, nb2, nb3]
  unfold memB
  rw [if_neg (sib_f (er2 h).2.1 hb)]; rfl
theorem cl_3ft {d s disp e : Int} (hb : BE.den (.cmp .eql (.rem (.var s) (.lit 8)) (.lit 4)) = true) (h : (if badReg d = true ∨ badReg s = true then 182 else e) = (0 : Int)) :
    [c8 (.lit 139), c8 (prB 1 (.var d) (.var s)), c8 (.lit 36), c8 (nbC0 (.var disp))].map cellI = 139 :: memB d s disp false := by
  show [139, (prA 64 (.var d) (.var s)).den, 36, (nbC0 (.var disp)).den] = _
  rw [pr_v (mm := 1) (by decide) (by decide) (er2 h).1.1 (er2 h).2.1, nb0]
  unfold memB
  rw [if_pos (sib_t (er2 h).2.1 hb)]; rfl
theorem cl_3ff {d s disp e : Int} (hb : BE.den (.cmp .eql (.rem (.var s) (.lit 8)) (.lit 4)) = false) (h : (if badReg d = true ∨ badReg s = true then 182 else e) = (0 : Int)) :
    [c8 (.lit 139), c8 (prB 1 (.var d) (.var s)), c8 (nbC0 (.var disp))].map cellI = 139 :: memB d s disp false := by
  show [139, (prA 64 (.var d) (.var s)).den, (nbC0 (.var disp)).den] = _
  rw [pr_v (mm := 1) (by decide) (by decide) (er2 h).1.1 (er2 h).2.1, nb0]
  unfold memB
  rw [if_neg (sib_f (er2 h).2.1 hb)]; rfl
theorem cl_4tt {d s disp e : Int} (hb : BE.den (.cmp .eql (.rem (.var d) (.lit 8)) (.lit 4)) = true) (h : (if badReg d = true ∨ badReg s = true then 182 else e) = (0 : Int)) :
    [c8 (.lit 137), c8 (prB 2 (.var s) (.var d)), c8 (.lit 36), c8 (nbC0 (.var disp)), c8 (nbC1 (.var disp)), c8 (nbC2 (.var disp)), c8 (nbC3 (.var disp))].map cellI = 137 :: memB s d disp true := by
  show [137, (prA 128 (.var s) (.var d)).den, 36, (nbC0 (.var disp)).den, (nbC1 (.var disp)).den, (nbC2 (.var disp)).den, (nbC3 (.var disp)).den] = _
  rw [pr_v (mm := 2) (by decide) (by decide) (er2 h).2.1 (er2 h).1.1, nb0, nb1, nb2, nb3]
  unfold memB
  rw [if_pos (sib_t (er2 h).1.1 hb)]; rfl
theorem cl_4tf {d s disp e : Int} (hb : BE.den (.cmp .eql (.rem (.var d) (.lit 8)) (.lit 4)) = false) (h : (if badReg d = true ∨ badReg s = true then 182 else e) = (0 : Int)) :
    [c8 (.lit 137), c8 (prB 2 (.var s) (.var d)), c8 (nbC0 (.var disp)), c8 (nbC1 (.var disp)), c8 (nbC2 (.var disp)), c8 (nbC3 (.var disp))].map cellI = 137 :: memB s d disp true := by
  show [137, (prA 128 (.var s) (.var d)).den, (nbC0 (.var disp)).den, (nbC1 (.var disp)).den, (nbC2 (.var disp)).den, (nbC3 (.var disp)).den] = _
  rw [pr_v (mm := 2) (by decide) (by decide) (er2 h).2.1 (er2 h).1.1, nb0, nb1, nb2, nb3]
  unfold memB
  rw [if_neg (sib_f (er2 h).1.1 hb)]; rfl
theorem cl_4ft {d s disp e : Int} (hb : BE.den (.cmp .eql (.rem (.var d) (.lit 8)) (.lit 4)) = true) (h : (if badReg d = true ∨ badReg s = true then 182 else e) = (0 : Int)) :
    [c8 (.lit 137), c8 (prB 1 (.var s) (.var d)), c8 (.lit 36), c8 (nbC0 (.var disp))].map cellI = 137 :: memB s d disp false := by
  show [137, (prA 64 (.var s) (.var d)).den, 36, (nbC0 (.var disp)).den] = _
  rw [pr_v (mm := 1) (by decide) (by decide) (er2 h).2.1 (er2 h).1.1, nb0]
  unfold memB
  rw [if_pos (sib_t (er2 h).1.1 hb)]; rfl
theorem cl_4ff {d s disp e : Int} (hb : BE.den (.cmp .eql (.rem (.var d) (.lit 8)) (.lit 4)) = false) (h : (if badReg d = true ∨ badReg s = true then 182 else e) = (0 : Int)) :
    [c8 (.lit 137), c8 (prB 1 (.var s) (.var d)), c8 (nbC0 (.var disp))].map cellI = 137 :: memB s d disp false := by
  show [137, (prA 64 (.var s) (.var d)).den, (nbC0 (.var disp)).den] = _
  rw [pr_v (mm := 1) (by decide) (by decide) (er2 h).2.1 (er2 h).1.1, nb0]
  unfold memB
  rw [if_neg (sib_f (er2 h).1.1 hb)]; rfl
theorem cl_6t {op n d imm e : Int} (hf : formOf op = some (Form.imm n)) (h : (if badReg d = true then 182 else e) = (0 : Int)) :
    [c8 (.lit 129), c8 (prB 3 (IE.one (.conv .i64) (.var n)) (.var d)), c8 (nbC0 (.var imm)), c8 (nbC1 (.var imm)), c8 (nbC2 (.var imm)), c8 (nbC3 (.var imm))].map cellI = (if true = true then 129 else 131) :: pairB 3 n d :: numB imm true := by
  have ho := form_of hf
  simp only [ofForm] at ho
  have hn : (IE.den (.conv .i64 (.var n))) = n := wrap_i64_in (n := n) (by omega) (by omega)
  show [129, (prA 192 (.conv .i64 (.var n)) (.var d)).den, (nbC0 (.var imm)).den, (nbC1 (.var imm)).den, (nbC2 (.var imm)).den, (nbC3 (.var imm)).den] = _
  rw [pr_d (e2 := .var d) (mm := 3) hn rfl (by decide) (by decide) (by omega) (er1 h).1, nb0, nb1, nb2, nb3]; rfl
theorem cl_9t {imm : Int} (h : (if numOk imm true then 0 else 183) = (0 : Int)) :
    [c8 (.lit 233), c8 (.conv .u8 (.shr .u64 (.conv .u64 (.var imm)) (.lit 0))), c8 (.conv .u8 (.shr .u64 (.conv .u64 (.var imm)) (.lit 8))), c8 (.conv .u8 (.shr .u64 (.conv .u64 (.var imm)) (.lit 16))), c8 (.conv .u8 (.shr .u64 (.conv .u64 (.var imm)) (.lit 24)))].map cellI = (if true = true then 233 else 235) :: numB imm true := by
  show [233, (nbC0 (.var imm)).den, (nbC1 (.var imm)).den, (nbC2 (.var imm)).den, (nbC3 (.var imm)).den] = _
  rw [nb0, nb1, nb2, nb3]; rfl
theorem cl_10t {cc imm e : Int} (h : (if cc < 2 ∨ 7 < cc then 181 else e) = (0 : Int)) :
    [c8 (.lit 15), c8 (.add .u8 (.lit 128) (IE.one (.conv .u8) (.var cc))), c8 (nbC0 (.var imm)), c8 (nbC1 (.var imm)), c8 (nbC2 (.var imm)), c8 (nbC3 (.var imm))].map cellI = if true = true then 15 :: (128 + cc) :: numB imm true else (112 + cc) :: numB imm false := by
  show [15, IntKind.u8.wrap (128 + IntKind.u8.wrap cc), (nbC0 (.var imm)).den, (nbC1 (.var imm)).den, (nbC2 (.var imm)).den, (nbC3 (.var imm)).den] = _
  rw [cc8 (.inr rfl) (if_zero (by decide) h).1, nb0, nb1, nb2, nb3]; rfl
theorem cl_6f {op n d imm e : Int} (hf : formOf op = some (Form.imm n)) (h : (if badReg d = true then 182 else e) = (0 : Int)) :
    [c8 (.lit 131), c8 (prB 3 (IE.one (.conv .i64) (.var n)) (.var d)), c8 (nbC0 (.var imm))].map cellI = (if false = true then 129 else 131) :: pairB 3 n d :: numB imm false := by
  have ho := form_of hf
  simp only [ofForm] at ho
  have hn : (IE.den (.conv .i64 (.var n))) = n := wrap_i64_in (n := n) (by omega) (by omega)
  show [131, (prA 192 (.conv .i64 (.var n)) (.var d)).den, (nbC0 (.var imm)).den] = _
  rw [pr_d (e2 := .var d) (mm := 3) hn rfl (by decide) (by decide) (by omega) (er1 h).1, nb0]; rfl
theorem cl_9f {imm : Int} (h : (if numOk imm false then 0 else 183) = (0 : Int)) : [c8 (.lit 235), c8 (nbC0 (.var imm))].map cellI = (if false = true then 233 else 235) :: numB imm false := by
  show [235, (nbC0 (.var imm)).den] = _
  rw [nb0]; rfl
theorem cl_10f {cc imm e : Int} (h : (if cc < 2 ∨ 7 < cc then 181 else e) = (0 : Int)) :
    [c8 (.add .u8 (.lit 112) (IE.one (.conv .u8) (.var cc))), c8 (nbC0 (.var imm))].map cellI = if false = true then 15 :: (128 + cc) :: numB imm true else (112 + cc) :: numB imm false := by
  show [IntKind.u8.wrap (112 + IntKind.u8.wrap cc), (nbC0 (.var imm)).den] = _
  rw [cc8 (.inl rfl) (if_zero (by decide) h).1, nb0]; rfl
theorem cl_7 {op c n d e : Int} (hf : formOf op = some (Form.one c n)) (h : (if badReg d = true then 182 else e) = (0 : Int)) : [c8 (.var c), c8 (prA 192 (.conv .i64 (.var n)) (.var d))].map cellI = [c, pairB 3 n d] := by
  have ho := form_of hf
  simp only [ofForm] at ho
  have hn : (IE.den (.conv .i64 (.var n))) = n := wrap_i64_in (n := n) (by omega) (by omega)
  show [c, (prA 192 (.conv .i64 (.var n)) (.var d)).den] = _
  rw [pr_d (e2 := .var d) (mm := 3) hn rfl (by decide) (by decide) (by omega) (er1 h).1]; rfl
theorem cl_8 {op c d e : Int} (hf : formOf op = some (Form.stack c)) (h : (if badReg d = true then 182 else e) = (0 : Int)) : [c8 (.add .u8 (.var c) (.conv .u8 (.rem (.var d) (.lit 8))))].map cellI = [c + d % 8] := by
  have ho := form_of hf
  simp only [ofForm] at ho
  show [IntKind.u8.wrap (c + IntKind.u8.wrap (d.tmod 8))] = _
  rw [reg8 (by omega) (er1 h).1]
theorem cl_11 : [(195 : Int)] = [c8 (.lit 195)].map cellI := rfl
theorem okb_0 (op : Int) (wide long : Bool) (d s disp imm cc : Int) (hk : kOf (formOf op) = 0) : rencP_0 op wide long d s disp imm cc (EncO (xR op wide (.var long) d s disp imm cc)) (amdErr (xR op wide (.var long) d s disp imm cc) ≠ 0) (amdBytes (xR op wide (.var long) d s disp imm cc)).length (amdErr (xR op wide (.var long) d s disp imm cc)) := by
  unfold rencP_0
  exact ⟨hk, fun b => fun hf => ⟨fun h0 => (er0 hf), fun h0 => (absurd h0 (by decide))⟩⟩
theorem okb_1 (op : Int) (wide long : Bool) (d s disp imm cc : Int) (hk : kOf (formOf op) = 1) : rencP_1 op wide long d s disp imm cc (EncO (xR op wide (.var long) d s disp imm cc)) (amdErr (xR op wide (.var long) d s disp imm cc) ≠ 0) (amdBytes (xR op wide (.var long) d s disp imm cc)).length (amdErr (xR op wide (.var long) d s disp imm cc)) := by
  unfold rencP_1
  exact ⟨hk, fun b => fun hf => ⟨fun h0 => (er_of (ae (x := (xR op wide (.var long) d s disp imm cc)) hf).symm (n0t h0)), fun h0 => have he := (ae (x := (xR op wide (.var long) d s disp imm cc)) hf).trans (n0f h0); have hB {l : List Int} := @ab (xR op wide (.var long) d s disp imm cc) _ l hf; have hc := (cl_1 (n0f h0)); ⟨⟨fun h4 => ⟨rfl, (t8i (ok_of he (hB (wn 1 (pvf h4) hc)) rfl))⟩, fun h5 => ⟨rfl, (t8i (ok_of he (hB (wz (pvf h5) hc)) rfl))⟩⟩, ⟨rfl, (t8i ⟨rfl, (t8i ⟨rfl, (t8i (t8i ⟨rfl, rfl, rfl, (t8i ⟨rfl, rfl, rfl, rfl, rfl, rfl, rfl, rfl, rfl, (t8i ⟨rfl, rfl, rfl, rfl, rfl, rfl, rfl, rfl, rfl, rfl, rfl, rfl, rfl, rfl, rfl, trivial⟩)⟩)⟩))⟩)⟩)⟩, rfl, (t8i ⟨rfl, (t8i ⟨rfl, (t8i (t8i ⟨rfl, rfl, rfl, (t8i ⟨rfl, rfl, rfl, rfl, rfl, rfl, rfl, rfl, rfl, (t8i ⟨rfl, rfl, rfl, rfl, rfl, rfl, rfl, rfl, rfl, rfl, rfl, rfl, rfl, rfl, rfl, trivial⟩)⟩)⟩))⟩)⟩)⟩⟩⟩
theorem okb_2 (op : Int) (wide long : Bool) (d s disp imm cc : Int) (hk : kOf (formOf op) = 2) : rencP_2 op wide long d s disp imm cc (EncO (xR op wide (.var long) d s disp imm cc)) (amdErr (xR op wide (.var long) d s disp imm cc) ≠ 0) (amdBytes (xR op wide (.var long) d s disp imm cc)).length (amdErr (xR op wide (.var long) d s disp imm cc)) := by
  unfold rencP_2
  exact ⟨hk, fun b => fun hf => ⟨fun h0 => (er_of (ae (x := (xR op wide (.var long) d s disp imm cc)) hf).symm (n0t h0)), fun h0 => have he := (ae (x := (xR op wide (.var long) d s disp imm cc)) hf).trans (n0f h0); have hB {l : List Int} := @ab (xR op wide (.var long) d s disp imm cc) _ l hf; have hc := (cl_2 (n0f h0)); ⟨rfl, rfl, (t8i ⟨rfl, rfl, (t8i ⟨fun h4 => ⟨fun h5 => ⟨fun h6 => ⟨rfl, rfl, (t8i (ok_of he (hB (wn 13 (pv h4 h5 h6) hc)) rfl))⟩, fun h7 => ⟨rfl, rfl, (t8i (ok_of he (hB (wn 12 (pv h4 h5 h7) hc)) rfl))⟩⟩, fun h8 => ⟨fun h9 => ⟨rfl, rfl, (t8i (ok_of he (hB (wn 9 (pv h4 h8 h9) hc)) rfl))⟩, fun h10 => ⟨rfl, rfl, (t8i (ok_of he (hB (wn 8 (pv h4 h8 h10) hc)) rfl))⟩⟩⟩, fun h11 => ⟨fun h12 => ⟨fun h13 => ⟨rfl, rfl, (t8i (ok_of he (hB (wn 5 (pv h11 h12 h13) hc)) rfl))⟩, fun h14 => ⟨rfl, rfl, (t8i (ok_of he (hB (wn 4 (pv h11 h12 h14) hc)) rfl))⟩⟩, fun h15 => ⟨fun h16 => ⟨rfl, rfl, (t8i (ok_of he (hB (wn 1 (pv h11 h15 h16) hc)) rfl))⟩, fun h17 => ⟨rfl, rfl, (t8i (fix_of (Nat.le_of_ble_eq_true rfl) he (hB (wz (pv h11 h15 h17) hc)) rfl))⟩⟩⟩⟩)⟩)⟩⟩⟩
theorem okb_3tt (op : Int) (wide : Bool) (d s disp imm cc : Int) (hk : kOf (formOf op) = 3) (hb : BE.den (.cmp .eql (.rem (.var s) (.lit 8)) (.lit 4)) = true) : rencP_3tt op wide d s disp imm cc (EncO (xR op wide (.lit true) d s disp imm cc)) (amdErr (xR op wide (.lit true) d s disp imm cc) ≠ 0) (amdBytes (xR op wide (.lit true) d s disp imm cc)).length (amdErr (xR op wide (.lit true) d s disp imm cc)) := by
  unfold rencP_3tt
  exact ⟨hk, fun b => fun hf => ⟨fun h0 => (er_of (ae (x := (xR op wide (.lit true) d s disp imm cc)) hf).symm (n0t h0)), fun h0 => have he := (ae (x := (xR op wide (.lit true) d s disp imm cc)) hf).trans (n0f h0); have hB {l : List Int} := @ab (xR op wide (.lit true) d s disp imm cc) _ l hf; have hc := (cl_3tt hb (n0f h0)); ⟨⟨fun h4 => ⟨fun h5 => ⟨fun h6 => ⟨rfl, (t7i (ok_of he (hB (wn 13 (pv h4 h5 h6) hc)) rfl))⟩, fun h7 => ⟨rfl, (t7i (ok_of he (hB (wn 12 (pv h4 h5 h7) hc)) rfl))⟩⟩, fun h8 => ⟨fun h9 => ⟨rfl, (t7i (ok_of he (hB (wn 9 (pv h4 h8 h9) hc)) rfl))⟩, fun h10 => ⟨rfl, (t7i (ok_of he (hB (wn 8 (pv h4 h8 h10) hc)) rfl))⟩⟩⟩, fun h11 => ⟨fun h12 => ⟨fun h13 => ⟨rfl, (t7i (ok_of he (hB (wn 5 (pv h11 h12 h13) hc)) rfl))⟩, fun h14 => ⟨rfl, (t7i (ok_of he (hB (wn 4 (pv h11 h12 h14) hc)) rfl))⟩⟩, fun h15 => ⟨fun h16 => ⟨rfl, (t7i (ok_of he (hB (wn 1 (pv h11 h15 h16) hc)) rfl))⟩, fun h17 => ⟨rfl, (t7i (ok_of he (hB (wz (pv h11 h15 h17) hc)) rfl))⟩⟩⟩⟩, ⟨rfl, (t7i ⟨hb, rfl, (t7i ⟨rfl, (t7i (t7i ⟨rfl, rfl, rfl, (t7i ⟨rfl, rfl, rfl, rfl, rfl, rfl, rfl, rfl, rfl, (t7i ⟨rfl, rfl, rfl, rfl, rfl, rfl, rfl, rfl, rfl, rfl, rfl, rfl, rfl, rfl, rfl, rfl, rfl, rfl, rfl, rfl, rfl, rfl, rfl, trivial⟩)⟩)⟩))⟩)⟩)⟩, hb, rfl, (t7i ⟨rfl, (t7i ⟨rfl, (t7i (t7i ⟨rfl, rfl, rfl, (t7i ⟨rfl, rfl, rfl, rfl, rfl, rfl, rfl, rfl, rfl, (t7i ⟨rfl, rfl, rfl, rfl, rfl, rfl, rfl, rfl, rfl, rfl, rfl, rfl, rfl, rfl, rfl, rfl, rfl, rfl, rfl, rfl, rfl, rfl, rfl, trivial⟩)⟩)⟩))⟩)⟩)⟩⟩⟩
theorem okb_3tf (op : Int) (wide : Bool) (d s disp imm cc : Int) (hk : kOf (formOf op) = 3) (hb : BE.den (.cmp .eql (.rem (.var s) (.lit 8)) (.lit 4)) = false) : rencP_3tf op wide d s disp imm cc (EncO (xR op wide (.lit true) d s disp imm cc)) (amdErr (xR op wide (.lit true) d s disp imm cc) ≠ 0) (amdBytes (xR op wide (.lit true) d s disp imm cc)).length (amdErr (xR op wide (.lit true) d s disp imm cc)) := by
  unfold rencP_3tf
  exact ⟨hk, fun b => fun hf => ⟨fun h0 => (er_of (ae (x := (xR op wide (.lit true) d s disp imm cc)) hf).symm (n0t h0)), fun h0 => have he := (ae (x := (xR op wide (.lit true) d s disp imm cc)) hf).trans (n0f h0); have hB {l : List Int} := @ab (xR op wide (.lit true) d s disp imm cc) _ l hf; have hc := (cl_3tf hb (n0f h0)); ⟨⟨fun h4 => ⟨fun h5 => ⟨fun h6 => ⟨rfl, (t7i (ok_of he (hB (wn 13 (pv h4 h5 h6) hc)) rfl))⟩, fun h7 => ⟨rfl, (t7i (ok_of he (hB (wn 12 (pv h4 h5 h7) hc)) rfl))⟩⟩, fun h8 => ⟨fun h9 => ⟨rfl, (t7i (ok_of he (hB (wn 9 (pv h4 h8 h9) hc)) rfl))⟩, fun h10 => ⟨rfl, (t7i (ok_of he (hB (wn 8 (pv h4 h8 h10) hc)) rfl))⟩⟩⟩, fun h11 => ⟨fun h12 => ⟨fun h13 => ⟨rfl, (t7i (ok_of he (hB (wn 5 (pv h11 h12 h13) hc)) rfl))⟩, fun h14 => ⟨rfl, (t7i (ok_of he (hB (wn 4 (pv h11 h12 h14) hc)) rfl))⟩⟩, fun h15 => ⟨fun h16 => ⟨rfl, (t7i (ok_of he (hB (wn 1 (pv h11 h15 h16) hc)) rfl))⟩, fun h17 => ⟨rfl, (t7i (ok_of he (hB (wz (pv h11 h15 h17) hc)) rfl))⟩⟩⟩⟩, ⟨rfl, (t7i ⟨hb, rfl, (t7i ⟨rfl, (t7i (t7i ⟨rfl, rfl, rfl, (t7i ⟨rfl, rfl, rfl, rfl, rfl, rfl, rfl, rfl, rfl, (t7i ⟨rfl, rfl, rfl, rfl, rfl, rfl, rfl, rfl, rfl, rfl, rfl, rfl, rfl, rfl, rfl, rfl, rfl, rfl, rfl, rfl, rfl, rfl, rfl, trivial⟩)⟩)⟩))⟩)⟩)⟩, hb, rfl, (t7i ⟨rfl, (t7i ⟨rfl, (t7i (t7i ⟨rfl, rfl, rfl, (t7i ⟨rfl, rfl, rfl, rfl, rfl, rfl, rfl, rfl, rfl, (t7i ⟨rfl, rfl, rfl, rfl, rfl, rfl, rfl, rfl, rfl, rfl, rfl, rfl, rfl, rfl, rfl, rfl, rfl, rfl, rfl, rfl, rfl, rfl, rfl, trivial⟩)⟩)⟩))⟩)⟩)⟩⟩⟩
theorem okb_3ft (op : Int) (wide : Bool) (d s disp imm cc : Int) (hk : kOf (formOf op) = 3) (hb : BE.den (.cmp .eql (.rem (.var s) (.lit 8)) (.lit 4)) = true) : rencP_3ft op wide d s disp imm cc (EncO (xR op wide (.lit false) d s disp imm cc)) (amdErr (xR op wide (.lit false) d s disp imm cc) ≠ 0) (amdBytes (xR op wide (.lit false) d s disp imm cc)).length (amdErr (xR op wide (.lit false) d s disp imm cc)) := by
  unfold rencP_3ft
  exact ⟨hk, fun b => fun hf => ⟨fun h0 => (er_of (ae (x := (xR op wide (.lit false) d s disp imm cc)) hf).symm (n0t h0)), fun h0 => have he := (ae (x := (xR op wide (.lit false) d s disp imm cc)) hf).trans (n0f h0); have hB {l : List Int} := @ab (xR op wide (.lit false) d s disp imm cc) _ l hf; have hc := (cl_3ft hb (n0f h0)); ⟨⟨fun h4 => ⟨fun h5 => ⟨fun h6 => ⟨rfl, (t7i (ok_of he (hB (wn 13 (pv h4 h5 h6) hc)) rfl))⟩, fun h7 => ⟨rfl, (t7i (ok_of he (hB (wn 12 (pv h4 h5 h7) hc)) rfl))⟩⟩, fun h8 => ⟨fun h9 => ⟨rfl, (t7i (ok_of he (hB (wn 9 (pv h4 h8 h9) hc)) rfl))⟩, fun h10 => ⟨rfl, (t7i (ok_of he (hB (wn 8 (pv h4 h8 h10) hc)) rfl))⟩⟩⟩, fun h11 => ⟨fun h12 => ⟨fun h13 => ⟨rfl, (t7i (ok_of he (hB (wn 5 (pv h11 h12 h13) hc)) rfl))⟩, fun h14 => ⟨rfl, (t7i (ok_of he (hB (wn 4 (pv h11 h12 h14) hc)) rfl))⟩⟩, fun h15 => ⟨fun h16 => ⟨rfl, (t7i (ok_of he (hB (wn 1 (pv h11 h15 h16) hc)) rfl))⟩, fun h17 => ⟨rfl, (t7i (ok_of he (hB (wz (pv h11 h15 h17) hc)) rfl))⟩⟩⟩⟩, ⟨rfl, (t7i ⟨hb, rfl, (t7i ⟨rfl, (t7i (t7i ⟨rfl, rfl, rfl, (t7i ⟨rfl, rfl, rfl, rfl, rfl, rfl, rfl, rfl, rfl, (t7i ⟨rfl, rfl, rfl, rfl, rfl, rfl, rfl, rfl, rfl, rfl, rfl, trivial⟩)⟩)⟩))⟩)⟩)⟩, hb, rfl, (t7i ⟨rfl, (t7i ⟨rfl, (t7i (t7i ⟨rfl, rfl, rfl, (t7i ⟨rfl, rfl, rfl, rfl, rfl, rfl, rfl, rfl, rfl, (t7i ⟨rfl, rfl, rfl, rfl, rfl, rfl, rfl, rfl, rfl, rfl, rfl, trivial⟩)⟩)⟩))⟩)⟩)⟩⟩⟩
theorem okb_3ff (op : Int) (wide : Bool) (d s disp imm cc : Int) (hk : kOf (formOf op) = 3) (hb : BE.den (.cmp .eql (.rem (.var s) (.lit 8)) (.lit 4)) = false) : rencP_3ff op wide d s disp imm cc (EncO (xR op wide (.lit false) d s disp imm cc)) (amdErr (xR op wide (.lit false) d s disp imm cc) ≠ 0) (amdBytes (xR op wide (.lit false) d s disp imm cc)).length (amdErr (xR op wide (.lit false) d s disp imm cc)) := by
  unfold rencP_3ff
  exact ⟨hk, fun b => fun hf => ⟨fun h0 => (er_of (ae (x := (xR op wide (.lit false) d s disp imm cc)) hf).symm (n0t h0)), fun h0 => have he := (ae (x := (xR op wide (.lit false) d s disp imm cc)) hf).trans (n0f h0); have hB {l : List Int} := @ab (xR op wide (.lit false) d s disp imm cc) _ l hf; have hc := (cl_3ff hb (n0f h0)); ⟨⟨fun h4 => ⟨fun h5 => ⟨fun h6 => ⟨rfl, (t7i (ok_of he (hB (wn 13 (pv h4 h5 h6) hc)) rfl))⟩, fun h7 => ⟨rfl, (t7i (ok_of he (hB (wn 12 (pv h4 h5 h7) hc)) rfl))⟩⟩, fun h8 => ⟨fun h9 => ⟨rfl, (t7i (ok_of he (hB (wn 9 (pv h4 h8 h9) hc)) rfl))⟩, fun h10 => ⟨rfl, (t7i (ok_of he (hB (wn 8 (pv h4 h8 h10) hc)) rfl))⟩⟩⟩, fun h11 => ⟨fun h12 => ⟨fun h13 => ⟨rfl, (t7i (ok_of he (hB (wn 5 (pv h11 h12 h13) hc)) rfl))⟩, fun h14 => ⟨rfl, (t7i (ok_of he (hB (wn 4 (pv h11 h12 h14) hc)) rfl))⟩⟩, fun h15 => ⟨fun h16 => ⟨rfl, (t7i (ok_of he (hB (wn 1 (pv h11 h15 h16) hc)) rfl))⟩, fun h17 => ⟨rfl, (t7i (ok_of he (hB (wz (pv h11 h15 h17) hc)) rfl))⟩⟩⟩⟩, ⟨rfl, (t7i ⟨hb, rfl, (t7i ⟨rfl, (t7i (t7i ⟨rfl, rfl, rfl, (t7i ⟨rfl, rfl, rfl, rfl, rfl, rfl, rfl, rfl, rfl, (t7i ⟨rfl, rfl, rfl, rfl, rfl, rfl, rfl, rfl, rfl, rfl, rfl, trivial⟩)⟩)⟩))⟩)⟩)⟩, hb, rfl, (t7i ⟨rfl, (t7i ⟨rfl, (t7i (t7i ⟨rfl, rfl, rfl, (t7i ⟨rfl, rfl, rfl, rfl, rfl, rfl, rfl, rfl, rfl, (t7i ⟨rfl, rfl, rfl, rfl, rfl, rfl, rfl, rfl, rfl, rfl, rfl, trivial⟩)⟩)⟩))⟩)⟩)⟩⟩⟩
theorem okb_4tt (op : Int) (wide : Bool) (d s disp imm cc : Int) (hk : kOf (formOf op) = 4) (hb : BE.den (.cmp .eql (.rem (.var d) (.lit 8)) (.lit 4)) = true) : rencP_4tt op wide d s disp imm cc (EncO (xR op wide (.lit true) d s disp imm cc)) (amdErr (xR op wide (.lit true) d s disp imm cc) ≠ 0) (amdBytes (xR op wide (.lit true) d s disp imm cc)).length (amdErr (xR op wide (.lit true) d s disp imm cc)) := by
  unfold rencP_4tt
  exact ⟨hk, fun b => fun hf => ⟨fun h0 => (er_of (ae (x := (xR op wide (.lit true) d s disp imm cc)) hf).symm (n0t h0)), fun h0 => have he := (ae (x := (xR op wide (.lit true) d s disp imm cc)) hf).trans (n0f h0); have hB {l : List Int} := @ab (xR op wide (.lit true) d s disp imm cc) _ l hf; have hc := (cl_4tt hb (n0f h0)); ⟨⟨fun h4 => ⟨fun h5 => ⟨fun h6 => ⟨rfl, (t7i (ok_of he (hB (wn 13 (pv h4 h5 h6) hc)) rfl))⟩, fun h7 => ⟨rfl, (t7i (ok_of he (hB (wn 12 (pv h4 h5 h7) hc)) rfl))⟩⟩, fun h8 => ⟨fun h9 => ⟨rfl, (t7i (ok_of he (hB (wn 9 (pv h4 h8 h9) hc)) rfl))⟩, fun h10 => ⟨rfl, (t7i (ok_of he (hB (wn 8 (pv h4 h8 h10) hc)) rfl))⟩⟩⟩, fun h11 => ⟨fun h12 => ⟨fun h13 => ⟨rfl, (t7i (ok_of he (hB (wn 5 (pv h11 h12 h13) hc)) rfl))⟩, fun h14 => ⟨rfl, (t7i (ok_of he (hB (wn 4 (pv h11 h12 h14) hc)) rfl))⟩⟩, fun h15 => ⟨fun h16 => ⟨rfl, (t7i (ok_of he (hB (wn 1 (pv h11 h15 h16) hc)) rfl))⟩, fun h17 => ⟨rfl, (t7i (ok_of he (hB (wz (pv h11 h15 h17) hc)) rfl))⟩⟩⟩⟩, ⟨rfl, (t7i ⟨hb, rfl, (t7i ⟨rfl, (t7i (t7i ⟨rfl, rfl, rfl, (t7i ⟨rfl, rfl, rfl, rfl, rfl, rfl, rfl, rfl, rfl, (t7i ⟨rfl, rfl, rfl, rfl, rfl, rfl, rfl, rfl, rfl, rfl, rfl, rfl, rfl, rfl, rfl, rfl, rfl, rfl, rfl, rfl, rfl, rfl, rfl, trivial⟩)⟩)⟩))⟩)⟩)⟩, hb, rfl, (t7i ⟨rfl, (t7i ⟨rfl, (t7i (t7i ⟨rfl, rfl, rfl, (t7i ⟨rfl, rfl, rfl, rfl, rfl, rfl, rfl, rfl, rfl, (t7i ⟨rfl, rfl, rfl, rfl, rfl, rfl, rfl, rfl, rfl, rfl, rfl, rfl, rfl, rfl, rfl, rfl, rfl, rfl, rfl, rfl, rfl, rfl, rfl, trivial⟩)⟩)⟩))⟩)⟩)⟩⟩⟩
theorem okb_4tf (op : Int) (wide : Bool) (d s disp imm cc : Int) (hk : kOf (formOf op) = 4) (hb : BE.den (.cmp .eql (.rem (.var d) (.lit 8)) (.lit 4)) = false) : rencP_4tf op wide d s disp imm cc (EncO (xR op wide (.lit true) d s disp imm cc)) (amdErr (xR op wide (.lit true) d s disp imm cc) ≠ 0) (amdBytes (xR op wide (.lit true) d s disp imm cc)).length (amdErr (xR op wide (.lit true) d s disp imm cc)) := by
  unfold rencP_4tf
  exact ⟨hk, fun b => fun hf => ⟨fun h0 => (er_of (ae (x := (xR op wide (.lit true) d s disp imm cc)) hf).symm (n0t h0)), fun h0 => have he := (ae (x := (xR op wide (.lit true) d s disp imm cc)) hf).trans (n0f h0); have hB {l : List Int} := @ab (xR op wide (.lit true) d s disp imm cc) _ l hf; have hc := (cl_4tf hb (n0f h0)); ⟨⟨fun h4 => ⟨fun h5 => ⟨fun h6 => ⟨rfl, (t7i (ok_of he (hB (wn 13 (pv h4 h5 h6) hc)) rfl))⟩, fun h7 => ⟨rfl, (t7i (ok_of he (hB (wn 12 (pv h4 h5 h7) hc)) rfl))⟩⟩, fun h8 => ⟨fun h9 => ⟨rfl, (t7i (ok_of he (hB (wn 9 (pv h4 h8 h9) hc)) rfl))⟩, fun h10 => ⟨rfl, (t7i (ok_of he (hB (wn 8 (pv h4 h8 h10) hc)) rfl))⟩⟩⟩, fun h11 => ⟨fun h12 => ⟨fun h13 => ⟨rfl, (t7i (ok_of he (hB (wn 5 (pv h11 h12 h13) hc)) rfl))⟩, fun h14 => ⟨rfl, (t7i (ok_of he (hB (wn 4 (pv h11 h12 h14) hc)) rfl))⟩⟩, fun h15 => ⟨fun h16 => ⟨rfl, (t7i (ok_of he (hB (wn 1 (pv h11 h15 h16) hc)) rfl))⟩, fun h17 => ⟨rfl, (t7i (ok_of he (hB (wz (pv h11 h15 h17) hc)) rfl))⟩⟩⟩⟩, ⟨rfl, (t7i ⟨hb, rfl, (t7i ⟨rfl, (t7i (t7i ⟨rfl, rfl, rfl, (t7i ⟨rfl, rfl, rfl, rfl, rfl, rfl, rfl, rfl, rfl, (t7i ⟨rfl, rfl, rfl, rfl, rfl, rfl, rfl, rfl, rfl, rfl, rfl, rfl, rfl, rfl, rfl, rfl, rfl, rfl, rfl, rfl, rfl, rfl, rfl, trivial⟩)⟩)⟩))⟩)⟩)⟩, hb, rfl, (t7i ⟨rfl, (t7i ⟨rfl, (t7i (t7i ⟨rfl, rfl, rfl, (t7i ⟨rfl, rfl, rfl, rfl, rfl, rfl, rfl, rfl, rfl, (t7i ⟨rfl, rfl, rfl, rfl, rfl, rfl, rfl, rfl, rfl, rfl, rfl, rfl, rfl, rfl, rfl, rfl, rfl, rfl, rfl, rfl, rfl, rfl, rfl, trivial⟩)⟩)⟩))⟩)⟩)⟩⟩⟩
theorem okb_4ft (op : Int) (wide : Bool) (d s disp imm cc : Int) (hk : kOf (formOf op) = 4) (hb : BE.den (.cmp .eql (.rem (.var d) (.lit 8)) (.lit 4)) = true) : rencP_4ft op wide d s disp imm cc (EncO (xR op wide (.lit false) d s disp imm cc)) (amdErr (xR op wide (.lit false) d s disp imm cc) ≠ 0) (amdBytes (xR op wide (.lit false) d s disp imm cc)).length (amdErr (xR op wide (.lit false) d s disp imm cc)) := by
  unfold rencP_4ft
  exact ⟨hk, fun b => fun hf => ⟨fun h0 => (er_of (ae (x := (xR op wide (.lit false) d s disp imm cc)) hf).symm (n0t h0)), fun h0 => have he := (ae (x := (xR op wide (.lit false) d s disp imm cc)) hf).trans (n0f h0); have hB {l : List Int} := @ab (xR op wide (.lit false) d s disp imm cc) _ l hf; have hc := (cl_4ft hb (n0f h0)); ⟨⟨fun h4 => ⟨fun h5 => ⟨fun h6 => ⟨rfl, (t7i (ok_of he (hB (wn 13 (pv h4 h5 h6) hc)) rfl))⟩, fun h7 => ⟨rfl, (t7i (ok_of he (hB (wn 12 (pv h4 h5 h7) hc)) rfl))⟩⟩, fun h8 => ⟨fun h9 => ⟨rfl, (t7i (ok_of he (hB (wn 9 (pv h4 h8 h9) hc)) rfl))⟩, fun h10 => ⟨rfl, (t7i (ok_of he (hB (wn 8 (pv h4 h8 h10) hc)) rfl))⟩⟩⟩, fun h11 => ⟨fun h12 => ⟨fun h13 => ⟨rfl, (t7i (ok_of he (hB (wn 5 (pv h11 h12 h13) hc)) rfl))⟩, fun h14 => ⟨rfl, (t7i (ok_of he (hB (wn 4 (pv h11 h12 h14) hc)) rfl))⟩⟩, fun h15 => ⟨fun h16 => ⟨rfl, (t7i (ok_of he (hB (wn 1 (pv h11 h15 h16) hc)) rfl))⟩, fun h17 => ⟨rfl, (t7i (ok_of he (hB (wz (pv h11 h15 h17) hc)) rfl))⟩⟩⟩⟩, ⟨rfl, (t7i ⟨hb, rfl, (t7i ⟨rfl, (t7i (t7i ⟨rfl, rfl, rfl, (t7i ⟨rfl, rfl, rfl, rfl, rfl, rfl, rfl, rfl, rfl, (t7i ⟨rfl, rfl, rfl, rfl, rfl, rfl, rfl, rfl, rfl, rfl, rfl, trivial⟩)⟩)⟩))⟩)⟩)⟩, hb, rfl, (t7i ⟨rfl, (t7i ⟨rfl, (t7i (t7i ⟨rfl, rfl, rfl, (t7i ⟨rfl, rfl, rfl, rfl, rfl, rfl, rfl, rfl, rfl, (t7i ⟨rfl, rfl, rfl, rfl, rfl, rfl, rfl, rfl, rfl, rfl, rfl, trivial⟩)⟩)⟩))⟩)⟩)⟩⟩⟩
theorem okb_4ff (op : Int) (wide : Bool) (d s disp imm cc : Int) (hk : kOf (formOf op) = 4) (hb : BE.den (.cmp .eql (.rem (.var d) (.lit 8)) (.lit 4)) = false) : rencP_4ff op wide d s disp imm cc (EncO (xR op wide (.lit false) d s disp imm cc)) (amdErr (xR op wide (.lit false) d s disp imm cc) ≠ 0) (amdBytes (xR op wide (.lit false) d s disp imm cc)).length (amdErr (xR op wide (.lit false) d s disp imm cc)) := by
  unfold rencP_4ff
  exact ⟨hk, fun b => fun hf => ⟨fun h0 => (er_of (ae (x := (xR op wide (.lit false) d s disp imm cc)) hf).symm (n0t h0)), fun h0 => have he := (ae (x := (xR op wide (.lit false) d s disp imm cc)) hf).trans (n0f h0); have hB {l : List Int} := @ab (xR op wide (.lit false) d s disp imm cc) _ l hf; have hc := (cl_4ff hb (n0f h0)); ⟨⟨fun h4 => ⟨fun h5 => ⟨fun h6 => ⟨rfl, (t7i (ok_of he (hB (wn 13 (pv h4 h5 h6) hc)) rfl))⟩, fun h7 => ⟨rfl, (t7i (ok_of he (hB (wn 12 (pv h4 h5 h7) hc)) rfl))⟩⟩, fun h8 => ⟨fun h9 => ⟨rfl, (t7i (ok_of he (hB (wn 9 (pv h4 h8 h9) hc)) rfl))⟩, fun h10 => ⟨rfl, (t7i (ok_of he (hB (wn 8 (pv h4 h8 h10) hc)) rfl))⟩⟩⟩, fun h11 => ⟨fun h12 => ⟨fun h13 => ⟨rfl, (t7i (ok_of he (hB (wn 5 (pv h11 h12 h13) hc)) rfl))⟩, fun h14 => ⟨rfl, (t7i (ok_of he (hB (wn 4 (pv h11 h12 h14) hc)) rfl))⟩⟩, fun h15 => ⟨fun h16 => ⟨rfl, (t7i (ok_of he (hB (wn 1 (pv h11 h15 h16) hc)) rfl))⟩, fun h17 => ⟨rfl, (t7i (ok_of he (hB (wz (pv h11 h15 h17) hc)) rfl))⟩⟩⟩⟩, ⟨rfl, (t7i ⟨hb, rfl, (t7i ⟨rfl, (t7i (t7i ⟨rfl, rfl, rfl, (t7i ⟨rfl, rfl, rfl, rfl, rfl, rfl, rfl, rfl, rfl, (t7i ⟨rfl, rfl, rfl, rfl, rfl, rfl, rfl, rfl, rfl, rfl, rfl, trivial⟩)⟩)⟩))⟩)⟩)⟩, hb, rfl, (t7i ⟨rfl, (t7i ⟨rfl, (t7i (t7i ⟨rfl, rfl, rfl, (t7i ⟨rfl, rfl, rfl, rfl, rfl, rfl, rfl, rfl, rfl, (t7i ⟨rfl, rfl, rfl, rfl, rfl, rfl, rfl, rfl, rfl, rfl, rfl, trivial⟩)⟩)⟩))⟩)⟩)⟩⟩⟩
theorem okb_5 (op : Int) (wide long : Bool) (d s disp imm cc : Int) (hk : kOf (formOf op) = 5) : rencP_5 op wide long d s disp imm cc (EncO (xR op wide (.var long) d s disp imm cc)) (amdErr (xR op wide (.var long) d s disp imm cc) ≠ 0) (amdBytes (xR op wide (.var long) d s disp imm cc)).length (amdErr (xR op wide (.var long) d s disp imm cc)) := by
  unfold rencP_5
  exact ⟨hk, fun b => fun hf => ⟨fun h0 => (er_of (ae (x := (xR op wide (.var long) d s disp imm cc)) hf).symm (n0t h0)), fun h0 => have he := (ae (x := (xR op wide (.var long) d s disp imm cc)) hf).trans (n0f h0); have hB {l : List Int} := @ab (xR op wide (.var long) d s disp imm cc) _ l hf; have hc := (cl_5 (n0f h0)); ⟨rfl, (t8i ⟨rfl, (t8i ⟨fun h4 => ⟨fun h5 => ⟨fun h6 => ⟨rfl, (t8i (ok_of he (hB (wn 13 (pv h4 h5 h6) hc)) rfl))⟩, fun h7 => ⟨rfl, (t8i (ok_of he (hB (wn 12 (pv h4 h5 h7) hc)) rfl))⟩⟩, fun h8 => ⟨fun h9 => ⟨rfl, (t8i (ok_of he (hB (wn 9 (pv h4 h8 h9) hc)) rfl))⟩, fun h10 => ⟨rfl, (t8i (ok_of he (hB (wn 8 (pv h4 h8 h10) hc)) rfl))⟩⟩⟩, fun h11 => ⟨fun h12 => ⟨fun h13 => ⟨rfl, (t8i (ok_of he (hB (wn 5 (pv h11 h12 h13) hc)) rfl))⟩, fun h14 => ⟨rfl, (t8i (ok_of he (hB (wn 4 (pv h11 h12 h14) hc)) rfl))⟩⟩, fun h15 => ⟨fun h16 => ⟨rfl, (t8i (ok_of he (hB (wn 1 (pv h11 h15 h16) hc)) rfl))⟩, fun h17 => ⟨rfl, (t8i (fix_of (Nat.le_of_ble_eq_true rfl) he (hB (wz (pv h11 h15 h17) hc)) rfl))⟩⟩⟩⟩)⟩)⟩⟩⟩
theorem okb_6t (op : Int) (wide : Bool) (d s disp imm cc : Int) (hk : kOf (formOf op) = 6) : rencP_6t op wide d s disp imm cc (EncO (xR op wide (.lit true) d s disp imm cc)) (amdErr (xR op wide (.lit true) d s disp imm cc) ≠ 0) (amdBytes (xR op wide (.lit true) d s disp imm cc)).length (amdErr (xR op wide (.lit true) d s disp imm cc)) := by
  unfold rencP_6t
  exact ⟨hk, fun b => fun hf => ⟨fun h0 => (er_of (ae (x := (xR op wide (.lit true) d s disp imm cc)) hf).symm (n0t h0)), fun h0 => have he := (ae (x := (xR op wide (.lit true) d s disp imm cc)) hf).trans (n0f h0); have hB {l : List Int} := @ab (xR op wide (.lit true) d s disp imm cc) _ l hf; have hc := (cl_6t hf (n0f h0)); ⟨⟨fun h4 => ⟨fun h5 => ⟨rfl, rfl, (t7i (ok_of he (hB (wn 9 (pv0 h4 h5) hc)) rfl))⟩, fun h6 => ⟨rfl, rfl, (t7i (ok_of he (hB (wn 8 (pv0 h4 h6) hc)) rfl))⟩⟩, fun h7 => ⟨fun h8 => ⟨rfl, rfl, (t7i (ok_of he (hB (wn 1 (pv0 h7 h8) hc)) rfl))⟩, fun h9 => ⟨rfl, rfl, (t7i (ok_of he (hB (wz (pv0 h7 h9) hc)) rfl))⟩⟩⟩, rfl, rfl, (t7i ⟨⟨rfl, rfl, (t7i ⟨rfl, rfl, (t7i ⟨rfl, rfl, (t7i ⟨rfl, rfl, (t7i (t7i ⟨rfl, rfl, rfl, rfl, (t7i ⟨rfl, rfl, rfl, rfl, rfl, rfl, rfl, rfl, rfl, rfl, rfl, rfl, (t7i ⟨rfl, rfl, rfl, rfl, rfl, rfl, rfl, rfl, rfl, rfl, rfl, rfl, rfl, rfl, rfl, rfl, rfl, rfl, trivial⟩)⟩)⟩))⟩)⟩)⟩)⟩, rfl, rfl, (t7i ⟨⟨rfl, rfl, (t7i ⟨rfl, rfl, (t7i ⟨rfl, rfl, (t7i (t7i ⟨rfl, rfl, rfl, rfl, (t7i ⟨rfl, rfl, rfl, rfl, rfl, rfl, rfl, rfl, rfl, rfl, rfl, rfl, (t7i ⟨rfl, rfl, rfl, rfl, rfl, rfl, rfl, rfl, rfl, rfl, rfl, rfl, rfl, rfl, rfl, rfl, rfl, rfl, trivial⟩)⟩)⟩))⟩)⟩)⟩, rfl, rfl, (t7i ⟨rfl, rfl, (t7i ⟨rfl, rfl, (t7i (t7i ⟨rfl, rfl, rfl, rfl, (t7i ⟨rfl, rfl, rfl, rfl, rfl, rfl, rfl, rfl, rfl, rfl, rfl, rfl, (t7i ⟨rfl, rfl, rfl, rfl, rfl, rfl, rfl, rfl, rfl, rfl, rfl, rfl, rfl, rfl, rfl, rfl, rfl, rfl, trivial⟩)⟩)⟩))⟩)⟩)⟩)⟩)⟩⟩⟩
theorem okb_6f (op : Int) (wide : Bool) (d s disp imm cc : Int) (hk : kOf (formOf op) = 6) : rencP_6f op wide d s disp imm cc (EncO (xR op wide (.lit false) d s disp imm cc)) (amdErr (xR op wide (.lit false) d s disp imm cc) ≠ 0) (amdBytes (xR op wide (.lit false) d s disp imm cc)).length (amdErr (xR op wide (.lit false) d s disp imm cc)) := by
  unfold rencP_6f
  exact ⟨hk, fun b => fun hf => ⟨fun h0 => (er_of (ae (x := (xR op wide (.lit false) d s disp imm cc)) hf).symm (n0t h0)), fun h0 => have he := (ae (x := (xR op wide (.lit false) d s disp imm cc)) hf).trans (n0f h0); have hB {l : List Int} := @ab (xR op wide (.lit false) d s disp imm cc) _ l hf; have hc := (cl_6f hf (n0f h0)); ⟨⟨fun h4 => ⟨fun h5 => ⟨rfl, rfl, (t7i (ok_of he (hB (wn 9 (pv0 h4 h5) hc)) rfl))⟩, fun h6 => ⟨rfl, rfl, (t7i (ok_of he (hB (wn 8 (pv0 h4 h6) hc)) rfl))⟩⟩, fun h7 => ⟨fun h8 => ⟨rfl, rfl, (t7i (ok_of he (hB (wn 1 (pv0 h7 h8) hc)) rfl))⟩, fun h9 => ⟨rfl, rfl, (t7i (ok_of he (hB (wz (pv0 h7 h9) hc)) rfl))⟩⟩⟩, rfl, rfl, (t7i ⟨⟨rfl, rfl, (t7i ⟨rfl, rfl, (t7i ⟨rfl, rfl, (t7i ⟨rfl, rfl, (t7i (t7i ⟨rfl, rfl, rfl, rfl, (t7i ⟨rfl, rfl, rfl, rfl, rfl, rfl, rfl, rfl, rfl, rfl, rfl, rfl, (t7i ⟨rfl, rfl, rfl, rfl, rfl, rfl, rfl, rfl, rfl, trivial⟩)⟩)⟩))⟩)⟩)⟩)⟩, rfl, rfl, (t7i ⟨⟨rfl, rfl, (t7i ⟨rfl, rfl, (t7i ⟨rfl, rfl, (t7i (t7i ⟨rfl, rfl, rfl, rfl, (t7i ⟨rfl, rfl, rfl, rfl, rfl, rfl, rfl, rfl, rfl, rfl, rfl, rfl, (t7i ⟨rfl, rfl, rfl, rfl, rfl, rfl, rfl, rfl, rfl, trivial⟩)⟩)⟩))⟩)⟩)⟩, rfl, rfl, (t7i ⟨rfl, rfl, (t7i ⟨rfl, rfl, (t7i (t7i ⟨rfl, rfl, rfl, rfl, (t7i ⟨rfl, rfl, rfl, rfl, rfl, rfl, rfl, rfl, rfl, rfl, rfl, rfl, (t7i ⟨rfl, rfl, rfl, rfl, rfl, rfl, rfl, rfl, rfl, trivial⟩)⟩)⟩))⟩)⟩)⟩)⟩)⟩⟩⟩
theorem okb_7 (op : Int) (wide long : Bool) (d s disp imm cc : Int) (hk : kOf (formOf op) = 7) : rencP_7 op wide long d s disp imm cc (EncO (xR op wide (.var long) d s disp imm cc)) (amdErr (xR op wide (.var long) d s disp imm cc) ≠ 0) (amdBytes (xR op wide (.var long) d s disp imm cc)).length (amdErr (xR op wide (.var long) d s disp imm cc)) := by
  unfold rencP_7
  exact ⟨hk, fun b => fun hf => ⟨fun h0 => (er_of (ae (x := (xR op wide (.var long) d s disp imm cc)) hf).symm (n0t h0)), fun h0 => have he := (ae (x := (xR op wide (.var long) d s disp imm cc)) hf).trans (n0f h0); have hB {l : List Int} := @ab (xR op wide (.var long) d s disp imm cc) _ l hf; have hc := (cl_7 hf (n0f h0)); ⟨rfl, rfl, rfl, (t8i ⟨rfl, rfl, rfl, (t8i ⟨fun h4 => ⟨fun h5 => ⟨rfl, rfl, rfl, (t8i (ok_of he (hB (wn 9 (pv0 h4 h5) hc)) rfl))⟩, fun h6 => ⟨rfl, rfl, rfl, (t8i (ok_of he (hB (wn 8 (pv0 h4 h6) hc)) rfl))⟩⟩, fun h7 => ⟨fun h8 => ⟨rfl, rfl, rfl, (t8i (ok_of he (hB (wn 1 (pv0 h7 h8) hc)) rfl))⟩, fun h9 => ⟨rfl, rfl, rfl, (t8i (fix_of (Nat.le_of_ble_eq_true rfl) he (hB (wz (pv0 h7 h9) hc)) rfl))⟩⟩⟩)⟩)⟩⟩⟩
theorem okb_8 (op : Int) (wide long : Bool) (d s disp imm cc : Int) (hk : kOf (formOf op) = 8) : rencP_8 op wide long d s disp imm cc (EncO (xR op wide (.var long) d s disp imm cc)) (amdErr (xR op wide (.var long) d s disp imm cc) ≠ 0) (amdBytes (xR op wide (.var long) d s disp imm cc)).length (amdErr (xR op wide (.var long) d s disp imm cc)) := by
  unfold rencP_8
  exact ⟨hk, fun b => fun hf => ⟨fun h0 => (er_of (ae (x := (xR op wide (.var long) d s disp imm cc)) hf).symm (n0t h0)), fun h0 => have he := (ae (x := (xR op wide (.var long) d s disp imm cc)) hf).trans (n0f h0); have hB {l : List Int} := @ab (xR op wide (.var long) d s disp imm cc) _ l hf; have hc := (cl_8 hf (n0f h0)); ⟨fun h4 => (ok_of he (hB (wn 1 (pvf h4) hc)) rfl), fun h5 => (fix_of (Nat.le_of_ble_eq_true rfl) he (hB (wz (pvf h5) hc)) rfl)⟩⟩⟩
theorem okb_9t (op : Int) (wide : Bool) (d s disp imm cc : Int) (hk : kOf (formOf op) = 9) : rencP_9t op wide d s disp imm cc (EncO (xR op wide (.lit true) d s disp imm cc)) (amdErr (xR op wide (.lit true) d s disp imm cc) ≠ 0) (amdBytes (xR op wide (.lit true) d s disp imm cc)).length (amdErr (xR op wide (.lit true) d s disp imm cc)) := by
  unfold rencP_9t
  exact ⟨hk, fun b => fun hf => ⟨fun h0 => (er_of (ae (x := (xR op wide (.lit true) d s disp imm cc)) hf).symm (n0t h0)), fun h0 => have he := (ae (x := (xR op wide (.lit true) d s disp imm cc)) hf).trans (n0f h0); have hB {l : List Int} := @ab (xR op wide (.lit true) d s disp imm cc) _ l hf; have hc := (cl_9t (n0f h0)); (ok_of he (hB hc.symm) rfl)⟩⟩
theorem okb_9f (op : Int) (wide : Bool) (d s disp imm cc : Int) (hk : kOf (formOf op) = 9) : rencP_9f op wide d s disp imm cc (EncO (xR op wide (.lit false) d s disp imm cc)) (amdErr (xR op wide (.lit false) d s disp imm cc) ≠ 0) (amdBytes (xR op wide (.lit false) d s disp imm cc)).length (amdErr (xR op wide (.lit false) d s disp imm cc)) := by
  unfold rencP_9f
  exact ⟨hk, fun b => fun hf => ⟨fun h0 => (er_of (ae (x := (xR op wide (.lit false) d s disp imm cc)) hf).symm (n0t h0)), fun h0 => have he := (ae (x := (xR op wide (.lit false) d s disp imm cc)) hf).trans (n0f h0); have hB {l : List Int} := @ab (xR op wide (.lit false) d s disp imm cc) _ l hf; have hc := (cl_9f (n0f h0)); ⟨(ok_of he (hB hc.symm) rfl), ⟨rfl, (t7i ⟨rfl, (t7i ⟨rfl, (t7i (t7i ⟨rfl, rfl, rfl, (t7i ⟨rfl, rfl, rfl, rfl, (t7i ⟨rfl, rfl, rfl, rfl, trivial⟩)⟩)⟩))⟩)⟩)⟩, rfl, (t7i ⟨rfl, (t7i ⟨rfl, (t7i (t7i ⟨rfl, rfl, rfl, (t7i ⟨rfl, rfl, rfl, rfl, (t7i ⟨rfl, rfl, rfl, rfl, trivial⟩)⟩)⟩))⟩)⟩)⟩⟩⟩
theorem okb_10t (op : Int) (wide : Bool) (d s disp imm cc : Int) (hk : kOf (formOf op) = 10) : rencP_10t op wide d s disp imm cc (EncO (xR op wide (.lit true) d s disp imm cc)) (amdErr (xR op wide (.lit true) d s disp imm cc) ≠ 0) (amdBytes (xR op wide (.lit true) d s disp imm cc)).length (amdErr (xR op wide (.lit true) d s disp imm cc)) := by
  unfold rencP_10t
  exact ⟨hk, fun b => fun hf => ⟨fun h0 => (er_of (ae (x := (xR op wide (.lit true) d s disp imm cc)) hf).symm (n0t h0)), fun h0 => have he := (ae (x := (xR op wide (.lit true) d s disp imm cc)) hf).trans (n0f h0); have hB {l : List Int} := @ab (xR op wide (.lit true) d s disp imm cc) _ l hf; have hc := (cl_10t (n0f h0)); ⟨(ok_of he (hB hc.symm) rfl), (t7i (t7i (t7i (t7i ⟨rfl, rfl, rfl, (t7i ⟨rfl, rfl, rfl, rfl, rfl, rfl, rfl, (t7i ⟨rfl, rfl, rfl, rfl, rfl, rfl, rfl, rfl, rfl, rfl, rfl, rfl, rfl, rfl, rfl, trivial⟩)⟩)⟩)))), (t7i (t7i (t7i (t7i ⟨rfl, rfl, rfl, (t7i ⟨rfl, rfl, rfl, rfl, rfl, rfl, rfl, (t7i ⟨rfl, rfl, rfl, rfl, rfl, rfl, rfl, rfl, rfl, rfl, rfl, rfl, rfl, rfl, rfl, trivial⟩)⟩)⟩))))⟩⟩⟩
theorem okb_10f (op : Int) (wide : Bool) (d s disp imm cc : Int) (hk : kOf (formOf op) = 10) : rencP_10f op wide d s disp imm cc (EncO (xR op wide (.lit false) d s disp imm cc)) (amdErr (xR op wide (.lit false) d s disp imm cc) ≠ 0) (amdBytes (xR op wide (.lit false) d s disp imm cc)).length (amdErr (xR op wide (.lit false) d s disp imm cc)) := by
  unfold rencP_10f
  exact ⟨hk, fun b => fun hf => ⟨fun h0 => (er_of (ae (x := (xR op wide (.lit false) d s disp imm cc)) hf).symm (n0t h0)), fun h0 => have he := (ae (x := (xR op wide (.lit false) d s disp imm cc)) hf).trans (n0f h0); have hB {l : List Int} := @ab (xR op wide (.lit false) d s disp imm cc) _ l hf; have hc := (cl_10f (n0f h0)); ⟨(ok_of he (hB hc.symm) rfl), ⟨rfl, (t7i ⟨rfl, (t7i ⟨rfl, (t7i (t7i ⟨rfl, rfl, rfl, (t7i ⟨rfl, rfl, rfl, rfl, rfl, rfl, rfl, (t7i ⟨rfl, rfl, rfl, rfl, rfl, rfl, trivial⟩)⟩)⟩))⟩)⟩)⟩, rfl, (t7i ⟨rfl, (t7i ⟨rfl, (t7i (t7i ⟨rfl, rfl, rfl, (t7i ⟨rfl, rfl, rfl, rfl, rfl, rfl, rfl, (t7i ⟨rfl, rfl, rfl, rfl, rfl, rfl, trivial⟩)⟩)⟩))⟩)⟩)⟩⟩⟩
theorem okb_11 (op : Int) (wide long : Bool) (d s disp imm cc : Int) (hk : kOf (formOf op) = 11) : rencP_11 op wide long d s disp imm cc (EncO (xR op wide (.var long) d s disp imm cc)) (amdErr (xR op wide (.var long) d s disp imm cc) ≠ 0) (amdBytes (xR op wide (.var long) d s disp imm cc)).length (amdErr (xR op wide (.var long) d s disp imm cc)) := by
  unfold rencP_11
  exact ⟨hk, fun b => fun hf => ⟨fun h0 => (er_of (ae (x := (xR op wide (.var long) d s disp imm cc)) hf).symm (n0t h0)), fun h0 => have he := (ae (x := (xR op wide (.var long) d s disp imm cc)) hf).trans (n0f h0); have hB {l : List Int} := @ab (xR op wide (.var long) d s disp imm cc) _ l hf; have hc := cl_11; (fix_of (Nat.le_of_ble_eq_true rfl) he (hB hc) rfl)⟩⟩
theorem some_G {f : FuncId} {fn : Func} (h : ∀ G, GammaOk P G -> SpecOk P f (sxFunc P G (fun _ => 40) fn)) : SpecOk P f (fun args hp K => ∃ G, GammaOk P G /\ sxFunc P G (fun _ => 40) fn args hp K) := by
  intro B ν hp w args K h1 h2 h3 ⟨G, hG, hx⟩
  exact h G hG B ν hp w args K h1 h2 h3 hx
theorem kOf_le (f : Option Form) : kOf f <= 11 := by
  cases f with
  | none => decide
  | some f => cases f <;> simp [kOf]
abbrev reSG : SpecFn := fun args hp K => ∃ G, GammaOk P G /\ sxFunc P G (fun _ => 40) Tryd.f9 args hp K
theorem renq_0 (op : Int) (wide long : Bool) (d s disp imm cc : Int) (hk : kOf (formOf op) = 0) : ∃ l : BE, l.den = long /\ reSG [xArg (.var op) wide l d s disp imm cc] [] (encQ (EncO ⟨op, wide, long, d, s, disp, imm, cc⟩) (amdErr ⟨op, wide, long, d, s, disp, imm, cc⟩ ≠ 0) (amdBytes ⟨op, wide, long, d, s, disp, imm, cc⟩).length (amdErr ⟨op, wide, long, d, s, disp, imm, cc⟩)) := by
  exact ⟨.var long, rfl, FEK 0, FEK_ok 0, by rw [renc_0]; exact okb_0 op wide long d s disp imm cc hk⟩
theorem renq_1 (op : Int) (wide long : Bool) (d s disp imm cc : Int) (hk : kOf (formOf op) = 1) : ∃ l : BE, l.den = long /\ reSG [xArg (.var op) wide l d s disp imm cc] [] (encQ (EncO ⟨op, wide, long, d, s, disp, imm, cc⟩) (amdErr ⟨op, wide, long, d, s, disp, imm, cc⟩ ≠ 0) (amdBytes ⟨op, wide, long, d, s, disp, imm, cc⟩).length (amdErr ⟨op, wide, long, d, s, disp, imm, cc⟩)) := by
  exact ⟨.var long, rfl, FEK 1, FEK_ok 1, by rw [renc_1]; exact okb_1 op wide long d s disp imm cc hk⟩
theorem renq_2 (op : Int) (wide long : Bool) (d s disp imm cc : Int) (hk : kOf (formOf op) = 2) : ∃ l : BE, l.den = long /\ reSG [xArg (.var op) wide l d s disp imm cc] [] (encQ (EncO ⟨op, wide, long, d, s, disp, imm, cc⟩) (amdErr ⟨op, wide, long, d, s, disp, imm, cc⟩ ≠ 0) (amdBytes ⟨op, wide, long, d, s, disp, imm, cc⟩).length (amdErr ⟨op, wide, long, d, s, disp, imm, cc⟩)) := by
  exact ⟨.var long, rfl, FEK 2, FEK_ok 2, by rw [renc_2]; exact okb_2 op wide long d s disp imm cc hk⟩
theorem renq_3 (op : Int) (wide long : Bool) (d s disp imm cc : Int) (hk : kOf (formOf op) = 3) : ∃ l : BE, l.den = long /\ reSG [xArg (.var op) wide l d s disp imm cc] [] (encQ (EncO ⟨op, wide, long, d, s, disp, imm, cc⟩) (amdErr ⟨op, wide, long, d, s, disp, imm, cc⟩ ≠ 0) (amdBytes ⟨op, wide, long, d, s, disp, imm, cc⟩).length (amdErr ⟨op, wide, long, d, s, disp, imm, cc⟩)) := by
  cases long with
  | true =>
    cases hb : BE.den (.cmp .eql (.rem (.var s) (.lit 8)) (.lit 4)) with
    | true => exact ⟨.lit true, rfl, FEM 3 true, FEM_ok 3 true, by rw [renc_3tt]; exact okb_3tt op wide d s disp imm cc hk hb⟩
    | false => exact ⟨.lit true, rfl, FEM 3 false, FEM_ok 3 false, by rw [renc_3tf]; exact okb_3tf op wide d s disp imm cc hk hb⟩
  | false =>
    cases hb : BE.den (.cmp .eql (.rem (.var s) (.lit 8)) (.lit 4)) with
    | true => exact ⟨.lit false, rfl, FEM 3 true, FEM_ok 3 true, by rw [renc_3ft]; exact okb_3ft op wide d s disp imm cc hk hb⟩
    | false => exact ⟨.lit false, rfl, FEM 3 false, FEM_ok 3 false, by rw [renc_3ff]; exact okb_3ff op wide d s disp imm cc hk hb⟩
theorem renq_4 (op : Int) (wide long : Bool) (d s disp imm cc : Int) (hk : kOf (formOf op) = 4) : ∃ l : BE, l.den = long /\ reSG [xArg (.var op) wide l d s disp imm cc] [] (encQ (EncO ⟨op, wide, long, d, s, disp, imm, cc⟩) (amdErr ⟨op, wide, long, d, s, disp, imm, cc⟩ ≠ 0) (amdBytes ⟨op, wide, long, d, s, disp, imm, cc⟩).length (amdErr ⟨op, wide, long, d, s, disp, imm, cc⟩)) := by
  cases long with
  | true =>
    cases hb : BE.den (.cmp .eql (.rem (.var d) (.lit 8)) (.lit 4)) with
    | true => exact ⟨.lit true, rfl, FEM 4 true, FEM_ok 4 true, by rw [renc_4tt]; exact okb_4tt op wide d s disp imm cc hk hb⟩
    | false => exact ⟨.lit true, rfl, FEM 4 false, FEM_ok 4 false, by rw [renc_4tf]; exact okb_4tf op wide d s disp imm cc hk hb⟩
  | false =>
    cases hb : BE.den (.cmp .eql (.rem (.var d) (.lit 8)) (.lit 4)) with
    | true => exact ⟨.lit false, rfl, FEM 4 true, FEM_ok 4 true, by rw [renc_4ft]; exact okb_4ft op wide d s disp imm cc hk hb⟩
    | false => exact ⟨.lit false, rfl, FEM 4 false, FEM_ok 4 false, by rw [renc_4ff]; exact okb_4ff op wide d s disp imm cc hk hb⟩
theorem renq_5 (op : Int) (wide long : Bool) (d s disp imm cc : Int) (hk : kOf (formOf op) = 5) : ∃ l : BE, l.den = long /\ reSG [xArg (.var op) wide l d s disp imm cc] [] (encQ (EncO ⟨op, wide, long, d, s, disp, imm, cc⟩) (amdErr ⟨op, wide, long, d, s, disp, imm, cc⟩ ≠ 0) (amdBytes ⟨op, wide, long, d, s, disp, imm, cc⟩).length (amdErr ⟨op, wide, long, d, s, disp, imm, cc⟩)) := by
  exact ⟨.var long, rfl, FEK 5, FEK_ok 5, by rw [renc_5]; exact okb_5 op wide long d s disp imm cc hk⟩
theorem renq_6 (op : Int) (wide long : Bool) (d s disp imm cc : Int) (hk : kOf (formOf op) = 6) : ∃ l : BE, l.den = long /\ reSG [xArg (.var op) wide l d s disp imm cc] [] (encQ (EncO ⟨op, wide, long, d, s, disp, imm, cc⟩) (amdErr ⟨op, wide, long, d, s, disp, imm, cc⟩ ≠ 0) (amdBytes ⟨op, wide, long, d, s, disp, imm, cc⟩).length (amdErr ⟨op, wide, long, d, s, disp, imm, cc⟩)) := by
  cases long with
  | true => exact ⟨.lit true, rfl, FEK 6, FEK_ok 6, by rw [renc_6t]; exact okb_6t op wide d s disp imm cc hk⟩
  | false => exact ⟨.lit false, rfl, FEK 6, FEK_ok 6, by rw [renc_6f]; exact okb_6f op wide d s disp imm cc hk⟩
theorem renq_7 (op : Int) (wide long : Bool) (d s disp imm cc : Int) (hk : kOf (formOf op) = 7) : ∃ l : BE, l.den = long /\ reSG [xArg (.var op) wide l d s disp imm cc] [] (encQ (EncO ⟨op, wide, long, d, s, disp, imm, cc⟩) (amdErr ⟨op, wide, long, d, s, disp, imm, cc⟩ ≠ 0) (amdBytes ⟨op, wide, long, d, s, disp, imm, cc⟩).length (amdErr ⟨op, wide, long, d, s, disp, imm, cc⟩)) := by
  exact ⟨.var long, rfl, FEK 7, FEK_ok 7, by rw [renc_7]; exact okb_7 op wide long d s disp imm cc hk⟩
theorem renq_8 (op : Int) (wide long : Bool) (d s disp imm cc : Int) (hk : kOf (formOf op) = 8) : ∃ l : BE, l.den = long /\ reSG [xArg (.var op) wide l d s disp imm cc] [] (encQ (EncO ⟨op, wide, long, d, s, disp, imm, cc⟩) (amdErr ⟨op, wide, long, d, s, disp, imm, cc⟩ ≠ 0) (amdBytes ⟨op, wide, long, d, s, disp, imm, cc⟩).length (amdErr ⟨op, wide, long, d, s, disp, imm, cc⟩)) := by
  exact ⟨.var long, rfl, FEK 8, FEK_ok 8, by rw [renc_8]; exact okb_8 op wide long d s disp imm cc hk⟩
theorem renq_9 (op : Int) (wide long : Bool) (d s disp imm cc : Int) (hk : kOf (formOf op) = 9) : ∃ l : BE, l.den = long /\ reSG [xArg (.var op) wide l d s disp imm cc] [] (encQ (EncO ⟨op, wide, long, d, s, disp, imm, cc⟩) (amdErr ⟨op, wide, long, d, s, disp, imm, cc⟩ ≠ 0) (amdBytes ⟨op, wide, long, d, s, disp, imm, cc⟩).length (amdErr ⟨op, wide, long, d, s, disp, imm, cc⟩)) := by
  cases long with
  | true => exact ⟨.lit true, rfl, FEK 9, FEK_ok 9, by rw [renc_9t]; exact okb_9t op wide d s disp imm cc hk⟩
  | false => exact ⟨.lit false, rfl, FEK 9, FEK_ok 9, by rw [renc_9f]; exact okb_9f op wide d s disp imm cc hk⟩
theorem renq_10 (op : Int) (wide long : Bool) (d s disp imm cc : Int) (hk : kOf (formOf op) = 10) : ∃ l : BE, l.den = long /\ reSG [xArg (.var op) wide l d s disp imm cc] [] (encQ (EncO ⟨op, wide, long, d, s, disp, imm, cc⟩) (amdErr ⟨op, wide, long, d, s, disp, imm, cc⟩ ≠ 0) (amdBytes ⟨op, wide, long, d, s, disp, imm, cc⟩).length (amdErr ⟨op, wide, long, d, s, disp, imm, cc⟩)) := by
  cases long with
  | true => exact ⟨.lit true, rfl, FEK 10, FEK_ok 10, by rw [renc_10t]; exact okb_10t op wide d s disp imm cc hk⟩
  | false => exact ⟨.lit false, rfl, FEK 10, FEK_ok 10, by rw [renc_10f]; exact okb_10f op wide d s disp imm cc hk⟩
theorem renq_11 (op : Int) (wide long : Bool) (d s disp imm cc : Int) (hk : kOf (formOf op) = 11) : ∃ l : BE, l.den = long /\ reSG [xArg (.var op) wide l d s disp imm cc] [] (encQ (EncO ⟨op, wide, long, d, s, disp, imm, cc⟩) (amdErr ⟨op, wide, long, d, s, disp, imm, cc⟩ ≠ 0) (amdBytes ⟨op, wide, long, d, s, disp, imm, cc⟩).length (amdErr ⟨op, wide, long, d, s, disp, imm, cc⟩)) := by
  exact ⟨.var long, rfl, FEK 11, FEK_ok 11, by rw [renc_11]; exact okb_11 op wide long d s disp imm cc hk⟩
theorem rencode_ok : SpecOk P 9 (rdSpec [.plain] encPre encOutsP) := by
  have hs : SpecOk P 9 reSG := some_G fun G hG => func_sound (un := fun _ => 40) hG Tryd.func9
  refine enc_spec (open_ok (ret_ok hs)) ?_
  rintro ⟨op, wide, long, d, s, disp, imm, cc⟩
  have key : ∃ l : BE, l.den = long /\ reSG [xArg (.var op) wide l d s disp imm cc] [] (encQ (EncO ⟨op, wide, long, d, s, disp, imm, cc⟩) (amdErr ⟨op, wide, long, d, s, disp, imm, cc⟩ ≠ 0) (amdBytes ⟨op, wide, long, d, s, disp, imm, cc⟩).length (amdErr ⟨op, wide, long, d, s, disp, imm, cc⟩)) := by
    have h12 := kOf_le (formOf op)
    have hc : kOf (formOf op) = 0 ∨ kOf (formOf op) = 1 ∨ kOf (formOf op) = 2 ∨ kOf (formOf op) = 3 ∨ kOf (formOf op) = 4 ∨ kOf (formOf op) = 5 ∨ kOf (formOf op) = 6 ∨ kOf (formOf op) = 7 ∨ kOf (formOf op) = 8 ∨ kOf (formOf op) = 9 ∨ kOf (formOf op) = 10 ∨ kOf (formOf op) = 11 := by omega
    rcases hc with h | h | h | h | h | h | h | h | h | h | h | h
    · exact renq_0 op wide long d s disp imm cc h
    · exact renq_1 op wide long d s disp imm cc h
    · exact renq_2 op wide long d s disp imm cc h
    · exact renq_3 op wide long d s disp imm cc h
    · exact renq_4 op wide long d s disp imm cc h
    · exact renq_5 op wide long d s disp imm cc h
    · exact renq_6 op wide long d s disp imm cc h
    · exact renq_7 op wide long d s disp imm cc h
    · exact renq_8 op wide long d s disp imm cc h
    · exact renq_9 op wide long d s disp imm cc h
    · exact renq_10 op wide long d s disp imm cc h
    · exact renq_11 op wide long d s disp imm cc h
  obtain ⟨l, hl, hx⟩ := key
  refine open_ret (args' := [xArg (.var op) wide l d s disp imm cc]) (fun ν => ?_) (xArg_wf _ _ _ _ _ _ _ _) hx
  subst hl
  rfl
end Go.Proofs.YtajcmjjgnbaahaaDoor.Amd
