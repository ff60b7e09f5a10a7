/- The reference's Encode writes the bytes: its contract. -/
import Derived.Test.YtajcmjjgnbaahaaGreatRe4
set_option linter.unusedVariables false
set_option linter.unusedSimpArgs false
namespace Go.Proofs.YtajcmjjgnbaahaaGreat.Amd
open Go Go.Proofs.YtajcmjjgnbaahaaGreat.Sx Go.RowKit
theorem ae {x : AI} {f : Form} (hf : zA x.op = some f) : zM x = encE f x := by unfold zM; rw [hf]
theorem ab {x : AI} {f : Form} {l : List Int} (hf : zA x.op = some f) (h : encL f x = l) : zD x = l := by unfold zD; rw [hf]; exact h
theorem n0t {v : Int} (h : BE.den (.cmp .neq (.var v) (.lit 0)) = true) : v ≠ 0 := by rw [d_ne] at h; simpa using h
theorem n0f {v : Int} (h : BE.den (.cmp .neq (.var v) (.lit 0)) = false) : v = 0 := by rw [d_ne] at h; simpa using h
theorem er0 {x : AI} (hf : zA x.op = none) : zBD (EncO x) (zM x ≠ 0) (zM x) 181 := zDM (by unfold zM; rw [hf]) (by decide)
theorem t7i {op : Int} {wide : Bool} {d s disp imm cc : Int} {R : Prop} (h : R) : t7 op wide d s disp imm cc R := ⟨rfl, rfl, rfl, rfl, rfl, rfl, rfl, h⟩
theorem t8i {op : Int} {wide long : Bool} {d s disp imm cc : Int} {R : Prop} (h : R) : t8 op wide long d s disp imm cc R := ⟨rfl, rfl, rfl, rfl, rfl, rfl, rfl, rfl, h⟩
def pNw (w x y : Bool) : Int := (if w = true then 8 else 0) + (if x = true then 4 else 0) + (if y = true then 1 else 0)
theorem g7_d {a : Int} {x : Bool} (h : BE.den (g7 a) = x) : (7 < a) = (x = true) := by
 unfold g7 at h; rw [zZY] at h; subst h; simp
theorem pv {wide w : Bool} {a b : Int} {x y : Bool} (hw : wide = w) (ha : BE.den (g7 a) = x) (hb : BE.den (g7 b) = y) : pfx wide a b = pNw w x y := by
 unfold pfx pNw; simp only [hw, g7_d ha, g7_d hb]
theorem pv0 {wide w : Bool} {b : Int} {y : Bool} (hw : wide = w) (hb : BE.den (g7 b) = y) : pfx wide 0 b = pNw w false y := by
 unfold pfx pNw; simp only [hw, g7_d hb]; simp
theorem pvf {b : Int} {y : Bool} (hb : BE.den (g7 b) = y) : pfx false 0 b = pNw false false y := by
 unfold pfx pNw; simp only [g7_d hb]; simp
theorem wp_z {p : Int} {l : List Int} {cells : List SV} (hp : p = 0) (hl : cells.map zBb = l) : zAO p l = cells.map zBb := by rw [hp, hl]; rfl
theorem wp_n {p P Q : Int} {l : List Int} {cells : List SV} (hp : p = P) (h0 : P ≠ 0) (hq : Q = 64 + P) (hl : cells.map zBb = l) : zAO p l = (c8 (.lit Q) :: cells).map zBb := by
 subst hp
 subst hq
 unfold zAO
 rw [if_neg h0, <- hl]; rfl
theorem wz {p : Int} {l : List Int} {cells : List SV} (hp : p = 0) (hl : cells.map zBb = l) : zAO p l = cells.map zBb := wp_z hp hl
theorem wn {p : Int} (P : Int) {l : List Int} {cells : List SV} (hp : p = P) (hl : cells.map zBb = l) (h0 : P ≠ 0 := by decide) : zAO p l = (c8 (.lit (64 + P)) :: cells).map zBb := wp_n hp h0 rfl hl
theorem zL6 {x : AI} {cells : List SV} {E : Prop} (hn : cells.length <= 9223372036854775807) (he : zM x = 0) (hB : zD x = cells.map zBb) (hk : cells.all intB = true) : zMy (EncO x) E (zD x).length cells := by
 have hl : (zD x).length = cells.length := by rw [hB, List.length_map]
 refine .inl ⟨(cells.length, fun e => (zTn cells (e * 1 + 0)).den), ⟨he, by rw [hl]; exact Nat.le_refl _, hn, fun e h => ?_⟩, hl.symm, rfl, rfl, fun _ _ => rfl, trivial⟩
 rw [hl] at h
 have hx : cells[e]? = some cells[e] := List.getElem?_eq_getElem h
 have hi : intB cells[e] = true := List.all_eq_true.1 hk _ (List.getElem_mem h)
 show (zTn cells (e * 1 + 0)).den = _
 unfold zTn
 rw [hB, List.getD_eq_getElem?_getD, List.getElem?_map, Nat.mul_one, Nat.add_zero, hx]
 cases hc : cells[e] <;> rw [hc] at hi <;> first | rfl | simp [intB] at hi
theorem er1 {a e : Int} (h : (if zV a = true then 182 else e) = (0 : Int)) : 0 <= a /\ a <= 15 := zEG (zAM (zAT (by decide) h).1)
theorem er2 {a b e : Int} (h : (if zV a = true ∨ zV b = true then 182 else e) = (0 : Int)) : (0 <= a /\ a <= 15) /\ 0 <= b /\ b <= 15 :=
 ⟨zEG (zAM fun hh => (zAT (by decide) h).1 (.inl hh)), zEG (zAM fun hh => (zAT (by decide) h).1 (.inr hh))⟩
theorem zSm (v : Int) (n : Nat) (hn : n <= 24) : IntKind.u8.wrap (shrI .u64 (IntKind.u64.wrap v) n) = v / 2 ^ n % 256 := by
 rw [zCU .u64 _ n (by simp [IntKind.bits]; omega), zGE, zBe]
 have hp : (2 : Int) ^ n * 2 ^ (24 - n) = 2 ^ 24 := by rw [<- Int.pow_add]; congr 1; omega
 have hpos : (0 : Int) < 2 ^ n := Int.pow_pos (by decide)
 have h1 : v % 18446744073709551616 = v - 18446744073709551616 * (v / 18446744073709551616) := by omega
 have h2 : (18446744073709551616 : Int) = 2 ^ n * (2 ^ (24 - n) * 1099511627776) := by rw [<- Int.mul_assoc, hp]; decide
 rw [h1, h2, Int.mul_assoc, Int.sub_mul_ediv_left _ _ (by omega), Int.mul_assoc]
 have h3 : (1099511627776 : Int) = 256 * 4294967296 := by decide
 rw [h3]
 generalize v / 2 ^ n = q
 generalize v / (2 ^ n * (2 ^ (24 - n) * (256 * 4294967296))) = r
 rw [show (2 : Int) ^ (24 - n) * (256 * 4294967296 * r) = 256 * (2 ^ (24 - n) * 4294967296 * r) by
  rw [Int.mul_assoc, Int.mul_left_comm, Int.mul_assoc]]
 omega
theorem nb0 (v : Int) : (nbC0 (.var v)).den = v % 256 := by
 have := zSm v 0 (by decide); simp only [Int.pow_zero, Int.ediv_one] at this; exact this
theorem nb1 (v : Int) : (nbC1 (.var v)).den = v / 256 % 256 := zSm v 8 (by decide)
theorem nb2 (v : Int) : (nbC2 (.var v)).den = v / 65536 % 256 := zSm v 16 (by decide)
theorem nb3 (v : Int) : (nbC3 (.var v)).den = v / 16777216 % 256 := zSm v 24 (by decide)
theorem zJv {r : Int} (h : 0 <= r) : r.tmod 8 = r % 8 := Int.tmod_eq_emod_of_nonneg h
theorem pr_d {e1 e2 : IE} {n mm r b : Int} (h1 : e1.den = r) (h2 : e2.den = b) (hn : n = 64 * mm) (hm : 0 <= mm /\ mm <= 3) (hr : 0 <= r) (hb : 0 <= b) : (prA n e1 e2).den = zAm mm r b := by
 unfold prA zAm
 simp only [IE.den, h1, h2, zJv hr, zJv hb]
 rw [zE (n := 8 * (r % 8)) (by omega) (by omega), zE (n := n + 8 * (r % 8)) (by omega) (by omega), zE (by omega) (by omega), zGE]
 omega
theorem pr_v {n mm r b : Int} (hn : n = 64 * mm) (hm : 0 <= mm /\ mm <= 3) (hr : 0 <= r) (hb : 0 <= b) : (prA n (.var r) (.var b)).den = zAm mm r b := pr_d (e1 := .var r) (e2 := .var b) rfl rfl hn hm hr hb
theorem zSj {s : Int} (h0 : 0 <= s) (hb : BE.den (.cmp .eql (.rem (.var s) (.lit 8)) (.lit 4)) = true) : s % 8 = 4 := by
 simp only [BE.den, IE.den, za, zJv h0, decide_eq_true_eq] at hb; exact hb
theorem zSk {s : Int} (h0 : 0 <= s) (hb : BE.den (.cmp .eql (.rem (.var s) (.lit 8)) (.lit 4)) = false) : ¬ s % 8 = 4 := by
 simp only [BE.den, IE.den, za, zJv h0, decide_eq_false_iff_not] at hb; exact hb
theorem reg8 {c d : Int} (hc : c = 184 ∨ c = 80 ∨ c = 88) (hd : 0 <= d) : IntKind.u8.wrap (c + IntKind.u8.wrap (d.tmod 8)) = c + d % 8 := by
 rw [zJv hd, zGE, zGE]; omega
theorem cc8 {c k : Int} (hc : c = 112 ∨ c = 128) (h : ¬ (k < 2 ∨ 7 < k)) : IntKind.u8.wrap (c + IntKind.u8.wrap k) = c + k := by
 rw [zGE, zGE]; omega
theorem cl_1 {d imm e : Int} (h : (if zV d = true then 182 else e) = (0 : Int)) :
  [c8 (.add .u8 (.lit 184) (IE.one (.conv .u8) (IE.two .rem (.var d) (.lit 8)))), c8 (nbC0 (.var imm)), c8 (nbC1 (.var imm)), c8 (nbC2 (.var imm)), c8 (nbC3 (.var imm))].map zBb = (184 + d % 8) :: le4 imm := by
 show [IntKind.u8.wrap (184 + IntKind.u8.wrap (d.tmod 8)), (nbC0 (.var imm)).den, (nbC1 (.var imm)).den, (nbC2 (.var imm)).den, (nbC3 (.var imm)).den] = _
 rw [reg8 (.inl rfl) (er1 h).1, nb0, nb1, nb2, nb3]; rfl
theorem cl_2 {c s d e : Int} (h : (if zV s = true ∨ zV d = true then 182 else e) = (0 : Int)) : [c8 (.var c), c8 (prA 192 (.var s) (.var d))].map zBb = [c, zAm 3 s d] := by
 show [c, (prA 192 (.var s) (.var d)).den] = _
 rw [pr_v (mm := 3) (by decide) (by decide) (er2 h).1.1 (er2 h).2.1]
theorem cl_5 {s d e : Int} (h : (if zV s = true ∨ zV d = true then 182 else e) = (0 : Int)) : [c8 (.lit 15), c8 (.lit 175), c8 (prA 192 (.var d) (.var s))].map zBb = [15, 175, zAm 3 d s] := by
 show [15, 175, (prA 192 (.var d) (.var s)).den] = _
 rw [pr_v (mm := 3) (by decide) (by decide) (er2 h).2.1 (er2 h).1.1]
theorem zZe {d s disp e : Int} (hb : BE.den (.cmp .eql (.rem (.var s) (.lit 8)) (.lit 4)) = true) (h : (if zV d = true ∨ zV s = true then 182 else e) = (0 : Int)) :
  [c8 (.lit 139), c8 (prB 2 (.var d) (.var s)), c8 (.lit 36), c8 (nbC0 (.var disp)), c8 (nbC1 (.var disp)), c8 (nbC2 (.var disp)), c8 (nbC3 (.var disp))].map zBb = 139 :: memB d s disp true := by
 show [139, (prA 128 (.var d) (.var s)).den, 36, (nbC0 (.var disp)).den, (nbC1 (.var disp)).den, (nbC2 (.var disp)).den, (nbC3 (.var disp)).den] = _
 rw [pr_v (mm := 2) (by decide) (by decide) (er2 h).1.1 (er2 h).2.1, nb0, nb1, nb2, nb3]
 unfold memB
 rw [if_pos (zSj (er2 h).2.1 hb)]; rfl
theorem zZf {d s disp e : Int} (hb : BE.den (.cmp .eql (.rem (.var s) (.lit 8)) (.lit 4)) = false) (h : (if zV d = true ∨ zV s = true then 182 else e) = (0 : Int)) :
  [c8 (.lit 139), c8 (prB 2 (.var d) (.var s)), c8 (nbC0 (.var disp)), c8 (nbC1 (.var disp)), c8 (nbC2 (.var disp)), c8 (nbC3 (.var disp))].map zBb = 139 :: memB d s disp true := by
 show [139, (prA 128 (.var d) (.var s)).den, (nbC0 (.var disp)).den, (nbC1 (.var disp)).den, (nbC2 (.var disp)).den, (nbC3 (.var disp)).den] = _
 rw [pr_v (mm := 2) (by decide) (by decide) (er2 h).1.1 (er2 h).2.1, nb0, nb1, nb2, nb3]
 unfold memB
 rw [if_neg (zSk (er2 h).2.1 hb)]; rfl
theorem zZg {d s disp e : Int} (hb : BE.den (.cmp .eql (.rem (.var s) (.lit 8)) (.lit 4)) = true) (h : (if zV d = true ∨ zV s = true then 182 else e) = (0 : Int)) :
  [c8 (.lit 139), c8 (prB 1 (.var d) (.var s)), c8 (.lit 36), c8 (nbC0 (.var disp))].map zBb = 139 :: memB d s disp false := by
 show [139, (prA 64 (.var d) (.var s)).den, 36, (nbC0 (.var disp)).den] = _
 rw [pr_v (mm := 1) (by decide) (by decide) (er2 h).1.1 (er2 h).2.1, nb0]
 unfold memB
 rw [if_pos (zSj (er2 h).2.1 hb)]; rfl
theorem zZh {d s disp e : Int} (hb : BE.den (.cmp .eql (.rem (.var s) (.lit 8)) (.lit 4)) = false) (h : (if zV d = true ∨ zV s = true then 182 else e) = (0 : Int)) :
  [c8 (.lit 139), c8 (prB 1 (.var d) (.var s)), c8 (nbC0 (.var disp))].map zBb = 139 :: memB d s disp false := by
 show [139, (prA 64 (.var d) (.var s)).den, (nbC0 (.var disp)).den] = _
 rw [pr_v (mm := 1) (by decide) (by decide) (er2 h).1.1 (er2 h).2.1, nb0]
 unfold memB
 rw [if_neg (zSk (er2 h).2.1 hb)]; rfl
theorem zZa {d s disp e : Int} (hb : BE.den (.cmp .eql (.rem (.var d) (.lit 8)) (.lit 4)) = true) (h : (if zV d = true ∨ zV s = true then 182 else e) = (0 : Int)) :
  [c8 (.lit 137), c8 (prB 2 (.var s) (.var d)), c8 (.lit 36), c8 (nbC0 (.var disp)), c8 (nbC1 (.var disp)), c8 (nbC2 (.var disp)), c8 (nbC3 (.var disp))].map zBb = 137 :: memB s d disp true := by
 show [137, (prA 128 (.var s) (.var d)).den, 36, (nbC0 (.var disp)).den, (nbC1 (.var disp)).den, (nbC2 (.var disp)).den, (nbC3 (.var disp)).den] = _
 rw [pr_v (mm := 2) (by decide) (by decide) (er2 h).2.1 (er2 h).1.1, nb0, nb1, nb2, nb3]
 unfold memB
 rw [if_pos (zSj (er2 h).1.1 hb)]; rfl
theorem zZb {d s disp e : Int} (hb : BE.den (.cmp .eql (.rem (.var d) (.lit 8)) (.lit 4)) = false) (h : (if zV d = true ∨ zV s = true then 182 else e) = (0 : Int)) :
  [c8 (.lit 137), c8 (prB 2 (.var s) (.var d)), c8 (nbC0 (.var disp)), c8 (nbC1 (.var disp)), c8 (nbC2 (.var disp)), c8 (nbC3 (.var disp))].map zBb = 137 :: memB s d disp true := by
 show [137, (prA 128 (.var s) (.var d)).den, (nbC0 (.var disp)).den, (nbC1 (.var disp)).den, (nbC2 (.var disp)).den, (nbC3 (.var disp)).den] = _
 rw [pr_v (mm := 2) (by decide) (by decide) (er2 h).2.1 (er2 h).1.1, nb0, nb1, nb2, nb3]
 unfold memB
 rw [if_neg (zSk (er2 h).1.1 hb)]; rfl
theorem zZc {d s disp e : Int} (hb : BE.den (.cmp .eql (.rem (.var d) (.lit 8)) (.lit 4)) = true) (h : (if zV d = true ∨ zV s = true then 182 else e) = (0 : Int)) :
  [c8 (.lit 137), c8 (prB 1 (.var s) (.var d)), c8 (.lit 36), c8 (nbC0 (.var disp))].map zBb = 137 :: memB s d disp false := by
 show [137, (prA 64 (.var s) (.var d)).den, 36, (nbC0 (.var disp)).den] = _
 rw [pr_v (mm := 1) (by decide) (by decide) (er2 h).2.1 (er2 h).1.1, nb0]
 unfold memB
 rw [if_pos (zSj (er2 h).1.1 hb)]; rfl
theorem zZd {d s disp e : Int} (hb : BE.den (.cmp .eql (.rem (.var d) (.lit 8)) (.lit 4)) = false) (h : (if zV d = true ∨ zV s = true then 182 else e) = (0 : Int)) :
  [c8 (.lit 137), c8 (prB 1 (.var s) (.var d)), c8 (nbC0 (.var disp))].map zBb = 137 :: memB s d disp false := by
 show [137, (prA 64 (.var s) (.var d)).den, (nbC0 (.var disp)).den] = _
 rw [pr_v (mm := 1) (by decide) (by decide) (er2 h).2.1 (er2 h).1.1, nb0]
 unfold memB
 rw [if_neg (zSk (er2 h).1.1 hb)]; rfl
theorem zbG {op n d imm e : Int} (hf : zA op = some (Form.imm n)) (h : (if zV d = true then 182 else e) = (0 : Int)) :
  [c8 (.lit 129), c8 (prB 3 (IE.one (.conv .i64) (.var n)) (.var d)), c8 (nbC0 (.var imm)), c8 (nbC1 (.var imm)), c8 (nbC2 (.var imm)), c8 (nbC3 (.var imm))].map zBb = (if true = true then 129 else 131) :: zAm 3 n d :: numB imm true := by
 have ho := zFR hf
 simp only [zBT] at ho
 have hn : (IE.den (.conv .i64 (.var n))) = n := zE (n := n) (by omega) (by omega)
 show [129, (prA 192 (.conv .i64 (.var n)) (.var d)).den, (nbC0 (.var imm)).den, (nbC1 (.var imm)).den, (nbC2 (.var imm)).den, (nbC3 (.var imm)).den] = _
 rw [pr_d (e2 := .var d) (mm := 3) hn rfl (by decide) (by decide) (by omega) (er1 h).1, nb0, nb1, nb2, nb3]; rfl
theorem zbE {imm : Int} (h : (if zAs imm true then 0 else 183) = (0 : Int)) :
  [c8 (.lit 233), c8 (.conv .u8 (.shr .u64 (.conv .u64 (.var imm)) (.lit 0))), c8 (.conv .u8 (.shr .u64 (.conv .u64 (.var imm)) (.lit 8))), c8 (.conv .u8 (.shr .u64 (.conv .u64 (.var imm)) (.lit 16))), c8 (.conv .u8 (.shr .u64 (.conv .u64 (.var imm)) (.lit 24)))].map zBb = (if true = true then 233 else 235) :: numB imm true := by
 show [233, (nbC0 (.var imm)).den, (nbC1 (.var imm)).den, (nbC2 (.var imm)).den, (nbC3 (.var imm)).den] = _
 rw [nb0, nb1, nb2, nb3]; rfl
theorem zZi {cc imm e : Int} (h : (if cc < 2 ∨ 7 < cc then 181 else e) = (0 : Int)) :
  [c8 (.lit 15), c8 (.add .u8 (.lit 128) (IE.one (.conv .u8) (.var cc))), c8 (nbC0 (.var imm)), c8 (nbC1 (.var imm)), c8 (nbC2 (.var imm)), c8 (nbC3 (.var imm))].map zBb = if true = true then 15 :: (128 + cc) :: numB imm true else (112 + cc) :: numB imm false := by
 show [15, IntKind.u8.wrap (128 + IntKind.u8.wrap cc), (nbC0 (.var imm)).den, (nbC1 (.var imm)).den, (nbC2 (.var imm)).den, (nbC3 (.var imm)).den] = _
 rw [cc8 (.inr rfl) (zAT (by decide) h).1, nb0, nb1, nb2, nb3]; rfl
theorem zbH {op n d imm e : Int} (hf : zA op = some (Form.imm n)) (h : (if zV d = true then 182 else e) = (0 : Int)) :
  [c8 (.lit 131), c8 (prB 3 (IE.one (.conv .i64) (.var n)) (.var d)), c8 (nbC0 (.var imm))].map zBb = (if false = true then 129 else 131) :: zAm 3 n d :: numB imm false := by
 have ho := zFR hf
 simp only [zBT] at ho
 have hn : (IE.den (.conv .i64 (.var n))) = n := zE (n := n) (by omega) (by omega)
 show [131, (prA 192 (.conv .i64 (.var n)) (.var d)).den, (nbC0 (.var imm)).den] = _
 rw [pr_d (e2 := .var d) (mm := 3) hn rfl (by decide) (by decide) (by omega) (er1 h).1, nb0]; rfl
theorem zbF {imm : Int} (h : (if zAs imm false then 0 else 183) = (0 : Int)) : [c8 (.lit 235), c8 (nbC0 (.var imm))].map zBb = (if false = true then 233 else 235) :: numB imm false := by
 show [235, (nbC0 (.var imm)).den] = _
 rw [nb0]; rfl
theorem zZj {cc imm e : Int} (h : (if cc < 2 ∨ 7 < cc then 181 else e) = (0 : Int)) :
  [c8 (.add .u8 (.lit 112) (IE.one (.conv .u8) (.var cc))), c8 (nbC0 (.var imm))].map zBb = if false = true then 15 :: (128 + cc) :: numB imm true else (112 + cc) :: numB imm false := by
 show [IntKind.u8.wrap (112 + IntKind.u8.wrap cc), (nbC0 (.var imm)).den] = _
 rw [cc8 (.inl rfl) (zAT (by decide) h).1, nb0]; rfl
theorem cl_7 {op c n d e : Int} (hf : zA op = some (Form.one c n)) (h : (if zV d = true then 182 else e) = (0 : Int)) : [c8 (.var c), c8 (prA 192 (.conv .i64 (.var n)) (.var d))].map zBb = [c, zAm 3 n d] := by
 have ho := zFR hf
 simp only [zBT] at ho
 have hn : (IE.den (.conv .i64 (.var n))) = n := zE (n := n) (by omega) (by omega)
 show [c, (prA 192 (.conv .i64 (.var n)) (.var d)).den] = _
 rw [pr_d (e2 := .var d) (mm := 3) hn rfl (by decide) (by decide) (by omega) (er1 h).1]; rfl
theorem cl_8 {op c d e : Int} (hf : zA op = some (Form.stack c)) (h : (if zV d = true then 182 else e) = (0 : Int)) : [c8 (.add .u8 (.var c) (.conv .u8 (.rem (.var d) (.lit 8))))].map zBb = [c + d % 8] := by
 have ho := zFR hf
 simp only [zBT] at ho
 show [IntKind.u8.wrap (c + IntKind.u8.wrap (d.tmod 8))] = _
 rw [reg8 (by omega) (er1 h).1]
theorem zbI : [(195 : Int)] = [c8 (.lit 195)].map zBb := rfl
theorem zaq (op : Int) (wide long : Bool) (d s disp imm cc : Int) (hk : kOf (zA op) = 0) : zMs op wide long d s disp imm cc (EncO (xR op wide (.var long) d s disp imm cc)) (zM (xR op wide (.var long) d s disp imm cc) ≠ 0) (zD (xR op wide (.var long) d s disp imm cc)).length (zM (xR op wide (.var long) d s disp imm cc)) := by
 unfold zMs
 exact ⟨hk, fun b => fun hf => ⟨fun h0 => (er0 hf), fun h0 => (absurd h0 (by decide))⟩⟩
theorem zap (op : Int) (wide long : Bool) (d s disp imm cc : Int) (hk : kOf (zA op) = 1) : zMr op wide long d s disp imm cc (EncO (xR op wide (.var long) d s disp imm cc)) (zM (xR op wide (.var long) d s disp imm cc) ≠ 0) (zD (xR op wide (.var long) d s disp imm cc)).length (zM (xR op wide (.var long) d s disp imm cc)) := by
 unfold zMr
 exact ⟨hk, fun b => fun hf => ⟨fun h0 => (zDM (ae (x := (xR op wide (.var long) d s disp imm cc)) hf).symm (n0t h0)), fun h0 => have he := (ae (x := (xR op wide (.var long) d s disp imm cc)) hf).trans (n0f h0); have hB {l : List Int} := @ab (xR op wide (.var long) d s disp imm cc) _ l hf; have hc := (cl_1 (n0f h0)); ⟨⟨fun h4 => ⟨rfl, (t8i (zh he (hB (wn 1 (pvf h4) hc)) rfl))⟩, fun h5 => ⟨rfl, (t8i (zh he (hB (wz (pvf h5) hc)) rfl))⟩⟩, ⟨rfl, (t8i ⟨rfl, (t8i ⟨rfl, (t8i (t8i ⟨rfl, rfl, rfl, (t8i ⟨rfl, rfl, rfl, rfl, rfl, rfl, rfl, rfl, rfl, (t8i ⟨rfl, rfl, rfl, rfl, rfl, rfl, rfl, rfl, rfl, rfl, rfl, rfl, rfl, rfl, rfl, trivial⟩)⟩)⟩))⟩)⟩)⟩, rfl, (t8i ⟨rfl, (t8i ⟨rfl, (t8i (t8i ⟨rfl, rfl, rfl, (t8i ⟨rfl, rfl, rfl, rfl, rfl, rfl, rfl, rfl, rfl, (t8i ⟨rfl, rfl, rfl, rfl, rfl, rfl, rfl, rfl, rfl, rfl, rfl, rfl, rfl, rfl, rfl, trivial⟩)⟩)⟩))⟩)⟩)⟩⟩⟩
theorem zao (op : Int) (wide long : Bool) (d s disp imm cc : Int) (hk : kOf (zA op) = 2) : zMq op wide long d s disp imm cc (EncO (xR op wide (.var long) d s disp imm cc)) (zM (xR op wide (.var long) d s disp imm cc) ≠ 0) (zD (xR op wide (.var long) d s disp imm cc)).length (zM (xR op wide (.var long) d s disp imm cc)) := by
 unfold zMq
 exact ⟨hk, fun b => fun hf => ⟨fun h0 => (zDM (ae (x := (xR op wide (.var long) d s disp imm cc)) hf).symm (n0t h0)), fun h0 => have he := (ae (x := (xR op wide (.var long) d s disp imm cc)) hf).trans (n0f h0); have hB {l : List Int} := @ab (xR op wide (.var long) d s disp imm cc) _ l hf; have hc := (cl_2 (n0f h0)); ⟨rfl, rfl, (t8i ⟨rfl, rfl, (t8i ⟨fun h4 => ⟨fun h5 => ⟨fun h6 => ⟨rfl, rfl, (t8i (zh he (hB (wn 13 (pv h4 h5 h6) hc)) rfl))⟩, fun h7 => ⟨rfl, rfl, (t8i (zh he (hB (wn 12 (pv h4 h5 h7) hc)) rfl))⟩⟩, fun h8 => ⟨fun h9 => ⟨rfl, rfl, (t8i (zh he (hB (wn 9 (pv h4 h8 h9) hc)) rfl))⟩, fun h10 => ⟨rfl, rfl, (t8i (zh he (hB (wn 8 (pv h4 h8 h10) hc)) rfl))⟩⟩⟩, fun h11 => ⟨fun h12 => ⟨fun h13 => ⟨rfl, rfl, (t8i (zh he (hB (wn 5 (pv h11 h12 h13) hc)) rfl))⟩, fun h14 => ⟨rfl, rfl, (t8i (zh he (hB (wn 4 (pv h11 h12 h14) hc)) rfl))⟩⟩, fun h15 => ⟨fun h16 => ⟨rfl, rfl, (t8i (zh he (hB (wn 1 (pv h11 h15 h16) hc)) rfl))⟩, fun h17 => ⟨rfl, rfl, (t8i (zL6 (Nat.le_of_ble_eq_true rfl) he (hB (wz (pv h11 h15 h17) hc)) rfl))⟩⟩⟩⟩)⟩)⟩⟩⟩
theorem zVl (op : Int) (wide : Bool) (d s disp imm cc : Int) (hk : kOf (zA op) = 3) (hb : BE.den (.cmp .eql (.rem (.var s) (.lit 8)) (.lit 4)) = true) : zHy op wide d s disp imm cc (EncO (xR op wide (.lit true) d s disp imm cc)) (zM (xR op wide (.lit true) d s disp imm cc) ≠ 0) (zD (xR op wide (.lit true) d s disp imm cc)).length (zM (xR op wide (.lit true) d s disp imm cc)) := by
 unfold zHy
 exact ⟨hk, fun b => fun hf => ⟨fun h0 => (zDM (ae (x := (xR op wide (.lit true) d s disp imm cc)) hf).symm (n0t h0)), fun h0 => have he := (ae (x := (xR op wide (.lit true) d s disp imm cc)) hf).trans (n0f h0); have hB {l : List Int} := @ab (xR op wide (.lit true) d s disp imm cc) _ l hf; have hc := (zZe hb (n0f h0)); ⟨⟨fun h4 => ⟨fun h5 => ⟨fun h6 => ⟨rfl, (t7i (zh he (hB (wn 13 (pv h4 h5 h6) hc)) rfl))⟩, fun h7 => ⟨rfl, (t7i (zh he (hB (wn 12 (pv h4 h5 h7) hc)) rfl))⟩⟩, fun h8 => ⟨fun h9 => ⟨rfl, (t7i (zh he (hB (wn 9 (pv h4 h8 h9) hc)) rfl))⟩, fun h10 => ⟨rfl, (t7i (zh he (hB (wn 8 (pv h4 h8 h10) hc)) rfl))⟩⟩⟩, fun h11 => ⟨fun h12 => ⟨fun h13 => ⟨rfl, (t7i (zh he (hB (wn 5 (pv h11 h12 h13) hc)) rfl))⟩, fun h14 => ⟨rfl, (t7i (zh he (hB (wn 4 (pv h11 h12 h14) hc)) rfl))⟩⟩, fun h15 => ⟨fun h16 => ⟨rfl, (t7i (zh he (hB (wn 1 (pv h11 h15 h16) hc)) rfl))⟩, fun h17 => ⟨rfl, (t7i (zh he (hB (wz (pv h11 h15 h17) hc)) rfl))⟩⟩⟩⟩, ⟨rfl, (t7i ⟨hb, rfl, (t7i ⟨rfl, (t7i (t7i ⟨rfl, rfl, rfl, (t7i ⟨rfl, rfl, rfl, rfl, rfl, rfl, rfl, rfl, rfl, (t7i ⟨rfl, rfl, rfl, rfl, rfl, rfl, rfl, rfl, rfl, rfl, rfl, rfl, rfl, rfl, rfl, rfl, rfl, rfl, rfl, rfl, rfl, rfl, rfl, trivial⟩)⟩)⟩))⟩)⟩)⟩, hb, rfl, (t7i ⟨rfl, (t7i ⟨rfl, (t7i (t7i ⟨rfl, rfl, rfl, (t7i ⟨rfl, rfl, rfl, rfl, rfl, rfl, rfl, rfl, rfl, (t7i ⟨rfl, rfl, rfl, rfl, rfl, rfl, rfl, rfl, rfl, rfl, rfl, rfl, rfl, rfl, rfl, rfl, rfl, rfl, rfl, rfl, rfl, rfl, rfl, trivial⟩)⟩)⟩))⟩)⟩)⟩⟩⟩
theorem zVm (op : Int) (wide : Bool) (d s disp imm cc : Int) (hk : kOf (zA op) = 3) (hb : BE.den (.cmp .eql (.rem (.var s) (.lit 8)) (.lit 4)) = false) : zHz op wide d s disp imm cc (EncO (xR op wide (.lit true) d s disp imm cc)) (zM (xR op wide (.lit true) d s disp imm cc) ≠ 0) (zD (xR op wide (.lit true) d s disp imm cc)).length (zM (xR op wide (.lit true) d s disp imm cc)) := by
 unfold zHz
 exact ⟨hk, fun b => fun hf => ⟨fun h0 => (zDM (ae (x := (xR op wide (.lit true) d s disp imm cc)) hf).symm (n0t h0)), fun h0 => have he := (ae (x := (xR op wide (.lit true) d s disp imm cc)) hf).trans (n0f h0); have hB {l : List Int} := @ab (xR op wide (.lit true) d s disp imm cc) _ l hf; have hc := (zZf hb (n0f h0)); ⟨⟨fun h4 => ⟨fun h5 => ⟨fun h6 => ⟨rfl, (t7i (zh he (hB (wn 13 (pv h4 h5 h6) hc)) rfl))⟩, fun h7 => ⟨rfl, (t7i (zh he (hB (wn 12 (pv h4 h5 h7) hc)) rfl))⟩⟩, fun h8 => ⟨fun h9 => ⟨rfl, (t7i (zh he (hB (wn 9 (pv h4 h8 h9) hc)) rfl))⟩, fun h10 => ⟨rfl, (t7i (zh he (hB (wn 8 (pv h4 h8 h10) hc)) rfl))⟩⟩⟩, fun h11 => ⟨fun h12 => ⟨fun h13 => ⟨rfl, (t7i (zh he (hB (wn 5 (pv h11 h12 h13) hc)) rfl))⟩, fun h14 => ⟨rfl, (t7i (zh he (hB (wn 4 (pv h11 h12 h14) hc)) rfl))⟩⟩, fun h15 => ⟨fun h16 => ⟨rfl, (t7i (zh he (hB (wn 1 (pv h11 h15 h16) hc)) rfl))⟩, fun h17 => ⟨rfl, (t7i (zh he (hB (wz (pv h11 h15 h17) hc)) rfl))⟩⟩⟩⟩, ⟨rfl, (t7i ⟨hb, rfl, (t7i ⟨rfl, (t7i (t7i ⟨rfl, rfl, rfl, (t7i ⟨rfl, rfl, rfl, rfl, rfl, rfl, rfl, rfl, rfl, (t7i ⟨rfl, rfl, rfl, rfl, rfl, rfl, rfl, rfl, rfl, rfl, rfl, rfl, rfl, rfl, rfl, rfl, rfl, rfl, rfl, rfl, rfl, rfl, rfl, trivial⟩)⟩)⟩))⟩)⟩)⟩, hb, rfl, (t7i ⟨rfl, (t7i ⟨rfl, (t7i (t7i ⟨rfl, rfl, rfl, (t7i ⟨rfl, rfl, rfl, rfl, rfl, rfl, rfl, rfl, rfl, (t7i ⟨rfl, rfl, rfl, rfl, rfl, rfl, rfl, rfl, rfl, rfl, rfl, rfl, rfl, rfl, rfl, rfl, rfl, rfl, rfl, rfl, rfl, rfl, rfl, trivial⟩)⟩)⟩))⟩)⟩)⟩⟩⟩
theorem zVn (op : Int) (wide : Bool) (d s disp imm cc : Int) (hk : kOf (zA op) = 3) (hb : BE.den (.cmp .eql (.rem (.var s) (.lit 8)) (.lit 4)) = true) : zH0 op wide d s disp imm cc (EncO (xR op wide (.lit false) d s disp imm cc)) (zM (xR op wide (.lit false) d s disp imm cc) ≠ 0) (zD (xR op wide (.lit false) d s disp imm cc)).length (zM (xR op wide (.lit false) d s disp imm cc)) := by
 unfold zH0
 exact ⟨hk, fun b => fun hf => ⟨fun h0 => (zDM (ae (x := (xR op wide (.lit false) d s disp imm cc)) hf).symm (n0t h0)), fun h0 => have he := (ae (x := (xR op wide (.lit false) d s disp imm cc)) hf).trans (n0f h0); have hB {l : List Int} := @ab (xR op wide (.lit false) d s disp imm cc) _ l hf; have hc := (zZg hb (n0f h0)); ⟨⟨fun h4 => ⟨fun h5 => ⟨fun h6 => ⟨rfl, (t7i (zh he (hB (wn 13 (pv h4 h5 h6) hc)) rfl))⟩, fun h7 => ⟨rfl, (t7i (zh he (hB (wn 12 (pv h4 h5 h7) hc)) rfl))⟩⟩, fun h8 => ⟨fun h9 => ⟨rfl, (t7i (zh he (hB (wn 9 (pv h4 h8 h9) hc)) rfl))⟩, fun h10 => ⟨rfl, (t7i (zh he (hB (wn 8 (pv h4 h8 h10) hc)) rfl))⟩⟩⟩, fun h11 => ⟨fun h12 => ⟨fun h13 => ⟨rfl, (t7i (zh he (hB (wn 5 (pv h11 h12 h13) hc)) rfl))⟩, fun h14 => ⟨rfl, (t7i (zh he (hB (wn 4 (pv h11 h12 h14) hc)) rfl))⟩⟩, fun h15 => ⟨fun h16 => ⟨rfl, (t7i (zh he (hB (wn 1 (pv h11 h15 h16) hc)) rfl))⟩, fun h17 => ⟨rfl, (t7i (zh he (hB (wz (pv h11 h15 h17) hc)) rfl))⟩⟩⟩⟩, ⟨rfl, (t7i ⟨hb, rfl, (t7i ⟨rfl, (t7i (t7i ⟨rfl, rfl, rfl, (t7i ⟨rfl, rfl, rfl, rfl, rfl, rfl, rfl, rfl, rfl, (t7i ⟨rfl, rfl, rfl, rfl, rfl, rfl, rfl, rfl, rfl, rfl, rfl, trivial⟩)⟩)⟩))⟩)⟩)⟩, hb, rfl, (t7i ⟨rfl, (t7i ⟨rfl, (t7i (t7i ⟨rfl, rfl, rfl, (t7i ⟨rfl, rfl, rfl, rfl, rfl, rfl, rfl, rfl, rfl, (t7i ⟨rfl, rfl, rfl, rfl, rfl, rfl, rfl, rfl, rfl, rfl, rfl, trivial⟩)⟩)⟩))⟩)⟩)⟩⟩⟩
theorem zVo (op : Int) (wide : Bool) (d s disp imm cc : Int) (hk : kOf (zA op) = 3) (hb : BE.den (.cmp .eql (.rem (.var s) (.lit 8)) (.lit 4)) = false) : zH1 op wide d s disp imm cc (EncO (xR op wide (.lit false) d s disp imm cc)) (zM (xR op wide (.lit false) d s disp imm cc) ≠ 0) (zD (xR op wide (.lit false) d s disp imm cc)).length (zM (xR op wide (.lit false) d s disp imm cc)) := by
 unfold zH1
 exact ⟨hk, fun b => fun hf => ⟨fun h0 => (zDM (ae (x := (xR op wide (.lit false) d s disp imm cc)) hf).symm (n0t h0)), fun h0 => have he := (ae (x := (xR op wide (.lit false) d s disp imm cc)) hf).trans (n0f h0); have hB {l : List Int} := @ab (xR op wide (.lit false) d s disp imm cc) _ l hf; have hc := (zZh hb (n0f h0)); ⟨⟨fun h4 => ⟨fun h5 => ⟨fun h6 => ⟨rfl, (t7i (zh he (hB (wn 13 (pv h4 h5 h6) hc)) rfl))⟩, fun h7 => ⟨rfl, (t7i (zh he (hB (wn 12 (pv h4 h5 h7) hc)) rfl))⟩⟩, fun h8 => ⟨fun h9 => ⟨rfl, (t7i (zh he (hB (wn 9 (pv h4 h8 h9) hc)) rfl))⟩, fun h10 => ⟨rfl, (t7i (zh he (hB (wn 8 (pv h4 h8 h10) hc)) rfl))⟩⟩⟩, fun h11 => ⟨fun h12 => ⟨fun h13 => ⟨rfl, (t7i (zh he (hB (wn 5 (pv h11 h12 h13) hc)) rfl))⟩, fun h14 => ⟨rfl, (t7i (zh he (hB (wn 4 (pv h11 h12 h14) hc)) rfl))⟩⟩, fun h15 => ⟨fun h16 => ⟨rfl, (t7i (zh he (hB (wn 1 (pv h11 h15 h16) hc)) rfl))⟩, fun h17 => ⟨rfl, (t7i (zh he (hB (wz (pv h11 h15 h17) hc)) rfl))⟩⟩⟩⟩, ⟨rfl, (t7i ⟨hb, rfl, (t7i ⟨rfl, (t7i (t7i ⟨rfl, rfl, rfl, (t7i ⟨rfl, rfl, rfl, rfl, rfl, rfl, rfl, rfl, rfl, (t7i ⟨rfl, rfl, rfl, rfl, rfl, rfl, rfl, rfl, rfl, rfl, rfl, trivial⟩)⟩)⟩))⟩)⟩)⟩, hb, rfl, (t7i ⟨rfl, (t7i ⟨rfl, (t7i (t7i ⟨rfl, rfl, rfl, (t7i ⟨rfl, rfl, rfl, rfl, rfl, rfl, rfl, rfl, rfl, (t7i ⟨rfl, rfl, rfl, rfl, rfl, rfl, rfl, rfl, rfl, rfl, rfl, trivial⟩)⟩)⟩))⟩)⟩)⟩⟩⟩
theorem zVh (op : Int) (wide : Bool) (d s disp imm cc : Int) (hk : kOf (zA op) = 4) (hb : BE.den (.cmp .eql (.rem (.var d) (.lit 8)) (.lit 4)) = true) : zHu op wide d s disp imm cc (EncO (xR op wide (.lit true) d s disp imm cc)) (zM (xR op wide (.lit true) d s disp imm cc) ≠ 0) (zD (xR op wide (.lit true) d s disp imm cc)).length (zM (xR op wide (.lit true) d s disp imm cc)) := by
 unfold zHu
 exact ⟨hk, fun b => fun hf => ⟨fun h0 => (zDM (ae (x := (xR op wide (.lit true) d s disp imm cc)) hf).symm (n0t h0)), fun h0 => have he := (ae (x := (xR op wide (.lit true) d s disp imm cc)) hf).trans (n0f h0); have hB {l : List Int} := @ab (xR op wide (.lit true) d s disp imm cc) _ l hf; have hc := (zZa hb (n0f h0)); ⟨⟨fun h4 => ⟨fun h5 => ⟨fun h6 => ⟨rfl, (t7i (zh he (hB (wn 13 (pv h4 h5 h6) hc)) rfl))⟩, fun h7 => ⟨rfl, (t7i (zh he (hB (wn 12 (pv h4 h5 h7) hc)) rfl))⟩⟩, fun h8 => ⟨fun h9 => ⟨rfl, (t7i (zh he (hB (wn 9 (pv h4 h8 h9) hc)) rfl))⟩, fun h10 => ⟨rfl, (t7i (zh he (hB (wn 8 (pv h4 h8 h10) hc)) rfl))⟩⟩⟩, fun h11 => ⟨fun h12 => ⟨fun h13 => ⟨rfl, (t7i (zh he (hB (wn 5 (pv h11 h12 h13) hc)) rfl))⟩, fun h14 => ⟨rfl, (t7i (zh he (hB (wn 4 (pv h11 h12 h14) hc)) rfl))⟩⟩, fun h15 => ⟨fun h16 => ⟨rfl, (t7i (zh he (hB (wn 1 (pv h11 h15 h16) hc)) rfl))⟩, fun h17 => ⟨rfl, (t7i (zh he (hB (wz (pv h11 h15 h17) hc)) rfl))⟩⟩⟩⟩, ⟨rfl, (t7i ⟨hb, rfl, (t7i ⟨rfl, (t7i (t7i ⟨rfl, rfl, rfl, (t7i ⟨rfl, rfl, rfl, rfl, rfl, rfl, rfl, rfl, rfl, (t7i ⟨rfl, rfl, rfl, rfl, rfl, rfl, rfl, rfl, rfl, rfl, rfl, rfl, rfl, rfl, rfl, rfl, rfl, rfl, rfl, rfl, rfl, rfl, rfl, trivial⟩)⟩)⟩))⟩)⟩)⟩, hb, rfl, (t7i ⟨rfl, (t7i ⟨rfl, (t7i (t7i ⟨rfl, rfl, rfl, (t7i ⟨rfl, rfl, rfl, rfl, rfl, rfl, rfl, rfl, rfl, (t7i ⟨rfl, rfl, rfl, rfl, rfl, rfl, rfl, rfl, rfl, rfl, rfl, rfl, rfl, rfl, rfl, rfl, rfl, rfl, rfl, rfl, rfl, rfl, rfl, trivial⟩)⟩)⟩))⟩)⟩)⟩⟩⟩
theorem zVi (op : Int) (wide : Bool) (d s disp imm cc : Int) (hk : kOf (zA op) = 4) (hb : BE.den (.cmp .eql (.rem (.var d) (.lit 8)) (.lit 4)) = false) : zHv op wide d s disp imm cc (EncO (xR op wide (.lit true) d s disp imm cc)) (zM (xR op wide (.lit true) d s disp imm cc) ≠ 0) (zD (xR op wide (.lit true) d s disp imm cc)).length (zM (xR op wide (.lit true) d s disp imm cc)) := by
 unfold zHv
 exact ⟨hk, fun b => fun hf => ⟨fun h0 => (zDM (ae (x := (xR op wide (.lit true) d s disp imm cc)) hf).symm (n0t h0)), fun h0 => have he := (ae (x := (xR op wide (.lit true) d s disp imm cc)) hf).trans (n0f h0); have hB {l : List Int} := @ab (xR op wide (.lit true) d s disp imm cc) _ l hf; have hc := (zZb hb (n0f h0)); ⟨⟨fun h4 => ⟨fun h5 => ⟨fun h6 => ⟨rfl, (t7i (zh he (hB (wn 13 (pv h4 h5 h6) hc)) rfl))⟩, fun h7 => ⟨rfl, (t7i (zh he (hB (wn 12 (pv h4 h5 h7) hc)) rfl))⟩⟩, fun h8 => ⟨fun h9 => ⟨rfl, (t7i (zh he (hB (wn 9 (pv h4 h8 h9) hc)) rfl))⟩, fun h10 => ⟨rfl, (t7i (zh he (hB (wn 8 (pv h4 h8 h10) hc)) rfl))⟩⟩⟩, fun h11 => ⟨fun h12 => ⟨fun h13 => ⟨rfl, (t7i (zh he (hB (wn 5 (pv h11 h12 h13) hc)) rfl))⟩, fun h14 => ⟨rfl, (t7i (zh he (hB (wn 4 (pv h11 h12 h14) hc)) rfl))⟩⟩, fun h15 => ⟨fun h16 => ⟨rfl, (t7i (zh he (hB (wn 1 (pv h11 h15 h16) hc)) rfl))⟩, fun h17 => ⟨rfl, (t7i (zh he (hB (wz (pv h11 h15 h17) hc)) rfl))⟩⟩⟩⟩, ⟨rfl, (t7i ⟨hb, rfl, (t7i ⟨rfl, (t7i (t7i ⟨rfl, rfl, rfl, (t7i ⟨rfl, rfl, rfl, rfl, rfl, rfl, rfl, rfl, rfl, (t7i ⟨rfl, rfl, rfl, rfl, rfl, rfl, rfl, rfl, rfl, rfl, rfl, rfl, rfl, rfl, rfl, rfl, rfl, rfl, rfl, rfl, rfl, rfl, rfl, trivial⟩)⟩)⟩))⟩)⟩)⟩, hb, rfl, (t7i ⟨rfl, (t7i ⟨rfl, (t7i (t7i ⟨rfl, rfl, rfl, (t7i ⟨rfl, rfl, rfl, rfl, rfl, rfl, rfl, rfl, rfl, (t7i ⟨rfl, rfl, rfl, rfl, rfl, rfl, rfl, rfl, rfl, rfl, rfl, rfl, rfl, rfl, rfl, rfl, rfl, rfl, rfl, rfl, rfl, rfl, rfl, trivial⟩)⟩)⟩))⟩)⟩)⟩⟩⟩
theorem zVj (op : Int) (wide : Bool) (d s disp imm cc : Int) (hk : kOf (zA op) = 4) (hb : BE.den (.cmp .eql (.rem (.var d) (.lit 8)) (.lit 4)) = true) : zHw op wide d s disp imm cc (EncO (xR op wide (.lit false) d s disp imm cc)) (zM (xR op wide (.lit false) d s disp imm cc) ≠ 0) (zD (xR op wide (.lit false) d s disp imm cc)).length (zM (xR op wide (.lit false) d s disp imm cc)) := by
 unfold zHw
 exact ⟨hk, fun b => fun hf => ⟨fun h0 => (zDM (ae (x := (xR op wide (.lit false) d s disp imm cc)) hf).symm (n0t h0)), fun h0 => have he := (ae (x := (xR op wide (.lit false) d s disp imm cc)) hf).trans (n0f h0); have hB {l : List Int} := @ab (xR op wide (.lit false) d s disp imm cc) _ l hf; have hc := (zZc hb (n0f h0)); ⟨⟨fun h4 => ⟨fun h5 => ⟨fun h6 => ⟨rfl, (t7i (zh he (hB (wn 13 (pv h4 h5 h6) hc)) rfl))⟩, fun h7 => ⟨rfl, (t7i (zh he (hB (wn 12 (pv h4 h5 h7) hc)) rfl))⟩⟩, fun h8 => ⟨fun h9 => ⟨rfl, (t7i (zh he (hB (wn 9 (pv h4 h8 h9) hc)) rfl))⟩, fun h10 => ⟨rfl, (t7i (zh he (hB (wn 8 (pv h4 h8 h10) hc)) rfl))⟩⟩⟩, fun h11 => ⟨fun h12 => ⟨fun h13 => ⟨rfl, (t7i (zh he (hB (wn 5 (pv h11 h12 h13) hc)) rfl))⟩, fun h14 => ⟨rfl, (t7i (zh he (hB (wn 4 (pv h11 h12 h14) hc)) rfl))⟩⟩, fun h15 => ⟨fun h16 => ⟨rfl, (t7i (zh he (hB (wn 1 (pv h11 h15 h16) hc)) rfl))⟩, fun h17 => ⟨rfl, (t7i (zh he (hB (wz (pv h11 h15 h17) hc)) rfl))⟩⟩⟩⟩, ⟨rfl, (t7i ⟨hb, rfl, (t7i ⟨rfl, (t7i (t7i ⟨rfl, rfl, rfl, (t7i ⟨rfl, rfl, rfl, rfl, rfl, rfl, rfl, rfl, rfl, (t7i ⟨rfl, rfl, rfl, rfl, rfl, rfl, rfl, rfl, rfl, rfl, rfl, trivial⟩)⟩)⟩))⟩)⟩)⟩, hb, rfl, (t7i ⟨rfl, (t7i ⟨rfl, (t7i (t7i ⟨rfl, rfl, rfl, (t7i ⟨rfl, rfl, rfl, rfl, rfl, rfl, rfl, rfl, rfl, (t7i ⟨rfl, rfl, rfl, rfl, rfl, rfl, rfl, rfl, rfl, rfl, rfl, trivial⟩)⟩)⟩))⟩)⟩)⟩⟩⟩
theorem zVk (op : Int) (wide : Bool) (d s disp imm cc : Int) (hk : kOf (zA op) = 4) (hb : BE.den (.cmp .eql (.rem (.var d) (.lit 8)) (.lit 4)) = false) : zHx op wide d s disp imm cc (EncO (xR op wide (.lit false) d s disp imm cc)) (zM (xR op wide (.lit false) d s disp imm cc) ≠ 0) (zD (xR op wide (.lit false) d s disp imm cc)).length (zM (xR op wide (.lit false) d s disp imm cc)) := by
 unfold zHx
 exact ⟨hk, fun b => fun hf => ⟨fun h0 => (zDM (ae (x := (xR op wide (.lit false) d s disp imm cc)) hf).symm (n0t h0)), fun h0 => have he := (ae (x := (xR op wide (.lit false) d s disp imm cc)) hf).trans (n0f h0); have hB {l : List Int} := @ab (xR op wide (.lit false) d s disp imm cc) _ l hf; have hc := (zZd hb (n0f h0)); ⟨⟨fun h4 => ⟨fun h5 => ⟨fun h6 => ⟨rfl, (t7i (zh he (hB (wn 13 (pv h4 h5 h6) hc)) rfl))⟩, fun h7 => ⟨rfl, (t7i (zh he (hB (wn 12 (pv h4 h5 h7) hc)) rfl))⟩⟩, fun h8 => ⟨fun h9 => ⟨rfl, (t7i (zh he (hB (wn 9 (pv h4 h8 h9) hc)) rfl))⟩, fun h10 => ⟨rfl, (t7i (zh he (hB (wn 8 (pv h4 h8 h10) hc)) rfl))⟩⟩⟩, fun h11 => ⟨fun h12 => ⟨fun h13 => ⟨rfl, (t7i (zh he (hB (wn 5 (pv h11 h12 h13) hc)) rfl))⟩, fun h14 => ⟨rfl, (t7i (zh he (hB (wn 4 (pv h11 h12 h14) hc)) rfl))⟩⟩, fun h15 => ⟨fun h16 => ⟨rfl, (t7i (zh he (hB (wn 1 (pv h11 h15 h16) hc)) rfl))⟩, fun h17 => ⟨rfl, (t7i (zh he (hB (wz (pv h11 h15 h17) hc)) rfl))⟩⟩⟩⟩, ⟨rfl, (t7i ⟨hb, rfl, (t7i ⟨rfl, (t7i (t7i ⟨rfl, rfl, rfl, (t7i ⟨rfl, rfl, rfl, rfl, rfl, rfl, rfl, rfl, rfl, (t7i ⟨rfl, rfl, rfl, rfl, rfl, rfl, rfl, rfl, rfl, rfl, rfl, trivial⟩)⟩)⟩))⟩)⟩)⟩, hb, rfl, (t7i ⟨rfl, (t7i ⟨rfl, (t7i (t7i ⟨rfl, rfl, rfl, (t7i ⟨rfl, rfl, rfl, rfl, rfl, rfl, rfl, rfl, rfl, (t7i ⟨rfl, rfl, rfl, rfl, rfl, rfl, rfl, rfl, rfl, rfl, rfl, trivial⟩)⟩)⟩))⟩)⟩)⟩⟩⟩
theorem zan (op : Int) (wide long : Bool) (d s disp imm cc : Int) (hk : kOf (zA op) = 5) : zMp op wide long d s disp imm cc (EncO (xR op wide (.var long) d s disp imm cc)) (zM (xR op wide (.var long) d s disp imm cc) ≠ 0) (zD (xR op wide (.var long) d s disp imm cc)).length (zM (xR op wide (.var long) d s disp imm cc)) := by
 unfold zMp
 exact ⟨hk, fun b => fun hf => ⟨fun h0 => (zDM (ae (x := (xR op wide (.var long) d s disp imm cc)) hf).symm (n0t h0)), fun h0 => have he := (ae (x := (xR op wide (.var long) d s disp imm cc)) hf).trans (n0f h0); have hB {l : List Int} := @ab (xR op wide (.var long) d s disp imm cc) _ l hf; have hc := (cl_5 (n0f h0)); ⟨rfl, (t8i ⟨rfl, (t8i ⟨fun h4 => ⟨fun h5 => ⟨fun h6 => ⟨rfl, (t8i (zh he (hB (wn 13 (pv h4 h5 h6) hc)) rfl))⟩, fun h7 => ⟨rfl, (t8i (zh he (hB (wn 12 (pv h4 h5 h7) hc)) rfl))⟩⟩, fun h8 => ⟨fun h9 => ⟨rfl, (t8i (zh he (hB (wn 9 (pv h4 h8 h9) hc)) rfl))⟩, fun h10 => ⟨rfl, (t8i (zh he (hB (wn 8 (pv h4 h8 h10) hc)) rfl))⟩⟩⟩, fun h11 => ⟨fun h12 => ⟨fun h13 => ⟨rfl, (t8i (zh he (hB (wn 5 (pv h11 h12 h13) hc)) rfl))⟩, fun h14 => ⟨rfl, (t8i (zh he (hB (wn 4 (pv h11 h12 h14) hc)) rfl))⟩⟩, fun h15 => ⟨fun h16 => ⟨rfl, (t8i (zh he (hB (wn 1 (pv h11 h15 h16) hc)) rfl))⟩, fun h17 => ⟨rfl, (t8i (zL6 (Nat.le_of_ble_eq_true rfl) he (hB (wz (pv h11 h15 h17) hc)) rfl))⟩⟩⟩⟩)⟩)⟩⟩⟩
theorem zYP (op : Int) (wide : Bool) (d s disp imm cc : Int) (hk : kOf (zA op) = 6) : zKT op wide d s disp imm cc (EncO (xR op wide (.lit true) d s disp imm cc)) (zM (xR op wide (.lit true) d s disp imm cc) ≠ 0) (zD (xR op wide (.lit true) d s disp imm cc)).length (zM (xR op wide (.lit true) d s disp imm cc)) := by
 unfold zKT
 exact ⟨hk, fun b => fun hf => ⟨fun h0 => (zDM (ae (x := (xR op wide (.lit true) d s disp imm cc)) hf).symm (n0t h0)), fun h0 => have he := (ae (x := (xR op wide (.lit true) d s disp imm cc)) hf).trans (n0f h0); have hB {l : List Int} := @ab (xR op wide (.lit true) d s disp imm cc) _ l hf; have hc := (zbG hf (n0f h0)); ⟨⟨fun h4 => ⟨fun h5 => ⟨rfl, rfl, (t7i (zh he (hB (wn 9 (pv0 h4 h5) hc)) rfl))⟩, fun h6 => ⟨rfl, rfl, (t7i (zh he (hB (wn 8 (pv0 h4 h6) hc)) rfl))⟩⟩, fun h7 => ⟨fun h8 => ⟨rfl, rfl, (t7i (zh he (hB (wn 1 (pv0 h7 h8) hc)) rfl))⟩, fun h9 => ⟨rfl, rfl, (t7i (zh he (hB (wz (pv0 h7 h9) hc)) rfl))⟩⟩⟩, rfl, rfl, (t7i ⟨⟨rfl, rfl, (t7i ⟨rfl, rfl, (t7i ⟨rfl, rfl, (t7i ⟨rfl, rfl, (t7i (t7i ⟨rfl, rfl, rfl, rfl, (t7i ⟨rfl, rfl, rfl, rfl, rfl, rfl, rfl, rfl, rfl, rfl, rfl, rfl, (t7i ⟨rfl, rfl, rfl, rfl, rfl, rfl, rfl, rfl, rfl, rfl, rfl, rfl, rfl, rfl, rfl, rfl, rfl, rfl, trivial⟩)⟩)⟩))⟩)⟩)⟩)⟩, rfl, rfl, (t7i ⟨⟨rfl, rfl, (t7i ⟨rfl, rfl, (t7i ⟨rfl, rfl, (t7i (t7i ⟨rfl, rfl, rfl, rfl, (t7i ⟨rfl, rfl, rfl, rfl, rfl, rfl, rfl, rfl, rfl, rfl, rfl, rfl, (t7i ⟨rfl, rfl, rfl, rfl, rfl, rfl, rfl, rfl, rfl, rfl, rfl, rfl, rfl, rfl, rfl, rfl, rfl, rfl, trivial⟩)⟩)⟩))⟩)⟩)⟩, rfl, rfl, (t7i ⟨rfl, rfl, (t7i ⟨rfl, rfl, (t7i (t7i ⟨rfl, rfl, rfl, rfl, (t7i ⟨rfl, rfl, rfl, rfl, rfl, rfl, rfl, rfl, rfl, rfl, rfl, rfl, (t7i ⟨rfl, rfl, rfl, rfl, rfl, rfl, rfl, rfl, rfl, rfl, rfl, rfl, rfl, rfl, rfl, rfl, rfl, rfl, trivial⟩)⟩)⟩))⟩)⟩)⟩)⟩)⟩⟩⟩
theorem zYQ (op : Int) (wide : Bool) (d s disp imm cc : Int) (hk : kOf (zA op) = 6) : zKU op wide d s disp imm cc (EncO (xR op wide (.lit false) d s disp imm cc)) (zM (xR op wide (.lit false) d s disp imm cc) ≠ 0) (zD (xR op wide (.lit false) d s disp imm cc)).length (zM (xR op wide (.lit false) d s disp imm cc)) := by
 unfold zKU
 exact ⟨hk, fun b => fun hf => ⟨fun h0 => (zDM (ae (x := (xR op wide (.lit false) d s disp imm cc)) hf).symm (n0t h0)), fun h0 => have he := (ae (x := (xR op wide (.lit false) d s disp imm cc)) hf).trans (n0f h0); have hB {l : List Int} := @ab (xR op wide (.lit false) d s disp imm cc) _ l hf; have hc := (zbH hf (n0f h0)); ⟨⟨fun h4 => ⟨fun h5 => ⟨rfl, rfl, (t7i (zh he (hB (wn 9 (pv0 h4 h5) hc)) rfl))⟩, fun h6 => ⟨rfl, rfl, (t7i (zh he (hB (wn 8 (pv0 h4 h6) hc)) rfl))⟩⟩, fun h7 => ⟨fun h8 => ⟨rfl, rfl, (t7i (zh he (hB (wn 1 (pv0 h7 h8) hc)) rfl))⟩, fun h9 => ⟨rfl, rfl, (t7i (zh he (hB (wz (pv0 h7 h9) hc)) rfl))⟩⟩⟩, rfl, rfl, (t7i ⟨⟨rfl, rfl, (t7i ⟨rfl, rfl, (t7i ⟨rfl, rfl, (t7i ⟨rfl, rfl, (t7i (t7i ⟨rfl, rfl, rfl, rfl, (t7i ⟨rfl, rfl, rfl, rfl, rfl, rfl, rfl, rfl, rfl, rfl, rfl, rfl, (t7i ⟨rfl, rfl, rfl, rfl, rfl, rfl, rfl, rfl, rfl, trivial⟩)⟩)⟩))⟩)⟩)⟩)⟩, rfl, rfl, (t7i ⟨⟨rfl, rfl, (t7i ⟨rfl, rfl, (t7i ⟨rfl, rfl, (t7i (t7i ⟨rfl, rfl, rfl, rfl, (t7i ⟨rfl, rfl, rfl, rfl, rfl, rfl, rfl, rfl, rfl, rfl, rfl, rfl, (t7i ⟨rfl, rfl, rfl, rfl, rfl, rfl, rfl, rfl, rfl, trivial⟩)⟩)⟩))⟩)⟩)⟩, rfl, rfl, (t7i ⟨rfl, rfl, (t7i ⟨rfl, rfl, (t7i (t7i ⟨rfl, rfl, rfl, rfl, (t7i ⟨rfl, rfl, rfl, rfl, rfl, rfl, rfl, rfl, rfl, rfl, rfl, rfl, (t7i ⟨rfl, rfl, rfl, rfl, rfl, rfl, rfl, rfl, rfl, trivial⟩)⟩)⟩))⟩)⟩)⟩)⟩)⟩⟩⟩
theorem zam (op : Int) (wide long : Bool) (d s disp imm cc : Int) (hk : kOf (zA op) = 7) : zMo op wide long d s disp imm cc (EncO (xR op wide (.var long) d s disp imm cc)) (zM (xR op wide (.var long) d s disp imm cc) ≠ 0) (zD (xR op wide (.var long) d s disp imm cc)).length (zM (xR op wide (.var long) d s disp imm cc)) := by
 unfold zMo
 exact ⟨hk, fun b => fun hf => ⟨fun h0 => (zDM (ae (x := (xR op wide (.var long) d s disp imm cc)) hf).symm (n0t h0)), fun h0 => have he := (ae (x := (xR op wide (.var long) d s disp imm cc)) hf).trans (n0f h0); have hB {l : List Int} := @ab (xR op wide (.var long) d s disp imm cc) _ l hf; have hc := (cl_7 hf (n0f h0)); ⟨rfl, rfl, rfl, (t8i ⟨rfl, rfl, rfl, (t8i ⟨fun h4 => ⟨fun h5 => ⟨rfl, rfl, rfl, (t8i (zh he (hB (wn 9 (pv0 h4 h5) hc)) rfl))⟩, fun h6 => ⟨rfl, rfl, rfl, (t8i (zh he (hB (wn 8 (pv0 h4 h6) hc)) rfl))⟩⟩, fun h7 => ⟨fun h8 => ⟨rfl, rfl, rfl, (t8i (zh he (hB (wn 1 (pv0 h7 h8) hc)) rfl))⟩, fun h9 => ⟨rfl, rfl, rfl, (t8i (zL6 (Nat.le_of_ble_eq_true rfl) he (hB (wz (pv0 h7 h9) hc)) rfl))⟩⟩⟩)⟩)⟩⟩⟩
theorem zal (op : Int) (wide long : Bool) (d s disp imm cc : Int) (hk : kOf (zA op) = 8) : zMn op wide long d s disp imm cc (EncO (xR op wide (.var long) d s disp imm cc)) (zM (xR op wide (.var long) d s disp imm cc) ≠ 0) (zD (xR op wide (.var long) d s disp imm cc)).length (zM (xR op wide (.var long) d s disp imm cc)) := by
 unfold zMn
 exact ⟨hk, fun b => fun hf => ⟨fun h0 => (zDM (ae (x := (xR op wide (.var long) d s disp imm cc)) hf).symm (n0t h0)), fun h0 => have he := (ae (x := (xR op wide (.var long) d s disp imm cc)) hf).trans (n0f h0); have hB {l : List Int} := @ab (xR op wide (.var long) d s disp imm cc) _ l hf; have hc := (cl_8 hf (n0f h0)); ⟨fun h4 => (zh he (hB (wn 1 (pvf h4) hc)) rfl), fun h5 => (zL6 (Nat.le_of_ble_eq_true rfl) he (hB (wz (pvf h5) hc)) rfl)⟩⟩⟩
theorem zYN (op : Int) (wide : Bool) (d s disp imm cc : Int) (hk : kOf (zA op) = 9) : zKR op wide d s disp imm cc (EncO (xR op wide (.lit true) d s disp imm cc)) (zM (xR op wide (.lit true) d s disp imm cc) ≠ 0) (zD (xR op wide (.lit true) d s disp imm cc)).length (zM (xR op wide (.lit true) d s disp imm cc)) := by
 unfold zKR
 exact ⟨hk, fun b => fun hf => ⟨fun h0 => (zDM (ae (x := (xR op wide (.lit true) d s disp imm cc)) hf).symm (n0t h0)), fun h0 => have he := (ae (x := (xR op wide (.lit true) d s disp imm cc)) hf).trans (n0f h0); have hB {l : List Int} := @ab (xR op wide (.lit true) d s disp imm cc) _ l hf; have hc := (zbE (n0f h0)); (zh he (hB hc.symm) rfl)⟩⟩
theorem zYO (op : Int) (wide : Bool) (d s disp imm cc : Int) (hk : kOf (zA op) = 9) : zKS op wide d s disp imm cc (EncO (xR op wide (.lit false) d s disp imm cc)) (zM (xR op wide (.lit false) d s disp imm cc) ≠ 0) (zD (xR op wide (.lit false) d s disp imm cc)).length (zM (xR op wide (.lit false) d s disp imm cc)) := by
 unfold zKS
 exact ⟨hk, fun b => fun hf => ⟨fun h0 => (zDM (ae (x := (xR op wide (.lit false) d s disp imm cc)) hf).symm (n0t h0)), fun h0 => have he := (ae (x := (xR op wide (.lit false) d s disp imm cc)) hf).trans (n0f h0); have hB {l : List Int} := @ab (xR op wide (.lit false) d s disp imm cc) _ l hf; have hc := (zbF (n0f h0)); ⟨(zh he (hB hc.symm) rfl), ⟨rfl, (t7i ⟨rfl, (t7i ⟨rfl, (t7i (t7i ⟨rfl, rfl, rfl, (t7i ⟨rfl, rfl, rfl, rfl, (t7i ⟨rfl, rfl, rfl, rfl, trivial⟩)⟩)⟩))⟩)⟩)⟩, rfl, (t7i ⟨rfl, (t7i ⟨rfl, (t7i (t7i ⟨rfl, rfl, rfl, (t7i ⟨rfl, rfl, rfl, rfl, (t7i ⟨rfl, rfl, rfl, rfl, trivial⟩)⟩)⟩))⟩)⟩)⟩⟩⟩
theorem zVp (op : Int) (wide : Bool) (d s disp imm cc : Int) (hk : kOf (zA op) = 10) : zH2 op wide d s disp imm cc (EncO (xR op wide (.lit true) d s disp imm cc)) (zM (xR op wide (.lit true) d s disp imm cc) ≠ 0) (zD (xR op wide (.lit true) d s disp imm cc)).length (zM (xR op wide (.lit true) d s disp imm cc)) := by
 unfold zH2
 exact ⟨hk, fun b => fun hf => ⟨fun h0 => (zDM (ae (x := (xR op wide (.lit true) d s disp imm cc)) hf).symm (n0t h0)), fun h0 => have he := (ae (x := (xR op wide (.lit true) d s disp imm cc)) hf).trans (n0f h0); have hB {l : List Int} := @ab (xR op wide (.lit true) d s disp imm cc) _ l hf; have hc := (zZi (n0f h0)); ⟨(zh he (hB hc.symm) rfl), (t7i (t7i (t7i (t7i ⟨rfl, rfl, rfl, (t7i ⟨rfl, rfl, rfl, rfl, rfl, rfl, rfl, (t7i ⟨rfl, rfl, rfl, rfl, rfl, rfl, rfl, rfl, rfl, rfl, rfl, rfl, rfl, rfl, rfl, trivial⟩)⟩)⟩)))), (t7i (t7i (t7i (t7i ⟨rfl, rfl, rfl, (t7i ⟨rfl, rfl, rfl, rfl, rfl, rfl, rfl, (t7i ⟨rfl, rfl, rfl, rfl, rfl, rfl, rfl, rfl, rfl, rfl, rfl, rfl, rfl, rfl, rfl, trivial⟩)⟩)⟩))))⟩⟩⟩
theorem zVq (op : Int) (wide : Bool) (d s disp imm cc : Int) (hk : kOf (zA op) = 10) : zH3 op wide d s disp imm cc (EncO (xR op wide (.lit false) d s disp imm cc)) (zM (xR op wide (.lit false) d s disp imm cc) ≠ 0) (zD (xR op wide (.lit false) d s disp imm cc)).length (zM (xR op wide (.lit false) d s disp imm cc)) := by
 unfold zH3
 exact ⟨hk, fun b => fun hf => ⟨fun h0 => (zDM (ae (x := (xR op wide (.lit false) d s disp imm cc)) hf).symm (n0t h0)), fun h0 => have he := (ae (x := (xR op wide (.lit false) d s disp imm cc)) hf).trans (n0f h0); have hB {l : List Int} := @ab (xR op wide (.lit false) d s disp imm cc) _ l hf; have hc := (zZj (n0f h0)); ⟨(zh he (hB hc.symm) rfl), ⟨rfl, (t7i ⟨rfl, (t7i ⟨rfl, (t7i (t7i ⟨rfl, rfl, rfl, (t7i ⟨rfl, rfl, rfl, rfl, rfl, rfl, rfl, (t7i ⟨rfl, rfl, rfl, rfl, rfl, rfl, trivial⟩)⟩)⟩))⟩)⟩)⟩, rfl, (t7i ⟨rfl, (t7i ⟨rfl, (t7i (t7i ⟨rfl, rfl, rfl, (t7i ⟨rfl, rfl, rfl, rfl, rfl, rfl, rfl, (t7i ⟨rfl, rfl, rfl, rfl, rfl, rfl, trivial⟩)⟩)⟩))⟩)⟩)⟩⟩⟩
theorem zYR (op : Int) (wide long : Bool) (d s disp imm cc : Int) (hk : kOf (zA op) = 11) : zKV op wide long d s disp imm cc (EncO (xR op wide (.var long) d s disp imm cc)) (zM (xR op wide (.var long) d s disp imm cc) ≠ 0) (zD (xR op wide (.var long) d s disp imm cc)).length (zM (xR op wide (.var long) d s disp imm cc)) := by
 unfold zKV
 exact ⟨hk, fun b => fun hf => ⟨fun h0 => (zDM (ae (x := (xR op wide (.var long) d s disp imm cc)) hf).symm (n0t h0)), fun h0 => have he := (ae (x := (xR op wide (.var long) d s disp imm cc)) hf).trans (n0f h0); have hB {l : List Int} := @ab (xR op wide (.var long) d s disp imm cc) _ l hf; have hc := zbI; (zL6 (Nat.le_of_ble_eq_true rfl) he (hB hc) rfl)⟩⟩
theorem zXX {f : FuncId} {fn : Func} (h : ∀ G, zO P G -> zZ P f (zH P G (fun _ => 40) fn)) : zZ P f (fun args hp K => ∃ G, zO P G /\ zH P G (fun _ => 40) fn args hp K) := by
 intro B ν hp w args K h1 h2 h3 ⟨G, hG, hx⟩
 exact h G hG B ν hp w args K h1 h2 h3 hx
theorem zYn (f : Option Form) : kOf f <= 11 := by
 cases f with
 | none => decide
 | some f => cases f <;> simp [kOf]
abbrev reSG : zl := fun args hp K => ∃ G, zO P G /\ zH P G (fun _ => 40) Tryz.f34 args hp K
theorem zX3 (op : Int) (wide long : Bool) (d s disp imm cc : Int) (hk : kOf (zA op) = 0) : ∃ l : BE, l.den = long /\ reSG [xArg (.var op) wide l d s disp imm cc] [] (encQ (EncO ⟨op, wide, long, d, s, disp, imm, cc⟩) (zM ⟨op, wide, long, d, s, disp, imm, cc⟩ ≠ 0) (zD ⟨op, wide, long, d, s, disp, imm, cc⟩).length (zM ⟨op, wide, long, d, s, disp, imm, cc⟩)) := by
 exact ⟨.var long, rfl, FEK 0, zDd 0, by rw [zX9]; exact zaq op wide long d s disp imm cc hk⟩
theorem zX2 (op : Int) (wide long : Bool) (d s disp imm cc : Int) (hk : kOf (zA op) = 1) : ∃ l : BE, l.den = long /\ reSG [xArg (.var op) wide l d s disp imm cc] [] (encQ (EncO ⟨op, wide, long, d, s, disp, imm, cc⟩) (zM ⟨op, wide, long, d, s, disp, imm, cc⟩ ≠ 0) (zD ⟨op, wide, long, d, s, disp, imm, cc⟩).length (zM ⟨op, wide, long, d, s, disp, imm, cc⟩)) := by
 exact ⟨.var long, rfl, FEK 1, zDd 1, by rw [zX8]; exact zap op wide long d s disp imm cc hk⟩
theorem zX1 (op : Int) (wide long : Bool) (d s disp imm cc : Int) (hk : kOf (zA op) = 2) : ∃ l : BE, l.den = long /\ reSG [xArg (.var op) wide l d s disp imm cc] [] (encQ (EncO ⟨op, wide, long, d, s, disp, imm, cc⟩) (zM ⟨op, wide, long, d, s, disp, imm, cc⟩ ≠ 0) (zD ⟨op, wide, long, d, s, disp, imm, cc⟩).length (zM ⟨op, wide, long, d, s, disp, imm, cc⟩)) := by
 exact ⟨.var long, rfl, FEK 2, zDd 2, by rw [zX7]; exact zao op wide long d s disp imm cc hk⟩
theorem zX0 (op : Int) (wide long : Bool) (d s disp imm cc : Int) (hk : kOf (zA op) = 3) : ∃ l : BE, l.den = long /\ reSG [xArg (.var op) wide l d s disp imm cc] [] (encQ (EncO ⟨op, wide, long, d, s, disp, imm, cc⟩) (zM ⟨op, wide, long, d, s, disp, imm, cc⟩ ≠ 0) (zD ⟨op, wide, long, d, s, disp, imm, cc⟩).length (zM ⟨op, wide, long, d, s, disp, imm, cc⟩)) := by
 cases long with
 | true =>
  cases hb : BE.den (.cmp .eql (.rem (.var s) (.lit 8)) (.lit 4)) with
  | true => exact ⟨.lit true, rfl, FEM 3 true, zG9 3 true, by rw [zS7]; exact zVl op wide d s disp imm cc hk hb⟩
  | false => exact ⟨.lit true, rfl, FEM 3 false, zG9 3 false, by rw [zS8]; exact zVm op wide d s disp imm cc hk hb⟩
 | false =>
  cases hb : BE.den (.cmp .eql (.rem (.var s) (.lit 8)) (.lit 4)) with
  | true => exact ⟨.lit false, rfl, FEM 3 true, zG9 3 true, by rw [zS9]; exact zVn op wide d s disp imm cc hk hb⟩
  | false => exact ⟨.lit false, rfl, FEM 3 false, zG9 3 false, by rw [zTA]; exact zVo op wide d s disp imm cc hk hb⟩
theorem zXz (op : Int) (wide long : Bool) (d s disp imm cc : Int) (hk : kOf (zA op) = 4) : ∃ l : BE, l.den = long /\ reSG [xArg (.var op) wide l d s disp imm cc] [] (encQ (EncO ⟨op, wide, long, d, s, disp, imm, cc⟩) (zM ⟨op, wide, long, d, s, disp, imm, cc⟩ ≠ 0) (zD ⟨op, wide, long, d, s, disp, imm, cc⟩).length (zM ⟨op, wide, long, d, s, disp, imm, cc⟩)) := by
 cases long with
 | true =>
  cases hb : BE.den (.cmp .eql (.rem (.var d) (.lit 8)) (.lit 4)) with
  | true => exact ⟨.lit true, rfl, FEM 4 true, zG9 4 true, by rw [zS3]; exact zVh op wide d s disp imm cc hk hb⟩
  | false => exact ⟨.lit true, rfl, FEM 4 false, zG9 4 false, by rw [zS4]; exact zVi op wide d s disp imm cc hk hb⟩
 | false =>
  cases hb : BE.den (.cmp .eql (.rem (.var d) (.lit 8)) (.lit 4)) with
  | true => exact ⟨.lit false, rfl, FEM 4 true, zG9 4 true, by rw [zS5]; exact zVj op wide d s disp imm cc hk hb⟩
  | false => exact ⟨.lit false, rfl, FEM 4 false, zG9 4 false, by rw [zS6]; exact zVk op wide d s disp imm cc hk hb⟩
theorem zXy (op : Int) (wide long : Bool) (d s disp imm cc : Int) (hk : kOf (zA op) = 5) : ∃ l : BE, l.den = long /\ reSG [xArg (.var op) wide l d s disp imm cc] [] (encQ (EncO ⟨op, wide, long, d, s, disp, imm, cc⟩) (zM ⟨op, wide, long, d, s, disp, imm, cc⟩ ≠ 0) (zD ⟨op, wide, long, d, s, disp, imm, cc⟩).length (zM ⟨op, wide, long, d, s, disp, imm, cc⟩)) := by
 exact ⟨.var long, rfl, FEK 5, zDd 5, by rw [zX6]; exact zan op wide long d s disp imm cc hk⟩
theorem zXx (op : Int) (wide long : Bool) (d s disp imm cc : Int) (hk : kOf (zA op) = 6) : ∃ l : BE, l.den = long /\ reSG [xArg (.var op) wide l d s disp imm cc] [] (encQ (EncO ⟨op, wide, long, d, s, disp, imm, cc⟩) (zM ⟨op, wide, long, d, s, disp, imm, cc⟩ ≠ 0) (zD ⟨op, wide, long, d, s, disp, imm, cc⟩).length (zM ⟨op, wide, long, d, s, disp, imm, cc⟩)) := by
 cases long with
 | true => exact ⟨.lit true, rfl, FEK 6, zDd 6, by rw [zVT]; exact zYP op wide d s disp imm cc hk⟩
 | false => exact ⟨.lit false, rfl, FEK 6, zDd 6, by rw [zVU]; exact zYQ op wide d s disp imm cc hk⟩
theorem zXw (op : Int) (wide long : Bool) (d s disp imm cc : Int) (hk : kOf (zA op) = 7) : ∃ l : BE, l.den = long /\ reSG [xArg (.var op) wide l d s disp imm cc] [] (encQ (EncO ⟨op, wide, long, d, s, disp, imm, cc⟩) (zM ⟨op, wide, long, d, s, disp, imm, cc⟩ ≠ 0) (zD ⟨op, wide, long, d, s, disp, imm, cc⟩).length (zM ⟨op, wide, long, d, s, disp, imm, cc⟩)) := by
 exact ⟨.var long, rfl, FEK 7, zDd 7, by rw [zX5]; exact zam op wide long d s disp imm cc hk⟩
theorem zXv (op : Int) (wide long : Bool) (d s disp imm cc : Int) (hk : kOf (zA op) = 8) : ∃ l : BE, l.den = long /\ reSG [xArg (.var op) wide l d s disp imm cc] [] (encQ (EncO ⟨op, wide, long, d, s, disp, imm, cc⟩) (zM ⟨op, wide, long, d, s, disp, imm, cc⟩ ≠ 0) (zD ⟨op, wide, long, d, s, disp, imm, cc⟩).length (zM ⟨op, wide, long, d, s, disp, imm, cc⟩)) := by
 exact ⟨.var long, rfl, FEK 8, zDd 8, by rw [zX4]; exact zal op wide long d s disp imm cc hk⟩
theorem zXu (op : Int) (wide long : Bool) (d s disp imm cc : Int) (hk : kOf (zA op) = 9) : ∃ l : BE, l.den = long /\ reSG [xArg (.var op) wide l d s disp imm cc] [] (encQ (EncO ⟨op, wide, long, d, s, disp, imm, cc⟩) (zM ⟨op, wide, long, d, s, disp, imm, cc⟩ ≠ 0) (zD ⟨op, wide, long, d, s, disp, imm, cc⟩).length (zM ⟨op, wide, long, d, s, disp, imm, cc⟩)) := by
 cases long with
 | true => exact ⟨.lit true, rfl, FEK 9, zDd 9, by rw [zVR]; exact zYN op wide d s disp imm cc hk⟩
 | false => exact ⟨.lit false, rfl, FEK 9, zDd 9, by rw [zVS]; exact zYO op wide d s disp imm cc hk⟩
theorem zVQ (op : Int) (wide long : Bool) (d s disp imm cc : Int) (hk : kOf (zA op) = 10) : ∃ l : BE, l.den = long /\ reSG [xArg (.var op) wide l d s disp imm cc] [] (encQ (EncO ⟨op, wide, long, d, s, disp, imm, cc⟩) (zM ⟨op, wide, long, d, s, disp, imm, cc⟩ ≠ 0) (zD ⟨op, wide, long, d, s, disp, imm, cc⟩).length (zM ⟨op, wide, long, d, s, disp, imm, cc⟩)) := by
 cases long with
 | true => exact ⟨.lit true, rfl, FEK 10, zDd 10, by rw [zTB]; exact zVp op wide d s disp imm cc hk⟩
 | false => exact ⟨.lit false, rfl, FEK 10, zDd 10, by rw [zTC]; exact zVq op wide d s disp imm cc hk⟩
theorem zVP (op : Int) (wide long : Bool) (d s disp imm cc : Int) (hk : kOf (zA op) = 11) : ∃ l : BE, l.den = long /\ reSG [xArg (.var op) wide l d s disp imm cc] [] (encQ (EncO ⟨op, wide, long, d, s, disp, imm, cc⟩) (zM ⟨op, wide, long, d, s, disp, imm, cc⟩ ≠ 0) (zD ⟨op, wide, long, d, s, disp, imm, cc⟩).length (zM ⟨op, wide, long, d, s, disp, imm, cc⟩)) := by
 exact ⟨.var long, rfl, FEK 11, zDd 11, by rw [zVV]; exact zYR op wide long d s disp imm cc hk⟩
theorem zPC : zZ P 34 (zAK [.plain] zMA zF2) := by
 have hs : zZ P 34 reSG := zXX fun G hG => zN (un := fun _ => 40) hG Tryz.func34
 refine zTq (zVf (zLU hs)) ?_
 rintro ⟨op, wide, long, d, s, disp, imm, cc⟩
 have key : ∃ l : BE, l.den = long /\ reSG [xArg (.var op) wide l d s disp imm cc] [] (encQ (EncO ⟨op, wide, long, d, s, disp, imm, cc⟩) (zM ⟨op, wide, long, d, s, disp, imm, cc⟩ ≠ 0) (zD ⟨op, wide, long, d, s, disp, imm, cc⟩).length (zM ⟨op, wide, long, d, s, disp, imm, cc⟩)) := by
  have h12 := zYn (zA op)
  have hc : kOf (zA op) = 0 ∨ kOf (zA op) = 1 ∨ kOf (zA op) = 2 ∨ kOf (zA op) = 3 ∨ kOf (zA op) = 4 ∨ kOf (zA op) = 5 ∨ kOf (zA op) = 6 ∨ kOf (zA op) = 7 ∨ kOf (zA op) = 8 ∨ kOf (zA op) = 9 ∨ kOf (zA op) = 10 ∨ kOf (zA op) = 11 := by omega
  rcases hc with h | h | h | h | h | h | h | h | h | h | h | h
  ·exact zX3 op wide long d s disp imm cc h
  ·exact zX2 op wide long d s disp imm cc h
  ·exact zX1 op wide long d s disp imm cc h
  ·exact zX0 op wide long d s disp imm cc h
  ·exact zXz op wide long d s disp imm cc h
  ·exact zXy op wide long d s disp imm cc h
  ·exact zXx op wide long d s disp imm cc h
  ·exact zXw op wide long d s disp imm cc h
  ·exact zXv op wide long d s disp imm cc h
  ·exact zXu op wide long d s disp imm cc h
  ·exact zVQ op wide long d s disp imm cc h
  ·exact zVP op wide long d s disp imm cc h
 obtain ⟨l, hl, hx⟩ := key
 refine zTN (args' := [xArg (.var op) wide l d s disp imm cc]) (fun ν => ?_) (zUj _ _ _ _ _ _ _ _) hx
 subst hl
 rfl
end Go.Proofs.YtajcmjjgnbaahaaGreat.Amd
