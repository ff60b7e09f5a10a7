/- Show of both sides as told calls: the same text of the same instruction. -/
import Derived.Test.YtajcmjjgnbaahaaDoorSw3
namespace Go.Proofs.YtajcmjjgnbaahaaDoor.Amd
open Go Go.Proofs.YtajcmjjgnbaahaaDoor.Sx Go.RowKit
set_option linter.unusedVariables false
set_option linter.unusedSimpArgs false
def preB (op : Int) (long : Bool) : ByteArray :=
  if op = 1 then (if long = true then ⟨#[109, 111, 118, 46, 108, 32]⟩ else ⟨#[109, 111, 118, 32]⟩) else
  if op = 2 then (if long = true then ⟨#[109, 111, 118, 46, 108, 32]⟩ else ⟨#[109, 111, 118, 32]⟩) else
  if op = 3 then (if long = true then ⟨#[109, 111, 118, 46, 108, 32]⟩ else ⟨#[109, 111, 118, 32]⟩) else
  if op = 4 then (if long = true then ⟨#[109, 111, 118, 46, 108, 32]⟩ else ⟨#[109, 111, 118, 32]⟩) else
  if op = 5 then (if long = true then ⟨#[97, 100, 100, 46, 108, 32]⟩ else ⟨#[97, 100, 100, 32]⟩) else
  if op = 6 then (if long = true then ⟨#[111, 114, 46, 108, 32]⟩ else ⟨#[111, 114, 32]⟩) else
  if op = 7 then (if long = true then ⟨#[97, 110, 100, 46, 108, 32]⟩ else ⟨#[97, 110, 100, 32]⟩) else
  if op = 8 then (if long = true then ⟨#[115, 117, 98, 46, 108, 32]⟩ else ⟨#[115, 117, 98, 32]⟩) else
  if op = 9 then (if long = true then ⟨#[120, 111, 114, 46, 108, 32]⟩ else ⟨#[120, 111, 114, 32]⟩) else
  if op = 10 then (if long = true then ⟨#[99, 109, 112, 46, 108, 32]⟩ else ⟨#[99, 109, 112, 32]⟩) else
  if op = 11 then (if long = true then ⟨#[116, 101, 115, 116, 46, 108, 32]⟩ else ⟨#[116, 101, 115, 116, 32]⟩) else
  if op = 12 then (if long = true then ⟨#[120, 99, 104, 103, 46, 108, 32]⟩ else ⟨#[120, 99, 104, 103, 32]⟩) else
  if op = 13 then (if long = true then ⟨#[105, 109, 117, 108, 46, 108, 32]⟩ else ⟨#[105, 109, 117, 108, 32]⟩) else
  if op = 14 then (if long = true then ⟨#[97, 100, 100, 46, 108, 32]⟩ else ⟨#[97, 100, 100, 32]⟩) else
  if op = 15 then (if long = true then ⟨#[115, 117, 98, 46, 108, 32]⟩ else ⟨#[115, 117, 98, 32]⟩) else
  if op = 16 then (if long = true then ⟨#[99, 109, 112, 46, 108, 32]⟩ else ⟨#[99, 109, 112, 32]⟩) else
  if op = 17 then (if long = true then ⟨#[97, 110, 100, 46, 108, 32]⟩ else ⟨#[97, 110, 100, 32]⟩) else
  if op = 18 then (if long = true then ⟨#[110, 101, 103, 46, 108, 32]⟩ else ⟨#[110, 101, 103, 32]⟩) else
  if op = 19 then (if long = true then ⟨#[110, 111, 116, 46, 108, 32]⟩ else ⟨#[110, 111, 116, 32]⟩) else
  if op = 20 then (if long = true then ⟨#[100, 105, 118, 46, 108, 32]⟩ else ⟨#[100, 105, 118, 32]⟩) else
  if op = 21 then (if long = true then ⟨#[115, 104, 108, 46, 108, 32]⟩ else ⟨#[115, 104, 108, 32]⟩) else
  if op = 22 then (if long = true then ⟨#[115, 104, 114, 46, 108, 32]⟩ else ⟨#[115, 104, 114, 32]⟩) else
  if op = 23 then (if long = true then ⟨#[112, 117, 115, 104, 46, 108, 32]⟩ else ⟨#[112, 117, 115, 104, 32]⟩) else
  if op = 24 then (if long = true then ⟨#[112, 111, 112, 46, 108, 32]⟩ else ⟨#[112, 111, 112, 32]⟩) else
  if op = 25 then (if long = true then ⟨#[106, 109, 112, 46, 108, 32]⟩ else ⟨#[106, 109, 112, 32]⟩) else
  if op = 27 then (⟨#[114, 101, 116]⟩) else
  ⟨#[]⟩
def jccB (cc : Int) (long : Bool) : ByteArray :=
  if cc = 2 then (if long = true then ⟨#[106, 98, 46, 108, 32]⟩ else ⟨#[106, 98, 32]⟩) else
  if cc = 3 then (if long = true then ⟨#[106, 97, 101, 46, 108, 32]⟩ else ⟨#[106, 97, 101, 32]⟩) else
  if cc = 4 then (if long = true then ⟨#[106, 101, 46, 108, 32]⟩ else ⟨#[106, 101, 32]⟩) else
  if cc = 5 then (if long = true then ⟨#[106, 110, 101, 46, 108, 32]⟩ else ⟨#[106, 110, 101, 32]⟩) else
  if cc = 6 then (if long = true then ⟨#[106, 98, 101, 46, 108, 32]⟩ else ⟨#[106, 98, 101, 32]⟩) else
  if cc = 7 then (if long = true then ⟨#[106, 97, 46, 108, 32]⟩ else ⟨#[106, 97, 32]⟩) else
  ⟨#[]⟩
def csB : ByteArray := ⟨#[44, 32]⟩
def lbB : ByteArray := ⟨#[91]⟩
def rbB : ByteArray := ⟨#[93]⟩
def clB : ByteArray := ⟨#[44, 32, 99, 108]⟩
def showT : Form -> AI -> ByteArray
  | .movImm, x => preB x.op false ++ (regB x.d false ++ (csB ++ itoaB x.imm))
  | .two _, x | .imul, x => preB x.op false ++ (regB x.d x.wide ++ (csB ++ regB x.s x.wide))
  | .load, x => preB x.op x.long ++ (regB x.d x.wide ++ (csB ++ (lbB ++ (regB x.s true ++ (sgnB x.disp ++ rbB)))))
  | .store, x => preB x.op x.long ++ (lbB ++ (regB x.d true ++ (sgnB x.disp ++ (rbB ++ (csB ++ regB x.s x.wide)))))
  | .imm _, x => preB x.op x.long ++ (regB x.d x.wide ++ (csB ++ itoaB x.imm))
  | .one c _, x => if c = 211 then preB x.op false ++ (regB x.d x.wide ++ clB) else preB x.op false ++ regB x.d x.wide
  | .stack _, x => preB x.op false ++ regB x.d true
  | .jmp, x => preB x.op x.long ++ sgnB x.imm
  | .jcc, x => jccB x.cc x.long ++ sgnB x.imm
  | .ret, x => preB x.op false
def showB (x : AI) : ByteArray := if amdErr x = 0 then (match formOf x.op with | some f => showT f x | none => ⟨#[]⟩) else ⟨#[]⟩
theorem shW_ok {x : AI} {Q : SV -> Prop} {R : Nat × (Nat -> Int) -> Prop} {R' : Prop} (hE : amdErr x = 0) (h : ∀ b, R b) : shW x Q R R' := ⟨trivial, fun b _ => h b, fun _ hn => absurd hE hn⟩
def shQ (S : ByteArray) : SV -> Prop := fun v => ∀ ν, v.den ν = SV.den nu0 (.strE S)
theorem shq {S V : ByteArray} (h : V = S) : shQ S (.strE V) := fun ν => st_d h ν
theorem shp {S V : ByteArray} (h : V = S) : shQ S (.str V) := fun ν => by subst h; rfl
theorem cl_of {x : Int} (h : in15 x) : cl x = x := by unfold in15 at h; unfold cl; simp only [IE.den]; omega
theorem ceq {c k : Int} (h : BE.den (.cmp .eql (.var c) (.lit k)) = true) : c = k := by simpa [BE.den, IE.den, cmpI_eql] using h
theorem cne {c k : Int} (h : BE.den (.cmp .eql (.var c) (.lit k)) = false) : c ≠ k := by simpa [BE.den, IE.den, cmpI_eql] using h
theorem cc_ok {wide long : Bool} {d s disp imm cc : Int} (hE : amdErr ⟨26, wide, long, d, s, disp, imm, cc⟩ = 0) : 2 <= cc /\ cc <= 7 := by
  have h : (if cc < 2 ∨ 7 < cc then (181 : Int) else if numOk imm long then 0 else 183) = 0 := hE
  split at h
  · exact absurd h (by decide)
  · omega
theorem m1 : (⟨#[44, 32, 91]⟩ : ByteArray) = ⟨#[44, 32]⟩ ++ ⟨#[91]⟩ := rfl
theorem m2 : (⟨#[93, 44, 32]⟩ : ByteArray) = ⟨#[93]⟩ ++ ⟨#[44, 32]⟩ := rfl
theorem m3 : (⟨#[109, 111, 118, 46, 108, 32, 91]⟩ : ByteArray) = ⟨#[109, 111, 118, 46, 108, 32]⟩ ++ ⟨#[91]⟩ := rfl
theorem m4 : (⟨#[109, 111, 118, 32, 91]⟩ : ByteArray) = ⟨#[109, 111, 118, 32]⟩ ++ ⟨#[91]⟩ := rfl
theorem ashow_1_ok (wide long : Bool) (d s disp imm cc : Int) (hE : amdErr ⟨1, wide, long, d, s, disp, imm, cc⟩ = 0) (hp : in64 disp) (hi : in64 imm) : (sxFunc P AS (fun _ => .plain 40) Tryd.f8 [xArg (.lit 1) wide (.var long) d s disp imm cc] hpT (fun v _ => shQ (showB ⟨1, wide, long, d, s, disp, imm, cc⟩) v)) = True := by
  apply eq_true
  rw [ashow_1]
  have hr := er1 (show (if badReg d = true then 182 else _) = (0 : Int) from hE)
  have hS : showB ⟨1, wide, long, d, s, disp, imm, cc⟩ = showT .movImm ⟨1, wide, long, d, s, disp, imm, cc⟩ := if_pos hE
  exact shW_ok hE fun b => sbk_a1 { q := fun _ e => shq e, p := fun _ e => shp e, hd := hr, l0 := Nat.le_of_ble_eq_true rfl, l1 := Nat.le_of_ble_eq_true rfl, n_imm := hi, e0 := by intros; subst_vars; rw [hS]; (try simp only [cl_of hr, ByteArray.append_assoc]); rfl, e1 := by intros; subst_vars; rw [hS]; (try simp only [cl_of hr, ByteArray.append_assoc]); rfl }
theorem ashow_2_ok (wide long : Bool) (d s disp imm cc : Int) (hE : amdErr ⟨2, wide, long, d, s, disp, imm, cc⟩ = 0) (hp : in64 disp) (hi : in64 imm) : (sxFunc P AS (fun _ => .plain 40) Tryd.f8 [xArg (.lit 2) wide (.var long) d s disp imm cc] hpT (fun v _ => shQ (showB ⟨2, wide, long, d, s, disp, imm, cc⟩) v)) = True := by
  apply eq_true
  rw [ashow_2]
  have hr := er2 (show (if badReg s = true ∨ badReg d = true then 182 else _) = (0 : Int) from hE)
  have hS : showB ⟨2, wide, long, d, s, disp, imm, cc⟩ = showT (.two 0) ⟨2, wide, long, d, s, disp, imm, cc⟩ := if_pos hE
  exact shW_ok hE fun b => sbk_a2 { q := fun _ e => shq e, p := fun _ e => shp e, l0 := Nat.le_of_ble_eq_true rfl, l1 := Nat.le_of_ble_eq_true rfl, e0 := by intros; subst_vars; rw [hS]; (try simp only [cl_of hr.2, cl_of hr.1, ByteArray.append_assoc]); rfl, e1 := by intros; subst_vars; rw [hS]; (try simp only [cl_of hr.2, cl_of hr.1, ByteArray.append_assoc]); rfl }
theorem ashow_5_ok (wide long : Bool) (d s disp imm cc : Int) (hE : amdErr ⟨5, wide, long, d, s, disp, imm, cc⟩ = 0) (hp : in64 disp) (hi : in64 imm) : (sxFunc P AS (fun _ => .plain 40) Tryd.f8 [xArg (.lit 5) wide (.var long) d s disp imm cc] hpT (fun v _ => shQ (showB ⟨5, wide, long, d, s, disp, imm, cc⟩) v)) = True := by
  apply eq_true
  rw [ashow_5]
  have hr := er2 (show (if badReg s = true ∨ badReg d = true then 182 else _) = (0 : Int) from hE)
  have hS : showB ⟨5, wide, long, d, s, disp, imm, cc⟩ = showT (.two 0) ⟨5, wide, long, d, s, disp, imm, cc⟩ := if_pos hE
  exact shW_ok hE fun b => sbk_a2 { q := fun _ e => shq e, p := fun _ e => shp e, l0 := Nat.le_of_ble_eq_true rfl, l1 := Nat.le_of_ble_eq_true rfl, e0 := by intros; subst_vars; rw [hS]; (try simp only [cl_of hr.2, cl_of hr.1, ByteArray.append_assoc]); rfl, e1 := by intros; subst_vars; rw [hS]; (try simp only [cl_of hr.2, cl_of hr.1, ByteArray.append_assoc]); rfl }
theorem ashow_6_ok (wide long : Bool) (d s disp imm cc : Int) (hE : amdErr ⟨6, wide, long, d, s, disp, imm, cc⟩ = 0) (hp : in64 disp) (hi : in64 imm) : (sxFunc P AS (fun _ => .plain 40) Tryd.f8 [xArg (.lit 6) wide (.var long) d s disp imm cc] hpT (fun v _ => shQ (showB ⟨6, wide, long, d, s, disp, imm, cc⟩) v)) = True := by
  apply eq_true
  rw [ashow_6]
  have hr := er2 (show (if badReg s = true ∨ badReg d = true then 182 else _) = (0 : Int) from hE)
  have hS : showB ⟨6, wide, long, d, s, disp, imm, cc⟩ = showT (.two 0) ⟨6, wide, long, d, s, disp, imm, cc⟩ := if_pos hE
  exact shW_ok hE fun b => sbk_a2 { q := fun _ e => shq e, p := fun _ e => shp e, l0 := Nat.le_of_ble_eq_true rfl, l1 := Nat.le_of_ble_eq_true rfl, e0 := by intros; subst_vars; rw [hS]; (try simp only [cl_of hr.2, cl_of hr.1, ByteArray.append_assoc]); rfl, e1 := by intros; subst_vars; rw [hS]; (try simp only [cl_of hr.2, cl_of hr.1, ByteArray.append_assoc]); rfl }
theorem ashow_7_ok (wide long : Bool) (d s disp imm cc : Int) (hE : amdErr ⟨7, wide, long, d, s, disp, imm, cc⟩ = 0) (hp : in64 disp) (hi : in64 imm) : (sxFunc P AS (fun _ => .plain 40) Tryd.f8 [xArg (.lit 7) wide (.var long) d s disp imm cc] hpT (fun v _ => shQ (showB ⟨7, wide, long, d, s, disp, imm, cc⟩) v)) = True := by
  apply eq_true
  rw [ashow_7]
  have hr := er2 (show (if badReg s = true ∨ badReg d = true then 182 else _) = (0 : Int) from hE)
  have hS : showB ⟨7, wide, long, d, s, disp, imm, cc⟩ = showT (.two 0) ⟨7, wide, long, d, s, disp, imm, cc⟩ := if_pos hE
  exact shW_ok hE fun b => sbk_a2 { q := fun _ e => shq e, p := fun _ e => shp e, l0 := Nat.le_of_ble_eq_true rfl, l1 := Nat.le_of_ble_eq_true rfl, e0 := by intros; subst_vars; rw [hS]; (try simp only [cl_of hr.2, cl_of hr.1, ByteArray.append_assoc]); rfl, e1 := by intros; subst_vars; rw [hS]; (try simp only [cl_of hr.2, cl_of hr.1, ByteArray.append_assoc]); rfl }
theorem ashow_8_ok (wide long : Bool) (d s disp imm cc : Int) (hE : amdErr ⟨8, wide, long, d, s, disp, imm, cc⟩ = 0) (hp : in64 disp) (hi : in64 imm) : (sxFunc P AS (fun _ => .plain 40) Tryd.f8 [xArg (.lit 8) wide (.var long) d s disp imm cc] hpT (fun v _ => shQ (showB ⟨8, wide, long, d, s, disp, imm, cc⟩) v)) = True := by
  apply eq_true
  rw [ashow_8]
  have hr := er2 (show (if badReg s = true ∨ badReg d = true then 182 else _) = (0 : Int) from hE)
  have hS : showB ⟨8, wide, long, d, s, disp, imm, cc⟩ = showT (.two 0) ⟨8, wide, long, d, s, disp, imm, cc⟩ := if_pos hE
  exact shW_ok hE fun b => sbk_a2 { q := fun _ e => shq e, p := fun _ e => shp e, l0 := Nat.le_of_ble_eq_true rfl, l1 := Nat.le_of_ble_eq_true rfl, e0 := by intros; subst_vars; rw [hS]; (try simp only [cl_of hr.2, cl_of hr.1, ByteArray.append_assoc]); rfl, e1 := by intros; subst_vars; rw [hS]; (try simp only [cl_of hr.2, cl_of hr.1, ByteArray.append_assoc]); rfl }
theorem ashow_9_ok (wide long : Bool) (d s disp imm cc : Int) (hE : amdErr ⟨9, wide, long, d, s, disp, imm, cc⟩ = 0) (hp : in64 disp) (hi : in64 imm) : (sxFunc P AS (fun _ => .plain 40) Tryd.f8 [xArg (.lit 9) wide (.var long) d s disp imm cc] hpT (fun v _ => shQ (showB ⟨9, wide, long, d, s, disp, imm, cc⟩) v)) = True := by
  apply eq_true
  rw [ashow_9]
  have hr := er2 (show (if badReg s = true ∨ badReg d = true then 182 else _) = (0 : Int) from hE)
  have hS : showB ⟨9, wide, long, d, s, disp, imm, cc⟩ = showT (.two 0) ⟨9, wide, long, d, s, disp, imm, cc⟩ := if_pos hE
  exact shW_ok hE fun b => sbk_a2 { q := fun _ e => shq e, p := fun _ e => shp e, l0 := Nat.le_of_ble_eq_true rfl, l1 := Nat.le_of_ble_eq_true rfl, e0 := by intros; subst_vars; rw [hS]; (try simp only [cl_of hr.2, cl_of hr.1, ByteArray.append_assoc]); rfl, e1 := by intros; subst_vars; rw [hS]; (try simp only [cl_of hr.2, cl_of hr.1, ByteArray.append_assoc]); rfl }
theorem ashow_10_ok (wide long : Bool) (d s disp imm cc : Int) (hE : amdErr ⟨10, wide, long, d, s, disp, imm, cc⟩ = 0) (hp : in64 disp) (hi : in64 imm) : (sxFunc P AS (fun _ => .plain 40) Tryd.f8 [xArg (.lit 10) wide (.var long) d s disp imm cc] hpT (fun v _ => shQ (showB ⟨10, wide, long, d, s, disp, imm, cc⟩) v)) = True := by
  apply eq_true
  rw [ashow_10]
  have hr := er2 (show (if badReg s = true ∨ badReg d = true then 182 else _) = (0 : Int) from hE)
  have hS : showB ⟨10, wide, long, d, s, disp, imm, cc⟩ = showT (.two 0) ⟨10, wide, long, d, s, disp, imm, cc⟩ := if_pos hE
  exact shW_ok hE fun b => sbk_a2 { q := fun _ e => shq e, p := fun _ e => shp e, l0 := Nat.le_of_ble_eq_true rfl, l1 := Nat.le_of_ble_eq_true rfl, e0 := by intros; subst_vars; rw [hS]; (try simp only [cl_of hr.2, cl_of hr.1, ByteArray.append_assoc]); rfl, e1 := by intros; subst_vars; rw [hS]; (try simp only [cl_of hr.2, cl_of hr.1, ByteArray.append_assoc]); rfl }
theorem ashow_11_ok (wide long : Bool) (d s disp imm cc : Int) (hE : amdErr ⟨11, wide, long, d, s, disp, imm, cc⟩ = 0) (hp : in64 disp) (hi : in64 imm) : (sxFunc P AS (fun _ => .plain 40) Tryd.f8 [xArg (.lit 11) wide (.var long) d s disp imm cc] hpT (fun v _ => shQ (showB ⟨11, wide, long, d, s, disp, imm, cc⟩) v)) = True := by
  apply eq_true
  rw [ashow_11]
  have hr := er2 (show (if badReg s = true ∨ badReg d = true then 182 else _) = (0 : Int) from hE)
  have hS : showB ⟨11, wide, long, d, s, disp, imm, cc⟩ = showT (.two 0) ⟨11, wide, long, d, s, disp, imm, cc⟩ := if_pos hE
  exact shW_ok hE fun b => sbk_a2 { q := fun _ e => shq e, p := fun _ e => shp e, l0 := Nat.le_of_ble_eq_true rfl, l1 := Nat.le_of_ble_eq_true rfl, e0 := by intros; subst_vars; rw [hS]; (try simp only [cl_of hr.2, cl_of hr.1, ByteArray.append_assoc]); rfl, e1 := by intros; subst_vars; rw [hS]; (try simp only [cl_of hr.2, cl_of hr.1, ByteArray.append_assoc]); rfl }
theorem ashow_12_ok (wide long : Bool) (d s disp imm cc : Int) (hE : amdErr ⟨12, wide, long, d, s, disp, imm, cc⟩ = 0) (hp : in64 disp) (hi : in64 imm) : (sxFunc P AS (fun _ => .plain 40) Tryd.f8 [xArg (.lit 12) wide (.var long) d s disp imm cc] hpT (fun v _ => shQ (showB ⟨12, wide, long, d, s, disp, imm, cc⟩) v)) = True := by
  apply eq_true
  rw [ashow_12]
  have hr := er2 (show (if badReg s = true ∨ badReg d = true then 182 else _) = (0 : Int) from hE)
  have hS : showB ⟨12, wide, long, d, s, disp, imm, cc⟩ = showT (.two 0) ⟨12, wide, long, d, s, disp, imm, cc⟩ := if_pos hE
  exact shW_ok hE fun b => sbk_a2 { q := fun _ e => shq e, p := fun _ e => shp e, l0 := Nat.le_of_ble_eq_true rfl, l1 := Nat.le_of_ble_eq_true rfl, e0 := by intros; subst_vars; rw [hS]; (try simp only [cl_of hr.2, cl_of hr.1, ByteArray.append_assoc]); rfl, e1 := by intros; subst_vars; rw [hS]; (try simp only [cl_of hr.2, cl_of hr.1, ByteArray.append_assoc]); rfl }
theorem ashow_13_ok (wide long : Bool) (d s disp imm cc : Int) (hE : amdErr ⟨13, wide, long, d, s, disp, imm, cc⟩ = 0) (hp : in64 disp) (hi : in64 imm) : (sxFunc P AS (fun _ => .plain 40) Tryd.f8 [xArg (.lit 13) wide (.var long) d s disp imm cc] hpT (fun v _ => shQ (showB ⟨13, wide, long, d, s, disp, imm, cc⟩) v)) = True := by
  apply eq_true
  rw [ashow_13]
  have hr := er2 (show (if badReg s = true ∨ badReg d = true then 182 else _) = (0 : Int) from hE)
  have hS : showB ⟨13, wide, long, d, s, disp, imm, cc⟩ = showT .imul ⟨13, wide, long, d, s, disp, imm, cc⟩ := if_pos hE
  exact shW_ok hE fun b => sbk_a2 { q := fun _ e => shq e, p := fun _ e => shp e, l0 := Nat.le_of_ble_eq_true rfl, l1 := Nat.le_of_ble_eq_true rfl, e0 := by intros; subst_vars; rw [hS]; (try simp only [cl_of hr.2, cl_of hr.1, ByteArray.append_assoc]); rfl, e1 := by intros; subst_vars; rw [hS]; (try simp only [cl_of hr.2, cl_of hr.1, ByteArray.append_assoc]); rfl }
theorem ashow_3_ok (wide long : Bool) (d s disp imm cc : Int) (hE : amdErr ⟨3, wide, long, d, s, disp, imm, cc⟩ = 0) (hp : in64 disp) (hi : in64 imm) : (sxFunc P AS (fun _ => .plain 40) Tryd.f8 [xArg (.lit 3) wide (.var long) d s disp imm cc] hpT (fun v _ => shQ (showB ⟨3, wide, long, d, s, disp, imm, cc⟩) v)) = True := by
  apply eq_true
  rw [ashow_3]
  have hr := er2 (show (if badReg d = true ∨ badReg s = true then 182 else _) = (0 : Int) from hE)
  have hS : showB ⟨3, wide, long, d, s, disp, imm, cc⟩ = showT .load ⟨3, wide, long, d, s, disp, imm, cc⟩ := if_pos hE
  exact shW_ok hE fun b => sbk_a3 { q := fun _ e => shq e, p := fun _ e => shp e, hs := hr.2, l0 := Nat.le_of_ble_eq_true rfl, l1 := Nat.le_of_ble_eq_true rfl, l2 := Nat.le_of_ble_eq_true rfl, l3 := Nat.le_of_ble_eq_true rfl, l4 := Nat.le_of_ble_eq_true rfl, n_disp := hp, e0 := by intros; subst_vars; rw [hS]; (try simp only [cl_of hr.1, cl_of hr.2, m1, m2, m3, m4, ByteArray.append_assoc]); rfl, e1 := by intros; subst_vars; rw [hS]; (try simp only [cl_of hr.1, cl_of hr.2, m1, m2, m3, m4, ByteArray.append_assoc]); rfl }
theorem ashow_4_ok (wide long : Bool) (d s disp imm cc : Int) (hE : amdErr ⟨4, wide, long, d, s, disp, imm, cc⟩ = 0) (hp : in64 disp) (hi : in64 imm) : (sxFunc P AS (fun _ => .plain 40) Tryd.f8 [xArg (.lit 4) wide (.var long) d s disp imm cc] hpT (fun v _ => shQ (showB ⟨4, wide, long, d, s, disp, imm, cc⟩) v)) = True := by
  apply eq_true
  rw [ashow_4]
  have hr := er2 (show (if badReg d = true ∨ badReg s = true then 182 else _) = (0 : Int) from hE)
  have hS : showB ⟨4, wide, long, d, s, disp, imm, cc⟩ = showT .store ⟨4, wide, long, d, s, disp, imm, cc⟩ := if_pos hE
  exact shW_ok hE fun b => sbk_a4 { q := fun _ e => shq e, p := fun _ e => shp e, hd := hr.1, l0 := Nat.le_of_ble_eq_true rfl, l1 := Nat.le_of_ble_eq_true rfl, l2 := Nat.le_of_ble_eq_true rfl, l3 := Nat.le_of_ble_eq_true rfl, l4 := Nat.le_of_ble_eq_true rfl, n_disp := hp, e0 := by intros; subst_vars; rw [hS]; (try simp only [cl_of hr.1, cl_of hr.2, m1, m2, m3, m4, ByteArray.append_assoc]); rfl, e1 := by intros; subst_vars; rw [hS]; (try simp only [cl_of hr.1, cl_of hr.2, m1, m2, m3, m4, ByteArray.append_assoc]); rfl }
theorem ashow_14_ok (wide long : Bool) (d s disp imm cc : Int) (hE : amdErr ⟨14, wide, long, d, s, disp, imm, cc⟩ = 0) (hp : in64 disp) (hi : in64 imm) : (sxFunc P AS (fun _ => .plain 40) Tryd.f8 [xArg (.lit 14) wide (.var long) d s disp imm cc] hpT (fun v _ => shQ (showB ⟨14, wide, long, d, s, disp, imm, cc⟩) v)) = True := by
  apply eq_true
  rw [ashow_14]
  have hr := er1 (show (if badReg d = true then 182 else _) = (0 : Int) from hE)
  have hS : showB ⟨14, wide, long, d, s, disp, imm, cc⟩ = showT (.imm 0) ⟨14, wide, long, d, s, disp, imm, cc⟩ := if_pos hE
  exact shW_ok hE fun b => sbk_a14 { q := fun _ e => shq e, p := fun _ e => shp e, l0 := Nat.le_of_ble_eq_true rfl, l1 := Nat.le_of_ble_eq_true rfl, l2 := Nat.le_of_ble_eq_true rfl, n_imm := hi, e0 := by intros; subst_vars; rw [hS]; (try simp only [cl_of hr, ByteArray.append_assoc]); rfl, e1 := by intros; subst_vars; rw [hS]; (try simp only [cl_of hr, ByteArray.append_assoc]); rfl }
theorem ashow_15_ok (wide long : Bool) (d s disp imm cc : Int) (hE : amdErr ⟨15, wide, long, d, s, disp, imm, cc⟩ = 0) (hp : in64 disp) (hi : in64 imm) : (sxFunc P AS (fun _ => .plain 40) Tryd.f8 [xArg (.lit 15) wide (.var long) d s disp imm cc] hpT (fun v _ => shQ (showB ⟨15, wide, long, d, s, disp, imm, cc⟩) v)) = True := by
  apply eq_true
  rw [ashow_15]
  have hr := er1 (show (if badReg d = true then 182 else _) = (0 : Int) from hE)
  have hS : showB ⟨15, wide, long, d, s, disp, imm, cc⟩ = showT (.imm 0) ⟨15, wide, long, d, s, disp, imm, cc⟩ := if_pos hE
  exact shW_ok hE fun b => sbk_a14 { q := fun _ e => shq e, p := fun _ e => shp e, l0 := Nat.le_of_ble_eq_true rfl, l1 := Nat.le_of_ble_eq_true rfl, l2 := Nat.le_of_ble_eq_true rfl, n_imm := hi, e0 := by intros; subst_vars; rw [hS]; (try simp only [cl_of hr, ByteArray.append_assoc]); rfl, e1 := by intros; subst_vars; rw [hS]; (try simp only [cl_of hr, ByteArray.append_assoc]); rfl }
theorem ashow_16_ok (wide long : Bool) (d s disp imm cc : Int) (hE : amdErr ⟨16, wide, long, d, s, disp, imm, cc⟩ = 0) (hp : in64 disp) (hi : in64 imm) : (sxFunc P AS (fun _ => .plain 40) Tryd.f8 [xArg (.lit 16) wide (.var long) d s disp imm cc] hpT (fun v _ => shQ (showB ⟨16, wide, long, d, s, disp, imm, cc⟩) v)) = True := by
  apply eq_true
  rw [ashow_16]
  have hr := er1 (show (if badReg d = true then 182 else _) = (0 : Int) from hE)
  have hS : showB ⟨16, wide, long, d, s, disp, imm, cc⟩ = showT (.imm 0) ⟨16, wide, long, d, s, disp, imm, cc⟩ := if_pos hE
  exact shW_ok hE fun b => sbk_a14 { q := fun _ e => shq e, p := fun _ e => shp e, l0 := Nat.le_of_ble_eq_true rfl, l1 := Nat.le_of_ble_eq_true rfl, l2 := Nat.le_of_ble_eq_true rfl, n_imm := hi, e0 := by intros; subst_vars; rw [hS]; (try simp only [cl_of hr, ByteArray.append_assoc]); rfl, e1 := by intros; subst_vars; rw [hS]; (try simp only [cl_of hr, ByteArray.append_assoc]); rfl }
theorem ashow_17_ok (wide long : Bool) (d s disp imm cc : Int) (hE : amdErr ⟨17, wide, long, d, s, disp, imm, cc⟩ = 0) (hp : in64 disp) (hi : in64 imm) : (sxFunc P AS (fun _ => .plain 40) Tryd.f8 [xArg (.lit 17) wide (.var long) d s disp imm cc] hpT (fun v _ => shQ (showB ⟨17, wide, long, d, s, disp, imm, cc⟩) v)) = True := by
  apply eq_true
  rw [ashow_17]
  have hr := er1 (show (if badReg d = true then 182 else _) = (0 : Int) from hE)
  have hS : showB ⟨17, wide, long, d, s, disp, imm, cc⟩ = showT (.imm 0) ⟨17, wide, long, d, s, disp, imm, cc⟩ := if_pos hE
  exact shW_ok hE fun b => sbk_a14 { q := fun _ e => shq e, p := fun _ e => shp e, l0 := Nat.le_of_ble_eq_true rfl, l1 := Nat.le_of_ble_eq_true rfl, l2 := Nat.le_of_ble_eq_true rfl, n_imm := hi, e0 := by intros; subst_vars; rw [hS]; (try simp only [cl_of hr, ByteArray.append_assoc]); rfl, e1 := by intros; subst_vars; rw [hS]; (try simp only [cl_of hr, ByteArray.append_assoc]); rfl }
theorem ashow_18_ok (wide long : Bool) (d s disp imm cc : Int) (hE : amdErr ⟨18, wide, long, d, s, disp, imm, cc⟩ = 0) (hp : in64 disp) (hi : in64 imm) : (sxFunc P AS (fun _ => .plain 40) Tryd.f8 [xArg (.lit 18) wide (.var long) d s disp imm cc] hpT (fun v _ => shQ (showB ⟨18, wide, long, d, s, disp, imm, cc⟩) v)) = True := by
  apply eq_true
  rw [ashow_18]
  have hr := er1 (show (if badReg d = true then 182 else _) = (0 : Int) from hE)
  have hS : showB ⟨18, wide, long, d, s, disp, imm, cc⟩ = showT (.one 0 0) ⟨18, wide, long, d, s, disp, imm, cc⟩ := if_pos hE
  exact shW_ok hE fun b => sbk_a18 { q := fun _ e => shq e, p := fun _ e => shp e, l0 := Nat.le_of_ble_eq_true rfl, e0 := by intros; subst_vars; rw [hS]; (try simp only [cl_of hr, ByteArray.append_assoc]); rfl, e1 := by intros; subst_vars; rw [hS]; (try simp only [cl_of hr, ByteArray.append_assoc]); rfl }
theorem ashow_19_ok (wide long : Bool) (d s disp imm cc : Int) (hE : amdErr ⟨19, wide, long, d, s, disp, imm, cc⟩ = 0) (hp : in64 disp) (hi : in64 imm) : (sxFunc P AS (fun _ => .plain 40) Tryd.f8 [xArg (.lit 19) wide (.var long) d s disp imm cc] hpT (fun v _ => shQ (showB ⟨19, wide, long, d, s, disp, imm, cc⟩) v)) = True := by
  apply eq_true
  rw [ashow_19]
  have hr := er1 (show (if badReg d = true then 182 else _) = (0 : Int) from hE)
  have hS : showB ⟨19, wide, long, d, s, disp, imm, cc⟩ = showT (.one 0 0) ⟨19, wide, long, d, s, disp, imm, cc⟩ := if_pos hE
  exact shW_ok hE fun b => sbk_a18 { q := fun _ e => shq e, p := fun _ e => shp e, l0 := Nat.le_of_ble_eq_true rfl, e0 := by intros; subst_vars; rw [hS]; (try simp only [cl_of hr, ByteArray.append_assoc]); rfl, e1 := by intros; subst_vars; rw [hS]; (try simp only [cl_of hr, ByteArray.append_assoc]); rfl }
theorem ashow_20_ok (wide long : Bool) (d s disp imm cc : Int) (hE : amdErr ⟨20, wide, long, d, s, disp, imm, cc⟩ = 0) (hp : in64 disp) (hi : in64 imm) : (sxFunc P AS (fun _ => .plain 40) Tryd.f8 [xArg (.lit 20) wide (.var long) d s disp imm cc] hpT (fun v _ => shQ (showB ⟨20, wide, long, d, s, disp, imm, cc⟩) v)) = True := by
  apply eq_true
  rw [ashow_20]
  have hr := er1 (show (if badReg d = true then 182 else _) = (0 : Int) from hE)
  have hS : showB ⟨20, wide, long, d, s, disp, imm, cc⟩ = showT (.one 0 0) ⟨20, wide, long, d, s, disp, imm, cc⟩ := if_pos hE
  exact shW_ok hE fun b => sbk_a18 { q := fun _ e => shq e, p := fun _ e => shp e, l0 := Nat.le_of_ble_eq_true rfl, e0 := by intros; subst_vars; rw [hS]; (try simp only [cl_of hr, ByteArray.append_assoc]); rfl, e1 := by intros; subst_vars; rw [hS]; (try simp only [cl_of hr, ByteArray.append_assoc]); rfl }
theorem ashow_21_ok (wide long : Bool) (d s disp imm cc : Int) (hE : amdErr ⟨21, wide, long, d, s, disp, imm, cc⟩ = 0) (hp : in64 disp) (hi : in64 imm) : (sxFunc P AS (fun _ => .plain 40) Tryd.f8 [xArg (.lit 21) wide (.var long) d s disp imm cc] hpT (fun v _ => shQ (showB ⟨21, wide, long, d, s, disp, imm, cc⟩) v)) = True := by
  apply eq_true
  rw [ashow_21]
  have hr := er1 (show (if badReg d = true then 182 else _) = (0 : Int) from hE)
  have hS : showB ⟨21, wide, long, d, s, disp, imm, cc⟩ = showT (.one 211 0) ⟨21, wide, long, d, s, disp, imm, cc⟩ := if_pos hE
  exact shW_ok hE fun b => sbk_a21 { q := fun _ e => shq e, p := fun _ e => shp e, l0 := Nat.le_of_ble_eq_true rfl, l1 := Nat.le_of_ble_eq_true rfl, e0 := by intros; subst_vars; rw [hS]; (try simp only [cl_of hr, ByteArray.append_assoc]); rfl, e1 := by intros; subst_vars; rw [hS]; (try simp only [cl_of hr, ByteArray.append_assoc]); rfl }
theorem ashow_22_ok (wide long : Bool) (d s disp imm cc : Int) (hE : amdErr ⟨22, wide, long, d, s, disp, imm, cc⟩ = 0) (hp : in64 disp) (hi : in64 imm) : (sxFunc P AS (fun _ => .plain 40) Tryd.f8 [xArg (.lit 22) wide (.var long) d s disp imm cc] hpT (fun v _ => shQ (showB ⟨22, wide, long, d, s, disp, imm, cc⟩) v)) = True := by
  apply eq_true
  rw [ashow_22]
  have hr := er1 (show (if badReg d = true then 182 else _) = (0 : Int) from hE)
  have hS : showB ⟨22, wide, long, d, s, disp, imm, cc⟩ = showT (.one 211 0) ⟨22, wide, long, d, s, disp, imm, cc⟩ := if_pos hE
  exact shW_ok hE fun b => sbk_a21 { q := fun _ e => shq e, p := fun _ e => shp e, l0 := Nat.le_of_ble_eq_true rfl, l1 := Nat.le_of_ble_eq_true rfl, e0 := by intros; subst_vars; rw [hS]; (try simp only [cl_of hr, ByteArray.append_assoc]); rfl, e1 := by intros; subst_vars; rw [hS]; (try simp only [cl_of hr, ByteArray.append_assoc]); rfl }
theorem ashow_23_ok (wide long : Bool) (d s disp imm cc : Int) (hE : amdErr ⟨23, wide, long, d, s, disp, imm, cc⟩ = 0) (hp : in64 disp) (hi : in64 imm) : (sxFunc P AS (fun _ => .plain 40) Tryd.f8 [xArg (.lit 23) wide (.var long) d s disp imm cc] hpT (fun v _ => shQ (showB ⟨23, wide, long, d, s, disp, imm, cc⟩) v)) = True := by
  apply eq_true
  rw [ashow_23]
  have hr := er1 (show (if badReg d = true then 182 else _) = (0 : Int) from hE)
  have hS : showB ⟨23, wide, long, d, s, disp, imm, cc⟩ = showT (.stack 0) ⟨23, wide, long, d, s, disp, imm, cc⟩ := if_pos hE
  exact shW_ok hE fun b => sbk_a23 { q := fun _ e => shq e, p := fun _ e => shp e, hd := hr, l0 := Nat.le_of_ble_eq_true rfl, e0 := by intros; subst_vars; rw [hS]; (try simp only [cl_of hr, ByteArray.append_assoc]); rfl, e1 := by intros; subst_vars; rw [hS]; (try simp only [cl_of hr, ByteArray.append_assoc]); rfl }
theorem ashow_24_ok (wide long : Bool) (d s disp imm cc : Int) (hE : amdErr ⟨24, wide, long, d, s, disp, imm, cc⟩ = 0) (hp : in64 disp) (hi : in64 imm) : (sxFunc P AS (fun _ => .plain 40) Tryd.f8 [xArg (.lit 24) wide (.var long) d s disp imm cc] hpT (fun v _ => shQ (showB ⟨24, wide, long, d, s, disp, imm, cc⟩) v)) = True := by
  apply eq_true
  rw [ashow_24]
  have hr := er1 (show (if badReg d = true then 182 else _) = (0 : Int) from hE)
  have hS : showB ⟨24, wide, long, d, s, disp, imm, cc⟩ = showT (.stack 0) ⟨24, wide, long, d, s, disp, imm, cc⟩ := if_pos hE
  exact shW_ok hE fun b => sbk_a23 { q := fun _ e => shq e, p := fun _ e => shp e, hd := hr, l0 := Nat.le_of_ble_eq_true rfl, e0 := by intros; subst_vars; rw [hS]; (try simp only [cl_of hr, ByteArray.append_assoc]); rfl, e1 := by intros; subst_vars; rw [hS]; (try simp only [cl_of hr, ByteArray.append_assoc]); rfl }
theorem ashow_25_ok (wide long : Bool) (d s disp imm cc : Int) (hE : amdErr ⟨25, wide, long, d, s, disp, imm, cc⟩ = 0) (hp : in64 disp) (hi : in64 imm) : (sxFunc P AS (fun _ => .plain 40) Tryd.f8 [xArg (.lit 25) wide (.var long) d s disp imm cc] hpT (fun v _ => shQ (showB ⟨25, wide, long, d, s, disp, imm, cc⟩) v)) = True := by
  apply eq_true
  rw [ashow_25]
  have hS : showB ⟨25, wide, long, d, s, disp, imm, cc⟩ = showT .jmp ⟨25, wide, long, d, s, disp, imm, cc⟩ := if_pos hE
  exact shW_ok hE fun b => sbk_a25 { q := fun _ e => shq e, p := fun _ e => shp e, l0 := Nat.le_of_ble_eq_true rfl, l1 := Nat.le_of_ble_eq_true rfl, n_imm := hi, e0 := by intros; subst_vars; rw [hS]; (try simp only [ByteArray.append_assoc]); rfl, e1 := by intros; subst_vars; rw [hS]; (try simp only [ByteArray.append_assoc]); rfl }
theorem ashow_27_ok (wide long : Bool) (d s disp imm cc : Int) (hE : amdErr ⟨27, wide, long, d, s, disp, imm, cc⟩ = 0) (hp : in64 disp) (hi : in64 imm) : (sxFunc P AS (fun _ => .plain 40) Tryd.f8 [xArg (.lit 27) wide (.var long) d s disp imm cc] hpT (fun v _ => shQ (showB ⟨27, wide, long, d, s, disp, imm, cc⟩) v)) = True := by
  apply eq_true
  rw [ashow_27]
  have hS : showB ⟨27, wide, long, d, s, disp, imm, cc⟩ = showT .ret ⟨27, wide, long, d, s, disp, imm, cc⟩ := if_pos hE
  exact shW_ok hE fun b => sbk_a27 { q := fun _ e => shq e, p := fun _ e => shp e, e0 := by intros; subst_vars; rw [hS]; (try simp only [ByteArray.append_assoc]); rfl, e1 := by intros; subst_vars; rw [hS]; (try simp only [ByteArray.append_assoc]); rfl }
theorem ashow_26_2_ok (wide long : Bool) (d s disp imm : Int) (hE : amdErr ⟨26, wide, long, d, s, disp, imm, 2⟩ = 0) (hp : in64 disp) (hi : in64 imm) : (sxFunc P AS (fun _ => .plain 40) Tryd.f8 [xArgC 26 wide long d s disp imm 2] hpT (fun v _ => shQ (showB ⟨26, wide, long, d, s, disp, imm, 2⟩) v)) = True := by
  apply eq_true
  rw [ashow_26_2]
  have hS : showB ⟨26, wide, long, d, s, disp, imm, 2⟩ = showT .jcc ⟨26, wide, long, d, s, disp, imm, 2⟩ := if_pos hE
  exact shW_ok hE fun b => sbk_a26_2 { q := fun _ e => shq e, p := fun _ e => shp e, l4 := Nat.le_of_ble_eq_true rfl, l6 := Nat.le_of_ble_eq_true rfl, n_imm := hi, e0 := by intros; subst_vars; rw [hS]; (try simp only [ByteArray.append_assoc]); rfl, e1 := by intros; rfl, e2 := by intros; subst_vars; rw [hS]; (try simp only [ByteArray.append_assoc]); rfl, e3 := by intros; rfl }
theorem ashow_26_3_ok (wide long : Bool) (d s disp imm : Int) (hE : amdErr ⟨26, wide, long, d, s, disp, imm, 3⟩ = 0) (hp : in64 disp) (hi : in64 imm) : (sxFunc P AS (fun _ => .plain 40) Tryd.f8 [xArgC 26 wide long d s disp imm 3] hpT (fun v _ => shQ (showB ⟨26, wide, long, d, s, disp, imm, 3⟩) v)) = True := by
  apply eq_true
  rw [ashow_26_3]
  have hS : showB ⟨26, wide, long, d, s, disp, imm, 3⟩ = showT .jcc ⟨26, wide, long, d, s, disp, imm, 3⟩ := if_pos hE
  exact shW_ok hE fun b => sbk_a26_2 { q := fun _ e => shq e, p := fun _ e => shp e, l4 := Nat.le_of_ble_eq_true rfl, l6 := Nat.le_of_ble_eq_true rfl, n_imm := hi, e0 := by intros; subst_vars; rw [hS]; (try simp only [ByteArray.append_assoc]); rfl, e1 := by intros; rfl, e2 := by intros; subst_vars; rw [hS]; (try simp only [ByteArray.append_assoc]); rfl, e3 := by intros; rfl }
theorem ashow_26_4_ok (wide long : Bool) (d s disp imm : Int) (hE : amdErr ⟨26, wide, long, d, s, disp, imm, 4⟩ = 0) (hp : in64 disp) (hi : in64 imm) : (sxFunc P AS (fun _ => .plain 40) Tryd.f8 [xArgC 26 wide long d s disp imm 4] hpT (fun v _ => shQ (showB ⟨26, wide, long, d, s, disp, imm, 4⟩) v)) = True := by
  apply eq_true
  rw [ashow_26_4]
  have hS : showB ⟨26, wide, long, d, s, disp, imm, 4⟩ = showT .jcc ⟨26, wide, long, d, s, disp, imm, 4⟩ := if_pos hE
  exact shW_ok hE fun b => sbk_a26_2 { q := fun _ e => shq e, p := fun _ e => shp e, l4 := Nat.le_of_ble_eq_true rfl, l6 := Nat.le_of_ble_eq_true rfl, n_imm := hi, e0 := by intros; subst_vars; rw [hS]; (try simp only [ByteArray.append_assoc]); rfl, e1 := by intros; rfl, e2 := by intros; subst_vars; rw [hS]; (try simp only [ByteArray.append_assoc]); rfl, e3 := by intros; rfl }
theorem ashow_26_5_ok (wide long : Bool) (d s disp imm : Int) (hE : amdErr ⟨26, wide, long, d, s, disp, imm, 5⟩ = 0) (hp : in64 disp) (hi : in64 imm) : (sxFunc P AS (fun _ => .plain 40) Tryd.f8 [xArgC 26 wide long d s disp imm 5] hpT (fun v _ => shQ (showB ⟨26, wide, long, d, s, disp, imm, 5⟩) v)) = True := by
  apply eq_true
  rw [ashow_26_5]
  have hS : showB ⟨26, wide, long, d, s, disp, imm, 5⟩ = showT .jcc ⟨26, wide, long, d, s, disp, imm, 5⟩ := if_pos hE
  exact shW_ok hE fun b => sbk_a26_2 { q := fun _ e => shq e, p := fun _ e => shp e, l4 := Nat.le_of_ble_eq_true rfl, l6 := Nat.le_of_ble_eq_true rfl, n_imm := hi, e0 := by intros; subst_vars; rw [hS]; (try simp only [ByteArray.append_assoc]); rfl, e1 := by intros; rfl, e2 := by intros; subst_vars; rw [hS]; (try simp only [ByteArray.append_assoc]); rfl, e3 := by intros; rfl }
theorem ashow_26_6_ok (wide long : Bool) (d s disp imm : Int) (hE : amdErr ⟨26, wide, long, d, s, disp, imm, 6⟩ = 0) (hp : in64 disp) (hi : in64 imm) : (sxFunc P AS (fun _ => .plain 40) Tryd.f8 [xArgC 26 wide long d s disp imm 6] hpT (fun v _ => shQ (showB ⟨26, wide, long, d, s, disp, imm, 6⟩) v)) = True := by
  apply eq_true
  rw [ashow_26_6]
  have hS : showB ⟨26, wide, long, d, s, disp, imm, 6⟩ = showT .jcc ⟨26, wide, long, d, s, disp, imm, 6⟩ := if_pos hE
  exact shW_ok hE fun b => sbk_a26_2 { q := fun _ e => shq e, p := fun _ e => shp e, l4 := Nat.le_of_ble_eq_true rfl, l6 := Nat.le_of_ble_eq_true rfl, n_imm := hi, e0 := by intros; subst_vars; rw [hS]; (try simp only [ByteArray.append_assoc]); rfl, e1 := by intros; rfl, e2 := by intros; subst_vars; rw [hS]; (try simp only [ByteArray.append_assoc]); rfl, e3 := by intros; rfl }
theorem ashow_26_7_ok (wide long : Bool) (d s disp imm : Int) (hE : amdErr ⟨26, wide, long, d, s, disp, imm, 7⟩ = 0) (hp : in64 disp) (hi : in64 imm) : (sxFunc P AS (fun _ => .plain 40) Tryd.f8 [xArgC 26 wide long d s disp imm 7] hpT (fun v _ => shQ (showB ⟨26, wide, long, d, s, disp, imm, 7⟩) v)) = True := by
  apply eq_true
  rw [ashow_26_7]
  have hS : showB ⟨26, wide, long, d, s, disp, imm, 7⟩ = showT .jcc ⟨26, wide, long, d, s, disp, imm, 7⟩ := if_pos hE
  exact shW_ok hE fun b => sbk_a26_2 { q := fun _ e => shq e, p := fun _ e => shp e, l4 := Nat.le_of_ble_eq_true rfl, l6 := Nat.le_of_ble_eq_true rfl, n_imm := hi, e0 := by intros; subst_vars; rw [hS]; (try simp only [ByteArray.append_assoc]); rfl, e1 := by intros; rfl, e2 := by intros; subst_vars; rw [hS]; (try simp only [ByteArray.append_assoc]); rfl, e3 := by intros; rfl }
theorem rshow_3_ok (wide long : Bool) (d s disp imm cc : Int) (hE : amdErr ⟨3, wide, long, d, s, disp, imm, cc⟩ = 0) (hp : in64 disp) (hi : in64 imm) : (sxFunc P RS (fun _ => .plain 40) Tryd.f11 [xArg (.lit 3) wide (.var long) d s disp imm cc] hpT (fun v _ => shQ (showB ⟨3, wide, long, d, s, disp, imm, cc⟩) v)) = True := by
  apply eq_true
  rw [rshow_3]
  have hr := er2 (show (if badReg d = true ∨ badReg s = true then 182 else _) = (0 : Int) from hE)
  have hS : showB ⟨3, wide, long, d, s, disp, imm, cc⟩ = showT .load ⟨3, wide, long, d, s, disp, imm, cc⟩ := if_pos hE
  exact shW_ok hE fun b => sbk_r3 { q := fun _ e => shq e, p := fun _ e => shp e, hd := hr.1, hs := hr.2, l0 := Nat.le_of_ble_eq_true rfl, l1 := Nat.le_of_ble_eq_true rfl, l2 := Nat.le_of_ble_eq_true rfl, l3 := Nat.le_of_ble_eq_true rfl, n_disp := hp, e0 := by intros; subst_vars; rw [hS]; (try simp only [cl_of hr.1, cl_of hr.2, m1, m2, m3, m4, ByteArray.append_assoc]); rfl, e1 := by intros; subst_vars; rw [hS]; (try simp only [cl_of hr.1, cl_of hr.2, m1, m2, m3, m4, ByteArray.append_assoc]); rfl, e2 := by intros; subst_vars; rw [hS]; (try simp only [cl_of hr.1, cl_of hr.2, m1, m2, m3, m4, ByteArray.append_assoc]); rfl, e3 := by intros; subst_vars; rw [hS]; (try simp only [cl_of hr.1, cl_of hr.2, m1, m2, m3, m4, ByteArray.append_assoc]); rfl }
theorem rshow_4_ok (wide long : Bool) (d s disp imm cc : Int) (hE : amdErr ⟨4, wide, long, d, s, disp, imm, cc⟩ = 0) (hp : in64 disp) (hi : in64 imm) : (sxFunc P RS (fun _ => .plain 40) Tryd.f11 [xArg (.lit 4) wide (.var long) d s disp imm cc] hpT (fun v _ => shQ (showB ⟨4, wide, long, d, s, disp, imm, cc⟩) v)) = True := by
  apply eq_true
  rw [rshow_4]
  have hr := er2 (show (if badReg d = true ∨ badReg s = true then 182 else _) = (0 : Int) from hE)
  have hS : showB ⟨4, wide, long, d, s, disp, imm, cc⟩ = showT .store ⟨4, wide, long, d, s, disp, imm, cc⟩ := if_pos hE
  exact shW_ok hE fun b => sbk_r4 { q := fun _ e => shq e, p := fun _ e => shp e, hd := hr.1, hs := hr.2, l0 := Nat.le_of_ble_eq_true rfl, l1 := Nat.le_of_ble_eq_true rfl, l2 := Nat.le_of_ble_eq_true rfl, n_disp := hp, e0 := by intros; subst_vars; rw [hS]; (try simp only [cl_of hr.1, cl_of hr.2, m1, m2, m3, m4, ByteArray.append_assoc]); rfl, e1 := by intros; subst_vars; rw [hS]; (try simp only [cl_of hr.1, cl_of hr.2, m1, m2, m3, m4, ByteArray.append_assoc]); rfl, e2 := by intros; subst_vars; rw [hS]; (try simp only [cl_of hr.1, cl_of hr.2, m1, m2, m3, m4, ByteArray.append_assoc]); rfl, e3 := by intros; subst_vars; rw [hS]; (try simp only [cl_of hr.1, cl_of hr.2, m1, m2, m3, m4, ByteArray.append_assoc]); rfl }
theorem rshow_1_ok (wide long : Bool) (d s disp imm cc : Int) (hE : amdErr ⟨1, wide, long, d, s, disp, imm, cc⟩ = 0) (hp : in64 disp) (hi : in64 imm) : (sxFunc P RS (fun _ => .plain 40) Tryd.f11 [xArg (.lit 1) wide (.var long) d s disp imm cc] hpT (fun v _ => shQ (showB ⟨1, wide, long, d, s, disp, imm, cc⟩) v)) = True := by
  apply eq_true
  rw [rshow_1]
  have hr := er1 (show (if badReg d = true then 182 else _) = (0 : Int) from hE)
  have hS : showB ⟨1, wide, long, d, s, disp, imm, cc⟩ = showT .movImm ⟨1, wide, long, d, s, disp, imm, cc⟩ := if_pos hE
  exact shW_ok hE fun b => sbk_r1 { q := fun _ e => shq e, p := fun _ e => shp e, hd := hr, l0 := Nat.le_of_ble_eq_true rfl, l1 := Nat.le_of_ble_eq_true rfl, n_imm := hi, e0 := by intros; subst_vars; rw [hS]; (try simp only [cl_of hr, ByteArray.append_assoc]); rfl, e1 := by intros; subst_vars; rw [hS]; (try simp only [cl_of hr, ByteArray.append_assoc]); rfl }
theorem rshow_2_ok (wide long : Bool) (d s disp imm cc : Int) (hE : amdErr ⟨2, wide, long, d, s, disp, imm, cc⟩ = 0) (hp : in64 disp) (hi : in64 imm) : (sxFunc P RS (fun _ => .plain 40) Tryd.f11 [xArg (.lit 2) wide (.var long) d s disp imm cc] hpT (fun v _ => shQ (showB ⟨2, wide, long, d, s, disp, imm, cc⟩) v)) = True := by
  apply eq_true
  rw [rshow_2]
  have hr := er2 (show (if badReg s = true ∨ badReg d = true then 182 else _) = (0 : Int) from hE)
  have hS : showB ⟨2, wide, long, d, s, disp, imm, cc⟩ = showT (.two 0) ⟨2, wide, long, d, s, disp, imm, cc⟩ := if_pos hE
  exact shW_ok hE fun b => sbk_r2 { q := fun _ e => shq e, p := fun _ e => shp e, hd := hr.2, hs := hr.1, l0 := Nat.le_of_ble_eq_true rfl, l1 := Nat.le_of_ble_eq_true rfl, e0 := by intros; subst_vars; rw [hS]; (try simp only [cl_of hr.2, cl_of hr.1, ByteArray.append_assoc]); rfl, e1 := by intros; subst_vars; rw [hS]; (try simp only [cl_of hr.2, cl_of hr.1, ByteArray.append_assoc]); rfl }
theorem rshow_5_ok (wide long : Bool) (d s disp imm cc : Int) (hE : amdErr ⟨5, wide, long, d, s, disp, imm, cc⟩ = 0) (hp : in64 disp) (hi : in64 imm) : (sxFunc P RS (fun _ => .plain 40) Tryd.f11 [xArg (.lit 5) wide (.var long) d s disp imm cc] hpT (fun v _ => shQ (showB ⟨5, wide, long, d, s, disp, imm, cc⟩) v)) = True := by
  apply eq_true
  rw [rshow_5]
  have hr := er2 (show (if badReg s = true ∨ badReg d = true then 182 else _) = (0 : Int) from hE)
  have hS : showB ⟨5, wide, long, d, s, disp, imm, cc⟩ = showT (.two 0) ⟨5, wide, long, d, s, disp, imm, cc⟩ := if_pos hE
  exact shW_ok hE fun b => sbk_r2 { q := fun _ e => shq e, p := fun _ e => shp e, hd := hr.2, hs := hr.1, l0 := Nat.le_of_ble_eq_true rfl, l1 := Nat.le_of_ble_eq_true rfl, e0 := by intros; subst_vars; rw [hS]; (try simp only [cl_of hr.2, cl_of hr.1, ByteArray.append_assoc]); rfl, e1 := by intros; subst_vars; rw [hS]; (try simp only [cl_of hr.2, cl_of hr.1, ByteArray.append_assoc]); rfl }
theorem rshow_6_ok (wide long : Bool) (d s disp imm cc : Int) (hE : amdErr ⟨6, wide, long, d, s, disp, imm, cc⟩ = 0) (hp : in64 disp) (hi : in64 imm) : (sxFunc P RS (fun _ => .plain 40) Tryd.f11 [xArg (.lit 6) wide (.var long) d s disp imm cc] hpT (fun v _ => shQ (showB ⟨6, wide, long, d, s, disp, imm, cc⟩) v)) = True := by
  apply eq_true
  rw [rshow_6]
  have hr := er2 (show (if badReg s = true ∨ badReg d = true then 182 else _) = (0 : Int) from hE)
  have hS : showB ⟨6, wide, long, d, s, disp, imm, cc⟩ = showT (.two 0) ⟨6, wide, long, d, s, disp, imm, cc⟩ := if_pos hE
  exact shW_ok hE fun b => sbk_r2 { q := fun _ e => shq e, p := fun _ e => shp e, hd := hr.2, hs := hr.1, l0 := Nat.le_of_ble_eq_true rfl, l1 := Nat.le_of_ble_eq_true rfl, e0 := by intros; subst_vars; rw [hS]; (try simp only [cl_of hr.2, cl_of hr.1, ByteArray.append_assoc]); rfl, e1 := by intros; subst_vars; rw [hS]; (try simp only [cl_of hr.2, cl_of hr.1, ByteArray.append_assoc]); rfl }
theorem rshow_7_ok (wide long : Bool) (d s disp imm cc : Int) (hE : amdErr ⟨7, wide, long, d, s, disp, imm, cc⟩ = 0) (hp : in64 disp) (hi : in64 imm) : (sxFunc P RS (fun _ => .plain 40) Tryd.f11 [xArg (.lit 7) wide (.var long) d s disp imm cc] hpT (fun v _ => shQ (showB ⟨7, wide, long, d, s, disp, imm, cc⟩) v)) = True := by
  apply eq_true
  rw [rshow_7]
  have hr := er2 (show (if badReg s = true ∨ badReg d = true then 182 else _) = (0 : Int) from hE)
  have hS : showB ⟨7, wide, long, d, s, disp, imm, cc⟩ = showT (.two 0) ⟨7, wide, long, d, s, disp, imm, cc⟩ := if_pos hE
  exact shW_ok hE fun b => sbk_r2 { q := fun _ e => shq e, p := fun _ e => shp e, hd := hr.2, hs := hr.1, l0 := Nat.le_of_ble_eq_true rfl, l1 := Nat.le_of_ble_eq_true rfl, e0 := by intros; subst_vars; rw [hS]; (try simp only [cl_of hr.2, cl_of hr.1, ByteArray.append_assoc]); rfl, e1 := by intros; subst_vars; rw [hS]; (try simp only [cl_of hr.2, cl_of hr.1, ByteArray.append_assoc]); rfl }
theorem rshow_8_ok (wide long : Bool) (d s disp imm cc : Int) (hE : amdErr ⟨8, wide, long, d, s, disp, imm, cc⟩ = 0) (hp : in64 disp) (hi : in64 imm) : (sxFunc P RS (fun _ => .plain 40) Tryd.f11 [xArg (.lit 8) wide (.var long) d s disp imm cc] hpT (fun v _ => shQ (showB ⟨8, wide, long, d, s, disp, imm, cc⟩) v)) = True := by
  apply eq_true
  rw [rshow_8]
  have hr := er2 (show (if badReg s = true ∨ badReg d = true then 182 else _) = (0 : Int) from hE)
  have hS : showB ⟨8, wide, long, d, s, disp, imm, cc⟩ = showT (.two 0) ⟨8, wide, long, d, s, disp, imm, cc⟩ := if_pos hE
  exact shW_ok hE fun b => sbk_r2 { q := fun _ e => shq e, p := fun _ e => shp e, hd := hr.2, hs := hr.1, l0 := Nat.le_of_ble_eq_true rfl, l1 := Nat.le_of_ble_eq_true rfl, e0 := by intros; subst_vars; rw [hS]; (try simp only [cl_of hr.2, cl_of hr.1, ByteArray.append_assoc]); rfl, e1 := by intros; subst_vars; rw [hS]; (try simp only [cl_of hr.2, cl_of hr.1, ByteArray.append_assoc]); rfl }
theorem rshow_9_ok (wide long : Bool) (d s disp imm cc : Int) (hE : amdErr ⟨9, wide, long, d, s, disp, imm, cc⟩ = 0) (hp : in64 disp) (hi : in64 imm) : (sxFunc P RS (fun _ => .plain 40) Tryd.f11 [xArg (.lit 9) wide (.var long) d s disp imm cc] hpT (fun v _ => shQ (showB ⟨9, wide, long, d, s, disp, imm, cc⟩) v)) = True := by
  apply eq_true
  rw [rshow_9]
  have hr := er2 (show (if badReg s = true ∨ badReg d = true then 182 else _) = (0 : Int) from hE)
  have hS : showB ⟨9, wide, long, d, s, disp, imm, cc⟩ = showT (.two 0) ⟨9, wide, long, d, s, disp, imm, cc⟩ := if_pos hE
  exact shW_ok hE fun b => sbk_r2 { q := fun _ e => shq e, p := fun _ e => shp e, hd := hr.2, hs := hr.1, l0 := Nat.le_of_ble_eq_true rfl, l1 := Nat.le_of_ble_eq_true rfl, e0 := by intros; subst_vars; rw [hS]; (try simp only [cl_of hr.2, cl_of hr.1, ByteArray.append_assoc]); rfl, e1 := by intros; subst_vars; rw [hS]; (try simp only [cl_of hr.2, cl_of hr.1, ByteArray.append_assoc]); rfl }
theorem rshow_10_ok (wide long : Bool) (d s disp imm cc : Int) (hE : amdErr ⟨10, wide, long, d, s, disp, imm, cc⟩ = 0) (hp : in64 disp) (hi : in64 imm) : (sxFunc P RS (fun _ => .plain 40) Tryd.f11 [xArg (.lit 10) wide (.var long) d s disp imm cc] hpT (fun v _ => shQ (showB ⟨10, wide, long, d, s, disp, imm, cc⟩) v)) = True := by
  apply eq_true
  rw [rshow_10]
  have hr := er2 (show (if badReg s = true ∨ badReg d = true then 182 else _) = (0 : Int) from hE)
  have hS : showB ⟨10, wide, long, d, s, disp, imm, cc⟩ = showT (.two 0) ⟨10, wide, long, d, s, disp, imm, cc⟩ := if_pos hE
  exact shW_ok hE fun b => sbk_r2 { q := fun _ e => shq e, p := fun _ e => shp e, hd := hr.2, hs := hr.1, l0 := Nat.le_of_ble_eq_true rfl, l1 := Nat.le_of_ble_eq_true rfl, e0 := by intros; subst_vars; rw [hS]; (try simp only [cl_of hr.2, cl_of hr.1, ByteArray.append_assoc]); rfl, e1 := by intros; subst_vars; rw [hS]; (try simp only [cl_of hr.2, cl_of hr.1, ByteArray.append_assoc]); rfl }
theorem rshow_11_ok (wide long : Bool) (d s disp imm cc : Int) (hE : amdErr ⟨11, wide, long, d, s, disp, imm, cc⟩ = 0) (hp : in64 disp) (hi : in64 imm) : (sxFunc P RS (fun _ => .plain 40) Tryd.f11 [xArg (.lit 11) wide (.var long) d s disp imm cc] hpT (fun v _ => shQ (showB ⟨11, wide, long, d, s, disp, imm, cc⟩) v)) = True := by
  apply eq_true
  rw [rshow_11]
  have hr := er2 (show (if badReg s = true ∨ badReg d = true then 182 else _) = (0 : Int) from hE)
  have hS : showB ⟨11, wide, long, d, s, disp, imm, cc⟩ = showT (.two 0) ⟨11, wide, long, d, s, disp, imm, cc⟩ := if_pos hE
  exact shW_ok hE fun b => sbk_r2 { q := fun _ e => shq e, p := fun _ e => shp e, hd := hr.2, hs := hr.1, l0 := Nat.le_of_ble_eq_true rfl, l1 := Nat.le_of_ble_eq_true rfl, e0 := by intros; subst_vars; rw [hS]; (try simp only [cl_of hr.2, cl_of hr.1, ByteArray.append_assoc]); rfl, e1 := by intros; subst_vars; rw [hS]; (try simp only [cl_of hr.2, cl_of hr.1, ByteArray.append_assoc]); rfl }
theorem rshow_12_ok (wide long : Bool) (d s disp imm cc : Int) (hE : amdErr ⟨12, wide, long, d, s, disp, imm, cc⟩ = 0) (hp : in64 disp) (hi : in64 imm) : (sxFunc P RS (fun _ => .plain 40) Tryd.f11 [xArg (.lit 12) wide (.var long) d s disp imm cc] hpT (fun v _ => shQ (showB ⟨12, wide, long, d, s, disp, imm, cc⟩) v)) = True := by
  apply eq_true
  rw [rshow_12]
  have hr := er2 (show (if badReg s = true ∨ badReg d = true then 182 else _) = (0 : Int) from hE)
  have hS : showB ⟨12, wide, long, d, s, disp, imm, cc⟩ = showT (.two 0) ⟨12, wide, long, d, s, disp, imm, cc⟩ := if_pos hE
  exact shW_ok hE fun b => sbk_r2 { q := fun _ e => shq e, p := fun _ e => shp e, hd := hr.2, hs := hr.1, l0 := Nat.le_of_ble_eq_true rfl, l1 := Nat.le_of_ble_eq_true rfl, e0 := by intros; subst_vars; rw [hS]; (try simp only [cl_of hr.2, cl_of hr.1, ByteArray.append_assoc]); rfl, e1 := by intros; subst_vars; rw [hS]; (try simp only [cl_of hr.2, cl_of hr.1, ByteArray.append_assoc]); rfl }
theorem rshow_13_ok (wide long : Bool) (d s disp imm cc : Int) (hE : amdErr ⟨13, wide, long, d, s, disp, imm, cc⟩ = 0) (hp : in64 disp) (hi : in64 imm) : (sxFunc P RS (fun _ => .plain 40) Tryd.f11 [xArg (.lit 13) wide (.var long) d s disp imm cc] hpT (fun v _ => shQ (showB ⟨13, wide, long, d, s, disp, imm, cc⟩) v)) = True := by
  apply eq_true
  rw [rshow_13]
  have hr := er2 (show (if badReg s = true ∨ badReg d = true then 182 else _) = (0 : Int) from hE)
  have hS : showB ⟨13, wide, long, d, s, disp, imm, cc⟩ = showT .imul ⟨13, wide, long, d, s, disp, imm, cc⟩ := if_pos hE
  exact shW_ok hE fun b => sbk_r2 { q := fun _ e => shq e, p := fun _ e => shp e, hd := hr.2, hs := hr.1, l0 := Nat.le_of_ble_eq_true rfl, l1 := Nat.le_of_ble_eq_true rfl, e0 := by intros; subst_vars; rw [hS]; (try simp only [cl_of hr.2, cl_of hr.1, ByteArray.append_assoc]); rfl, e1 := by intros; subst_vars; rw [hS]; (try simp only [cl_of hr.2, cl_of hr.1, ByteArray.append_assoc]); rfl }
theorem rshow_14_ok (wide long : Bool) (d s disp imm cc : Int) (hE : amdErr ⟨14, wide, long, d, s, disp, imm, cc⟩ = 0) (hp : in64 disp) (hi : in64 imm) : (sxFunc P RS (fun _ => .plain 40) Tryd.f11 [xArg (.lit 14) wide (.var long) d s disp imm cc] hpT (fun v _ => shQ (showB ⟨14, wide, long, d, s, disp, imm, cc⟩) v)) = True := by
  apply eq_true
  rw [rshow_14]
  have hr := er1 (show (if badReg d = true then 182 else _) = (0 : Int) from hE)
  have hS : showB ⟨14, wide, long, d, s, disp, imm, cc⟩ = showT (.imm 0) ⟨14, wide, long, d, s, disp, imm, cc⟩ := if_pos hE
  exact shW_ok hE fun b => sbk_r14 { q := fun _ e => shq e, p := fun _ e => shp e, hd := hr, l0 := Nat.le_of_ble_eq_true rfl, l1 := Nat.le_of_ble_eq_true rfl, l2 := Nat.le_of_ble_eq_true rfl, n_imm := hi, e0 := by intros; subst_vars; rw [hS]; (try simp only [cl_of hr, ByteArray.append_assoc]); rfl, e1 := by intros; subst_vars; rw [hS]; (try simp only [cl_of hr, ByteArray.append_assoc]); rfl, e2 := by intros; subst_vars; rw [hS]; (try simp only [cl_of hr, ByteArray.append_assoc]); rfl, e3 := by intros; subst_vars; rw [hS]; (try simp only [cl_of hr, ByteArray.append_assoc]); rfl }
theorem rshow_15_ok (wide long : Bool) (d s disp imm cc : Int) (hE : amdErr ⟨15, wide, long, d, s, disp, imm, cc⟩ = 0) (hp : in64 disp) (hi : in64 imm) : (sxFunc P RS (fun _ => .plain 40) Tryd.f11 [xArg (.lit 15) wide (.var long) d s disp imm cc] hpT (fun v _ => shQ (showB ⟨15, wide, long, d, s, disp, imm, cc⟩) v)) = True := by
  apply eq_true
  rw [rshow_15]
  have hr := er1 (show (if badReg d = true then 182 else _) = (0 : Int) from hE)
  have hS : showB ⟨15, wide, long, d, s, disp, imm, cc⟩ = showT (.imm 0) ⟨15, wide, long, d, s, disp, imm, cc⟩ := if_pos hE
  exact shW_ok hE fun b => sbk_r14 { q := fun _ e => shq e, p := fun _ e => shp e, hd := hr, l0 := Nat.le_of_ble_eq_true rfl, l1 := Nat.le_of_ble_eq_true rfl, l2 := Nat.le_of_ble_eq_true rfl, n_imm := hi, e0 := by intros; subst_vars; rw [hS]; (try simp only [cl_of hr, ByteArray.append_assoc]); rfl, e1 := by intros; subst_vars; rw [hS]; (try simp only [cl_of hr, ByteArray.append_assoc]); rfl, e2 := by intros; subst_vars; rw [hS]; (try simp only [cl_of hr, ByteArray.append_assoc]); rfl, e3 := by intros; subst_vars; rw [hS]; (try simp only [cl_of hr, ByteArray.append_assoc]); rfl }
theorem rshow_16_ok (wide long : Bool) (d s disp imm cc : Int) (hE : amdErr ⟨16, wide, long, d, s, disp, imm, cc⟩ = 0) (hp : in64 disp) (hi : in64 imm) : (sxFunc P RS (fun _ => .plain 40) Tryd.f11 [xArg (.lit 16) wide (.var long) d s disp imm cc] hpT (fun v _ => shQ (showB ⟨16, wide, long, d, s, disp, imm, cc⟩) v)) = True := by
  apply eq_true
  rw [rshow_16]
  have hr := er1 (show (if badReg d = true then 182 else _) = (0 : Int) from hE)
  have hS : showB ⟨16, wide, long, d, s, disp, imm, cc⟩ = showT (.imm 0) ⟨16, wide, long, d, s, disp, imm, cc⟩ := if_pos hE
  exact shW_ok hE fun b => sbk_r14 { q := fun _ e => shq e, p := fun _ e => shp e, hd := hr, l0 := Nat.le_of_ble_eq_true rfl, l1 := Nat.le_of_ble_eq_true rfl, l2 := Nat.le_of_ble_eq_true rfl, n_imm := hi, e0 := by intros; subst_vars; rw [hS]; (try simp only [cl_of hr, ByteArray.append_assoc]); rfl, e1 := by intros; subst_vars; rw [hS]; (try simp only [cl_of hr, ByteArray.append_assoc]); rfl, e2 := by intros; subst_vars; rw [hS]; (try simp only [cl_of hr, ByteArray.append_assoc]); rfl, e3 := by intros; subst_vars; rw [hS]; (try simp only [cl_of hr, ByteArray.append_assoc]); rfl }
theorem rshow_17_ok (wide long : Bool) (d s disp imm cc : Int) (hE : amdErr ⟨17, wide, long, d, s, disp, imm, cc⟩ = 0) (hp : in64 disp) (hi : in64 imm) : (sxFunc P RS (fun _ => .plain 40) Tryd.f11 [xArg (.lit 17) wide (.var long) d s disp imm cc] hpT (fun v _ => shQ (showB ⟨17, wide, long, d, s, disp, imm, cc⟩) v)) = True := by
  apply eq_true
  rw [rshow_17]
  have hr := er1 (show (if badReg d = true then 182 else _) = (0 : Int) from hE)
  have hS : showB ⟨17, wide, long, d, s, disp, imm, cc⟩ = showT (.imm 0) ⟨17, wide, long, d, s, disp, imm, cc⟩ := if_pos hE
  exact shW_ok hE fun b => sbk_r14 { q := fun _ e => shq e, p := fun _ e => shp e, hd := hr, l0 := Nat.le_of_ble_eq_true rfl, l1 := Nat.le_of_ble_eq_true rfl, l2 := Nat.le_of_ble_eq_true rfl, n_imm := hi, e0 := by intros; subst_vars; rw [hS]; (try simp only [cl_of hr, ByteArray.append_assoc]); rfl, e1 := by intros; subst_vars; rw [hS]; (try simp only [cl_of hr, ByteArray.append_assoc]); rfl, e2 := by intros; subst_vars; rw [hS]; (try simp only [cl_of hr, ByteArray.append_assoc]); rfl, e3 := by intros; subst_vars; rw [hS]; (try simp only [cl_of hr, ByteArray.append_assoc]); rfl }
theorem rshow_18_ok (wide long : Bool) (d s disp imm cc : Int) (hE : amdErr ⟨18, wide, long, d, s, disp, imm, cc⟩ = 0) (hp : in64 disp) (hi : in64 imm) : (sxFunc P RS (fun _ => .plain 40) Tryd.f11 [xArg (.lit 18) wide (.var long) d s disp imm cc] hpT (fun v _ => shQ (showB ⟨18, wide, long, d, s, disp, imm, cc⟩) v)) = True := by
  apply eq_true
  rw [rshow_18]
  have hr := er1 (show (if badReg d = true then 182 else _) = (0 : Int) from hE)
  have hS : showB ⟨18, wide, long, d, s, disp, imm, cc⟩ = showT (.one 0 0) ⟨18, wide, long, d, s, disp, imm, cc⟩ := if_pos hE
  exact shW_ok hE fun b => sbk_r18 { q := fun _ e => shq e, p := fun _ e => shp e, hd := hr, l0 := Nat.le_of_ble_eq_true rfl, e0 := by intros; subst_vars; rw [hS]; (try simp only [cl_of hr, ByteArray.append_assoc]); rfl, e1 := by intros; subst_vars; rw [hS]; (try simp only [cl_of hr, ByteArray.append_assoc]); rfl }
theorem rshow_19_ok (wide long : Bool) (d s disp imm cc : Int) (hE : amdErr ⟨19, wide, long, d, s, disp, imm, cc⟩ = 0) (hp : in64 disp) (hi : in64 imm) : (sxFunc P RS (fun _ => .plain 40) Tryd.f11 [xArg (.lit 19) wide (.var long) d s disp imm cc] hpT (fun v _ => shQ (showB ⟨19, wide, long, d, s, disp, imm, cc⟩) v)) = True := by
  apply eq_true
  rw [rshow_19]
  have hr := er1 (show (if badReg d = true then 182 else _) = (0 : Int) from hE)
  have hS : showB ⟨19, wide, long, d, s, disp, imm, cc⟩ = showT (.one 0 0) ⟨19, wide, long, d, s, disp, imm, cc⟩ := if_pos hE
  exact shW_ok hE fun b => sbk_r18 { q := fun _ e => shq e, p := fun _ e => shp e, hd := hr, l0 := Nat.le_of_ble_eq_true rfl, e0 := by intros; subst_vars; rw [hS]; (try simp only [cl_of hr, ByteArray.append_assoc]); rfl, e1 := by intros; subst_vars; rw [hS]; (try simp only [cl_of hr, ByteArray.append_assoc]); rfl }
theorem rshow_20_ok (wide long : Bool) (d s disp imm cc : Int) (hE : amdErr ⟨20, wide, long, d, s, disp, imm, cc⟩ = 0) (hp : in64 disp) (hi : in64 imm) : (sxFunc P RS (fun _ => .plain 40) Tryd.f11 [xArg (.lit 20) wide (.var long) d s disp imm cc] hpT (fun v _ => shQ (showB ⟨20, wide, long, d, s, disp, imm, cc⟩) v)) = True := by
  apply eq_true
  rw [rshow_20]
  have hr := er1 (show (if badReg d = true then 182 else _) = (0 : Int) from hE)
  have hS : showB ⟨20, wide, long, d, s, disp, imm, cc⟩ = showT (.one 0 0) ⟨20, wide, long, d, s, disp, imm, cc⟩ := if_pos hE
  exact shW_ok hE fun b => sbk_r18 { q := fun _ e => shq e, p := fun _ e => shp e, hd := hr, l0 := Nat.le_of_ble_eq_true rfl, e0 := by intros; subst_vars; rw [hS]; (try simp only [cl_of hr, ByteArray.append_assoc]); rfl, e1 := by intros; subst_vars; rw [hS]; (try simp only [cl_of hr, ByteArray.append_assoc]); rfl }
theorem rshow_21_ok (wide long : Bool) (d s disp imm cc : Int) (hE : amdErr ⟨21, wide, long, d, s, disp, imm, cc⟩ = 0) (hp : in64 disp) (hi : in64 imm) : (sxFunc P RS (fun _ => .plain 40) Tryd.f11 [xArg (.lit 21) wide (.var long) d s disp imm cc] hpT (fun v _ => shQ (showB ⟨21, wide, long, d, s, disp, imm, cc⟩) v)) = True := by
  apply eq_true
  rw [rshow_21]
  have hr := er1 (show (if badReg d = true then 182 else _) = (0 : Int) from hE)
  have hS : showB ⟨21, wide, long, d, s, disp, imm, cc⟩ = showT (.one 211 0) ⟨21, wide, long, d, s, disp, imm, cc⟩ := if_pos hE
  exact shW_ok hE fun b => sbk_r21 { q := fun _ e => shq e, p := fun _ e => shp e, hd := hr, l0 := Nat.le_of_ble_eq_true rfl, l1 := Nat.le_of_ble_eq_true rfl, e0 := by intros; subst_vars; rw [hS]; (try simp only [cl_of hr, ByteArray.append_assoc]); rfl, e1 := by intros; subst_vars; rw [hS]; (try simp only [cl_of hr, ByteArray.append_assoc]); rfl }
theorem rshow_22_ok (wide long : Bool) (d s disp imm cc : Int) (hE : amdErr ⟨22, wide, long, d, s, disp, imm, cc⟩ = 0) (hp : in64 disp) (hi : in64 imm) : (sxFunc P RS (fun _ => .plain 40) Tryd.f11 [xArg (.lit 22) wide (.var long) d s disp imm cc] hpT (fun v _ => shQ (showB ⟨22, wide, long, d, s, disp, imm, cc⟩) v)) = True := by
  apply eq_true
  rw [rshow_22]
  have hr := er1 (show (if badReg d = true then 182 else _) = (0 : Int) from hE)
  have hS : showB ⟨22, wide, long, d, s, disp, imm, cc⟩ = showT (.one 211 0) ⟨22, wide, long, d, s, disp, imm, cc⟩ := if_pos hE
  exact shW_ok hE fun b => sbk_r21 { q := fun _ e => shq e, p := fun _ e => shp e, hd := hr, l0 := Nat.le_of_ble_eq_true rfl, l1 := Nat.le_of_ble_eq_true rfl, e0 := by intros; subst_vars; rw [hS]; (try simp only [cl_of hr, ByteArray.append_assoc]); rfl, e1 := by intros; subst_vars; rw [hS]; (try simp only [cl_of hr, ByteArray.append_assoc]); rfl }
theorem rshow_23_ok (wide long : Bool) (d s disp imm cc : Int) (hE : amdErr ⟨23, wide, long, d, s, disp, imm, cc⟩ = 0) (hp : in64 disp) (hi : in64 imm) : (sxFunc P RS (fun _ => .plain 40) Tryd.f11 [xArg (.lit 23) wide (.var long) d s disp imm cc] hpT (fun v _ => shQ (showB ⟨23, wide, long, d, s, disp, imm, cc⟩) v)) = True := by
  apply eq_true
  rw [rshow_23]
  have hr := er1 (show (if badReg d = true then 182 else _) = (0 : Int) from hE)
  have hS : showB ⟨23, wide, long, d, s, disp, imm, cc⟩ = showT (.stack 0) ⟨23, wide, long, d, s, disp, imm, cc⟩ := if_pos hE
  exact shW_ok hE fun b => sbk_r23 { q := fun _ e => shq e, p := fun _ e => shp e, hd := hr, l0 := Nat.le_of_ble_eq_true rfl, e0 := by intros; subst_vars; rw [hS]; (try simp only [cl_of hr, ByteArray.append_assoc]); rfl, e1 := by intros; subst_vars; rw [hS]; (try simp only [cl_of hr, ByteArray.append_assoc]); rfl }
theorem rshow_24_ok (wide long : Bool) (d s disp imm cc : Int) (hE : amdErr ⟨24, wide, long, d, s, disp, imm, cc⟩ = 0) (hp : in64 disp) (hi : in64 imm) : (sxFunc P RS (fun _ => .plain 40) Tryd.f11 [xArg (.lit 24) wide (.var long) d s disp imm cc] hpT (fun v _ => shQ (showB ⟨24, wide, long, d, s, disp, imm, cc⟩) v)) = True := by
  apply eq_true
  rw [rshow_24]
  have hr := er1 (show (if badReg d = true then 182 else _) = (0 : Int) from hE)
  have hS : showB ⟨24, wide, long, d, s, disp, imm, cc⟩ = showT (.stack 0) ⟨24, wide, long, d, s, disp, imm, cc⟩ := if_pos hE
  exact shW_ok hE fun b => sbk_r23 { q := fun _ e => shq e, p := fun _ e => shp e, hd := hr, l0 := Nat.le_of_ble_eq_true rfl, e0 := by intros; subst_vars; rw [hS]; (try simp only [cl_of hr, ByteArray.append_assoc]); rfl, e1 := by intros; subst_vars; rw [hS]; (try simp only [cl_of hr, ByteArray.append_assoc]); rfl }
theorem rshow_25_ok (wide long : Bool) (d s disp imm cc : Int) (hE : amdErr ⟨25, wide, long, d, s, disp, imm, cc⟩ = 0) (hp : in64 disp) (hi : in64 imm) : (sxFunc P RS (fun _ => .plain 40) Tryd.f11 [xArg (.lit 25) wide (.var long) d s disp imm cc] hpT (fun v _ => shQ (showB ⟨25, wide, long, d, s, disp, imm, cc⟩) v)) = True := by
  apply eq_true
  rw [rshow_25]
  have hS : showB ⟨25, wide, long, d, s, disp, imm, cc⟩ = showT .jmp ⟨25, wide, long, d, s, disp, imm, cc⟩ := if_pos hE
  exact shW_ok hE fun b => sbk_r25 { q := fun _ e => shq e, p := fun _ e => shp e, l0 := Nat.le_of_ble_eq_true rfl, l1 := Nat.le_of_ble_eq_true rfl, n_imm := hi, e0 := by intros; subst_vars; rw [hS]; (try simp only [ByteArray.append_assoc]); rfl, e1 := by intros; subst_vars; rw [hS]; (try simp only [ByteArray.append_assoc]); rfl }
theorem rshow_26_ok (wide long : Bool) (d s disp imm cc : Int) (hE : amdErr ⟨26, wide, long, d, s, disp, imm, cc⟩ = 0) (hp : in64 disp) (hi : in64 imm) : (sxFunc P RS (fun _ => .plain 40) Tryd.f11 [xArg (.lit 26) wide (.var long) d s disp imm cc] hpT (fun v _ => shQ (showB ⟨26, wide, long, d, s, disp, imm, cc⟩) v)) = True := by
  apply eq_true
  rw [rshow_26]
  have hS : showB ⟨26, wide, long, d, s, disp, imm, cc⟩ = showT .jcc ⟨26, wide, long, d, s, disp, imm, cc⟩ := if_pos hE
  exact shW_ok hE fun b => sbk_r26 { q := fun _ e => shq e, p := fun _ e => shp e, l0 := Nat.le_of_ble_eq_true rfl, l1 := Nat.le_of_ble_eq_true rfl, l10 := Nat.le_of_ble_eq_true rfl, l11 := Nat.le_of_ble_eq_true rfl, l2 := Nat.le_of_ble_eq_true rfl, l3 := Nat.le_of_ble_eq_true rfl, l4 := Nat.le_of_ble_eq_true rfl, l5 := Nat.le_of_ble_eq_true rfl, l6 := Nat.le_of_ble_eq_true rfl, l7 := Nat.le_of_ble_eq_true rfl, l8 := Nat.le_of_ble_eq_true rfl, l9 := Nat.le_of_ble_eq_true rfl, n_imm := hi, e0 := by intro a0 l; have hc : cc = 2 := ceq a0; clear a0; subst hc; subst l; rw [hS]; rfl, e1 := by intro a0 l; have hc : cc = 2 := ceq a0; clear a0; subst hc; subst l; rw [hS]; rfl, e2 := by intro a0 a1 l; have hc : cc = 3 := ceq a1; clear a0 a1; subst hc; subst l; rw [hS]; rfl, e3 := by intro a0 a1 l; have hc : cc = 3 := ceq a1; clear a0 a1; subst hc; subst l; rw [hS]; rfl, e4 := by intro a0 a1 a2 l; have hc : cc = 4 := ceq a2; clear a0 a1 a2; subst hc; subst l; rw [hS]; rfl, e5 := by intro a0 a1 a2 l; have hc : cc = 4 := ceq a2; clear a0 a1 a2; subst hc; subst l; rw [hS]; rfl, e6 := by intro a0 a1 a2 a3 l; have hc : cc = 5 := ceq a3; clear a0 a1 a2 a3; subst hc; subst l; rw [hS]; rfl, e7 := by intro a0 a1 a2 a3 l; have hc : cc = 5 := ceq a3; clear a0 a1 a2 a3; subst hc; subst l; rw [hS]; rfl, e8 := by intro a0 a1 a2 a3 a4 l; have hc : cc = 6 := ceq a4; clear a0 a1 a2 a3 a4; subst hc; subst l; rw [hS]; rfl, e9 := by intro a0 a1 a2 a3 a4 l; have hc : cc = 6 := ceq a4; clear a0 a1 a2 a3 a4; subst hc; subst l; rw [hS]; rfl, e10 := by intro a0 a1 a2 a3 a4 l; have hc : cc = 7 := (by have := cc_ok hE; have := cne a0; have := cne a1; have := cne a2; have := cne a3; have := cne a4; omega); clear a0 a1 a2 a3 a4; subst hc; subst l; rw [hS]; rfl, e11 := by intro a0 a1 a2 a3 a4 l; have hc : cc = 7 := (by have := cc_ok hE; have := cne a0; have := cne a1; have := cne a2; have := cne a3; have := cne a4; omega); clear a0 a1 a2 a3 a4; subst hc; subst l; rw [hS]; rfl }
theorem rshow_27_ok (wide long : Bool) (d s disp imm cc : Int) (hE : amdErr ⟨27, wide, long, d, s, disp, imm, cc⟩ = 0) (hp : in64 disp) (hi : in64 imm) : (sxFunc P RS (fun _ => .plain 40) Tryd.f11 [xArg (.lit 27) wide (.var long) d s disp imm cc] hpT (fun v _ => shQ (showB ⟨27, wide, long, d, s, disp, imm, cc⟩) v)) = True := by
  apply eq_true
  rw [rshow_27]
  have hS : showB ⟨27, wide, long, d, s, disp, imm, cc⟩ = showT .ret ⟨27, wide, long, d, s, disp, imm, cc⟩ := if_pos hE
  exact shW_ok hE fun b => sbk_r27 { q := fun _ e => shq e, p := fun _ e => shp e, e0 := by intros; subst_vars; rw [hS]; (try simp only [ByteArray.append_assoc]); rfl }
end Go.Proofs.YtajcmjjgnbaahaaDoor.Amd
