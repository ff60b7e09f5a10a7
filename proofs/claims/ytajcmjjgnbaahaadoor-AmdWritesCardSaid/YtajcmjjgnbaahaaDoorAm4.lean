/- Encode: each operation's run comes to what is said. -/
import Derived.Test.YtajcmjjgnbaahaaDoorAm3
namespace Go.Proofs.YtajcmjjgnbaahaaDoor.Amd
open Go Go.Proofs.YtajcmjjgnbaahaaDoor.Sx Go.RowKit
set_option linter.unusedVariables false
set_option linter.unusedSimpArgs false
theorem regE2n {n : Int} (h : badReg n = false) (b : Int) : regE (regE 0 n) b = if badReg b = true then 182 else 0 := by
  rw [regE2]; simp [h]
theorem ofN0 : Int.ofNat 0 = 0 := rfl
theorem encB_2 (wide long : Bool) (d s disp imm cc : Int) : nf_2 wide long d s disp imm cc (EncO ⟨2, wide, long, d, s, disp, imm, cc⟩) (amdErr ⟨2, wide, long, d, s, disp, imm, cc⟩ ≠ 0) (amdBytes ⟨2, wide, long, d, s, disp, imm, cc⟩).length (amdErr ⟨2, wide, long, d, s, disp, imm, cc⟩) := by
  have hE : amdErr ⟨2, wide, long, d, s, disp, imm, cc⟩ = if badReg s = true ∨ badReg d = true then 182 else 0 := rfl
  have hB : amdBytes ⟨2, wide, long, d, s, disp, imm, cc⟩ = withP (pfx wide s d) [137, pairB 3 s d] := rfl
  generalize (⟨2, wide, long, d, s, disp, imm, cc⟩ : AI) = x at *
  unfold nf_2
  simp only [d_ne, d_num, d_lss, d_gtr, d_eql, Bool.not_eq_true', Bool.not_eq_false', decide_eq_true_eq, decide_eq_false_iff_not, true_and, eq_self]
  have e : regE (regE 0 s) d = amdErr x := by rw [regE2, hE]
  refine ⟨fun h => er_of e h, fun h => ?_⟩
  obtain ⟨b1, b2⟩ := bad2 h
  exact ⟨fun h2 => ok_pfx (by rw [<- e]; exact h) hB (pfx_in _ _ _) (pfx_run2 b1 b2) h2 (by simp only [List.map_cons, List.map_nil, cell_d, lit_d, pair_d b1 b2]) rfl, fun h2 => ok_bare (by rw [<- e]; exact h) hB (pfx_run2 b1 b2) h2 (by simp only [List.map_cons, List.map_nil, cell_d, lit_d, pair_d b1 b2]) rfl⟩
theorem encB_5 (wide long : Bool) (d s disp imm cc : Int) : nf_5 wide long d s disp imm cc (EncO ⟨5, wide, long, d, s, disp, imm, cc⟩) (amdErr ⟨5, wide, long, d, s, disp, imm, cc⟩ ≠ 0) (amdBytes ⟨5, wide, long, d, s, disp, imm, cc⟩).length (amdErr ⟨5, wide, long, d, s, disp, imm, cc⟩) := by
  have hE : amdErr ⟨5, wide, long, d, s, disp, imm, cc⟩ = if badReg s = true ∨ badReg d = true then 182 else 0 := rfl
  have hB : amdBytes ⟨5, wide, long, d, s, disp, imm, cc⟩ = withP (pfx wide s d) [1, pairB 3 s d] := rfl
  generalize (⟨5, wide, long, d, s, disp, imm, cc⟩ : AI) = x at *
  unfold nf_5
  simp only [d_ne, d_num, d_lss, d_gtr, d_eql, Bool.not_eq_true', Bool.not_eq_false', decide_eq_true_eq, decide_eq_false_iff_not, true_and, eq_self]
  have e : regE (regE 0 s) d = amdErr x := by rw [regE2, hE]
  refine ⟨fun h => er_of e h, fun h => ?_⟩
  obtain ⟨b1, b2⟩ := bad2 h
  exact ⟨fun h2 => ok_pfx (by rw [<- e]; exact h) hB (pfx_in _ _ _) (pfx_run2 b1 b2) h2 (by simp only [List.map_cons, List.map_nil, cell_d, lit_d, pair_d b1 b2]) rfl, fun h2 => ok_bare (by rw [<- e]; exact h) hB (pfx_run2 b1 b2) h2 (by simp only [List.map_cons, List.map_nil, cell_d, lit_d, pair_d b1 b2]) rfl⟩
theorem encB_6 (wide long : Bool) (d s disp imm cc : Int) : nf_6 wide long d s disp imm cc (EncO ⟨6, wide, long, d, s, disp, imm, cc⟩) (amdErr ⟨6, wide, long, d, s, disp, imm, cc⟩ ≠ 0) (amdBytes ⟨6, wide, long, d, s, disp, imm, cc⟩).length (amdErr ⟨6, wide, long, d, s, disp, imm, cc⟩) := by
  have hE : amdErr ⟨6, wide, long, d, s, disp, imm, cc⟩ = if badReg s = true ∨ badReg d = true then 182 else 0 := rfl
  have hB : amdBytes ⟨6, wide, long, d, s, disp, imm, cc⟩ = withP (pfx wide s d) [9, pairB 3 s d] := rfl
  generalize (⟨6, wide, long, d, s, disp, imm, cc⟩ : AI) = x at *
  unfold nf_6
  simp only [d_ne, d_num, d_lss, d_gtr, d_eql, Bool.not_eq_true', Bool.not_eq_false', decide_eq_true_eq, decide_eq_false_iff_not, true_and, eq_self]
  have e : regE (regE 0 s) d = amdErr x := by rw [regE2, hE]
  refine ⟨fun h => er_of e h, fun h => ?_⟩
  obtain ⟨b1, b2⟩ := bad2 h
  exact ⟨fun h2 => ok_pfx (by rw [<- e]; exact h) hB (pfx_in _ _ _) (pfx_run2 b1 b2) h2 (by simp only [List.map_cons, List.map_nil, cell_d, lit_d, pair_d b1 b2]) rfl, fun h2 => ok_bare (by rw [<- e]; exact h) hB (pfx_run2 b1 b2) h2 (by simp only [List.map_cons, List.map_nil, cell_d, lit_d, pair_d b1 b2]) rfl⟩
theorem encB_7 (wide long : Bool) (d s disp imm cc : Int) : nf_7 wide long d s disp imm cc (EncO ⟨7, wide, long, d, s, disp, imm, cc⟩) (amdErr ⟨7, wide, long, d, s, disp, imm, cc⟩ ≠ 0) (amdBytes ⟨7, wide, long, d, s, disp, imm, cc⟩).length (amdErr ⟨7, wide, long, d, s, disp, imm, cc⟩) := by
  have hE : amdErr ⟨7, wide, long, d, s, disp, imm, cc⟩ = if badReg s = true ∨ badReg d = true then 182 else 0 := rfl
  have hB : amdBytes ⟨7, wide, long, d, s, disp, imm, cc⟩ = withP (pfx wide s d) [33, pairB 3 s d] := rfl
  generalize (⟨7, wide, long, d, s, disp, imm, cc⟩ : AI) = x at *
  unfold nf_7
  simp only [d_ne, d_num, d_lss, d_gtr, d_eql, Bool.not_eq_true', Bool.not_eq_false', decide_eq_true_eq, decide_eq_false_iff_not, true_and, eq_self]
  have e : regE (regE 0 s) d = amdErr x := by rw [regE2, hE]
  refine ⟨fun h => er_of e h, fun h => ?_⟩
  obtain ⟨b1, b2⟩ := bad2 h
  exact ⟨fun h2 => ok_pfx (by rw [<- e]; exact h) hB (pfx_in _ _ _) (pfx_run2 b1 b2) h2 (by simp only [List.map_cons, List.map_nil, cell_d, lit_d, pair_d b1 b2]) rfl, fun h2 => ok_bare (by rw [<- e]; exact h) hB (pfx_run2 b1 b2) h2 (by simp only [List.map_cons, List.map_nil, cell_d, lit_d, pair_d b1 b2]) rfl⟩
theorem encB_8 (wide long : Bool) (d s disp imm cc : Int) : nf_8 wide long d s disp imm cc (EncO ⟨8, wide, long, d, s, disp, imm, cc⟩) (amdErr ⟨8, wide, long, d, s, disp, imm, cc⟩ ≠ 0) (amdBytes ⟨8, wide, long, d, s, disp, imm, cc⟩).length (amdErr ⟨8, wide, long, d, s, disp, imm, cc⟩) := by
  have hE : amdErr ⟨8, wide, long, d, s, disp, imm, cc⟩ = if badReg s = true ∨ badReg d = true then 182 else 0 := rfl
  have hB : amdBytes ⟨8, wide, long, d, s, disp, imm, cc⟩ = withP (pfx wide s d) [41, pairB 3 s d] := rfl
  generalize (⟨8, wide, long, d, s, disp, imm, cc⟩ : AI) = x at *
  unfold nf_8
  simp only [d_ne, d_num, d_lss, d_gtr, d_eql, Bool.not_eq_true', Bool.not_eq_false', decide_eq_true_eq, decide_eq_false_iff_not, true_and, eq_self]
  have e : regE (regE 0 s) d = amdErr x := by rw [regE2, hE]
  refine ⟨fun h => er_of e h, fun h => ?_⟩
  obtain ⟨b1, b2⟩ := bad2 h
  exact ⟨fun h2 => ok_pfx (by rw [<- e]; exact h) hB (pfx_in _ _ _) (pfx_run2 b1 b2) h2 (by simp only [List.map_cons, List.map_nil, cell_d, lit_d, pair_d b1 b2]) rfl, fun h2 => ok_bare (by rw [<- e]; exact h) hB (pfx_run2 b1 b2) h2 (by simp only [List.map_cons, List.map_nil, cell_d, lit_d, pair_d b1 b2]) rfl⟩
theorem encB_9 (wide long : Bool) (d s disp imm cc : Int) : nf_9 wide long d s disp imm cc (EncO ⟨9, wide, long, d, s, disp, imm, cc⟩) (amdErr ⟨9, wide, long, d, s, disp, imm, cc⟩ ≠ 0) (amdBytes ⟨9, wide, long, d, s, disp, imm, cc⟩).length (amdErr ⟨9, wide, long, d, s, disp, imm, cc⟩) := by
  have hE : amdErr ⟨9, wide, long, d, s, disp, imm, cc⟩ = if badReg s = true ∨ badReg d = true then 182 else 0 := rfl
  have hB : amdBytes ⟨9, wide, long, d, s, disp, imm, cc⟩ = withP (pfx wide s d) [49, pairB 3 s d] := rfl
  generalize (⟨9, wide, long, d, s, disp, imm, cc⟩ : AI) = x at *
  unfold nf_9
  simp only [d_ne, d_num, d_lss, d_gtr, d_eql, Bool.not_eq_true', Bool.not_eq_false', decide_eq_true_eq, decide_eq_false_iff_not, true_and, eq_self]
  have e : regE (regE 0 s) d = amdErr x := by rw [regE2, hE]
  refine ⟨fun h => er_of e h, fun h => ?_⟩
  obtain ⟨b1, b2⟩ := bad2 h
  exact ⟨fun h2 => ok_pfx (by rw [<- e]; exact h) hB (pfx_in _ _ _) (pfx_run2 b1 b2) h2 (by simp only [List.map_cons, List.map_nil, cell_d, lit_d, pair_d b1 b2]) rfl, fun h2 => ok_bare (by rw [<- e]; exact h) hB (pfx_run2 b1 b2) h2 (by simp only [List.map_cons, List.map_nil, cell_d, lit_d, pair_d b1 b2]) rfl⟩
theorem encB_10 (wide long : Bool) (d s disp imm cc : Int) : nf_10 wide long d s disp imm cc (EncO ⟨10, wide, long, d, s, disp, imm, cc⟩) (amdErr ⟨10, wide, long, d, s, disp, imm, cc⟩ ≠ 0) (amdBytes ⟨10, wide, long, d, s, disp, imm, cc⟩).length (amdErr ⟨10, wide, long, d, s, disp, imm, cc⟩) := by
  have hE : amdErr ⟨10, wide, long, d, s, disp, imm, cc⟩ = if badReg s = true ∨ badReg d = true then 182 else 0 := rfl
  have hB : amdBytes ⟨10, wide, long, d, s, disp, imm, cc⟩ = withP (pfx wide s d) [57, pairB 3 s d] := rfl
  generalize (⟨10, wide, long, d, s, disp, imm, cc⟩ : AI) = x at *
  unfold nf_10
  simp only [d_ne, d_num, d_lss, d_gtr, d_eql, Bool.not_eq_true', Bool.not_eq_false', decide_eq_true_eq, decide_eq_false_iff_not, true_and, eq_self]
  have e : regE (regE 0 s) d = amdErr x := by rw [regE2, hE]
  refine ⟨fun h => er_of e h, fun h => ?_⟩
  obtain ⟨b1, b2⟩ := bad2 h
  exact ⟨fun h2 => ok_pfx (by rw [<- e]; exact h) hB (pfx_in _ _ _) (pfx_run2 b1 b2) h2 (by simp only [List.map_cons, List.map_nil, cell_d, lit_d, pair_d b1 b2]) rfl, fun h2 => ok_bare (by rw [<- e]; exact h) hB (pfx_run2 b1 b2) h2 (by simp only [List.map_cons, List.map_nil, cell_d, lit_d, pair_d b1 b2]) rfl⟩
theorem encB_11 (wide long : Bool) (d s disp imm cc : Int) : nf_11 wide long d s disp imm cc (EncO ⟨11, wide, long, d, s, disp, imm, cc⟩) (amdErr ⟨11, wide, long, d, s, disp, imm, cc⟩ ≠ 0) (amdBytes ⟨11, wide, long, d, s, disp, imm, cc⟩).length (amdErr ⟨11, wide, long, d, s, disp, imm, cc⟩) := by
  have hE : amdErr ⟨11, wide, long, d, s, disp, imm, cc⟩ = if badReg s = true ∨ badReg d = true then 182 else 0 := rfl
  have hB : amdBytes ⟨11, wide, long, d, s, disp, imm, cc⟩ = withP (pfx wide s d) [133, pairB 3 s d] := rfl
  generalize (⟨11, wide, long, d, s, disp, imm, cc⟩ : AI) = x at *
  unfold nf_11
  simp only [d_ne, d_num, d_lss, d_gtr, d_eql, Bool.not_eq_true', Bool.not_eq_false', decide_eq_true_eq, decide_eq_false_iff_not, true_and, eq_self]
  have e : regE (regE 0 s) d = amdErr x := by rw [regE2, hE]
  refine ⟨fun h => er_of e h, fun h => ?_⟩
  obtain ⟨b1, b2⟩ := bad2 h
  exact ⟨fun h2 => ok_pfx (by rw [<- e]; exact h) hB (pfx_in _ _ _) (pfx_run2 b1 b2) h2 (by simp only [List.map_cons, List.map_nil, cell_d, lit_d, pair_d b1 b2]) rfl, fun h2 => ok_bare (by rw [<- e]; exact h) hB (pfx_run2 b1 b2) h2 (by simp only [List.map_cons, List.map_nil, cell_d, lit_d, pair_d b1 b2]) rfl⟩
theorem encB_12 (wide long : Bool) (d s disp imm cc : Int) : nf_12 wide long d s disp imm cc (EncO ⟨12, wide, long, d, s, disp, imm, cc⟩) (amdErr ⟨12, wide, long, d, s, disp, imm, cc⟩ ≠ 0) (amdBytes ⟨12, wide, long, d, s, disp, imm, cc⟩).length (amdErr ⟨12, wide, long, d, s, disp, imm, cc⟩) := by
  have hE : amdErr ⟨12, wide, long, d, s, disp, imm, cc⟩ = if badReg s = true ∨ badReg d = true then 182 else 0 := rfl
  have hB : amdBytes ⟨12, wide, long, d, s, disp, imm, cc⟩ = withP (pfx wide s d) [135, pairB 3 s d] := rfl
  generalize (⟨12, wide, long, d, s, disp, imm, cc⟩ : AI) = x at *
  unfold nf_12
  simp only [d_ne, d_num, d_lss, d_gtr, d_eql, Bool.not_eq_true', Bool.not_eq_false', decide_eq_true_eq, decide_eq_false_iff_not, true_and, eq_self]
  have e : regE (regE 0 s) d = amdErr x := by rw [regE2, hE]
  refine ⟨fun h => er_of e h, fun h => ?_⟩
  obtain ⟨b1, b2⟩ := bad2 h
  exact ⟨fun h2 => ok_pfx (by rw [<- e]; exact h) hB (pfx_in _ _ _) (pfx_run2 b1 b2) h2 (by simp only [List.map_cons, List.map_nil, cell_d, lit_d, pair_d b1 b2]) rfl, fun h2 => ok_bare (by rw [<- e]; exact h) hB (pfx_run2 b1 b2) h2 (by simp only [List.map_cons, List.map_nil, cell_d, lit_d, pair_d b1 b2]) rfl⟩
theorem encB_13 (wide long : Bool) (d s disp imm cc : Int) : nf_13 wide long d s disp imm cc (EncO ⟨13, wide, long, d, s, disp, imm, cc⟩) (amdErr ⟨13, wide, long, d, s, disp, imm, cc⟩ ≠ 0) (amdBytes ⟨13, wide, long, d, s, disp, imm, cc⟩).length (amdErr ⟨13, wide, long, d, s, disp, imm, cc⟩) := by
  have hE : amdErr ⟨13, wide, long, d, s, disp, imm, cc⟩ = if badReg d = true ∨ badReg s = true then 182 else 0 := by
    show (if badReg s = true ∨ badReg d = true then (182 : Int) else 0) = _
    cases badReg s <;> cases badReg d <;> simp
  have hB : amdBytes ⟨13, wide, long, d, s, disp, imm, cc⟩ = withP (pfx wide d s) [15, 175, pairB 3 d s] := rfl
  generalize (⟨13, wide, long, d, s, disp, imm, cc⟩ : AI) = x at *
  unfold nf_13
  simp only [d_ne, d_num, d_lss, d_gtr, d_eql, Bool.not_eq_true', Bool.not_eq_false', decide_eq_true_eq, decide_eq_false_iff_not, true_and, eq_self]
  have e : regE (regE 0 d) s = amdErr x := by rw [regE2, hE]
  refine ⟨fun h => er_of e h, fun h => ?_⟩
  obtain ⟨b1, b2⟩ := bad2 h
  exact ⟨fun h2 => ok_pfx (by rw [<- e]; exact h) hB (pfx_in _ _ _) (pfx_run2 b1 b2) h2 (by simp only [List.map_cons, List.map_nil, cell_d, lit_d, pair_d b1 b2]) rfl, fun h2 => ok_bare (by rw [<- e]; exact h) hB (pfx_run2 b1 b2) h2 (by simp only [List.map_cons, List.map_nil, cell_d, lit_d, pair_d b1 b2]) rfl⟩
theorem encB_18 (wide long : Bool) (d s disp imm cc : Int) : nf_18 wide long d s disp imm cc (EncO ⟨18, wide, long, d, s, disp, imm, cc⟩) (amdErr ⟨18, wide, long, d, s, disp, imm, cc⟩ ≠ 0) (amdBytes ⟨18, wide, long, d, s, disp, imm, cc⟩).length (amdErr ⟨18, wide, long, d, s, disp, imm, cc⟩) := by
  have hE : amdErr ⟨18, wide, long, d, s, disp, imm, cc⟩ = if badReg d = true then 182 else 0 := rfl
  have hB : amdBytes ⟨18, wide, long, d, s, disp, imm, cc⟩ = withP (pfx wide 0 d) [247, pairB 3 3 d] := rfl
  generalize (⟨18, wide, long, d, s, disp, imm, cc⟩ : AI) = x at *
  unfold nf_18
  simp only [d_ne, d_num, d_lss, d_gtr, d_eql, Bool.not_eq_true', Bool.not_eq_false', decide_eq_true_eq, decide_eq_false_iff_not, true_and, eq_self]
  have e : regE (regE 0 3) d = amdErr x := by rw [regE2n rfl, hE]
  refine ⟨fun h => er_of e h, fun h => ?_⟩
  obtain ⟨b1, b2⟩ := bad2 h
  exact ⟨fun h2 => ok_pfx (by rw [<- e]; exact h) hB (pfx_in _ _ _) ((pfx_run2 b1 b2).trans (pfx_low (by decide))) h2 (by simp only [List.map_cons, List.map_nil, cell_d, lit_d, pair_d b1 b2]) rfl, fun h2 => ok_bare (by rw [<- e]; exact h) hB ((pfx_run2 b1 b2).trans (pfx_low (by decide))) h2 (by simp only [List.map_cons, List.map_nil, cell_d, lit_d, pair_d b1 b2]) rfl⟩
theorem encB_19 (wide long : Bool) (d s disp imm cc : Int) : nf_19 wide long d s disp imm cc (EncO ⟨19, wide, long, d, s, disp, imm, cc⟩) (amdErr ⟨19, wide, long, d, s, disp, imm, cc⟩ ≠ 0) (amdBytes ⟨19, wide, long, d, s, disp, imm, cc⟩).length (amdErr ⟨19, wide, long, d, s, disp, imm, cc⟩) := by
  have hE : amdErr ⟨19, wide, long, d, s, disp, imm, cc⟩ = if badReg d = true then 182 else 0 := rfl
  have hB : amdBytes ⟨19, wide, long, d, s, disp, imm, cc⟩ = withP (pfx wide 0 d) [247, pairB 3 2 d] := rfl
  generalize (⟨19, wide, long, d, s, disp, imm, cc⟩ : AI) = x at *
  unfold nf_19
  simp only [d_ne, d_num, d_lss, d_gtr, d_eql, Bool.not_eq_true', Bool.not_eq_false', decide_eq_true_eq, decide_eq_false_iff_not, true_and, eq_self]
  have e : regE (regE 0 2) d = amdErr x := by rw [regE2n rfl, hE]
  refine ⟨fun h => er_of e h, fun h => ?_⟩
  obtain ⟨b1, b2⟩ := bad2 h
  exact ⟨fun h2 => ok_pfx (by rw [<- e]; exact h) hB (pfx_in _ _ _) ((pfx_run2 b1 b2).trans (pfx_low (by decide))) h2 (by simp only [List.map_cons, List.map_nil, cell_d, lit_d, pair_d b1 b2]) rfl, fun h2 => ok_bare (by rw [<- e]; exact h) hB ((pfx_run2 b1 b2).trans (pfx_low (by decide))) h2 (by simp only [List.map_cons, List.map_nil, cell_d, lit_d, pair_d b1 b2]) rfl⟩
theorem encB_20 (wide long : Bool) (d s disp imm cc : Int) : nf_20 wide long d s disp imm cc (EncO ⟨20, wide, long, d, s, disp, imm, cc⟩) (amdErr ⟨20, wide, long, d, s, disp, imm, cc⟩ ≠ 0) (amdBytes ⟨20, wide, long, d, s, disp, imm, cc⟩).length (amdErr ⟨20, wide, long, d, s, disp, imm, cc⟩) := by
  have hE : amdErr ⟨20, wide, long, d, s, disp, imm, cc⟩ = if badReg d = true then 182 else 0 := rfl
  have hB : amdBytes ⟨20, wide, long, d, s, disp, imm, cc⟩ = withP (pfx wide 0 d) [247, pairB 3 6 d] := rfl
  generalize (⟨20, wide, long, d, s, disp, imm, cc⟩ : AI) = x at *
  unfold nf_20
  simp only [d_ne, d_num, d_lss, d_gtr, d_eql, Bool.not_eq_true', Bool.not_eq_false', decide_eq_true_eq, decide_eq_false_iff_not, true_and, eq_self]
  have e : regE (regE 0 6) d = amdErr x := by rw [regE2n rfl, hE]
  refine ⟨fun h => er_of e h, fun h => ?_⟩
  obtain ⟨b1, b2⟩ := bad2 h
  exact ⟨fun h2 => ok_pfx (by rw [<- e]; exact h) hB (pfx_in _ _ _) ((pfx_run2 b1 b2).trans (pfx_low (by decide))) h2 (by simp only [List.map_cons, List.map_nil, cell_d, lit_d, pair_d b1 b2]) rfl, fun h2 => ok_bare (by rw [<- e]; exact h) hB ((pfx_run2 b1 b2).trans (pfx_low (by decide))) h2 (by simp only [List.map_cons, List.map_nil, cell_d, lit_d, pair_d b1 b2]) rfl⟩
theorem encB_21 (wide long : Bool) (d s disp imm cc : Int) : nf_21 wide long d s disp imm cc (EncO ⟨21, wide, long, d, s, disp, imm, cc⟩) (amdErr ⟨21, wide, long, d, s, disp, imm, cc⟩ ≠ 0) (amdBytes ⟨21, wide, long, d, s, disp, imm, cc⟩).length (amdErr ⟨21, wide, long, d, s, disp, imm, cc⟩) := by
  have hE : amdErr ⟨21, wide, long, d, s, disp, imm, cc⟩ = if badReg d = true then 182 else 0 := rfl
  have hB : amdBytes ⟨21, wide, long, d, s, disp, imm, cc⟩ = withP (pfx wide 0 d) [211, pairB 3 4 d] := rfl
  generalize (⟨21, wide, long, d, s, disp, imm, cc⟩ : AI) = x at *
  unfold nf_21
  simp only [d_ne, d_num, d_lss, d_gtr, d_eql, Bool.not_eq_true', Bool.not_eq_false', decide_eq_true_eq, decide_eq_false_iff_not, true_and, eq_self]
  have e : regE (regE 0 4) d = amdErr x := by rw [regE2n rfl, hE]
  refine ⟨fun h => er_of e h, fun h => ?_⟩
  obtain ⟨b1, b2⟩ := bad2 h
  exact ⟨fun h2 => ok_pfx (by rw [<- e]; exact h) hB (pfx_in _ _ _) ((pfx_run2 b1 b2).trans (pfx_low (by decide))) h2 (by simp only [List.map_cons, List.map_nil, cell_d, lit_d, pair_d b1 b2]) rfl, fun h2 => ok_bare (by rw [<- e]; exact h) hB ((pfx_run2 b1 b2).trans (pfx_low (by decide))) h2 (by simp only [List.map_cons, List.map_nil, cell_d, lit_d, pair_d b1 b2]) rfl⟩
theorem encB_22 (wide long : Bool) (d s disp imm cc : Int) : nf_22 wide long d s disp imm cc (EncO ⟨22, wide, long, d, s, disp, imm, cc⟩) (amdErr ⟨22, wide, long, d, s, disp, imm, cc⟩ ≠ 0) (amdBytes ⟨22, wide, long, d, s, disp, imm, cc⟩).length (amdErr ⟨22, wide, long, d, s, disp, imm, cc⟩) := by
  have hE : amdErr ⟨22, wide, long, d, s, disp, imm, cc⟩ = if badReg d = true then 182 else 0 := rfl
  have hB : amdBytes ⟨22, wide, long, d, s, disp, imm, cc⟩ = withP (pfx wide 0 d) [211, pairB 3 5 d] := rfl
  generalize (⟨22, wide, long, d, s, disp, imm, cc⟩ : AI) = x at *
  unfold nf_22
  simp only [d_ne, d_num, d_lss, d_gtr, d_eql, Bool.not_eq_true', Bool.not_eq_false', decide_eq_true_eq, decide_eq_false_iff_not, true_and, eq_self]
  have e : regE (regE 0 5) d = amdErr x := by rw [regE2n rfl, hE]
  refine ⟨fun h => er_of e h, fun h => ?_⟩
  obtain ⟨b1, b2⟩ := bad2 h
  exact ⟨fun h2 => ok_pfx (by rw [<- e]; exact h) hB (pfx_in _ _ _) ((pfx_run2 b1 b2).trans (pfx_low (by decide))) h2 (by simp only [List.map_cons, List.map_nil, cell_d, lit_d, pair_d b1 b2]) rfl, fun h2 => ok_bare (by rw [<- e]; exact h) hB ((pfx_run2 b1 b2).trans (pfx_low (by decide))) h2 (by simp only [List.map_cons, List.map_nil, cell_d, lit_d, pair_d b1 b2]) rfl⟩
theorem encB_23 (wide long : Bool) (d s disp imm cc : Int) : nf_23 wide long d s disp imm cc (EncO ⟨23, wide, long, d, s, disp, imm, cc⟩) (amdErr ⟨23, wide, long, d, s, disp, imm, cc⟩ ≠ 0) (amdBytes ⟨23, wide, long, d, s, disp, imm, cc⟩).length (amdErr ⟨23, wide, long, d, s, disp, imm, cc⟩) := by
  have hE : amdErr ⟨23, wide, long, d, s, disp, imm, cc⟩ = if badReg d = true then 182 else 0 := rfl
  have hB : amdBytes ⟨23, wide, long, d, s, disp, imm, cc⟩ = withP (pfx false 0 d) [80 + d % 8] := rfl
  generalize (⟨23, wide, long, d, s, disp, imm, cc⟩ : AI) = x at *
  unfold nf_23
  simp only [d_ne, d_num, d_lss, d_gtr, d_eql, Bool.not_eq_true', Bool.not_eq_false', decide_eq_true_eq, decide_eq_false_iff_not, true_and, eq_self]
  have e : regE 0 d = amdErr x := by rw [regE1, hE]
  refine ⟨fun h => er_of e h, fun h => ?_⟩
  have b1 := bad1 h
  exact ⟨fun h2 => ok_pfx (by rw [<- e]; exact h) hB (pfx_in _ _ _) (pfx_run1 b1) h2 (by simp only [List.map_cons, List.map_nil, cell_d, lit_d, or_reg 80 (by simp) b1]) rfl, fun h2 => ok_bare (by rw [<- e]; exact h) hB (pfx_run1 b1) h2 (by simp only [List.map_cons, List.map_nil, cell_d, lit_d, or_reg 80 (by simp) b1]) rfl⟩
theorem encB_24 (wide long : Bool) (d s disp imm cc : Int) : nf_24 wide long d s disp imm cc (EncO ⟨24, wide, long, d, s, disp, imm, cc⟩) (amdErr ⟨24, wide, long, d, s, disp, imm, cc⟩ ≠ 0) (amdBytes ⟨24, wide, long, d, s, disp, imm, cc⟩).length (amdErr ⟨24, wide, long, d, s, disp, imm, cc⟩) := by
  have hE : amdErr ⟨24, wide, long, d, s, disp, imm, cc⟩ = if badReg d = true then 182 else 0 := rfl
  have hB : amdBytes ⟨24, wide, long, d, s, disp, imm, cc⟩ = withP (pfx false 0 d) [88 + d % 8] := rfl
  generalize (⟨24, wide, long, d, s, disp, imm, cc⟩ : AI) = x at *
  unfold nf_24
  simp only [d_ne, d_num, d_lss, d_gtr, d_eql, Bool.not_eq_true', Bool.not_eq_false', decide_eq_true_eq, decide_eq_false_iff_not, true_and, eq_self]
  have e : regE 0 d = amdErr x := by rw [regE1, hE]
  refine ⟨fun h => er_of e h, fun h => ?_⟩
  have b1 := bad1 h
  exact ⟨fun h2 => ok_pfx (by rw [<- e]; exact h) hB (pfx_in _ _ _) (pfx_run1 b1) h2 (by simp only [List.map_cons, List.map_nil, cell_d, lit_d, or_reg 88 (by simp) b1]) rfl, fun h2 => ok_bare (by rw [<- e]; exact h) hB (pfx_run1 b1) h2 (by simp only [List.map_cons, List.map_nil, cell_d, lit_d, or_reg 88 (by simp) b1]) rfl⟩
theorem encB_14t (wide : Bool) (d s disp imm cc : Int) : nf_14t wide d s disp imm cc (EncO ⟨14, wide, true, d, s, disp, imm, cc⟩) (amdErr ⟨14, wide, true, d, s, disp, imm, cc⟩ ≠ 0) (amdBytes ⟨14, wide, true, d, s, disp, imm, cc⟩).length (amdErr ⟨14, wide, true, d, s, disp, imm, cc⟩) := by
  have hE : amdErr ⟨14, wide, true, d, s, disp, imm, cc⟩ = if badReg d = true then 182 else if numOk imm true then 0 else 183 := rfl
  have hB : amdBytes ⟨14, wide, true, d, s, disp, imm, cc⟩ = withP (pfx wide 0 d) [129, pairB 3 0 d, imm % 256, imm / 256 % 256, imm / 65536 % 256, imm / 16777216 % 256] := rfl
  generalize (⟨14, wide, true, d, s, disp, imm, cc⟩ : AI) = x at *
  unfold nf_14t
  simp only [d_ne, d_num, d_lss, d_gtr, d_eql, Bool.not_eq_true', Bool.not_eq_false', decide_eq_true_eq, decide_eq_false_iff_not, true_and, eq_self]
  have eA : ¬ numOk imm true -> failI (regE (regE 0 0) d) 183 = amdErr x := fun hn => by rw [regE2n rfl, fail182, hE, if_neg hn]
  have eB : numOk imm true -> regE (regE 0 0) d = amdErr x := fun hn => by rw [regE2n rfl, hE, if_pos hn]
  refine ⟨fun hn => ⟨fun h => er_of (eA hn) h, fun h => absurd h (failI_ne _ (by decide))⟩, fun hn => ⟨fun h => er_of (eB hn) h, fun h => (⟨fun h2 => ok_pfx (by rw [<- eB hn]; exact h) hB (pfx_in _ _ _) ((pfx_run2 (bad2 h).1 (bad2 h).2).trans (pfx_low (by decide))) h2 (by simp only [List.map_cons, List.map_nil, cell_d, lit_d, ofN0, pair_d (bad2 h).1 (bad2 h).2, n8_d, n8s8_d, n8s16_d, n8s24_d]) rfl, fun h2 => ok_bare (by rw [<- eB hn]; exact h) hB ((pfx_run2 (bad2 h).1 (bad2 h).2).trans (pfx_low (by decide))) h2 (by simp only [List.map_cons, List.map_nil, cell_d, lit_d, ofN0, pair_d (bad2 h).1 (bad2 h).2, n8_d, n8s8_d, n8s16_d, n8s24_d]) rfl⟩)⟩⟩
theorem encB_14f (wide : Bool) (d s disp imm cc : Int) : nf_14f wide d s disp imm cc (EncO ⟨14, wide, false, d, s, disp, imm, cc⟩) (amdErr ⟨14, wide, false, d, s, disp, imm, cc⟩ ≠ 0) (amdBytes ⟨14, wide, false, d, s, disp, imm, cc⟩).length (amdErr ⟨14, wide, false, d, s, disp, imm, cc⟩) := by
  have hE : amdErr ⟨14, wide, false, d, s, disp, imm, cc⟩ = if badReg d = true then 182 else if numOk imm false then 0 else 183 := rfl
  have hB : amdBytes ⟨14, wide, false, d, s, disp, imm, cc⟩ = withP (pfx wide 0 d) [131, pairB 3 0 d, imm % 256] := rfl
  generalize (⟨14, wide, false, d, s, disp, imm, cc⟩ : AI) = x at *
  unfold nf_14f
  simp only [d_ne, d_num, d_lss, d_gtr, d_eql, Bool.not_eq_true', Bool.not_eq_false', decide_eq_true_eq, decide_eq_false_iff_not, true_and, eq_self]
  have eA : ¬ numOk imm false -> failI (regE (regE 0 0) d) 183 = amdErr x := fun hn => by rw [regE2n rfl, fail182, hE, if_neg hn]
  have eB : numOk imm false -> regE (regE 0 0) d = amdErr x := fun hn => by rw [regE2n rfl, hE, if_pos hn]
  refine ⟨fun hn => ⟨fun h => er_of (eA (short_no (.inl hn))) h, fun h => absurd h (failI_ne _ (by decide))⟩, fun hn1 => ⟨fun hn => ⟨fun h => er_of (eA (short_no (.inr hn))) h, fun h => absurd h (failI_ne _ (by decide))⟩, fun hn2 => ⟨fun h => er_of (eB (short_ok hn1 hn2)) h, fun h => (⟨fun h2 => ok_pfx (by rw [<- eB (short_ok hn1 hn2)]; exact h) hB (pfx_in _ _ _) ((pfx_run2 (bad2 h).1 (bad2 h).2).trans (pfx_low (by decide))) h2 (by simp only [List.map_cons, List.map_nil, cell_d, lit_d, ofN0, pair_d (bad2 h).1 (bad2 h).2, n8_d, n8s8_d, n8s16_d, n8s24_d]) rfl, fun h2 => ok_bare (by rw [<- eB (short_ok hn1 hn2)]; exact h) hB ((pfx_run2 (bad2 h).1 (bad2 h).2).trans (pfx_low (by decide))) h2 (by simp only [List.map_cons, List.map_nil, cell_d, lit_d, ofN0, pair_d (bad2 h).1 (bad2 h).2, n8_d, n8s8_d, n8s16_d, n8s24_d]) rfl⟩)⟩⟩⟩
theorem encB_15t (wide : Bool) (d s disp imm cc : Int) : nf_15t wide d s disp imm cc (EncO ⟨15, wide, true, d, s, disp, imm, cc⟩) (amdErr ⟨15, wide, true, d, s, disp, imm, cc⟩ ≠ 0) (amdBytes ⟨15, wide, true, d, s, disp, imm, cc⟩).length (amdErr ⟨15, wide, true, d, s, disp, imm, cc⟩) := by
  have hE : amdErr ⟨15, wide, true, d, s, disp, imm, cc⟩ = if badReg d = true then 182 else if numOk imm true then 0 else 183 := rfl
  have hB : amdBytes ⟨15, wide, true, d, s, disp, imm, cc⟩ = withP (pfx wide 0 d) [129, pairB 3 5 d, imm % 256, imm / 256 % 256, imm / 65536 % 256, imm / 16777216 % 256] := rfl
  generalize (⟨15, wide, true, d, s, disp, imm, cc⟩ : AI) = x at *
  unfold nf_15t
  simp only [d_ne, d_num, d_lss, d_gtr, d_eql, Bool.not_eq_true', Bool.not_eq_false', decide_eq_true_eq, decide_eq_false_iff_not, true_and, eq_self]
  have eA : ¬ numOk imm true -> failI (regE (regE 0 5) d) 183 = amdErr x := fun hn => by rw [regE2n rfl, fail182, hE, if_neg hn]
  have eB : numOk imm true -> regE (regE 0 5) d = amdErr x := fun hn => by rw [regE2n rfl, hE, if_pos hn]
  refine ⟨fun hn => ⟨fun h => er_of (eA hn) h, fun h => absurd h (failI_ne _ (by decide))⟩, fun hn => ⟨fun h => er_of (eB hn) h, fun h => (⟨fun h2 => ok_pfx (by rw [<- eB hn]; exact h) hB (pfx_in _ _ _) ((pfx_run2 (bad2 h).1 (bad2 h).2).trans (pfx_low (by decide))) h2 (by simp only [List.map_cons, List.map_nil, cell_d, lit_d, pair_d (bad2 h).1 (bad2 h).2, n8_d, n8s8_d, n8s16_d, n8s24_d]) rfl, fun h2 => ok_bare (by rw [<- eB hn]; exact h) hB ((pfx_run2 (bad2 h).1 (bad2 h).2).trans (pfx_low (by decide))) h2 (by simp only [List.map_cons, List.map_nil, cell_d, lit_d, pair_d (bad2 h).1 (bad2 h).2, n8_d, n8s8_d, n8s16_d, n8s24_d]) rfl⟩)⟩⟩
theorem encB_15f (wide : Bool) (d s disp imm cc : Int) : nf_15f wide d s disp imm cc (EncO ⟨15, wide, false, d, s, disp, imm, cc⟩) (amdErr ⟨15, wide, false, d, s, disp, imm, cc⟩ ≠ 0) (amdBytes ⟨15, wide, false, d, s, disp, imm, cc⟩).length (amdErr ⟨15, wide, false, d, s, disp, imm, cc⟩) := by
  have hE : amdErr ⟨15, wide, false, d, s, disp, imm, cc⟩ = if badReg d = true then 182 else if numOk imm false then 0 else 183 := rfl
  have hB : amdBytes ⟨15, wide, false, d, s, disp, imm, cc⟩ = withP (pfx wide 0 d) [131, pairB 3 5 d, imm % 256] := rfl
  generalize (⟨15, wide, false, d, s, disp, imm, cc⟩ : AI) = x at *
  unfold nf_15f
  simp only [d_ne, d_num, d_lss, d_gtr, d_eql, Bool.not_eq_true', Bool.not_eq_false', decide_eq_true_eq, decide_eq_false_iff_not, true_and, eq_self]
  have eA : ¬ numOk imm false -> failI (regE (regE 0 5) d) 183 = amdErr x := fun hn => by rw [regE2n rfl, fail182, hE, if_neg hn]
  have eB : numOk imm false -> regE (regE 0 5) d = amdErr x := fun hn => by rw [regE2n rfl, hE, if_pos hn]
  refine ⟨fun hn => ⟨fun h => er_of (eA (short_no (.inl hn))) h, fun h => absurd h (failI_ne _ (by decide))⟩, fun hn1 => ⟨fun hn => ⟨fun h => er_of (eA (short_no (.inr hn))) h, fun h => absurd h (failI_ne _ (by decide))⟩, fun hn2 => ⟨fun h => er_of (eB (short_ok hn1 hn2)) h, fun h => (⟨fun h2 => ok_pfx (by rw [<- eB (short_ok hn1 hn2)]; exact h) hB (pfx_in _ _ _) ((pfx_run2 (bad2 h).1 (bad2 h).2).trans (pfx_low (by decide))) h2 (by simp only [List.map_cons, List.map_nil, cell_d, lit_d, pair_d (bad2 h).1 (bad2 h).2, n8_d, n8s8_d, n8s16_d, n8s24_d]) rfl, fun h2 => ok_bare (by rw [<- eB (short_ok hn1 hn2)]; exact h) hB ((pfx_run2 (bad2 h).1 (bad2 h).2).trans (pfx_low (by decide))) h2 (by simp only [List.map_cons, List.map_nil, cell_d, lit_d, pair_d (bad2 h).1 (bad2 h).2, n8_d, n8s8_d, n8s16_d, n8s24_d]) rfl⟩)⟩⟩⟩
theorem encB_16t (wide : Bool) (d s disp imm cc : Int) : nf_16t wide d s disp imm cc (EncO ⟨16, wide, true, d, s, disp, imm, cc⟩) (amdErr ⟨16, wide, true, d, s, disp, imm, cc⟩ ≠ 0) (amdBytes ⟨16, wide, true, d, s, disp, imm, cc⟩).length (amdErr ⟨16, wide, true, d, s, disp, imm, cc⟩) := by
  have hE : amdErr ⟨16, wide, true, d, s, disp, imm, cc⟩ = if badReg d = true then 182 else if numOk imm true then 0 else 183 := rfl
  have hB : amdBytes ⟨16, wide, true, d, s, disp, imm, cc⟩ = withP (pfx wide 0 d) [129, pairB 3 7 d, imm % 256, imm / 256 % 256, imm / 65536 % 256, imm / 16777216 % 256] := rfl
  generalize (⟨16, wide, true, d, s, disp, imm, cc⟩ : AI) = x at *
  unfold nf_16t
  simp only [d_ne, d_num, d_lss, d_gtr, d_eql, Bool.not_eq_true', Bool.not_eq_false', decide_eq_true_eq, decide_eq_false_iff_not, true_and, eq_self]
  have eA : ¬ numOk imm true -> failI (regE (regE 0 7) d) 183 = amdErr x := fun hn => by rw [regE2n rfl, fail182, hE, if_neg hn]
  have eB : numOk imm true -> regE (regE 0 7) d = amdErr x := fun hn => by rw [regE2n rfl, hE, if_pos hn]
  refine ⟨fun hn => ⟨fun h => er_of (eA hn) h, fun h => absurd h (failI_ne _ (by decide))⟩, fun hn => ⟨fun h => er_of (eB hn) h, fun h => (⟨fun h2 => ok_pfx (by rw [<- eB hn]; exact h) hB (pfx_in _ _ _) ((pfx_run2 (bad2 h).1 (bad2 h).2).trans (pfx_low (by decide))) h2 (by simp only [List.map_cons, List.map_nil, cell_d, lit_d, pair_d (bad2 h).1 (bad2 h).2, n8_d, n8s8_d, n8s16_d, n8s24_d]) rfl, fun h2 => ok_bare (by rw [<- eB hn]; exact h) hB ((pfx_run2 (bad2 h).1 (bad2 h).2).trans (pfx_low (by decide))) h2 (by simp only [List.map_cons, List.map_nil, cell_d, lit_d, pair_d (bad2 h).1 (bad2 h).2, n8_d, n8s8_d, n8s16_d, n8s24_d]) rfl⟩)⟩⟩
theorem encB_16f (wide : Bool) (d s disp imm cc : Int) : nf_16f wide d s disp imm cc (EncO ⟨16, wide, false, d, s, disp, imm, cc⟩) (amdErr ⟨16, wide, false, d, s, disp, imm, cc⟩ ≠ 0) (amdBytes ⟨16, wide, false, d, s, disp, imm, cc⟩).length (amdErr ⟨16, wide, false, d, s, disp, imm, cc⟩) := by
  have hE : amdErr ⟨16, wide, false, d, s, disp, imm, cc⟩ = if badReg d = true then 182 else if numOk imm false then 0 else 183 := rfl
  have hB : amdBytes ⟨16, wide, false, d, s, disp, imm, cc⟩ = withP (pfx wide 0 d) [131, pairB 3 7 d, imm % 256] := rfl
  generalize (⟨16, wide, false, d, s, disp, imm, cc⟩ : AI) = x at *
  unfold nf_16f
  simp only [d_ne, d_num, d_lss, d_gtr, d_eql, Bool.not_eq_true', Bool.not_eq_false', decide_eq_true_eq, decide_eq_false_iff_not, true_and, eq_self]
  have eA : ¬ numOk imm false -> failI (regE (regE 0 7) d) 183 = amdErr x := fun hn => by rw [regE2n rfl, fail182, hE, if_neg hn]
  have eB : numOk imm false -> regE (regE 0 7) d = amdErr x := fun hn => by rw [regE2n rfl, hE, if_pos hn]
  refine ⟨fun hn => ⟨fun h => er_of (eA (short_no (.inl hn))) h, fun h => absurd h (failI_ne _ (by decide))⟩, fun hn1 => ⟨fun hn => ⟨fun h => er_of (eA (short_no (.inr hn))) h, fun h => absurd h (failI_ne _ (by decide))⟩, fun hn2 => ⟨fun h => er_of (eB (short_ok hn1 hn2)) h, fun h => (⟨fun h2 => ok_pfx (by rw [<- eB (short_ok hn1 hn2)]; exact h) hB (pfx_in _ _ _) ((pfx_run2 (bad2 h).1 (bad2 h).2).trans (pfx_low (by decide))) h2 (by simp only [List.map_cons, List.map_nil, cell_d, lit_d, pair_d (bad2 h).1 (bad2 h).2, n8_d, n8s8_d, n8s16_d, n8s24_d]) rfl, fun h2 => ok_bare (by rw [<- eB (short_ok hn1 hn2)]; exact h) hB ((pfx_run2 (bad2 h).1 (bad2 h).2).trans (pfx_low (by decide))) h2 (by simp only [List.map_cons, List.map_nil, cell_d, lit_d, pair_d (bad2 h).1 (bad2 h).2, n8_d, n8s8_d, n8s16_d, n8s24_d]) rfl⟩)⟩⟩⟩
theorem encB_17t (wide : Bool) (d s disp imm cc : Int) : nf_17t wide d s disp imm cc (EncO ⟨17, wide, true, d, s, disp, imm, cc⟩) (amdErr ⟨17, wide, true, d, s, disp, imm, cc⟩ ≠ 0) (amdBytes ⟨17, wide, true, d, s, disp, imm, cc⟩).length (amdErr ⟨17, wide, true, d, s, disp, imm, cc⟩) := by
  have hE : amdErr ⟨17, wide, true, d, s, disp, imm, cc⟩ = if badReg d = true then 182 else if numOk imm true then 0 else 183 := rfl
  have hB : amdBytes ⟨17, wide, true, d, s, disp, imm, cc⟩ = withP (pfx wide 0 d) [129, pairB 3 4 d, imm % 256, imm / 256 % 256, imm / 65536 % 256, imm / 16777216 % 256] := rfl
  generalize (⟨17, wide, true, d, s, disp, imm, cc⟩ : AI) = x at *
  unfold nf_17t
  simp only [d_ne, d_num, d_lss, d_gtr, d_eql, Bool.not_eq_true', Bool.not_eq_false', decide_eq_true_eq, decide_eq_false_iff_not, true_and, eq_self]
  have eA : ¬ numOk imm true -> failI (regE (regE 0 4) d) 183 = amdErr x := fun hn => by rw [regE2n rfl, fail182, hE, if_neg hn]
  have eB : numOk imm true -> regE (regE 0 4) d = amdErr x := fun hn => by rw [regE2n rfl, hE, if_pos hn]
  refine ⟨fun hn => ⟨fun h => er_of (eA hn) h, fun h => absurd h (failI_ne _ (by decide))⟩, fun hn => ⟨fun h => er_of (eB hn) h, fun h => (⟨fun h2 => ok_pfx (by rw [<- eB hn]; exact h) hB (pfx_in _ _ _) ((pfx_run2 (bad2 h).1 (bad2 h).2).trans (pfx_low (by decide))) h2 (by simp only [List.map_cons, List.map_nil, cell_d, lit_d, pair_d (bad2 h).1 (bad2 h).2, n8_d, n8s8_d, n8s16_d, n8s24_d]) rfl, fun h2 => ok_bare (by rw [<- eB hn]; exact h) hB ((pfx_run2 (bad2 h).1 (bad2 h).2).trans (pfx_low (by decide))) h2 (by simp only [List.map_cons, List.map_nil, cell_d, lit_d, pair_d (bad2 h).1 (bad2 h).2, n8_d, n8s8_d, n8s16_d, n8s24_d]) rfl⟩)⟩⟩
theorem encB_17f (wide : Bool) (d s disp imm cc : Int) : nf_17f wide d s disp imm cc (EncO ⟨17, wide, false, d, s, disp, imm, cc⟩) (amdErr ⟨17, wide, false, d, s, disp, imm, cc⟩ ≠ 0) (amdBytes ⟨17, wide, false, d, s, disp, imm, cc⟩).length (amdErr ⟨17, wide, false, d, s, disp, imm, cc⟩) := by
  have hE : amdErr ⟨17, wide, false, d, s, disp, imm, cc⟩ = if badReg d = true then 182 else if numOk imm false then 0 else 183 := rfl
  have hB : amdBytes ⟨17, wide, false, d, s, disp, imm, cc⟩ = withP (pfx wide 0 d) [131, pairB 3 4 d, imm % 256] := rfl
  generalize (⟨17, wide, false, d, s, disp, imm, cc⟩ : AI) = x at *
  unfold nf_17f
  simp only [d_ne, d_num, d_lss, d_gtr, d_eql, Bool.not_eq_true', Bool.not_eq_false', decide_eq_true_eq, decide_eq_false_iff_not, true_and, eq_self]
  have eA : ¬ numOk imm false -> failI (regE (regE 0 4) d) 183 = amdErr x := fun hn => by rw [regE2n rfl, fail182, hE, if_neg hn]
  have eB : numOk imm false -> regE (regE 0 4) d = amdErr x := fun hn => by rw [regE2n rfl, hE, if_pos hn]
  refine ⟨fun hn => ⟨fun h => er_of (eA (short_no (.inl hn))) h, fun h => absurd h (failI_ne _ (by decide))⟩, fun hn1 => ⟨fun hn => ⟨fun h => er_of (eA (short_no (.inr hn))) h, fun h => absurd h (failI_ne _ (by decide))⟩, fun hn2 => ⟨fun h => er_of (eB (short_ok hn1 hn2)) h, fun h => (⟨fun h2 => ok_pfx (by rw [<- eB (short_ok hn1 hn2)]; exact h) hB (pfx_in _ _ _) ((pfx_run2 (bad2 h).1 (bad2 h).2).trans (pfx_low (by decide))) h2 (by simp only [List.map_cons, List.map_nil, cell_d, lit_d, pair_d (bad2 h).1 (bad2 h).2, n8_d, n8s8_d, n8s16_d, n8s24_d]) rfl, fun h2 => ok_bare (by rw [<- eB (short_ok hn1 hn2)]; exact h) hB ((pfx_run2 (bad2 h).1 (bad2 h).2).trans (pfx_low (by decide))) h2 (by simp only [List.map_cons, List.map_nil, cell_d, lit_d, pair_d (bad2 h).1 (bad2 h).2, n8_d, n8s8_d, n8s16_d, n8s24_d]) rfl⟩)⟩⟩⟩
theorem encB_3t (wide : Bool) (d s disp imm cc : Int) : nf_3t wide d s disp imm cc (EncO ⟨3, wide, true, d, s, disp, imm, cc⟩) (amdErr ⟨3, wide, true, d, s, disp, imm, cc⟩ ≠ 0) (amdBytes ⟨3, wide, true, d, s, disp, imm, cc⟩).length (amdErr ⟨3, wide, true, d, s, disp, imm, cc⟩) := by
  have hE : amdErr ⟨3, wide, true, d, s, disp, imm, cc⟩ = if badReg d = true ∨ badReg s = true then 182 else if numOk disp true then 0 else 183 := rfl
  have hB1 : s % 8 = 4 -> amdBytes ⟨3, wide, true, d, s, disp, imm, cc⟩ = withP (pfx wide d s) [139, pairB 2 d s, 36, disp % 256, disp / 256 % 256, disp / 65536 % 256, disp / 16777216 % 256] := fun h => by
    show withP _ (139 :: memB d s disp true) = _
    unfold memB numB le4
    simp [h]
  have hB0 : ¬ s % 8 = 4 -> amdBytes ⟨3, wide, true, d, s, disp, imm, cc⟩ = withP (pfx wide d s) [139, pairB 2 d s, disp % 256, disp / 256 % 256, disp / 65536 % 256, disp / 16777216 % 256] := fun h => by
    show withP _ (139 :: memB d s disp true) = _
    unfold memB numB le4
    simp [h]
  generalize (⟨3, wide, true, d, s, disp, imm, cc⟩ : AI) = x at *
  unfold nf_3t
  simp only [d_ne, d_num, d_lss, d_gtr, d_eql, Bool.not_eq_true', Bool.not_eq_false', decide_eq_true_eq, decide_eq_false_iff_not, true_and, eq_self]
  have eA : ¬ numOk disp true -> failI (regE (regE 0 d) s) 183 = amdErr x := fun hn => by rw [regE2, fail182, hE, if_neg hn]
  have eB : numOk disp true -> regE (regE 0 d) s = amdErr x := fun hn => by rw [regE2, hE, if_pos hn]
  refine ⟨fun h4 => ?_, fun h4 => ?_⟩
  · refine ⟨fun hn => ⟨fun h => er_of (eA hn) h, fun h => absurd h (failI_ne _ (by decide))⟩, fun hn => ⟨fun h => er_of (eB hn) h, fun h => (⟨fun h2 => ok_pfx (by rw [<- eB hn]; exact h) (hB1 (by rw [<- regV_eq (bad2 h).2]; exact h4)) (pfx_in _ _ _) (pfx_run2 (bad2 h).1 (bad2 h).2) h2 (by simp only [List.map_cons, List.map_nil, cell_d, lit_d, mem2_d (bad2 h).1 (bad2 h).2, n8_d, n8s8_d, n8s16_d, n8s24_d]) rfl, fun h2 => ok_bare (by rw [<- eB hn]; exact h) (hB1 (by rw [<- regV_eq (bad2 h).2]; exact h4)) (pfx_run2 (bad2 h).1 (bad2 h).2) h2 (by simp only [List.map_cons, List.map_nil, cell_d, lit_d, mem2_d (bad2 h).1 (bad2 h).2, n8_d, n8s8_d, n8s16_d, n8s24_d]) rfl⟩)⟩⟩
  · refine ⟨fun hn => ⟨fun h => er_of (eA hn) h, fun h => absurd h (failI_ne _ (by decide))⟩, fun hn => ⟨fun h => er_of (eB hn) h, fun h => (⟨fun h2 => ok_pfx (by rw [<- eB hn]; exact h) (hB0 (by rw [<- regV_eq (bad2 h).2]; exact h4)) (pfx_in _ _ _) (pfx_run2 (bad2 h).1 (bad2 h).2) h2 (by simp only [List.map_cons, List.map_nil, cell_d, lit_d, mem2_d (bad2 h).1 (bad2 h).2, n8_d, n8s8_d, n8s16_d, n8s24_d]) rfl, fun h2 => ok_bare (by rw [<- eB hn]; exact h) (hB0 (by rw [<- regV_eq (bad2 h).2]; exact h4)) (pfx_run2 (bad2 h).1 (bad2 h).2) h2 (by simp only [List.map_cons, List.map_nil, cell_d, lit_d, mem2_d (bad2 h).1 (bad2 h).2, n8_d, n8s8_d, n8s16_d, n8s24_d]) rfl⟩)⟩⟩
theorem encB_3f (wide : Bool) (d s disp imm cc : Int) : nf_3f wide d s disp imm cc (EncO ⟨3, wide, false, d, s, disp, imm, cc⟩) (amdErr ⟨3, wide, false, d, s, disp, imm, cc⟩ ≠ 0) (amdBytes ⟨3, wide, false, d, s, disp, imm, cc⟩).length (amdErr ⟨3, wide, false, d, s, disp, imm, cc⟩) := by
  have hE : amdErr ⟨3, wide, false, d, s, disp, imm, cc⟩ = if badReg d = true ∨ badReg s = true then 182 else if numOk disp false then 0 else 183 := rfl
  have hB1 : s % 8 = 4 -> amdBytes ⟨3, wide, false, d, s, disp, imm, cc⟩ = withP (pfx wide d s) [139, pairB 1 d s, 36, disp % 256] := fun h => by
    show withP _ (139 :: memB d s disp false) = _
    unfold memB numB le4
    simp [h]
  have hB0 : ¬ s % 8 = 4 -> amdBytes ⟨3, wide, false, d, s, disp, imm, cc⟩ = withP (pfx wide d s) [139, pairB 1 d s, disp % 256] := fun h => by
    show withP _ (139 :: memB d s disp false) = _
    unfold memB numB le4
    simp [h]
  generalize (⟨3, wide, false, d, s, disp, imm, cc⟩ : AI) = x at *
  unfold nf_3f
  simp only [d_ne, d_num, d_lss, d_gtr, d_eql, Bool.not_eq_true', Bool.not_eq_false', decide_eq_true_eq, decide_eq_false_iff_not, true_and, eq_self]
  have eA : ¬ numOk disp false -> failI (regE (regE 0 d) s) 183 = amdErr x := fun hn => by rw [regE2, fail182, hE, if_neg hn]
  have eB : numOk disp false -> regE (regE 0 d) s = amdErr x := fun hn => by rw [regE2, hE, if_pos hn]
  refine ⟨fun h4 => ?_, fun h4 => ?_⟩
  · refine ⟨fun hn => ⟨fun h => er_of (eA (short_no (.inl hn))) h, fun h => absurd h (failI_ne _ (by decide))⟩, fun hn1 => ⟨fun hn => ⟨fun h => er_of (eA (short_no (.inr hn))) h, fun h => absurd h (failI_ne _ (by decide))⟩, fun hn2 => ⟨fun h => er_of (eB (short_ok hn1 hn2)) h, fun h => (⟨fun h2 => ok_pfx (by rw [<- eB (short_ok hn1 hn2)]; exact h) (hB1 (by rw [<- regV_eq (bad2 h).2]; exact h4)) (pfx_in _ _ _) (pfx_run2 (bad2 h).1 (bad2 h).2) h2 (by simp only [List.map_cons, List.map_nil, cell_d, lit_d, mem1_d (bad2 h).1 (bad2 h).2, n8_d, n8s8_d, n8s16_d, n8s24_d]) rfl, fun h2 => ok_bare (by rw [<- eB (short_ok hn1 hn2)]; exact h) (hB1 (by rw [<- regV_eq (bad2 h).2]; exact h4)) (pfx_run2 (bad2 h).1 (bad2 h).2) h2 (by simp only [List.map_cons, List.map_nil, cell_d, lit_d, mem1_d (bad2 h).1 (bad2 h).2, n8_d, n8s8_d, n8s16_d, n8s24_d]) rfl⟩)⟩⟩⟩
  · refine ⟨fun hn => ⟨fun h => er_of (eA (short_no (.inl hn))) h, fun h => absurd h (failI_ne _ (by decide))⟩, fun hn1 => ⟨fun hn => ⟨fun h => er_of (eA (short_no (.inr hn))) h, fun h => absurd h (failI_ne _ (by decide))⟩, fun hn2 => ⟨fun h => er_of (eB (short_ok hn1 hn2)) h, fun h => (⟨fun h2 => ok_pfx (by rw [<- eB (short_ok hn1 hn2)]; exact h) (hB0 (by rw [<- regV_eq (bad2 h).2]; exact h4)) (pfx_in _ _ _) (pfx_run2 (bad2 h).1 (bad2 h).2) h2 (by simp only [List.map_cons, List.map_nil, cell_d, lit_d, mem1_d (bad2 h).1 (bad2 h).2, n8_d, n8s8_d, n8s16_d, n8s24_d]) rfl, fun h2 => ok_bare (by rw [<- eB (short_ok hn1 hn2)]; exact h) (hB0 (by rw [<- regV_eq (bad2 h).2]; exact h4)) (pfx_run2 (bad2 h).1 (bad2 h).2) h2 (by simp only [List.map_cons, List.map_nil, cell_d, lit_d, mem1_d (bad2 h).1 (bad2 h).2, n8_d, n8s8_d, n8s16_d, n8s24_d]) rfl⟩)⟩⟩⟩
theorem encB_4t (wide : Bool) (d s disp imm cc : Int) : nf_4t wide d s disp imm cc (EncO ⟨4, wide, true, d, s, disp, imm, cc⟩) (amdErr ⟨4, wide, true, d, s, disp, imm, cc⟩ ≠ 0) (amdBytes ⟨4, wide, true, d, s, disp, imm, cc⟩).length (amdErr ⟨4, wide, true, d, s, disp, imm, cc⟩) := by
  have hE : amdErr ⟨4, wide, true, d, s, disp, imm, cc⟩ = if badReg s = true ∨ badReg d = true then 182 else if numOk disp true then 0 else 183 := by
    show (if badReg d = true ∨ badReg s = true then (182 : Int) else if numOk disp true then 0 else 183) = _
    cases badReg s <;> cases badReg d <;> simp
  have hB1 : d % 8 = 4 -> amdBytes ⟨4, wide, true, d, s, disp, imm, cc⟩ = withP (pfx wide s d) [137, pairB 2 s d, 36, disp % 256, disp / 256 % 256, disp / 65536 % 256, disp / 16777216 % 256] := fun h => by
    show withP _ (137 :: memB s d disp true) = _
    unfold memB numB le4
    simp [h]
  have hB0 : ¬ d % 8 = 4 -> amdBytes ⟨4, wide, true, d, s, disp, imm, cc⟩ = withP (pfx wide s d) [137, pairB 2 s d, disp % 256, disp / 256 % 256, disp / 65536 % 256, disp / 16777216 % 256] := fun h => by
    show withP _ (137 :: memB s d disp true) = _
    unfold memB numB le4
    simp [h]
  generalize (⟨4, wide, true, d, s, disp, imm, cc⟩ : AI) = x at *
  unfold nf_4t
  simp only [d_ne, d_num, d_lss, d_gtr, d_eql, Bool.not_eq_true', Bool.not_eq_false', decide_eq_true_eq, decide_eq_false_iff_not, true_and, eq_self]
  have eA : ¬ numOk disp true -> failI (regE (regE 0 s) d) 183 = amdErr x := fun hn => by rw [regE2, fail182, hE, if_neg hn]
  have eB : numOk disp true -> regE (regE 0 s) d = amdErr x := fun hn => by rw [regE2, hE, if_pos hn]
  refine ⟨fun h4 => ?_, fun h4 => ?_⟩
  · refine ⟨fun hn => ⟨fun h => er_of (eA hn) h, fun h => absurd h (failI_ne _ (by decide))⟩, fun hn => ⟨fun h => er_of (eB hn) h, fun h => (⟨fun h2 => ok_pfx (by rw [<- eB hn]; exact h) (hB1 (by rw [<- regV_eq (bad2 h).2]; exact h4)) (pfx_in _ _ _) (pfx_run2 (bad2 h).1 (bad2 h).2) h2 (by simp only [List.map_cons, List.map_nil, cell_d, lit_d, mem2_d (bad2 h).1 (bad2 h).2, n8_d, n8s8_d, n8s16_d, n8s24_d]) rfl, fun h2 => ok_bare (by rw [<- eB hn]; exact h) (hB1 (by rw [<- regV_eq (bad2 h).2]; exact h4)) (pfx_run2 (bad2 h).1 (bad2 h).2) h2 (by simp only [List.map_cons, List.map_nil, cell_d, lit_d, mem2_d (bad2 h).1 (bad2 h).2, n8_d, n8s8_d, n8s16_d, n8s24_d]) rfl⟩)⟩⟩
  · refine ⟨fun hn => ⟨fun h => er_of (eA hn) h, fun h => absurd h (failI_ne _ (by decide))⟩, fun hn => ⟨fun h => er_of (eB hn) h, fun h => (⟨fun h2 => ok_pfx (by rw [<- eB hn]; exact h) (hB0 (by rw [<- regV_eq (bad2 h).2]; exact h4)) (pfx_in _ _ _) (pfx_run2 (bad2 h).1 (bad2 h).2) h2 (by simp only [List.map_cons, List.map_nil, cell_d, lit_d, mem2_d (bad2 h).1 (bad2 h).2, n8_d, n8s8_d, n8s16_d, n8s24_d]) rfl, fun h2 => ok_bare (by rw [<- eB hn]; exact h) (hB0 (by rw [<- regV_eq (bad2 h).2]; exact h4)) (pfx_run2 (bad2 h).1 (bad2 h).2) h2 (by simp only [List.map_cons, List.map_nil, cell_d, lit_d, mem2_d (bad2 h).1 (bad2 h).2, n8_d, n8s8_d, n8s16_d, n8s24_d]) rfl⟩)⟩⟩
theorem encB_4f (wide : Bool) (d s disp imm cc : Int) : nf_4f wide d s disp imm cc (EncO ⟨4, wide, false, d, s, disp, imm, cc⟩) (amdErr ⟨4, wide, false, d, s, disp, imm, cc⟩ ≠ 0) (amdBytes ⟨4, wide, false, d, s, disp, imm, cc⟩).length (amdErr ⟨4, wide, false, d, s, disp, imm, cc⟩) := by
  have hE : amdErr ⟨4, wide, false, d, s, disp, imm, cc⟩ = if badReg s = true ∨ badReg d = true then 182 else if numOk disp false then 0 else 183 := by
    show (if badReg d = true ∨ badReg s = true then (182 : Int) else if numOk disp false then 0 else 183) = _
    cases badReg s <;> cases badReg d <;> simp
  have hB1 : d % 8 = 4 -> amdBytes ⟨4, wide, false, d, s, disp, imm, cc⟩ = withP (pfx wide s d) [137, pairB 1 s d, 36, disp % 256] := fun h => by
    show withP _ (137 :: memB s d disp false) = _
    unfold memB numB le4
    simp [h]
  have hB0 : ¬ d % 8 = 4 -> amdBytes ⟨4, wide, false, d, s, disp, imm, cc⟩ = withP (pfx wide s d) [137, pairB 1 s d, disp % 256] := fun h => by
    show withP _ (137 :: memB s d disp false) = _
    unfold memB numB le4
    simp [h]
  generalize (⟨4, wide, false, d, s, disp, imm, cc⟩ : AI) = x at *
  unfold nf_4f
  simp only [d_ne, d_num, d_lss, d_gtr, d_eql, Bool.not_eq_true', Bool.not_eq_false', decide_eq_true_eq, decide_eq_false_iff_not, true_and, eq_self]
  have eA : ¬ numOk disp false -> failI (regE (regE 0 s) d) 183 = amdErr x := fun hn => by rw [regE2, fail182, hE, if_neg hn]
  have eB : numOk disp false -> regE (regE 0 s) d = amdErr x := fun hn => by rw [regE2, hE, if_pos hn]
  refine ⟨fun h4 => ?_, fun h4 => ?_⟩
  · refine ⟨fun hn => ⟨fun h => er_of (eA (short_no (.inl hn))) h, fun h => absurd h (failI_ne _ (by decide))⟩, fun hn1 => ⟨fun hn => ⟨fun h => er_of (eA (short_no (.inr hn))) h, fun h => absurd h (failI_ne _ (by decide))⟩, fun hn2 => ⟨fun h => er_of (eB (short_ok hn1 hn2)) h, fun h => (⟨fun h2 => ok_pfx (by rw [<- eB (short_ok hn1 hn2)]; exact h) (hB1 (by rw [<- regV_eq (bad2 h).2]; exact h4)) (pfx_in _ _ _) (pfx_run2 (bad2 h).1 (bad2 h).2) h2 (by simp only [List.map_cons, List.map_nil, cell_d, lit_d, mem1_d (bad2 h).1 (bad2 h).2, n8_d, n8s8_d, n8s16_d, n8s24_d]) rfl, fun h2 => ok_bare (by rw [<- eB (short_ok hn1 hn2)]; exact h) (hB1 (by rw [<- regV_eq (bad2 h).2]; exact h4)) (pfx_run2 (bad2 h).1 (bad2 h).2) h2 (by simp only [List.map_cons, List.map_nil, cell_d, lit_d, mem1_d (bad2 h).1 (bad2 h).2, n8_d, n8s8_d, n8s16_d, n8s24_d]) rfl⟩)⟩⟩⟩
  · refine ⟨fun hn => ⟨fun h => er_of (eA (short_no (.inl hn))) h, fun h => absurd h (failI_ne _ (by decide))⟩, fun hn1 => ⟨fun hn => ⟨fun h => er_of (eA (short_no (.inr hn))) h, fun h => absurd h (failI_ne _ (by decide))⟩, fun hn2 => ⟨fun h => er_of (eB (short_ok hn1 hn2)) h, fun h => (⟨fun h2 => ok_pfx (by rw [<- eB (short_ok hn1 hn2)]; exact h) (hB0 (by rw [<- regV_eq (bad2 h).2]; exact h4)) (pfx_in _ _ _) (pfx_run2 (bad2 h).1 (bad2 h).2) h2 (by simp only [List.map_cons, List.map_nil, cell_d, lit_d, mem1_d (bad2 h).1 (bad2 h).2, n8_d, n8s8_d, n8s16_d, n8s24_d]) rfl, fun h2 => ok_bare (by rw [<- eB (short_ok hn1 hn2)]; exact h) (hB0 (by rw [<- regV_eq (bad2 h).2]; exact h4)) (pfx_run2 (bad2 h).1 (bad2 h).2) h2 (by simp only [List.map_cons, List.map_nil, cell_d, lit_d, mem1_d (bad2 h).1 (bad2 h).2, n8_d, n8s8_d, n8s16_d, n8s24_d]) rfl⟩)⟩⟩⟩
theorem encB_1 (wide long : Bool) (d s disp imm cc : Int) : nf_1 wide long d s disp imm cc (EncO ⟨1, wide, long, d, s, disp, imm, cc⟩) (amdErr ⟨1, wide, long, d, s, disp, imm, cc⟩ ≠ 0) (amdBytes ⟨1, wide, long, d, s, disp, imm, cc⟩).length (amdErr ⟨1, wide, long, d, s, disp, imm, cc⟩) := by
  have hE : amdErr ⟨1, wide, long, d, s, disp, imm, cc⟩ = if badReg d = true then 182 else if imm < 0 ∨ 4294967295 < imm then 183 else 0 := rfl
  have hB : amdBytes ⟨1, wide, long, d, s, disp, imm, cc⟩ = withP (pfx false 0 d) [184 + d % 8, imm % 256, imm / 256 % 256, imm / 65536 % 256, imm / 16777216 % 256] := rfl
  generalize (⟨1, wide, long, d, s, disp, imm, cc⟩ : AI) = x at *
  unfold nf_1
  simp only [d_ne, d_num, d_lss, d_gtr, d_eql, Bool.not_eq_true', Bool.not_eq_false', decide_eq_true_eq, decide_eq_false_iff_not, true_and, eq_self]
  have hm := mv_same imm
  unfold mvE at hm
  simp only [hm, Bool.false_eq_true, false_imp_iff, true_and, true_imp_iff]
  have eA : imm < 0 ∨ 4294967295 < imm -> failI (regE 0 d) 183 = amdErr x := fun hn => by rw [regE1, fail182, hE, if_pos hn]
  have eB : ¬ (imm < 0 ∨ 4294967295 < imm) -> regE 0 d = amdErr x := fun hn => by rw [regE1, hE, if_neg hn]
  refine ⟨fun hn => ⟨fun h => er_of (eA (.inl hn)) h, fun h => absurd h (failI_ne _ (by decide))⟩, fun hn1 => ⟨fun hn => ⟨fun h => er_of (eA (.inr hn)) h, fun h => absurd h (failI_ne _ (by decide))⟩, fun hn2 => ⟨fun h => er_of (eB (by omega)) h, fun h => ?_⟩⟩⟩
  have b1 := bad1 h
  have m1 := mv8 (v := imm) (by omega) (by omega)
  have m2 := mv16 (v := imm) (by omega) (by omega)
  have m3 := mv24 (v := imm) (by omega) (by omega)
  have m4 := mv32 (v := imm) (by omega) (by omega)
  unfold mvE at m1 m2 m3 m4
  exact ⟨fun h2 => ok_pfx (by rw [<- eB (by omega)]; exact h) hB (pfx_in _ _ _) (pfx_run1 b1) h2 (by simp only [List.map_cons, List.map_nil, cell_d, lit_d, or_reg 184 (by simp) b1, m1, m2, m3, m4]) rfl, fun h2 => ok_bare (by rw [<- eB (by omega)]; exact h) hB (pfx_run1 b1) h2 (by simp only [List.map_cons, List.map_nil, cell_d, lit_d, or_reg 184 (by simp) b1, m1, m2, m3, m4]) rfl⟩
theorem encB_25t (wide : Bool) (d s disp imm cc : Int) : nf_25t wide d s disp imm cc (EncO ⟨25, wide, true, d, s, disp, imm, cc⟩) (amdErr ⟨25, wide, true, d, s, disp, imm, cc⟩ ≠ 0) (amdBytes ⟨25, wide, true, d, s, disp, imm, cc⟩).length (amdErr ⟨25, wide, true, d, s, disp, imm, cc⟩) := by
  have hE : amdErr ⟨25, wide, true, d, s, disp, imm, cc⟩ = if numOk imm true then 0 else 183 := rfl
  have hB : amdBytes ⟨25, wide, true, d, s, disp, imm, cc⟩ = [233, imm % 256, imm / 256 % 256, imm / 65536 % 256, imm / 16777216 % 256] := rfl
  generalize (⟨25, wide, true, d, s, disp, imm, cc⟩ : AI) = x at *
  unfold nf_25t
  simp only [d_ne, d_num, d_lss, d_gtr, d_eql, Bool.not_eq_true', Bool.not_eq_false', decide_eq_true_eq, decide_eq_false_iff_not, true_and, eq_self]
  have eA : ¬ numOk imm true -> failI 0 183 = amdErr x := fun hn => by rw [hE, if_neg hn]; rfl
  refine ⟨fun hn => ⟨fun h => er_of (eA hn) h, fun h => absurd h (failI_ne _ (by decide))⟩, fun hn => ok_of (by rw [hE, if_pos hn]) (by rw [hB]; simp only [List.map_cons, List.map_nil, cell_d, lit_d, n8_d, n8s8_d, n8s16_d, n8s24_d]) rfl⟩
theorem encB_25f (wide : Bool) (d s disp imm cc : Int) : nf_25f wide d s disp imm cc (EncO ⟨25, wide, false, d, s, disp, imm, cc⟩) (amdErr ⟨25, wide, false, d, s, disp, imm, cc⟩ ≠ 0) (amdBytes ⟨25, wide, false, d, s, disp, imm, cc⟩).length (amdErr ⟨25, wide, false, d, s, disp, imm, cc⟩) := by
  have hE : amdErr ⟨25, wide, false, d, s, disp, imm, cc⟩ = if numOk imm false then 0 else 183 := rfl
  have hB : amdBytes ⟨25, wide, false, d, s, disp, imm, cc⟩ = [235, imm % 256] := rfl
  generalize (⟨25, wide, false, d, s, disp, imm, cc⟩ : AI) = x at *
  unfold nf_25f
  simp only [d_ne, d_num, d_lss, d_gtr, d_eql, Bool.not_eq_true', Bool.not_eq_false', decide_eq_true_eq, decide_eq_false_iff_not, true_and, eq_self]
  have eA : ¬ numOk imm false -> failI 0 183 = amdErr x := fun hn => by rw [hE, if_neg hn]; rfl
  refine ⟨fun hn => ⟨fun h => er_of (eA (short_no (.inl hn))) h, fun h => absurd h (failI_ne _ (by decide))⟩, fun hn1 => ⟨fun hn => ⟨fun h => er_of (eA (short_no (.inr hn))) h, fun h => absurd h (failI_ne _ (by decide))⟩, fun hn2 => ok_of (by rw [hE, if_pos (short_ok hn1 hn2)]) (by rw [hB]; simp only [List.map_cons, List.map_nil, cell_d, lit_d, n8_d, n8s8_d, n8s16_d, n8s24_d]) rfl⟩⟩
theorem encB_26t (wide : Bool) (d s disp imm cc : Int) : nf_26t wide d s disp imm cc (EncO ⟨26, wide, true, d, s, disp, imm, cc⟩) (amdErr ⟨26, wide, true, d, s, disp, imm, cc⟩ ≠ 0) (amdBytes ⟨26, wide, true, d, s, disp, imm, cc⟩).length (amdErr ⟨26, wide, true, d, s, disp, imm, cc⟩) := by
  have hE : amdErr ⟨26, wide, true, d, s, disp, imm, cc⟩ = if cc < 2 ∨ 7 < cc then 181 else if numOk imm true then 0 else 183 := rfl
  have hB : amdBytes ⟨26, wide, true, d, s, disp, imm, cc⟩ = [15, 128 + cc, imm % 256, imm / 256 % 256, imm / 65536 % 256, imm / 16777216 % 256] := rfl
  generalize (⟨26, wide, true, d, s, disp, imm, cc⟩ : AI) = x at *
  unfold nf_26t
  simp only [d_ne, d_num, d_lss, d_gtr, d_eql, Bool.not_eq_true', Bool.not_eq_false', decide_eq_true_eq, decide_eq_false_iff_not, true_and, eq_self]
  have eC : cc < 2 ∨ 7 < cc -> failI 0 181 = amdErr x := fun hc => by rw [hE, if_pos hc]; rfl
  have eD : cc < 2 ∨ 7 < cc -> failI (failI 0 181) 183 = amdErr x := fun hc => by rw [hE, if_pos hc]; rfl
  have eA : ¬ (cc < 2 ∨ 7 < cc) -> ¬ numOk imm true -> failI 0 183 = amdErr x := fun hc hn => by rw [hE, if_neg hc, if_neg hn]; rfl
  refine ⟨fun hc => ⟨fun _ => ⟨fun h => er_of (eD (.inl hc)) h, fun h => absurd h (failI_ne _ (by decide))⟩, fun _ => ⟨fun h => er_of (eC (.inl hc)) h, fun h => absurd h (failI_ne _ (by decide))⟩⟩, fun hc1 => ⟨fun hc => ⟨fun _ => ⟨fun h => er_of (eD (.inr hc)) h, fun h => absurd h (failI_ne _ (by decide))⟩, fun _ => ⟨fun h => er_of (eC (.inr hc)) h, fun h => absurd h (failI_ne _ (by decide))⟩⟩, fun hc2 => ⟨fun hn => ⟨fun h => er_of (eA (show ¬ (cc < 2 ∨ 7 < cc) by omega) hn) h, fun h => absurd h (failI_ne _ (by decide))⟩, fun hn => ok_of (by rw [hE, if_neg (show ¬ (cc < 2 ∨ 7 < cc) by omega), if_pos hn]) (by rw [hB]; simp only [List.map_cons, List.map_nil, cell_d, lit_d, cc112 (show ¬ (cc < 2 ∨ 7 < cc) by omega), cc128 (show ¬ (cc < 2 ∨ 7 < cc) by omega), n8_d, n8s8_d, n8s16_d, n8s24_d]) rfl⟩⟩⟩
theorem encB_26f (wide : Bool) (d s disp imm cc : Int) : nf_26f wide d s disp imm cc (EncO ⟨26, wide, false, d, s, disp, imm, cc⟩) (amdErr ⟨26, wide, false, d, s, disp, imm, cc⟩ ≠ 0) (amdBytes ⟨26, wide, false, d, s, disp, imm, cc⟩).length (amdErr ⟨26, wide, false, d, s, disp, imm, cc⟩) := by
  have hE : amdErr ⟨26, wide, false, d, s, disp, imm, cc⟩ = if cc < 2 ∨ 7 < cc then 181 else if numOk imm false then 0 else 183 := rfl
  have hB : amdBytes ⟨26, wide, false, d, s, disp, imm, cc⟩ = [112 + cc, imm % 256] := rfl
  generalize (⟨26, wide, false, d, s, disp, imm, cc⟩ : AI) = x at *
  unfold nf_26f
  simp only [d_ne, d_num, d_lss, d_gtr, d_eql, Bool.not_eq_true', Bool.not_eq_false', decide_eq_true_eq, decide_eq_false_iff_not, true_and, eq_self]
  have eC : cc < 2 ∨ 7 < cc -> failI 0 181 = amdErr x := fun hc => by rw [hE, if_pos hc]; rfl
  have eD : cc < 2 ∨ 7 < cc -> failI (failI 0 181) 183 = amdErr x := fun hc => by rw [hE, if_pos hc]; rfl
  have eA : ¬ (cc < 2 ∨ 7 < cc) -> ¬ numOk imm false -> failI 0 183 = amdErr x := fun hc hn => by rw [hE, if_neg hc, if_neg hn]; rfl
  refine ⟨fun hc => ⟨fun _ => ⟨fun h => er_of (eD (.inl hc)) h, fun h => absurd h (failI_ne _ (by decide))⟩, fun _ => ⟨fun _ => ⟨fun h => er_of (eD (.inl hc)) h, fun h => absurd h (failI_ne _ (by decide))⟩, fun _ => ⟨fun h => er_of (eC (.inl hc)) h, fun h => absurd h (failI_ne _ (by decide))⟩⟩⟩, fun hc1 => ⟨fun hc => ⟨fun _ => ⟨fun h => er_of (eD (.inr hc)) h, fun h => absurd h (failI_ne _ (by decide))⟩, fun _ => ⟨fun _ => ⟨fun h => er_of (eD (.inr hc)) h, fun h => absurd h (failI_ne _ (by decide))⟩, fun _ => ⟨fun h => er_of (eC (.inr hc)) h, fun h => absurd h (failI_ne _ (by decide))⟩⟩⟩, fun hc2 => ⟨fun hn => ⟨fun h => er_of (eA (show ¬ (cc < 2 ∨ 7 < cc) by omega) (short_no (.inl hn))) h, fun h => absurd h (failI_ne _ (by decide))⟩, fun hn1 => ⟨fun hn => ⟨fun h => er_of (eA (show ¬ (cc < 2 ∨ 7 < cc) by omega) (short_no (.inr hn))) h, fun h => absurd h (failI_ne _ (by decide))⟩, fun hn2 => ok_of (by rw [hE, if_neg (show ¬ (cc < 2 ∨ 7 < cc) by omega), if_pos (short_ok hn1 hn2)]) (by rw [hB]; simp only [List.map_cons, List.map_nil, cell_d, lit_d, cc112 (show ¬ (cc < 2 ∨ 7 < cc) by omega), cc128 (show ¬ (cc < 2 ∨ 7 < cc) by omega), n8_d, n8s8_d, n8s16_d, n8s24_d]) rfl⟩⟩⟩⟩
theorem encB_27 (wide long : Bool) (d s disp imm cc : Int) : nf_27 wide long d s disp imm cc (EncO ⟨27, wide, long, d, s, disp, imm, cc⟩) (amdErr ⟨27, wide, long, d, s, disp, imm, cc⟩ ≠ 0) (amdBytes ⟨27, wide, long, d, s, disp, imm, cc⟩).length (amdErr ⟨27, wide, long, d, s, disp, imm, cc⟩) := by
  have hE : amdErr ⟨27, wide, long, d, s, disp, imm, cc⟩ = 0 := rfl
  have hB : amdBytes ⟨27, wide, long, d, s, disp, imm, cc⟩ = [195] := rfl
  generalize (⟨27, wide, long, d, s, disp, imm, cc⟩ : AI) = x at *
  unfold nf_27
  simp only [d_ne, d_num, d_lss, d_gtr, d_eql, Bool.not_eq_true', Bool.not_eq_false', decide_eq_true_eq, decide_eq_false_iff_not, true_and, eq_self]
  exact ok_of hE (by rw [hB]; simp only [List.map_cons, List.map_nil, cell_d, lit_d]) rfl
end Go.Proofs.YtajcmjjgnbaahaaDoor.Amd
