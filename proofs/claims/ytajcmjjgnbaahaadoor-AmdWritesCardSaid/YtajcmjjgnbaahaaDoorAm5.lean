/- Encode: its contract. -/
import Derived.Test.YtajcmjjgnbaahaaDoorAm4
import Derived.Test.YtajcmjjgnbaahaaDoorSxq
namespace Go.Proofs.YtajcmjjgnbaahaaDoor.Amd
open Go Go.Proofs.YtajcmjjgnbaahaaDoor.Sx Go.RowKit
set_option linter.unusedVariables false
set_option linter.unusedSimpArgs false
theorem encode_ok : SpecOk P 7 (rdSpec [.plain] encPre encOutsP) := by
  have hs := func_sound (un := fun _ => 40) A1_ok Tryd.func7
  refine enc_spec (open_ok (ret_ok hs)) ?_
  rintro ⟨op, wide, long, d, s, disp, imm, cc⟩
  by_cases hr : 1 <= op /\ op <= 27
  · have hc : op = 1 ∨ op = 2 ∨ op = 3 ∨ op = 4 ∨ op = 5 ∨ op = 6 ∨ op = 7 ∨ op = 8 ∨ op = 9 ∨ op = 10 ∨ op = 11 ∨ op = 12 ∨ op = 13 ∨ op = 14 ∨ op = 15 ∨ op = 16 ∨ op = 17 ∨ op = 18 ∨ op = 19 ∨ op = 20 ∨ op = 21 ∨ op = 22 ∨ op = 23 ∨ op = 24 ∨ op = 25 ∨ op = 26 ∨ op = 27 := by omega
    rcases hc with rfl | rfl | rfl | rfl | rfl | rfl | rfl | rfl | rfl | rfl | rfl | rfl | rfl | rfl | rfl | rfl | rfl | rfl | rfl | rfl | rfl | rfl | rfl | rfl | rfl | rfl | rfl
    · refine open_ret (args' := [xArg (.lit 1) wide (.var long) d s disp imm cc]) (fun _ => rfl) (xArg_wf _ _ _ _ _ _ _ _) ?_
      rw [enc_1]; exact encB_1 wide long d s disp imm cc
    · refine open_ret (args' := [xArg (.lit 2) wide (.var long) d s disp imm cc]) (fun _ => rfl) (xArg_wf _ _ _ _ _ _ _ _) ?_
      rw [enc_2]; exact encB_2 wide long d s disp imm cc
    · cases long with
      | true =>
        refine open_ret (args' := [xArg (.lit 3) wide (.lit true) d s disp imm cc]) (fun _ => rfl) (xArg_wf _ _ _ _ _ _ _ _) ?_
        rw [enc_3t]; exact encB_3t wide d s disp imm cc
      | false =>
        refine open_ret (args' := [xArg (.lit 3) wide (.lit false) d s disp imm cc]) (fun _ => rfl) (xArg_wf _ _ _ _ _ _ _ _) ?_
        rw [enc_3f]; exact encB_3f wide d s disp imm cc
    · cases long with
      | true =>
        refine open_ret (args' := [xArg (.lit 4) wide (.lit true) d s disp imm cc]) (fun _ => rfl) (xArg_wf _ _ _ _ _ _ _ _) ?_
        rw [enc_4t]; exact encB_4t wide d s disp imm cc
      | false =>
        refine open_ret (args' := [xArg (.lit 4) wide (.lit false) d s disp imm cc]) (fun _ => rfl) (xArg_wf _ _ _ _ _ _ _ _) ?_
        rw [enc_4f]; exact encB_4f wide d s disp imm cc
    · refine open_ret (args' := [xArg (.lit 5) wide (.var long) d s disp imm cc]) (fun _ => rfl) (xArg_wf _ _ _ _ _ _ _ _) ?_
      rw [enc_5]; exact encB_5 wide long d s disp imm cc
    · refine open_ret (args' := [xArg (.lit 6) wide (.var long) d s disp imm cc]) (fun _ => rfl) (xArg_wf _ _ _ _ _ _ _ _) ?_
      rw [enc_6]; exact encB_6 wide long d s disp imm cc
    · refine open_ret (args' := [xArg (.lit 7) wide (.var long) d s disp imm cc]) (fun _ => rfl) (xArg_wf _ _ _ _ _ _ _ _) ?_
      rw [enc_7]; exact encB_7 wide long d s disp imm cc
    · refine open_ret (args' := [xArg (.lit 8) wide (.var long) d s disp imm cc]) (fun _ => rfl) (xArg_wf _ _ _ _ _ _ _ _) ?_
      rw [enc_8]; exact encB_8 wide long d s disp imm cc
    · refine open_ret (args' := [xArg (.lit 9) wide (.var long) d s disp imm cc]) (fun _ => rfl) (xArg_wf _ _ _ _ _ _ _ _) ?_
      rw [enc_9]; exact encB_9 wide long d s disp imm cc
    · refine open_ret (args' := [xArg (.lit 10) wide (.var long) d s disp imm cc]) (fun _ => rfl) (xArg_wf _ _ _ _ _ _ _ _) ?_
      rw [enc_10]; exact encB_10 wide long d s disp imm cc
    · refine open_ret (args' := [xArg (.lit 11) wide (.var long) d s disp imm cc]) (fun _ => rfl) (xArg_wf _ _ _ _ _ _ _ _) ?_
      rw [enc_11]; exact encB_11 wide long d s disp imm cc
    · refine open_ret (args' := [xArg (.lit 12) wide (.var long) d s disp imm cc]) (fun _ => rfl) (xArg_wf _ _ _ _ _ _ _ _) ?_
      rw [enc_12]; exact encB_12 wide long d s disp imm cc
    · refine open_ret (args' := [xArg (.lit 13) wide (.var long) d s disp imm cc]) (fun _ => rfl) (xArg_wf _ _ _ _ _ _ _ _) ?_
      rw [enc_13]; exact encB_13 wide long d s disp imm cc
    · cases long with
      | true =>
        refine open_ret (args' := [xArg (.lit 14) wide (.lit true) d s disp imm cc]) (fun _ => rfl) (xArg_wf _ _ _ _ _ _ _ _) ?_
        rw [enc_14t]; exact encB_14t wide d s disp imm cc
      | false =>
        refine open_ret (args' := [xArg (.lit 14) wide (.lit false) d s disp imm cc]) (fun _ => rfl) (xArg_wf _ _ _ _ _ _ _ _) ?_
        rw [enc_14f]; exact encB_14f wide d s disp imm cc
    · cases long with
      | true =>
        refine open_ret (args' := [xArg (.lit 15) wide (.lit true) d s disp imm cc]) (fun _ => rfl) (xArg_wf _ _ _ _ _ _ _ _) ?_
        rw [enc_15t]; exact encB_15t wide d s disp imm cc
      | false =>
        refine open_ret (args' := [xArg (.lit 15) wide (.lit false) d s disp imm cc]) (fun _ => rfl) (xArg_wf _ _ _ _ _ _ _ _) ?_
        rw [enc_15f]; exact encB_15f wide d s disp imm cc
    · cases long with
      | true =>
        refine open_ret (args' := [xArg (.lit 16) wide (.lit true) d s disp imm cc]) (fun _ => rfl) (xArg_wf _ _ _ _ _ _ _ _) ?_
        rw [enc_16t]; exact encB_16t wide d s disp imm cc
      | false =>
        refine open_ret (args' := [xArg (.lit 16) wide (.lit false) d s disp imm cc]) (fun _ => rfl) (xArg_wf _ _ _ _ _ _ _ _) ?_
        rw [enc_16f]; exact encB_16f wide d s disp imm cc
    · cases long with
      | true =>
        refine open_ret (args' := [xArg (.lit 17) wide (.lit true) d s disp imm cc]) (fun _ => rfl) (xArg_wf _ _ _ _ _ _ _ _) ?_
        rw [enc_17t]; exact encB_17t wide d s disp imm cc
      | false =>
        refine open_ret (args' := [xArg (.lit 17) wide (.lit false) d s disp imm cc]) (fun _ => rfl) (xArg_wf _ _ _ _ _ _ _ _) ?_
        rw [enc_17f]; exact encB_17f wide d s disp imm cc
    · refine open_ret (args' := [xArg (.lit 18) wide (.var long) d s disp imm cc]) (fun _ => rfl) (xArg_wf _ _ _ _ _ _ _ _) ?_
      rw [enc_18]; exact encB_18 wide long d s disp imm cc
    · refine open_ret (args' := [xArg (.lit 19) wide (.var long) d s disp imm cc]) (fun _ => rfl) (xArg_wf _ _ _ _ _ _ _ _) ?_
      rw [enc_19]; exact encB_19 wide long d s disp imm cc
    · refine open_ret (args' := [xArg (.lit 20) wide (.var long) d s disp imm cc]) (fun _ => rfl) (xArg_wf _ _ _ _ _ _ _ _) ?_
      rw [enc_20]; exact encB_20 wide long d s disp imm cc
    · refine open_ret (args' := [xArg (.lit 21) wide (.var long) d s disp imm cc]) (fun _ => rfl) (xArg_wf _ _ _ _ _ _ _ _) ?_
      rw [enc_21]; exact encB_21 wide long d s disp imm cc
    · refine open_ret (args' := [xArg (.lit 22) wide (.var long) d s disp imm cc]) (fun _ => rfl) (xArg_wf _ _ _ _ _ _ _ _) ?_
      rw [enc_22]; exact encB_22 wide long d s disp imm cc
    · refine open_ret (args' := [xArg (.lit 23) wide (.var long) d s disp imm cc]) (fun _ => rfl) (xArg_wf _ _ _ _ _ _ _ _) ?_
      rw [enc_23]; exact encB_23 wide long d s disp imm cc
    · refine open_ret (args' := [xArg (.lit 24) wide (.var long) d s disp imm cc]) (fun _ => rfl) (xArg_wf _ _ _ _ _ _ _ _) ?_
      rw [enc_24]; exact encB_24 wide long d s disp imm cc
    · cases long with
      | true =>
        refine open_ret (args' := [xArg (.lit 25) wide (.lit true) d s disp imm cc]) (fun _ => rfl) (xArg_wf _ _ _ _ _ _ _ _) ?_
        rw [enc_25t]; exact encB_25t wide d s disp imm cc
      | false =>
        refine open_ret (args' := [xArg (.lit 25) wide (.lit false) d s disp imm cc]) (fun _ => rfl) (xArg_wf _ _ _ _ _ _ _ _) ?_
        rw [enc_25f]; exact encB_25f wide d s disp imm cc
    · cases long with
      | true =>
        refine open_ret (args' := [xArg (.lit 26) wide (.lit true) d s disp imm cc]) (fun _ => rfl) (xArg_wf _ _ _ _ _ _ _ _) ?_
        rw [enc_26t]; exact encB_26t wide d s disp imm cc
      | false =>
        refine open_ret (args' := [xArg (.lit 26) wide (.lit false) d s disp imm cc]) (fun _ => rfl) (xArg_wf _ _ _ _ _ _ _ _) ?_
        rw [enc_26f]; exact encB_26f wide d s disp imm cc
    · refine open_ret (args' := [xArg (.lit 27) wide (.var long) d s disp imm cc]) (fun _ => rfl) (xArg_wf _ _ _ _ _ _ _ _) ?_
      rw [enc_27]; exact encB_27 wide long d s disp imm cc
  · refine open_ret (args' := [xArg (.var op) wide (.var long) d s disp imm cc]) (fun _ => rfl) (xArg_wf _ _ _ _ _ _ _ _) ?_
    rw [enc_x]
    have hE : amdErr ⟨op, wide, long, d, s, disp, imm, cc⟩ = 181 := by unfold amdErr; rw [formOf_none hr]
    generalize (⟨op, wide, long, d, s, disp, imm, cc⟩ : AI) = x at *
    have n1 : ¬ op = 1 := by omega
    have n2 : ¬ op = 2 := by omega
    have n3 : ¬ op = 3 := by omega
    have n4 : ¬ op = 4 := by omega
    have n5 : ¬ op = 5 := by omega
    have n6 : ¬ op = 6 := by omega
    have n7 : ¬ op = 7 := by omega
    have n8 : ¬ op = 8 := by omega
    have n9 : ¬ op = 9 := by omega
    have n10 : ¬ op = 10 := by omega
    have n11 : ¬ op = 11 := by omega
    have n12 : ¬ op = 12 := by omega
    have n13 : ¬ op = 13 := by omega
    have n14 : ¬ op = 14 := by omega
    have n15 : ¬ op = 15 := by omega
    have n16 : ¬ op = 16 := by omega
    have n17 : ¬ op = 17 := by omega
    have n18 : ¬ op = 18 := by omega
    have n19 : ¬ op = 19 := by omega
    have n20 : ¬ op = 20 := by omega
    have n21 : ¬ op = 21 := by omega
    have n22 : ¬ op = 22 := by omega
    have n23 : ¬ op = 23 := by omega
    have n24 : ¬ op = 24 := by omega
    have n25 : ¬ op = 25 := by omega
    have n26 : ¬ op = 26 := by omega
    have n27 : ¬ op = 27 := by omega
    unfold nf_x
    refine ⟨rfl, rfl, rfl, rfl, rfl, rfl, rfl, rfl, ?_, rfl, rfl, rfl, rfl, rfl, rfl, rfl, rfl, er_of hE.symm (by decide)⟩
    simp [BE.den, IE.den, cmpI_eql, n1, n2, n3, n4, n5, n6, n7, n8, n9, n10, n11, n12, n13, n14, n15, n16, n17, n18, n19, n20, n21, n22, n23, n24, n25, n26, n27]
end Go.Proofs.YtajcmjjgnbaahaaDoor.Amd
