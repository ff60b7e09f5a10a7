/- The document's Read of lists: its contract. -/
import Derived.Test.YtiljkmcahkphiaaLi4
namespace Go.Proofs.Ytiljkmcahkphiaa.Rv
open Go Go.Proofs.Ytiljkmcahkphiaa.Sx Go.RowKit
set_option linter.unusedVariables false
set_option linter.unusedSimpArgs false

set_option maxRecDepth 100000 in
theorem rread_ok : SpecOk P 16 (rdSpec [.rows 1 z1] rPre rOuts) := by
  refine rd_ok (some_un fun un => func_sound (un := un) GI_ok Try.func16) (fun sz zs h => by simp at h; obtain ⟨rfl, rfl⟩ := h; rfl) rOuts_good ?_
  intro ins pl u hins hpl hpre
  obtain ⟨g, len, cap, rfl, rfl, hlc, hl, hb'⟩ := rPre_of hpre
  show ∃ un, sxFunc P GI un Try.f16 [sl1 len cap] [.row false true (col1 g) (.var cap)] (fun (v : SV) (hp : List SObj) => outsE (rOuts [(col1 g, len, cap)] []) fun o => o.some 1 fun val new _ => simAt 1 1 { tmps := [v], hp := hp } [(0, val)] (formalHp [(col1 g, len, cap)] ++ new))
  rw [rK]
  refine ⟨fun _ => ann RSt (rSlots len cap) (rHp (col1 g) cap) (rInv g len) (fun a => len - a.1), ?_⟩
  rw [rread_nf g len cap (rInv g len) (fun a => len - a.1) (rO g len) (rB g len) (len / 4) (readErr (col1 g) len)]
  · clear hpre hins hpl
    refine ⟨⟨(0, 0, fun _ => ⟨0, 0, 0, 0, 0, 0⟩), ⟨by simp, by simp, by simp, fun i hi => absurd hi (by simp)⟩, rfl, rfl, rfl, rfl, rfl, rfl, fun _ _ => rfl, rfl, trivial⟩, ?_, fun _ _ h => h⟩
    rintro _ ⟨k, c, H⟩ ⟨i1, i2, i3, i4⟩
    dsimp only at i1 i2 i3 i4 ⊢
    have hk : k ≤ 2097152 := by omega
    refine ⟨fun hlt => ⟨fun h3 => ?_, fun h3 => ⟨fun h1 => ?_, fun _ => ⟨fun h2 => ?_, fun _ => ⟨fun h5 => ?_, fun h5 => ?_⟩⟩⟩⟩, fun hge => ?_⟩
    · have hlt := lss_true hlt
      have h3' : len < 4 * k + 4 := by
        simp only [BE.den, IE.den, cmpI_gtr] at h3
        rw [wrap_i64_in (by omega) (by omega)] at h3
        simp at h3; omega
      right
      refine ⟨k, ⟨by omega, ?_, fun j hj => ⟨by omega, (i4 j hj).1⟩⟩, ?_, rfl, rfl, fun _ _ => rfl, trivial⟩
      · unfold readErr; rw [if_neg (by omega)]; decide
      · unfold readErr; rw [if_neg (by omega)]
    · exfalso
      simp only [BE.den, IE.den, cmpI_lss] at h1
      simp at h1; omega
    · exfalso
      have hlt := lss_true hlt
      simp only [BE.den, IE.den, cmpI_gtr] at h2
      simp at h2; omega
    · exfalso
      simp only [BE.den, IE.den, cmpI_gtr] at h3 h5
      rw [wrap_i64_in (by omega) (by omega)] at h3 h5
      simp at h3 h5; omega
    · have hlt := lss_true hlt
      have h3' : 4 * k + 4 ≤ len := by
        simp only [BE.den, IE.den, cmpI_gtr] at h3
        rw [wrap_i64_in (by omega) (by omega)] at h3
        simp at h3; omega
      have a0 : IE.den (.add .i64 (.var ((4 * k : Nat) : Int)) (.lit 0)) = ((4 * k + 0 : Nat) : Int) := addE (by omega) 0 (by omega)
      have a1 : IE.den (.add .i64 (.var ((4 * k : Nat) : Int)) (.lit 1)) = ((4 * k + 1 : Nat) : Int) := addE (by omega) 1 (by omega)
      have a2 : IE.den (.add .i64 (.var ((4 * k : Nat) : Int)) (.lit 2)) = ((4 * k + 2 : Nat) : Int) := addE (by omega) 2 (by omega)
      have a3 : IE.den (.add .i64 (.var ((4 * k : Nat) : Int)) (.lit 3)) = ((4 * k + 3 : Nat) : Int) := addE (by omega) 3 (by omega)
      have a4 : IE.den (.add .i64 (.var ((4 * k : Nat) : Int)) (.lit 4)) = ((4 * k + 4 : Nat) : Int) := addE (by omega) 4 (by omega)
      have hgood : decide (len ≤ cap ∧ 0 + cap ≤ cap) = true := by simp; omega
      have hW : IE.den (.conv .u32 (.bits .or .u64 (.shl .u64 (.bits .or .u64 (.shl .u64 (.bits .or .u64 (.shl .u64 (.bits .or .u64 (.lit 0) (.conv .u64 (.var (g (0 + (IE.den (.add .i64 (.var ((4 * k : Nat) : Int)) (.lit 3))).toNat))))) (.lit 8)) (.conv .u64 (.var (g (0 + (IE.den (.add .i64 (.var ((4 * k : Nat) : Int)) (.lit 2))).toNat))))) (.lit 8)) (.conv .u64 (.var (g (0 + (IE.den (.add .i64 (.var ((4 * k : Nat) : Int)) (.lit 1))).toNat))))) (.lit 8)) (.conv .u64 (.var (g (0 + (IE.den (.add .i64 (.var ((4 * k : Nat) : Int)) (.lit 0))).toNat)))))) = wordB g (4 * k) := by
        have t0 := hb' (4 * k) (by omega)
        have t1 := hb' (4 * k + 1) (by omega)
        have t2 := hb' (4 * k + 2) (by omega)
        have t3 := hb' (4 * k + 3) (by omega)
        rw [a0, a1, a2, a3]
        simp only [Int.toNat_natCast, Nat.zero_add, Nat.add_zero]
        exact loadR t0 t1 t2 t3
      have hWn : IE.den (IE.conv IntKind.u32 (IE.bits BinOp.or IntKind.u64 (IE.shl IntKind.u64 (IE.bits BinOp.or IntKind.u64 (IE.shl IntKind.u64 (IE.bits BinOp.or IntKind.u64 (IE.shl IntKind.u64 (IE.bits BinOp.or IntKind.u64 (IE.lit (Int.ofNat 0)) (IE.conv IntKind.u64 (IE.var (g (0 + NE.den (IE.nat (IE.add IntKind.i64 (IE.var (↑(4 * k) : Int)) (IE.lit (Int.ofNat (2 + 1)))))))))) (IE.lit 8)) (IE.conv IntKind.u64 (IE.var (g (0 + NE.den (IE.nat (IE.add IntKind.i64 (IE.var (↑(4 * k) : Int)) (IE.lit (Int.ofNat (1 + 1)))))))))) (IE.lit 8)) (IE.conv IntKind.u64 (IE.var (g (0 + NE.den (IE.nat (IE.add IntKind.i64 (IE.var (↑(4 * k) : Int)) (IE.lit (Int.ofNat (0 + 1)))))))))) (IE.lit 8)) (IE.conv IntKind.u64 (IE.var (g (0 + NE.den (IE.nat (IE.add IntKind.i64 (IE.var (↑(4 * k) : Int)) (IE.lit (Int.ofNat 0)))))))))) = wordB g (4 * k) := Eq.trans (by kernel_rfl) hW
      have hr := wordB_range (b := g) (e := 4 * k) fun j hj => hb' _ (by omega)
      have hu : inU32 (wordB g (4 * k)) = true := (inU32_iff _).2 hr
      refine ⟨ask_ix hgood (by rw [a3]; simp; omega), by rw [a3]; simp; omega, ask_ix hgood (by rw [a2]; simp; omega), by rw [a2]; simp; omega, ask_ix hgood (by rw [a1]; simp; omega), by rw [a1]; simp; omega, ask_ix hgood (by rw [a0]; simp; omega), by rw [a0]; simp; omega, (congrArg inU32 hW).trans hu, fun he => ?_, fun he => ?_⟩
      · have he' : (rvDec (wordB g (4 * k))).err ≠ 0 := fun h => neq_true he ((congrArg (fun w => (rvDec w).err) hW).trans h)
        right
        have hre : readErr (col1 g) len k = (rvDec (wordB g (4 * k))).err := by unfold readErr; rw [if_pos h3']; rfl
        refine ⟨k, ⟨by omega, by rw [hre]; exact he', fun j hj => ⟨by omega, (i4 j hj).1⟩⟩, (congrArg (fun w => (rvDec w).err) hW).trans hre.symm, rfl, rfl, fun _ _ => rfl, trivial⟩
      · have he' : (rvDec (wordB g (4 * k))).err = 0 := (congrArg (fun w => (rvDec w).err) hW).symm.trans (neq_false he)
        refine ⟨by simp; omega, by simp, by simp; omega, ?_, fun U cap' hc1 hc2 => ?_⟩
        · show (k + 1) * 40 ≤ 140737488355328
          omega
        · have hc1' : k + 1 ≤ cap' := hc1
          refine ⟨(k + 1, cap', newH k H (rvDec (wordB g (4 * k))) U), ⟨h3', hc1', hc2, fun i hi => ?_⟩, ?_, rfl, rfl, rfl, rfl, a4, rfl, fun _ _ => rfl, rfl, fun e _ => col_new rfl (fun h => (congrArg RvIns.op (newH_lt h)).symm) (fun h => (at_op rvDec (congrArg rvDec hWn) h).trans (congrArg RvIns.op (newH_at h)).symm) (fun h => (congrArg RvIns.op (newH_gt h)).symm), fun e _ => col_new rfl (fun h => (congrArg RvIns.rd (newH_lt h)).symm) (fun h => (at_rd rvDec (congrArg rvDec hWn) h).trans (congrArg RvIns.rd (newH_at h)).symm) (fun h => (congrArg RvIns.rd (newH_gt h)).symm), fun e _ => col_new rfl (fun h => (congrArg RvIns.r1 (newH_lt h)).symm) (fun h => (at_r1 rvDec (congrArg rvDec hWn) h).trans (congrArg RvIns.r1 (newH_at h)).symm) (fun h => (congrArg RvIns.r1 (newH_gt h)).symm), fun e _ => col_new rfl (fun h => (congrArg RvIns.r2 (newH_lt h)).symm) (fun h => (at_r2 rvDec (congrArg rvDec hWn) h).trans (congrArg RvIns.r2 (newH_at h)).symm) (fun h => (congrArg RvIns.r2 (newH_gt h)).symm), fun e _ => col_new rfl (fun h => (congrArg RvIns.imm (newH_lt h)).symm) (fun h => (at_imm rvDec (congrArg rvDec hWn) h).trans (congrArg RvIns.imm (newH_at h)).symm) (fun h => (congrArg RvIns.imm (newH_gt h)).symm), trivial⟩
          · by_cases h : i < k
            · obtain ⟨q1, q2⟩ := i4 i h
              exact ⟨q1, by dsimp only; rw [newH_lt h]; exact q2⟩
            · obtain rfl : i = k := by omega
              exact ⟨he', newH_at rfl⟩
          · show len - (k + 1) < len - k
            omega
    · have hge := lss_false hge
      have h4 : 4 * k = len := by omega
      left
      refine ⟨(c, H), ⟨by dsimp only; omega, i3, by omega, fun i hi => i4 i (by omega)⟩, by omega, rfl, rfl, fun _ _ => rfl, rfl, fun _ _ => rfl, fun _ _ => rfl, fun _ _ => rfl, fun _ _ => rfl, fun _ _ => rfl, trivial⟩
end Go.Proofs.Ytiljkmcahkphiaa.Rv
