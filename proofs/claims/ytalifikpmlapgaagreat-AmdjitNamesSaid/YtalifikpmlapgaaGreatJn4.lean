/- The document's Encode of the instructions that AmdjitNames' code could be, told once each. -/
import Derived.Test.YtalifikpmlapgaaGreatJn3
namespace Go.Proofs.YtalifikpmlapgaaGreat.jitNames
open Go Go.RowKit Go.Proofs.YtalifikpmlapgaaGreat.Sx
set_option linter.unusedVariables false
def e0 : Cl := { args := [.agg [.int .i64 (.lit 1), .bool (.lit false), .bool (.lit false), .int .i64 (.lit 1), .int .i64 (.lit 0), .int .i64 (.lit 0), .int .i64 (.lit 507638), .int .i64 (.lit 0)]], gs := [], val := .tuple [.sliceG 0 1 0 5, .int .i64 (.lit 0)], new := [.grown 1 [.int .u8 (.lit 185), .int .u8 (.lit 246), .int .u8 (.lit 190), .int .u8 (.lit 7), .int .u8 (.lit 0)]] }
theorem er0 : sxFunc P R0 (fun _ => .plain 70) Tryz.f211 e0.args (gsHp e0.gs) (clDone [14] e0.val e0.new) = (True ∧ True ∧ True) := by kernel_rfl
def e1 : Cl := { args := [.agg [.int .i64 (.lit 2), .bool (.lit false), .bool (.lit false), .int .i64 (.lit 6), .int .i64 (.lit 6), .int .i64 (.lit 0), .int .i64 (.lit 0), .int .i64 (.lit 0)]], gs := [], val := .tuple [.slice 0 0 (.lit 2) (.lit 2), .int .i64 (.lit 0)], new := [.cells [.int .u8 (.lit 137), .int .u8 (.lit 246)] 5] }
theorem er1 : sxFunc P R0 (fun _ => .plain 70) Tryz.f211 e1.args (gsHp e1.gs) (clDone [5] e1.val e1.new) = (True ) := by kernel_rfl
def e2 : Cl := { args := [.agg [.int .i64 (.lit 3), .bool (.lit false), .bool (.lit false), .int .i64 (.lit 6), .int .i64 (.lit 6), .int .i64 (.lit (-66)), .int .i64 (.lit 0), .int .i64 (.lit 0)]], gs := [], val := .tuple [.sliceG 0 1 0 3, .int .i64 (.lit 0)], new := [.grown 1 [.int .u8 (.lit 139), .int .u8 (.lit 118), .int .u8 (.lit 190)]] }
theorem er2 : sxFunc P R0 (fun _ => .plain 70) Tryz.f211 e2.args (gsHp e2.gs) (clDone [10] e2.val e2.new) = (True ∧ True ∧ True) := by kernel_rfl
def e3 : Cl := { args := [.agg [.int .i64 (.lit 3), .bool (.lit false), .bool (.lit true), .int .i64 (.lit 6), .int .i64 (.lit 6), .int .i64 (.lit 1982), .int .i64 (.lit 0), .int .i64 (.lit 0)]], gs := [], val := .tuple [.sliceG 0 1 0 6, .int .i64 (.lit 0)], new := [.grown 1 [.int .u8 (.lit 139), .int .u8 (.lit 182), .int .u8 (.lit 190), .int .u8 (.lit 7), .int .u8 (.lit 0), .int .u8 (.lit 0)]] }
theorem er3 : sxFunc P R0 (fun _ => .plain 70) Tryz.f211 e3.args (gsHp e3.gs) (clDone [16] e3.val e3.new) = (True ∧ True ∧ True) := by kernel_rfl
def e4 : Cl := { args := [.agg [.int .i64 (.lit 4), .bool (.lit false), .bool (.lit false), .int .i64 (.lit 6), .int .i64 (.lit 6), .int .i64 (.lit (-66)), .int .i64 (.lit 0), .int .i64 (.lit 0)]], gs := [], val := .tuple [.sliceG 0 1 0 3, .int .i64 (.lit 0)], new := [.grown 1 [.int .u8 (.lit 137), .int .u8 (.lit 118), .int .u8 (.lit 190)]] }
theorem er4 : sxFunc P R0 (fun _ => .plain 70) Tryz.f211 e4.args (gsHp e4.gs) (clDone [10] e4.val e4.new) = (True ∧ True ∧ True) := by kernel_rfl
def e5 : Cl := { args := [.agg [.int .i64 (.lit 4), .bool (.lit false), .bool (.lit true), .int .i64 (.lit 6), .int .i64 (.lit 6), .int .i64 (.lit 1982), .int .i64 (.lit 0), .int .i64 (.lit 0)]], gs := [], val := .tuple [.sliceG 0 1 0 6, .int .i64 (.lit 0)], new := [.grown 1 [.int .u8 (.lit 137), .int .u8 (.lit 182), .int .u8 (.lit 190), .int .u8 (.lit 7), .int .u8 (.lit 0), .int .u8 (.lit 0)]] }
theorem er5 : sxFunc P R0 (fun _ => .plain 70) Tryz.f211 e5.args (gsHp e5.gs) (clDone [16] e5.val e5.new) = (True ∧ True ∧ True) := by kernel_rfl
def e6 : Cl := { args := [.agg [.int .i64 (.lit 5), .bool (.lit false), .bool (.lit false), .int .i64 (.lit 6), .int .i64 (.lit 6), .int .i64 (.lit 0), .int .i64 (.lit 0), .int .i64 (.lit 0)]], gs := [], val := .tuple [.slice 0 0 (.lit 2) (.lit 2), .int .i64 (.lit 0)], new := [.cells [.int .u8 (.lit 1), .int .u8 (.lit 246)] 5] }
theorem er6 : sxFunc P R0 (fun _ => .plain 70) Tryz.f211 e6.args (gsHp e6.gs) (clDone [5] e6.val e6.new) = (True ) := by kernel_rfl
def e7 : Cl := { args := [.agg [.int .i64 (.lit 6), .bool (.lit false), .bool (.lit false), .int .i64 (.lit 6), .int .i64 (.lit 6), .int .i64 (.lit 0), .int .i64 (.lit 0), .int .i64 (.lit 0)]], gs := [], val := .tuple [.slice 0 0 (.lit 2) (.lit 2), .int .i64 (.lit 0)], new := [.cells [.int .u8 (.lit 9), .int .u8 (.lit 246)] 5] }
theorem er7 : sxFunc P R0 (fun _ => .plain 70) Tryz.f211 e7.args (gsHp e7.gs) (clDone [5] e7.val e7.new) = (True ) := by kernel_rfl
def e8 : Cl := { args := [.agg [.int .i64 (.lit 7), .bool (.lit false), .bool (.lit false), .int .i64 (.lit 6), .int .i64 (.lit 6), .int .i64 (.lit 0), .int .i64 (.lit 0), .int .i64 (.lit 0)]], gs := [], val := .tuple [.slice 0 0 (.lit 2) (.lit 2), .int .i64 (.lit 0)], new := [.cells [.int .u8 (.lit 33), .int .u8 (.lit 246)] 5] }
theorem er8 : sxFunc P R0 (fun _ => .plain 70) Tryz.f211 e8.args (gsHp e8.gs) (clDone [5] e8.val e8.new) = (True ) := by kernel_rfl
def e9 : Cl := { args := [.agg [.int .i64 (.lit 8), .bool (.lit false), .bool (.lit false), .int .i64 (.lit 6), .int .i64 (.lit 6), .int .i64 (.lit 0), .int .i64 (.lit 0), .int .i64 (.lit 0)]], gs := [], val := .tuple [.slice 0 0 (.lit 2) (.lit 2), .int .i64 (.lit 0)], new := [.cells [.int .u8 (.lit 41), .int .u8 (.lit 246)] 5] }
theorem er9 : sxFunc P R0 (fun _ => .plain 70) Tryz.f211 e9.args (gsHp e9.gs) (clDone [5] e9.val e9.new) = (True ) := by kernel_rfl
def e10 : Cl := { args := [.agg [.int .i64 (.lit 9), .bool (.lit false), .bool (.lit false), .int .i64 (.lit 6), .int .i64 (.lit 6), .int .i64 (.lit 0), .int .i64 (.lit 0), .int .i64 (.lit 0)]], gs := [], val := .tuple [.slice 0 0 (.lit 2) (.lit 2), .int .i64 (.lit 0)], new := [.cells [.int .u8 (.lit 49), .int .u8 (.lit 246)] 5] }
theorem er10 : sxFunc P R0 (fun _ => .plain 70) Tryz.f211 e10.args (gsHp e10.gs) (clDone [5] e10.val e10.new) = (True ) := by kernel_rfl
def e11 : Cl := { args := [.agg [.int .i64 (.lit 1), .bool (.lit false), .bool (.lit false), .int .i64 (.lit 6), .int .i64 (.lit 0), .int .i64 (.lit 0), .int .i64 (.lit 7), .int .i64 (.lit 0)]], gs := [], val := .tuple [.sliceG 0 1 0 5, .int .i64 (.lit 0)], new := [.grown 1 [.int .u8 (.lit 190), .int .u8 (.lit 7), .int .u8 (.lit 0), .int .u8 (.lit 0), .int .u8 (.lit 0)]] }
theorem er11 : sxFunc P R0 (fun _ => .plain 70) Tryz.f211 e11.args (gsHp e11.gs) (clDone [14] e11.val e11.new) = (True ∧ True ∧ True) := by kernel_rfl
def e12 : Cl := { args := [.agg [.int .i64 (.lit 1), .bool (.lit false), .bool (.lit false), .int .i64 (.lit 1), .int .i64 (.lit 0), .int .i64 (.lit 0), .int .i64 (.lit 0), .int .i64 (.lit 0)]], gs := [], val := .tuple [.sliceG 0 1 0 5, .int .i64 (.lit 0)], new := [.grown 1 [.int .u8 (.lit 185), .int .u8 (.lit 0), .int .u8 (.lit 0), .int .u8 (.lit 0), .int .u8 (.lit 0)]] }
theorem er12 : sxFunc P R0 (fun _ => .plain 70) Tryz.f211 e12.args (gsHp e12.gs) (clDone [14] e12.val e12.new) = (True ∧ True ∧ True) := by kernel_rfl
def e13 : Cl := { args := [.agg [.int .i64 (.lit 2), .bool (.lit false), .bool (.lit false), .int .i64 (.lit 0), .int .i64 (.lit 6), .int .i64 (.lit 0), .int .i64 (.lit 0), .int .i64 (.lit 0)]], gs := [], val := .tuple [.slice 0 0 (.lit 2) (.lit 2), .int .i64 (.lit 0)], new := [.cells [.int .u8 (.lit 137), .int .u8 (.lit 240)] 5] }
theorem er13 : sxFunc P R0 (fun _ => .plain 70) Tryz.f211 e13.args (gsHp e13.gs) (clDone [5] e13.val e13.new) = (True ) := by kernel_rfl
def e14 : Cl := { args := [.agg [.int .i64 (.lit 1), .bool (.lit false), .bool (.lit false), .int .i64 (.lit 3), .int .i64 (.lit 0), .int .i64 (.lit 0), .int .i64 (.lit 0), .int .i64 (.lit 0)]], gs := [], val := .tuple [.sliceG 0 1 0 5, .int .i64 (.lit 0)], new := [.grown 1 [.int .u8 (.lit 187), .int .u8 (.lit 0), .int .u8 (.lit 0), .int .u8 (.lit 0), .int .u8 (.lit 0)]] }
theorem er14 : sxFunc P R0 (fun _ => .plain 70) Tryz.f211 e14.args (gsHp e14.gs) (clDone [14] e14.val e14.new) = (True ∧ True ∧ True) := by kernel_rfl
def e15 : Cl := { args := [.agg [.int .i64 (.lit 2), .bool (.lit false), .bool (.lit false), .int .i64 (.lit 0), .int .i64 (.lit 0), .int .i64 (.lit 0), .int .i64 (.lit 0), .int .i64 (.lit 0)]], gs := [], val := .tuple [.slice 0 0 (.lit 2) (.lit 2), .int .i64 (.lit 0)], new := [.cells [.int .u8 (.lit 137), .int .u8 (.lit 192)] 5] }
theorem er15 : sxFunc P R0 (fun _ => .plain 70) Tryz.f211 e15.args (gsHp e15.gs) (clDone [5] e15.val e15.new) = (True ) := by kernel_rfl
def e16 : Cl := { args := [.agg [.int .i64 (.lit 3), .bool (.lit false), .bool (.lit false), .int .i64 (.lit 0), .int .i64 (.lit 0), .int .i64 (.lit 0), .int .i64 (.lit 0), .int .i64 (.lit 0)]], gs := [], val := .tuple [.sliceG 0 1 0 3, .int .i64 (.lit 0)], new := [.grown 1 [.int .u8 (.lit 139), .int .u8 (.lit 64), .int .u8 (.lit 0)]] }
theorem er16 : sxFunc P R0 (fun _ => .plain 70) Tryz.f211 e16.args (gsHp e16.gs) (clDone [10] e16.val e16.new) = (True ∧ True ∧ True) := by kernel_rfl
def e17 : Cl := { args := [.agg [.int .i64 (.lit 3), .bool (.lit false), .bool (.lit true), .int .i64 (.lit 0), .int .i64 (.lit 0), .int .i64 (.lit 0), .int .i64 (.lit 0), .int .i64 (.lit 0)]], gs := [], val := .tuple [.sliceG 0 1 0 6, .int .i64 (.lit 0)], new := [.grown 1 [.int .u8 (.lit 139), .int .u8 (.lit 128), .int .u8 (.lit 0), .int .u8 (.lit 0), .int .u8 (.lit 0), .int .u8 (.lit 0)]] }
theorem er17 : sxFunc P R0 (fun _ => .plain 70) Tryz.f211 e17.args (gsHp e17.gs) (clDone [16] e17.val e17.new) = (True ∧ True ∧ True) := by kernel_rfl
def e18 : Cl := { args := [.agg [.int .i64 (.lit 4), .bool (.lit false), .bool (.lit false), .int .i64 (.lit 0), .int .i64 (.lit 0), .int .i64 (.lit 0), .int .i64 (.lit 0), .int .i64 (.lit 0)]], gs := [], val := .tuple [.sliceG 0 1 0 3, .int .i64 (.lit 0)], new := [.grown 1 [.int .u8 (.lit 137), .int .u8 (.lit 64), .int .u8 (.lit 0)]] }
theorem er18 : sxFunc P R0 (fun _ => .plain 70) Tryz.f211 e18.args (gsHp e18.gs) (clDone [10] e18.val e18.new) = (True ∧ True ∧ True) := by kernel_rfl
def e19 : Cl := { args := [.agg [.int .i64 (.lit 4), .bool (.lit false), .bool (.lit true), .int .i64 (.lit 0), .int .i64 (.lit 0), .int .i64 (.lit 0), .int .i64 (.lit 0), .int .i64 (.lit 0)]], gs := [], val := .tuple [.sliceG 0 1 0 6, .int .i64 (.lit 0)], new := [.grown 1 [.int .u8 (.lit 137), .int .u8 (.lit 128), .int .u8 (.lit 0), .int .u8 (.lit 0), .int .u8 (.lit 0), .int .u8 (.lit 0)]] }
theorem er19 : sxFunc P R0 (fun _ => .plain 70) Tryz.f211 e19.args (gsHp e19.gs) (clDone [16] e19.val e19.new) = (True ∧ True ∧ True) := by kernel_rfl
def e20 : Cl := { args := [.agg [.int .i64 (.lit 5), .bool (.lit false), .bool (.lit false), .int .i64 (.lit 0), .int .i64 (.lit 0), .int .i64 (.lit 0), .int .i64 (.lit 0), .int .i64 (.lit 0)]], gs := [], val := .tuple [.slice 0 0 (.lit 2) (.lit 2), .int .i64 (.lit 0)], new := [.cells [.int .u8 (.lit 1), .int .u8 (.lit 192)] 5] }
theorem er20 : sxFunc P R0 (fun _ => .plain 70) Tryz.f211 e20.args (gsHp e20.gs) (clDone [5] e20.val e20.new) = (True ) := by kernel_rfl
def e21 : Cl := { args := [.agg [.int .i64 (.lit 6), .bool (.lit false), .bool (.lit false), .int .i64 (.lit 0), .int .i64 (.lit 0), .int .i64 (.lit 0), .int .i64 (.lit 0), .int .i64 (.lit 0)]], gs := [], val := .tuple [.slice 0 0 (.lit 2) (.lit 2), .int .i64 (.lit 0)], new := [.cells [.int .u8 (.lit 9), .int .u8 (.lit 192)] 5] }
theorem er21 : sxFunc P R0 (fun _ => .plain 70) Tryz.f211 e21.args (gsHp e21.gs) (clDone [5] e21.val e21.new) = (True ) := by kernel_rfl
def e22 : Cl := { args := [.agg [.int .i64 (.lit 7), .bool (.lit false), .bool (.lit false), .int .i64 (.lit 0), .int .i64 (.lit 0), .int .i64 (.lit 0), .int .i64 (.lit 0), .int .i64 (.lit 0)]], gs := [], val := .tuple [.slice 0 0 (.lit 2) (.lit 2), .int .i64 (.lit 0)], new := [.cells [.int .u8 (.lit 33), .int .u8 (.lit 192)] 5] }
theorem er22 : sxFunc P R0 (fun _ => .plain 70) Tryz.f211 e22.args (gsHp e22.gs) (clDone [5] e22.val e22.new) = (True ) := by kernel_rfl
def e23 : Cl := { args := [.agg [.int .i64 (.lit 8), .bool (.lit false), .bool (.lit false), .int .i64 (.lit 0), .int .i64 (.lit 0), .int .i64 (.lit 0), .int .i64 (.lit 0), .int .i64 (.lit 0)]], gs := [], val := .tuple [.slice 0 0 (.lit 2) (.lit 2), .int .i64 (.lit 0)], new := [.cells [.int .u8 (.lit 41), .int .u8 (.lit 192)] 5] }
theorem er23 : sxFunc P R0 (fun _ => .plain 70) Tryz.f211 e23.args (gsHp e23.gs) (clDone [5] e23.val e23.new) = (True ) := by kernel_rfl
def e24 : Cl := { args := [.agg [.int .i64 (.lit 9), .bool (.lit false), .bool (.lit false), .int .i64 (.lit 0), .int .i64 (.lit 0), .int .i64 (.lit 0), .int .i64 (.lit 0), .int .i64 (.lit 0)]], gs := [], val := .tuple [.slice 0 0 (.lit 2) (.lit 2), .int .i64 (.lit 0)], new := [.cells [.int .u8 (.lit 49), .int .u8 (.lit 192)] 5] }
theorem er24 : sxFunc P R0 (fun _ => .plain 70) Tryz.f211 e24.args (gsHp e24.gs) (clDone [5] e24.val e24.new) = (True ) := by kernel_rfl
def e25 : Cl := { args := [.agg [.int .i64 (.lit 10), .bool (.lit false), .bool (.lit false), .int .i64 (.lit 0), .int .i64 (.lit 0), .int .i64 (.lit 0), .int .i64 (.lit 0), .int .i64 (.lit 0)]], gs := [], val := .tuple [.slice 0 0 (.lit 2) (.lit 2), .int .i64 (.lit 0)], new := [.cells [.int .u8 (.lit 57), .int .u8 (.lit 192)] 5] }
theorem er25 : sxFunc P R0 (fun _ => .plain 70) Tryz.f211 e25.args (gsHp e25.gs) (clDone [5] e25.val e25.new) = (True ) := by kernel_rfl
def e26 : Cl := { args := [.agg [.int .i64 (.lit 11), .bool (.lit false), .bool (.lit false), .int .i64 (.lit 0), .int .i64 (.lit 0), .int .i64 (.lit 0), .int .i64 (.lit 0), .int .i64 (.lit 0)]], gs := [], val := .tuple [.slice 0 0 (.lit 2) (.lit 2), .int .i64 (.lit 0)], new := [.cells [.int .u8 (.lit 133), .int .u8 (.lit 192)] 5] }
theorem er26 : sxFunc P R0 (fun _ => .plain 70) Tryz.f211 e26.args (gsHp e26.gs) (clDone [5] e26.val e26.new) = (True ) := by kernel_rfl
def e27 : Cl := { args := [.agg [.int .i64 (.lit 12), .bool (.lit false), .bool (.lit false), .int .i64 (.lit 0), .int .i64 (.lit 0), .int .i64 (.lit 0), .int .i64 (.lit 0), .int .i64 (.lit 0)]], gs := [], val := .tuple [.slice 0 0 (.lit 2) (.lit 2), .int .i64 (.lit 0)], new := [.cells [.int .u8 (.lit 135), .int .u8 (.lit 192)] 5] }
theorem er27 : sxFunc P R0 (fun _ => .plain 70) Tryz.f211 e27.args (gsHp e27.gs) (clDone [5] e27.val e27.new) = (True ) := by kernel_rfl
def e28 : Cl := { args := [.agg [.int .i64 (.lit 13), .bool (.lit false), .bool (.lit false), .int .i64 (.lit 0), .int .i64 (.lit 0), .int .i64 (.lit 0), .int .i64 (.lit 0), .int .i64 (.lit 0)]], gs := [], val := .tuple [.slice 0 0 (.lit 3) (.lit 3), .int .i64 (.lit 0)], new := [.cells [.int .u8 (.lit 15), .int .u8 (.lit 175), .int .u8 (.lit 192)] 5] }
theorem er28 : sxFunc P R0 (fun _ => .plain 70) Tryz.f211 e28.args (gsHp e28.gs) (clDone [5] e28.val e28.new) = (True ) := by kernel_rfl
def e29 : Cl := { args := [.agg [.int .i64 (.lit 14), .bool (.lit false), .bool (.lit false), .int .i64 (.lit 0), .int .i64 (.lit 0), .int .i64 (.lit 0), .int .i64 (.lit 0), .int .i64 (.lit 0)]], gs := [], val := .tuple [.sliceG 0 1 0 3, .int .i64 (.lit 0)], new := [.grown 1 [.int .u8 (.lit 131), .int .u8 (.lit 192), .int .u8 (.lit 0)]] }
theorem er29 : sxFunc P R0 (fun _ => .plain 70) Tryz.f211 e29.args (gsHp e29.gs) (clDone [8] e29.val e29.new) = (True ∧ True ∧ True ∧ True) := by kernel_rfl
def e30 : Cl := { args := [.agg [.int .i64 (.lit 14), .bool (.lit false), .bool (.lit true), .int .i64 (.lit 0), .int .i64 (.lit 0), .int .i64 (.lit 0), .int .i64 (.lit 0), .int .i64 (.lit 0)]], gs := [], val := .tuple [.sliceG 0 1 0 6, .int .i64 (.lit 0)], new := [.grown 1 [.int .u8 (.lit 129), .int .u8 (.lit 192), .int .u8 (.lit 0), .int .u8 (.lit 0), .int .u8 (.lit 0), .int .u8 (.lit 0)]] }
theorem er30 : sxFunc P R0 (fun _ => .plain 70) Tryz.f211 e30.args (gsHp e30.gs) (clDone [14] e30.val e30.new) = (True ∧ True ∧ True ∧ True) := by kernel_rfl
def e31 : Cl := { args := [.agg [.int .i64 (.lit 15), .bool (.lit false), .bool (.lit false), .int .i64 (.lit 0), .int .i64 (.lit 0), .int .i64 (.lit 0), .int .i64 (.lit 0), .int .i64 (.lit 0)]], gs := [], val := .tuple [.sliceG 0 1 0 3, .int .i64 (.lit 0)], new := [.grown 1 [.int .u8 (.lit 131), .int .u8 (.lit 232), .int .u8 (.lit 0)]] }
theorem er31 : sxFunc P R0 (fun _ => .plain 70) Tryz.f211 e31.args (gsHp e31.gs) (clDone [8] e31.val e31.new) = (True ∧ True ∧ True ∧ True) := by kernel_rfl
def e32 : Cl := { args := [.agg [.int .i64 (.lit 15), .bool (.lit false), .bool (.lit true), .int .i64 (.lit 0), .int .i64 (.lit 0), .int .i64 (.lit 0), .int .i64 (.lit 0), .int .i64 (.lit 0)]], gs := [], val := .tuple [.sliceG 0 1 0 6, .int .i64 (.lit 0)], new := [.grown 1 [.int .u8 (.lit 129), .int .u8 (.lit 232), .int .u8 (.lit 0), .int .u8 (.lit 0), .int .u8 (.lit 0), .int .u8 (.lit 0)]] }
theorem er32 : sxFunc P R0 (fun _ => .plain 70) Tryz.f211 e32.args (gsHp e32.gs) (clDone [14] e32.val e32.new) = (True ∧ True ∧ True ∧ True) := by kernel_rfl
def e33 : Cl := { args := [.agg [.int .i64 (.lit 16), .bool (.lit false), .bool (.lit false), .int .i64 (.lit 0), .int .i64 (.lit 0), .int .i64 (.lit 0), .int .i64 (.lit 0), .int .i64 (.lit 0)]], gs := [], val := .tuple [.sliceG 0 1 0 3, .int .i64 (.lit 0)], new := [.grown 1 [.int .u8 (.lit 131), .int .u8 (.lit 248), .int .u8 (.lit 0)]] }
theorem er33 : sxFunc P R0 (fun _ => .plain 70) Tryz.f211 e33.args (gsHp e33.gs) (clDone [8] e33.val e33.new) = (True ∧ True ∧ True ∧ True) := by kernel_rfl
def e34 : Cl := { args := [.agg [.int .i64 (.lit 16), .bool (.lit false), .bool (.lit true), .int .i64 (.lit 0), .int .i64 (.lit 0), .int .i64 (.lit 0), .int .i64 (.lit 0), .int .i64 (.lit 0)]], gs := [], val := .tuple [.sliceG 0 1 0 6, .int .i64 (.lit 0)], new := [.grown 1 [.int .u8 (.lit 129), .int .u8 (.lit 248), .int .u8 (.lit 0), .int .u8 (.lit 0), .int .u8 (.lit 0), .int .u8 (.lit 0)]] }
theorem er34 : sxFunc P R0 (fun _ => .plain 70) Tryz.f211 e34.args (gsHp e34.gs) (clDone [14] e34.val e34.new) = (True ∧ True ∧ True ∧ True) := by kernel_rfl
def e35 : Cl := { args := [.agg [.int .i64 (.lit 17), .bool (.lit false), .bool (.lit false), .int .i64 (.lit 0), .int .i64 (.lit 0), .int .i64 (.lit 0), .int .i64 (.lit 0), .int .i64 (.lit 0)]], gs := [], val := .tuple [.sliceG 0 1 0 3, .int .i64 (.lit 0)], new := [.grown 1 [.int .u8 (.lit 131), .int .u8 (.lit 224), .int .u8 (.lit 0)]] }
theorem er35 : sxFunc P R0 (fun _ => .plain 70) Tryz.f211 e35.args (gsHp e35.gs) (clDone [8] e35.val e35.new) = (True ∧ True ∧ True ∧ True) := by kernel_rfl
def e36 : Cl := { args := [.agg [.int .i64 (.lit 17), .bool (.lit false), .bool (.lit true), .int .i64 (.lit 0), .int .i64 (.lit 0), .int .i64 (.lit 0), .int .i64 (.lit 0), .int .i64 (.lit 0)]], gs := [], val := .tuple [.sliceG 0 1 0 6, .int .i64 (.lit 0)], new := [.grown 1 [.int .u8 (.lit 129), .int .u8 (.lit 224), .int .u8 (.lit 0), .int .u8 (.lit 0), .int .u8 (.lit 0), .int .u8 (.lit 0)]] }
theorem er36 : sxFunc P R0 (fun _ => .plain 70) Tryz.f211 e36.args (gsHp e36.gs) (clDone [14] e36.val e36.new) = (True ∧ True ∧ True ∧ True) := by kernel_rfl
def e37 : Cl := { args := [.agg [.int .i64 (.lit 18), .bool (.lit false), .bool (.lit false), .int .i64 (.lit 0), .int .i64 (.lit 0), .int .i64 (.lit 0), .int .i64 (.lit 0), .int .i64 (.lit 0)]], gs := [], val := .tuple [.slice 0 0 (.lit 2) (.lit 2), .int .i64 (.lit 0)], new := [.cells [.int .u8 (.lit 247), .int .u8 (.lit 216)] 5] }
theorem er37 : sxFunc P R0 (fun _ => .plain 70) Tryz.f211 e37.args (gsHp e37.gs) (clDone [5] e37.val e37.new) = (True ) := by kernel_rfl
def e38 : Cl := { args := [.agg [.int .i64 (.lit 19), .bool (.lit false), .bool (.lit false), .int .i64 (.lit 0), .int .i64 (.lit 0), .int .i64 (.lit 0), .int .i64 (.lit 0), .int .i64 (.lit 0)]], gs := [], val := .tuple [.slice 0 0 (.lit 2) (.lit 2), .int .i64 (.lit 0)], new := [.cells [.int .u8 (.lit 247), .int .u8 (.lit 208)] 5] }
theorem er38 : sxFunc P R0 (fun _ => .plain 70) Tryz.f211 e38.args (gsHp e38.gs) (clDone [5] e38.val e38.new) = (True ) := by kernel_rfl
def e39 : Cl := { args := [.agg [.int .i64 (.lit 20), .bool (.lit false), .bool (.lit false), .int .i64 (.lit 0), .int .i64 (.lit 0), .int .i64 (.lit 0), .int .i64 (.lit 0), .int .i64 (.lit 0)]], gs := [], val := .tuple [.slice 0 0 (.lit 2) (.lit 2), .int .i64 (.lit 0)], new := [.cells [.int .u8 (.lit 247), .int .u8 (.lit 240)] 5] }
theorem er39 : sxFunc P R0 (fun _ => .plain 70) Tryz.f211 e39.args (gsHp e39.gs) (clDone [5] e39.val e39.new) = (True ) := by kernel_rfl
def e40 : Cl := { args := [.agg [.int .i64 (.lit 21), .bool (.lit false), .bool (.lit false), .int .i64 (.lit 0), .int .i64 (.lit 0), .int .i64 (.lit 0), .int .i64 (.lit 0), .int .i64 (.lit 0)]], gs := [], val := .tuple [.slice 0 0 (.lit 2) (.lit 2), .int .i64 (.lit 0)], new := [.cells [.int .u8 (.lit 211), .int .u8 (.lit 224)] 5] }
theorem er40 : sxFunc P R0 (fun _ => .plain 70) Tryz.f211 e40.args (gsHp e40.gs) (clDone [5] e40.val e40.new) = (True ) := by kernel_rfl
def e41 : Cl := { args := [.agg [.int .i64 (.lit 22), .bool (.lit false), .bool (.lit false), .int .i64 (.lit 0), .int .i64 (.lit 0), .int .i64 (.lit 0), .int .i64 (.lit 0), .int .i64 (.lit 0)]], gs := [], val := .tuple [.slice 0 0 (.lit 2) (.lit 2), .int .i64 (.lit 0)], new := [.cells [.int .u8 (.lit 211), .int .u8 (.lit 232)] 5] }
theorem er41 : sxFunc P R0 (fun _ => .plain 70) Tryz.f211 e41.args (gsHp e41.gs) (clDone [5] e41.val e41.new) = (True ) := by kernel_rfl
def e42 : Cl := { args := [.agg [.int .i64 (.lit 23), .bool (.lit false), .bool (.lit false), .int .i64 (.lit 3), .int .i64 (.lit 0), .int .i64 (.lit 0), .int .i64 (.lit 0), .int .i64 (.lit 0)]], gs := [], val := .tuple [.slice 0 0 (.lit 1) (.lit 1), .int .i64 (.lit 0)], new := [.cells [.int .u8 (.lit 83)] 5] }
theorem er42 : sxFunc P R0 (fun _ => .plain 70) Tryz.f211 e42.args (gsHp e42.gs) (clDone [5] e42.val e42.new) = (True ) := by kernel_rfl
def e43 : Cl := { args := [.agg [.int .i64 (.lit 24), .bool (.lit false), .bool (.lit false), .int .i64 (.lit 3), .int .i64 (.lit 0), .int .i64 (.lit 0), .int .i64 (.lit 0), .int .i64 (.lit 0)]], gs := [], val := .tuple [.slice 0 0 (.lit 1) (.lit 1), .int .i64 (.lit 0)], new := [.cells [.int .u8 (.lit 91)] 5] }
theorem er43 : sxFunc P R0 (fun _ => .plain 70) Tryz.f211 e43.args (gsHp e43.gs) (clDone [5] e43.val e43.new) = (True ) := by kernel_rfl
def e44 : Cl := { args := [.agg [.int .i64 (.lit 25), .bool (.lit false), .bool (.lit false), .int .i64 (.lit 0), .int .i64 (.lit 0), .int .i64 (.lit 0), .int .i64 (.lit 0), .int .i64 (.lit 0)]], gs := [], val := .tuple [.sliceG 0 1 0 2, .int .i64 (.lit 0)], new := [.grown 1 [.int .u8 (.lit 235), .int .u8 (.lit 0)]] }
theorem er44 : sxFunc P R0 (fun _ => .plain 70) Tryz.f211 e44.args (gsHp e44.gs) (clDone [8] e44.val e44.new) = (True ∧ True ∧ True) := by kernel_rfl
def e45 : Cl := { args := [.agg [.int .i64 (.lit 25), .bool (.lit false), .bool (.lit true), .int .i64 (.lit 0), .int .i64 (.lit 0), .int .i64 (.lit 0), .int .i64 (.lit 0), .int .i64 (.lit 0)]], gs := [], val := .tuple [.sliceG 0 1 0 5, .int .i64 (.lit 0)], new := [.grown 1 [.int .u8 (.lit 233), .int .u8 (.lit 0), .int .u8 (.lit 0), .int .u8 (.lit 0), .int .u8 (.lit 0)]] }
theorem er45 : sxFunc P R0 (fun _ => .plain 70) Tryz.f211 e45.args (gsHp e45.gs) (clDone [14] e45.val e45.new) = (True ) := by kernel_rfl
def e46 : Cl := { args := [.agg [.int .i64 (.lit 26), .bool (.lit false), .bool (.lit false), .int .i64 (.lit 0), .int .i64 (.lit 0), .int .i64 (.lit 0), .int .i64 (.lit 0), .int .i64 (.lit 3)]], gs := [], val := .tuple [.sliceG 0 1 0 2, .int .i64 (.lit 0)], new := [.grown 1 [.int .u8 (.lit 115), .int .u8 (.lit 0)]] }
theorem er46 : sxFunc P R0 (fun _ => .plain 70) Tryz.f211 e46.args (gsHp e46.gs) (clDone [8] e46.val e46.new) = (True ∧ True ∧ True) := by kernel_rfl
def e47 : Cl := { args := [.agg [.int .i64 (.lit 26), .bool (.lit false), .bool (.lit true), .int .i64 (.lit 0), .int .i64 (.lit 0), .int .i64 (.lit 0), .int .i64 (.lit 0), .int .i64 (.lit 0)]], gs := [], val := .tuple [.nils, .int .i64 (.lit 181)], new := [] }
theorem er47 : sxFunc P R0 (fun _ => .plain 70) Tryz.f211 e47.args (gsHp e47.gs) (clDone [] e47.val e47.new) = (True ) := by kernel_rfl
def e48 : Cl := { args := [.agg [.int .i64 (.lit 27), .bool (.lit false), .bool (.lit false), .int .i64 (.lit 0), .int .i64 (.lit 0), .int .i64 (.lit 0), .int .i64 (.lit 0), .int .i64 (.lit 0)]], gs := [], val := .tuple [.slice 0 0 (.lit 1) (.lit 1), .int .i64 (.lit 0)], new := [.cells [.int .u8 (.lit 195)] 5] }
theorem er48 : sxFunc P R0 (fun _ => .plain 70) Tryz.f211 e48.args (gsHp e48.gs) (clDone [5] e48.val e48.new) = (True ) := by kernel_rfl
def eAll : List Cl := [e0, e1, e2, e3, e4, e5, e6, e7, e8, e9, e10, e11, e12, e13, e14, e15, e16, e17, e18, e19, e20, e21, e22, e23, e24, e25, e26, e27, e28, e29, e30, e31, e32, e33, e34, e35, e36, e37, e38, e39, e40, e41, e42, e43, e44, e45, e46, e47, e48]
noncomputable def rencS : SpecFn := clSpec eAll (sxFunc P R0 (fun _ => .plain 70) Tryz.f211)
theorem renc_ok : SpecOk P 211 rencS := by
  have hs := func_sound (un := fun _ => .plain 70) R0_ok Tryz.func211
  refine clSpec_ok hs hs fun c hc => ?_
  simp only [eAll, List.mem_cons, List.not_mem_nil, or_false] at hc
  rcases hc with rfl | rfl | rfl | rfl | rfl | rfl | rfl | rfl | rfl | rfl | rfl | rfl | rfl | rfl | rfl | rfl | rfl | rfl | rfl | rfl | rfl | rfl | rfl | rfl | rfl | rfl | rfl | rfl | rfl | rfl | rfl | rfl | rfl | rfl | rfl | rfl | rfl | rfl | rfl | rfl | rfl | rfl | rfl | rfl | rfl | rfl | rfl | rfl | rfl
  · exact ⟨[14], by rw [er0]; simp⟩
  · exact ⟨[5], by rw [er1]; simp⟩
  · exact ⟨[10], by rw [er2]; simp⟩
  · exact ⟨[16], by rw [er3]; simp⟩
  · exact ⟨[10], by rw [er4]; simp⟩
  · exact ⟨[16], by rw [er5]; simp⟩
  · exact ⟨[5], by rw [er6]; simp⟩
  · exact ⟨[5], by rw [er7]; simp⟩
  · exact ⟨[5], by rw [er8]; simp⟩
  · exact ⟨[5], by rw [er9]; simp⟩
  · exact ⟨[5], by rw [er10]; simp⟩
  · exact ⟨[14], by rw [er11]; simp⟩
  · exact ⟨[14], by rw [er12]; simp⟩
  · exact ⟨[5], by rw [er13]; simp⟩
  · exact ⟨[14], by rw [er14]; simp⟩
  · exact ⟨[5], by rw [er15]; simp⟩
  · exact ⟨[10], by rw [er16]; simp⟩
  · exact ⟨[16], by rw [er17]; simp⟩
  · exact ⟨[10], by rw [er18]; simp⟩
  · exact ⟨[16], by rw [er19]; simp⟩
  · exact ⟨[5], by rw [er20]; simp⟩
  · exact ⟨[5], by rw [er21]; simp⟩
  · exact ⟨[5], by rw [er22]; simp⟩
  · exact ⟨[5], by rw [er23]; simp⟩
  · exact ⟨[5], by rw [er24]; simp⟩
  · exact ⟨[5], by rw [er25]; simp⟩
  · exact ⟨[5], by rw [er26]; simp⟩
  · exact ⟨[5], by rw [er27]; simp⟩
  · exact ⟨[5], by rw [er28]; simp⟩
  · exact ⟨[8], by rw [er29]; simp⟩
  · exact ⟨[14], by rw [er30]; simp⟩
  · exact ⟨[8], by rw [er31]; simp⟩
  · exact ⟨[14], by rw [er32]; simp⟩
  · exact ⟨[8], by rw [er33]; simp⟩
  · exact ⟨[14], by rw [er34]; simp⟩
  · exact ⟨[8], by rw [er35]; simp⟩
  · exact ⟨[14], by rw [er36]; simp⟩
  · exact ⟨[5], by rw [er37]; simp⟩
  · exact ⟨[5], by rw [er38]; simp⟩
  · exact ⟨[5], by rw [er39]; simp⟩
  · exact ⟨[5], by rw [er40]; simp⟩
  · exact ⟨[5], by rw [er41]; simp⟩
  · exact ⟨[5], by rw [er42]; simp⟩
  · exact ⟨[5], by rw [er43]; simp⟩
  · exact ⟨[8], by rw [er44]; simp⟩
  · exact ⟨[14], by rw [er45]; simp⟩
  · exact ⟨[8], by rw [er46]; simp⟩
  · exact ⟨[], by rw [er47]; simp⟩
  · exact ⟨[5], by rw [er48]; simp⟩
end Go.Proofs.YtalifikpmlapgaaGreat.jitNames
