/- The document's guesses at AmdjitNames' code, told once each. -/
import Derived.Test.YtalifikpmlapgaaGreatJn3
import Derived.Test.YtalifikpmlapgaaGreatSxf
namespace Go.Proofs.YtalifikpmlapgaaGreat.jitNames
open Go Go.RowKit Go.Proofs.YtalifikpmlapgaaGreat.Sx
set_option linter.unusedVariables false
def g0 : Rc := { sz := 1, st := 0, len := 10, cells := codeCells, rest := [.int .i64 (.lit 0), .int .i64 (.lit 1)], val := .sliceG 0 8 0 1, new := [.grown 8 [.int .i64 (.lit 1), .bool (.lit false), .bool (.lit false), .int .i64 (.lit 1), .int .i64 (.lit 0), .int .i64 (.lit 0), .int .i64 (.lit 507638), .int .i64 (.lit 0)]] }
theorem gr0 : sxFunc P R0 (fun _ => .plain 70) Tryz.f147 (rcArgs g0) (rcHp g0) (rcDone g0 [5]) = (True ) := by kernel_rfl
def g1 : Rc := { sz := 1, st := 0, len := 10, cells := codeCells, rest := [.int .i64 (.lit 0), .int .i64 (.lit 2)], val := .sliceG 0 8 0 1, new := [.grown 8 [.int .i64 (.lit 2), .bool (.lit false), .bool (.lit false), .int .i64 (.lit 6), .int .i64 (.lit 6), .int .i64 (.lit 0), .int .i64 (.lit 0), .int .i64 (.lit 0)]] }
theorem gr1 : sxFunc P R0 (fun _ => .plain 70) Tryz.f147 (rcArgs g1) (rcHp g1) (rcDone g1 [5]) = (True ) := by kernel_rfl
def g2 : Rc := { sz := 1, st := 0, len := 10, cells := codeCells, rest := [.int .i64 (.lit 0), .int .i64 (.lit 3)], val := .sliceG 0 8 0 2, new := [.grown 8 [.int .i64 (.lit 3), .bool (.lit false), .bool (.lit false), .int .i64 (.lit 6), .int .i64 (.lit 6), .int .i64 (.lit (-66)), .int .i64 (.lit 0), .int .i64 (.lit 0), .int .i64 (.lit 3), .bool (.lit false), .bool (.lit true), .int .i64 (.lit 6), .int .i64 (.lit 6), .int .i64 (.lit 1982), .int .i64 (.lit 0), .int .i64 (.lit 0)]] }
theorem gr2 : sxFunc P R0 (fun _ => .plain 70) Tryz.f147 (rcArgs g2) (rcHp g2) (rcDone g2 [8]) = (True ) := by kernel_rfl
def g3 : Rc := { sz := 1, st := 0, len := 10, cells := codeCells, rest := [.int .i64 (.lit 0), .int .i64 (.lit 4)], val := .sliceG 0 8 0 2, new := [.grown 8 [.int .i64 (.lit 4), .bool (.lit false), .bool (.lit false), .int .i64 (.lit 6), .int .i64 (.lit 6), .int .i64 (.lit (-66)), .int .i64 (.lit 0), .int .i64 (.lit 0), .int .i64 (.lit 4), .bool (.lit false), .bool (.lit true), .int .i64 (.lit 6), .int .i64 (.lit 6), .int .i64 (.lit 1982), .int .i64 (.lit 0), .int .i64 (.lit 0)]] }
theorem gr3 : sxFunc P R0 (fun _ => .plain 70) Tryz.f147 (rcArgs g3) (rcHp g3) (rcDone g3 [8]) = (True ) := by kernel_rfl
def g4 : Rc := { sz := 1, st := 0, len := 10, cells := codeCells, rest := [.int .i64 (.lit 0), .int .i64 (.lit 5)], val := .sliceG 0 8 0 1, new := [.grown 8 [.int .i64 (.lit 5), .bool (.lit false), .bool (.lit false), .int .i64 (.lit 6), .int .i64 (.lit 6), .int .i64 (.lit 0), .int .i64 (.lit 0), .int .i64 (.lit 0)]] }
theorem gr4 : sxFunc P R0 (fun _ => .plain 70) Tryz.f147 (rcArgs g4) (rcHp g4) (rcDone g4 [5]) = (True ) := by kernel_rfl
def g5 : Rc := { sz := 1, st := 0, len := 10, cells := codeCells, rest := [.int .i64 (.lit 0), .int .i64 (.lit 6)], val := .sliceG 0 8 0 1, new := [.grown 8 [.int .i64 (.lit 6), .bool (.lit false), .bool (.lit false), .int .i64 (.lit 6), .int .i64 (.lit 6), .int .i64 (.lit 0), .int .i64 (.lit 0), .int .i64 (.lit 0)]] }
theorem gr5 : sxFunc P R0 (fun _ => .plain 70) Tryz.f147 (rcArgs g5) (rcHp g5) (rcDone g5 [5]) = (True ) := by kernel_rfl
def g6 : Rc := { sz := 1, st := 0, len := 10, cells := codeCells, rest := [.int .i64 (.lit 0), .int .i64 (.lit 7)], val := .sliceG 0 8 0 1, new := [.grown 8 [.int .i64 (.lit 7), .bool (.lit false), .bool (.lit false), .int .i64 (.lit 6), .int .i64 (.lit 6), .int .i64 (.lit 0), .int .i64 (.lit 0), .int .i64 (.lit 0)]] }
theorem gr6 : sxFunc P R0 (fun _ => .plain 70) Tryz.f147 (rcArgs g6) (rcHp g6) (rcDone g6 [5]) = (True ) := by kernel_rfl
def g7 : Rc := { sz := 1, st := 0, len := 10, cells := codeCells, rest := [.int .i64 (.lit 0), .int .i64 (.lit 8)], val := .sliceG 0 8 0 1, new := [.grown 8 [.int .i64 (.lit 8), .bool (.lit false), .bool (.lit false), .int .i64 (.lit 6), .int .i64 (.lit 6), .int .i64 (.lit 0), .int .i64 (.lit 0), .int .i64 (.lit 0)]] }
theorem gr7 : sxFunc P R0 (fun _ => .plain 70) Tryz.f147 (rcArgs g7) (rcHp g7) (rcDone g7 [5]) = (True ) := by kernel_rfl
def g8 : Rc := { sz := 1, st := 0, len := 10, cells := codeCells, rest := [.int .i64 (.lit 0), .int .i64 (.lit 9)], val := .sliceG 0 8 0 1, new := [.grown 8 [.int .i64 (.lit 9), .bool (.lit false), .bool (.lit false), .int .i64 (.lit 6), .int .i64 (.lit 6), .int .i64 (.lit 0), .int .i64 (.lit 0), .int .i64 (.lit 0)]] }
theorem gr8 : sxFunc P R0 (fun _ => .plain 70) Tryz.f147 (rcArgs g8) (rcHp g8) (rcDone g8 [5]) = (True ) := by kernel_rfl
def g9 : Rc := { sz := 1, st := 0, len := 10, cells := codeCells, rest := [.int .i64 (.lit 2), .int .i64 (.lit 1)], val := .sliceG 0 8 0 1, new := [.grown 8 [.int .i64 (.lit 1), .bool (.lit false), .bool (.lit false), .int .i64 (.lit 6), .int .i64 (.lit 0), .int .i64 (.lit 0), .int .i64 (.lit 7), .int .i64 (.lit 0)]] }
theorem gr9 : sxFunc P R0 (fun _ => .plain 70) Tryz.f147 (rcArgs g9) (rcHp g9) (rcDone g9 [5]) = (True ) := by kernel_rfl
def g10 : Rc := { sz := 1, st := 0, len := 10, cells := codeCells, rest := [.int .i64 (.lit 7), .int .i64 (.lit 1)], val := .sliceG 0 8 0 1, new := [.grown 8 [.int .i64 (.lit 1), .bool (.lit false), .bool (.lit false), .int .i64 (.lit 1), .int .i64 (.lit 0), .int .i64 (.lit 0), .int .i64 (.lit 0), .int .i64 (.lit 0)]] }
theorem gr10 : sxFunc P R0 (fun _ => .plain 70) Tryz.f147 (rcArgs g10) (rcHp g10) (rcDone g10 [5]) = (True ) := by kernel_rfl
def g11 : Rc := { sz := 1, st := 0, len := 10, cells := codeCells, rest := [.int .i64 (.lit 7), .int .i64 (.lit 2)], val := .sliceG 0 8 0 1, new := [.grown 8 [.int .i64 (.lit 2), .bool (.lit false), .bool (.lit false), .int .i64 (.lit 0), .int .i64 (.lit 6), .int .i64 (.lit 0), .int .i64 (.lit 0), .int .i64 (.lit 0)]] }
theorem gr11 : sxFunc P R0 (fun _ => .plain 70) Tryz.f147 (rcArgs g11) (rcHp g11) (rcDone g11 [5]) = (True ) := by kernel_rfl
def g12 : Rc := { sz := 1, st := 0, len := 10, cells := codeCells, rest := [.int .i64 (.lit 9), .int .i64 (.lit 1)], val := .sliceG 0 8 0 1, new := [.grown 8 [.int .i64 (.lit 1), .bool (.lit false), .bool (.lit false), .int .i64 (.lit 3), .int .i64 (.lit 0), .int .i64 (.lit 0), .int .i64 (.lit 0), .int .i64 (.lit 0)]] }
theorem gr12 : sxFunc P R0 (fun _ => .plain 70) Tryz.f147 (rcArgs g12) (rcHp g12) (rcDone g12 [5]) = (True ) := by kernel_rfl
def g13 : Rc := { sz := 1, st := 0, len := 10, cells := codeCells, rest := [.int .i64 (.lit 9), .int .i64 (.lit 2)], val := .sliceG 0 8 0 1, new := [.grown 8 [.int .i64 (.lit 2), .bool (.lit false), .bool (.lit false), .int .i64 (.lit 0), .int .i64 (.lit 0), .int .i64 (.lit 0), .int .i64 (.lit 0), .int .i64 (.lit 0)]] }
theorem gr13 : sxFunc P R0 (fun _ => .plain 70) Tryz.f147 (rcArgs g13) (rcHp g13) (rcDone g13 [5]) = (True ) := by kernel_rfl
def g14 : Rc := { sz := 1, st := 0, len := 10, cells := codeCells, rest := [.int .i64 (.lit 9), .int .i64 (.lit 3)], val := .sliceG 0 8 0 2, new := [.grown 8 [.int .i64 (.lit 3), .bool (.lit false), .bool (.lit false), .int .i64 (.lit 0), .int .i64 (.lit 0), .int .i64 (.lit 0), .int .i64 (.lit 0), .int .i64 (.lit 0), .int .i64 (.lit 3), .bool (.lit false), .bool (.lit true), .int .i64 (.lit 0), .int .i64 (.lit 0), .int .i64 (.lit 0), .int .i64 (.lit 0), .int .i64 (.lit 0)]] }
theorem gr14 : sxFunc P R0 (fun _ => .plain 70) Tryz.f147 (rcArgs g14) (rcHp g14) (rcDone g14 [8]) = (True ) := by kernel_rfl
def g15 : Rc := { sz := 1, st := 0, len := 10, cells := codeCells, rest := [.int .i64 (.lit 9), .int .i64 (.lit 4)], val := .sliceG 0 8 0 2, new := [.grown 8 [.int .i64 (.lit 4), .bool (.lit false), .bool (.lit false), .int .i64 (.lit 0), .int .i64 (.lit 0), .int .i64 (.lit 0), .int .i64 (.lit 0), .int .i64 (.lit 0), .int .i64 (.lit 4), .bool (.lit false), .bool (.lit true), .int .i64 (.lit 0), .int .i64 (.lit 0), .int .i64 (.lit 0), .int .i64 (.lit 0), .int .i64 (.lit 0)]] }
theorem gr15 : sxFunc P R0 (fun _ => .plain 70) Tryz.f147 (rcArgs g15) (rcHp g15) (rcDone g15 [8]) = (True ) := by kernel_rfl
def g16 : Rc := { sz := 1, st := 0, len := 10, cells := codeCells, rest := [.int .i64 (.lit 9), .int .i64 (.lit 5)], val := .sliceG 0 8 0 1, new := [.grown 8 [.int .i64 (.lit 5), .bool (.lit false), .bool (.lit false), .int .i64 (.lit 0), .int .i64 (.lit 0), .int .i64 (.lit 0), .int .i64 (.lit 0), .int .i64 (.lit 0)]] }
theorem gr16 : sxFunc P R0 (fun _ => .plain 70) Tryz.f147 (rcArgs g16) (rcHp g16) (rcDone g16 [5]) = (True ) := by kernel_rfl
def g17 : Rc := { sz := 1, st := 0, len := 10, cells := codeCells, rest := [.int .i64 (.lit 9), .int .i64 (.lit 6)], val := .sliceG 0 8 0 1, new := [.grown 8 [.int .i64 (.lit 6), .bool (.lit false), .bool (.lit false), .int .i64 (.lit 0), .int .i64 (.lit 0), .int .i64 (.lit 0), .int .i64 (.lit 0), .int .i64 (.lit 0)]] }
theorem gr17 : sxFunc P R0 (fun _ => .plain 70) Tryz.f147 (rcArgs g17) (rcHp g17) (rcDone g17 [5]) = (True ) := by kernel_rfl
def g18 : Rc := { sz := 1, st := 0, len := 10, cells := codeCells, rest := [.int .i64 (.lit 9), .int .i64 (.lit 7)], val := .sliceG 0 8 0 1, new := [.grown 8 [.int .i64 (.lit 7), .bool (.lit false), .bool (.lit false), .int .i64 (.lit 0), .int .i64 (.lit 0), .int .i64 (.lit 0), .int .i64 (.lit 0), .int .i64 (.lit 0)]] }
theorem gr18 : sxFunc P R0 (fun _ => .plain 70) Tryz.f147 (rcArgs g18) (rcHp g18) (rcDone g18 [5]) = (True ) := by kernel_rfl
def g19 : Rc := { sz := 1, st := 0, len := 10, cells := codeCells, rest := [.int .i64 (.lit 9), .int .i64 (.lit 8)], val := .sliceG 0 8 0 1, new := [.grown 8 [.int .i64 (.lit 8), .bool (.lit false), .bool (.lit false), .int .i64 (.lit 0), .int .i64 (.lit 0), .int .i64 (.lit 0), .int .i64 (.lit 0), .int .i64 (.lit 0)]] }
theorem gr19 : sxFunc P R0 (fun _ => .plain 70) Tryz.f147 (rcArgs g19) (rcHp g19) (rcDone g19 [5]) = (True ) := by kernel_rfl
def g20 : Rc := { sz := 1, st := 0, len := 10, cells := codeCells, rest := [.int .i64 (.lit 9), .int .i64 (.lit 9)], val := .sliceG 0 8 0 1, new := [.grown 8 [.int .i64 (.lit 9), .bool (.lit false), .bool (.lit false), .int .i64 (.lit 0), .int .i64 (.lit 0), .int .i64 (.lit 0), .int .i64 (.lit 0), .int .i64 (.lit 0)]] }
theorem gr20 : sxFunc P R0 (fun _ => .plain 70) Tryz.f147 (rcArgs g20) (rcHp g20) (rcDone g20 [5]) = (True ) := by kernel_rfl
def g21 : Rc := { sz := 1, st := 0, len := 10, cells := codeCells, rest := [.int .i64 (.lit 9), .int .i64 (.lit 10)], val := .sliceG 0 8 0 1, new := [.grown 8 [.int .i64 (.lit 10), .bool (.lit false), .bool (.lit false), .int .i64 (.lit 0), .int .i64 (.lit 0), .int .i64 (.lit 0), .int .i64 (.lit 0), .int .i64 (.lit 0)]] }
theorem gr21 : sxFunc P R0 (fun _ => .plain 70) Tryz.f147 (rcArgs g21) (rcHp g21) (rcDone g21 [5]) = (True ) := by kernel_rfl
def g22 : Rc := { sz := 1, st := 0, len := 10, cells := codeCells, rest := [.int .i64 (.lit 9), .int .i64 (.lit 11)], val := .sliceG 0 8 0 1, new := [.grown 8 [.int .i64 (.lit 11), .bool (.lit false), .bool (.lit false), .int .i64 (.lit 0), .int .i64 (.lit 0), .int .i64 (.lit 0), .int .i64 (.lit 0), .int .i64 (.lit 0)]] }
theorem gr22 : sxFunc P R0 (fun _ => .plain 70) Tryz.f147 (rcArgs g22) (rcHp g22) (rcDone g22 [5]) = (True ) := by kernel_rfl
def g23 : Rc := { sz := 1, st := 0, len := 10, cells := codeCells, rest := [.int .i64 (.lit 9), .int .i64 (.lit 12)], val := .sliceG 0 8 0 1, new := [.grown 8 [.int .i64 (.lit 12), .bool (.lit false), .bool (.lit false), .int .i64 (.lit 0), .int .i64 (.lit 0), .int .i64 (.lit 0), .int .i64 (.lit 0), .int .i64 (.lit 0)]] }
theorem gr23 : sxFunc P R0 (fun _ => .plain 70) Tryz.f147 (rcArgs g23) (rcHp g23) (rcDone g23 [5]) = (True ) := by kernel_rfl
def g24 : Rc := { sz := 1, st := 0, len := 10, cells := codeCells, rest := [.int .i64 (.lit 9), .int .i64 (.lit 13)], val := .sliceG 0 8 0 1, new := [.grown 8 [.int .i64 (.lit 13), .bool (.lit false), .bool (.lit false), .int .i64 (.lit 0), .int .i64 (.lit 0), .int .i64 (.lit 0), .int .i64 (.lit 0), .int .i64 (.lit 0)]] }
theorem gr24 : sxFunc P R0 (fun _ => .plain 70) Tryz.f147 (rcArgs g24) (rcHp g24) (rcDone g24 [5]) = (True ) := by kernel_rfl
def g25 : Rc := { sz := 1, st := 0, len := 10, cells := codeCells, rest := [.int .i64 (.lit 9), .int .i64 (.lit 14)], val := .sliceG 0 8 0 2, new := [.grown 8 [.int .i64 (.lit 14), .bool (.lit false), .bool (.lit false), .int .i64 (.lit 0), .int .i64 (.lit 0), .int .i64 (.lit 0), .int .i64 (.lit 0), .int .i64 (.lit 0), .int .i64 (.lit 14), .bool (.lit false), .bool (.lit true), .int .i64 (.lit 0), .int .i64 (.lit 0), .int .i64 (.lit 0), .int .i64 (.lit 0), .int .i64 (.lit 0)]] }
theorem gr25 : sxFunc P R0 (fun _ => .plain 70) Tryz.f147 (rcArgs g25) (rcHp g25) (rcDone g25 [8]) = (True ) := by kernel_rfl
def g26 : Rc := { sz := 1, st := 0, len := 10, cells := codeCells, rest := [.int .i64 (.lit 9), .int .i64 (.lit 15)], val := .sliceG 0 8 0 2, new := [.grown 8 [.int .i64 (.lit 15), .bool (.lit false), .bool (.lit false), .int .i64 (.lit 0), .int .i64 (.lit 0), .int .i64 (.lit 0), .int .i64 (.lit 0), .int .i64 (.lit 0), .int .i64 (.lit 15), .bool (.lit false), .bool (.lit true), .int .i64 (.lit 0), .int .i64 (.lit 0), .int .i64 (.lit 0), .int .i64 (.lit 0), .int .i64 (.lit 0)]] }
theorem gr26 : sxFunc P R0 (fun _ => .plain 70) Tryz.f147 (rcArgs g26) (rcHp g26) (rcDone g26 [8]) = (True ) := by kernel_rfl
def g27 : Rc := { sz := 1, st := 0, len := 10, cells := codeCells, rest := [.int .i64 (.lit 9), .int .i64 (.lit 16)], val := .sliceG 0 8 0 2, new := [.grown 8 [.int .i64 (.lit 16), .bool (.lit false), .bool (.lit false), .int .i64 (.lit 0), .int .i64 (.lit 0), .int .i64 (.lit 0), .int .i64 (.lit 0), .int .i64 (.lit 0), .int .i64 (.lit 16), .bool (.lit false), .bool (.lit true), .int .i64 (.lit 0), .int .i64 (.lit 0), .int .i64 (.lit 0), .int .i64 (.lit 0), .int .i64 (.lit 0)]] }
theorem gr27 : sxFunc P R0 (fun _ => .plain 70) Tryz.f147 (rcArgs g27) (rcHp g27) (rcDone g27 [8]) = (True ) := by kernel_rfl
def g28 : Rc := { sz := 1, st := 0, len := 10, cells := codeCells, rest := [.int .i64 (.lit 9), .int .i64 (.lit 17)], val := .sliceG 0 8 0 2, new := [.grown 8 [.int .i64 (.lit 17), .bool (.lit false), .bool (.lit false), .int .i64 (.lit 0), .int .i64 (.lit 0), .int .i64 (.lit 0), .int .i64 (.lit 0), .int .i64 (.lit 0), .int .i64 (.lit 17), .bool (.lit false), .bool (.lit true), .int .i64 (.lit 0), .int .i64 (.lit 0), .int .i64 (.lit 0), .int .i64 (.lit 0), .int .i64 (.lit 0)]] }
theorem gr28 : sxFunc P R0 (fun _ => .plain 70) Tryz.f147 (rcArgs g28) (rcHp g28) (rcDone g28 [8]) = (True ) := by kernel_rfl
def g29 : Rc := { sz := 1, st := 0, len := 10, cells := codeCells, rest := [.int .i64 (.lit 9), .int .i64 (.lit 18)], val := .sliceG 0 8 0 1, new := [.grown 8 [.int .i64 (.lit 18), .bool (.lit false), .bool (.lit false), .int .i64 (.lit 0), .int .i64 (.lit 0), .int .i64 (.lit 0), .int .i64 (.lit 0), .int .i64 (.lit 0)]] }
theorem gr29 : sxFunc P R0 (fun _ => .plain 70) Tryz.f147 (rcArgs g29) (rcHp g29) (rcDone g29 [5]) = (True ) := by kernel_rfl
def g30 : Rc := { sz := 1, st := 0, len := 10, cells := codeCells, rest := [.int .i64 (.lit 9), .int .i64 (.lit 19)], val := .sliceG 0 8 0 1, new := [.grown 8 [.int .i64 (.lit 19), .bool (.lit false), .bool (.lit false), .int .i64 (.lit 0), .int .i64 (.lit 0), .int .i64 (.lit 0), .int .i64 (.lit 0), .int .i64 (.lit 0)]] }
theorem gr30 : sxFunc P R0 (fun _ => .plain 70) Tryz.f147 (rcArgs g30) (rcHp g30) (rcDone g30 [5]) = (True ) := by kernel_rfl
def g31 : Rc := { sz := 1, st := 0, len := 10, cells := codeCells, rest := [.int .i64 (.lit 9), .int .i64 (.lit 20)], val := .sliceG 0 8 0 1, new := [.grown 8 [.int .i64 (.lit 20), .bool (.lit false), .bool (.lit false), .int .i64 (.lit 0), .int .i64 (.lit 0), .int .i64 (.lit 0), .int .i64 (.lit 0), .int .i64 (.lit 0)]] }
theorem gr31 : sxFunc P R0 (fun _ => .plain 70) Tryz.f147 (rcArgs g31) (rcHp g31) (rcDone g31 [5]) = (True ) := by kernel_rfl
def g32 : Rc := { sz := 1, st := 0, len := 10, cells := codeCells, rest := [.int .i64 (.lit 9), .int .i64 (.lit 21)], val := .sliceG 0 8 0 1, new := [.grown 8 [.int .i64 (.lit 21), .bool (.lit false), .bool (.lit false), .int .i64 (.lit 0), .int .i64 (.lit 0), .int .i64 (.lit 0), .int .i64 (.lit 0), .int .i64 (.lit 0)]] }
theorem gr32 : sxFunc P R0 (fun _ => .plain 70) Tryz.f147 (rcArgs g32) (rcHp g32) (rcDone g32 [5]) = (True ) := by kernel_rfl
def g33 : Rc := { sz := 1, st := 0, len := 10, cells := codeCells, rest := [.int .i64 (.lit 9), .int .i64 (.lit 22)], val := .sliceG 0 8 0 1, new := [.grown 8 [.int .i64 (.lit 22), .bool (.lit false), .bool (.lit false), .int .i64 (.lit 0), .int .i64 (.lit 0), .int .i64 (.lit 0), .int .i64 (.lit 0), .int .i64 (.lit 0)]] }
theorem gr33 : sxFunc P R0 (fun _ => .plain 70) Tryz.f147 (rcArgs g33) (rcHp g33) (rcDone g33 [5]) = (True ) := by kernel_rfl
def g34 : Rc := { sz := 1, st := 0, len := 10, cells := codeCells, rest := [.int .i64 (.lit 9), .int .i64 (.lit 23)], val := .sliceG 0 8 0 1, new := [.grown 8 [.int .i64 (.lit 23), .bool (.lit false), .bool (.lit false), .int .i64 (.lit 3), .int .i64 (.lit 0), .int .i64 (.lit 0), .int .i64 (.lit 0), .int .i64 (.lit 0)]] }
theorem gr34 : sxFunc P R0 (fun _ => .plain 70) Tryz.f147 (rcArgs g34) (rcHp g34) (rcDone g34 [5]) = (True ) := by kernel_rfl
def g35 : Rc := { sz := 1, st := 0, len := 10, cells := codeCells, rest := [.int .i64 (.lit 9), .int .i64 (.lit 24)], val := .sliceG 0 8 0 1, new := [.grown 8 [.int .i64 (.lit 24), .bool (.lit false), .bool (.lit false), .int .i64 (.lit 3), .int .i64 (.lit 0), .int .i64 (.lit 0), .int .i64 (.lit 0), .int .i64 (.lit 0)]] }
theorem gr35 : sxFunc P R0 (fun _ => .plain 70) Tryz.f147 (rcArgs g35) (rcHp g35) (rcDone g35 [5]) = (True ) := by kernel_rfl
def g36 : Rc := { sz := 1, st := 0, len := 10, cells := codeCells, rest := [.int .i64 (.lit 9), .int .i64 (.lit 25)], val := .sliceG 0 8 0 2, new := [.grown 8 [.int .i64 (.lit 25), .bool (.lit false), .bool (.lit false), .int .i64 (.lit 0), .int .i64 (.lit 0), .int .i64 (.lit 0), .int .i64 (.lit 0), .int .i64 (.lit 0), .int .i64 (.lit 25), .bool (.lit false), .bool (.lit true), .int .i64 (.lit 0), .int .i64 (.lit 0), .int .i64 (.lit 0), .int .i64 (.lit 0), .int .i64 (.lit 0)]] }
theorem gr36 : sxFunc P R0 (fun _ => .plain 70) Tryz.f147 (rcArgs g36) (rcHp g36) (rcDone g36 [8]) = (True ) := by kernel_rfl
def g37 : Rc := { sz := 1, st := 0, len := 10, cells := codeCells, rest := [.int .i64 (.lit 9), .int .i64 (.lit 26)], val := .sliceG 0 8 0 2, new := [.grown 8 [.int .i64 (.lit 26), .bool (.lit false), .bool (.lit false), .int .i64 (.lit 0), .int .i64 (.lit 0), .int .i64 (.lit 0), .int .i64 (.lit 0), .int .i64 (.lit 3), .int .i64 (.lit 26), .bool (.lit false), .bool (.lit true), .int .i64 (.lit 0), .int .i64 (.lit 0), .int .i64 (.lit 0), .int .i64 (.lit 0), .int .i64 (.lit 0)]] }
theorem gr37 : sxFunc P R0 (fun _ => .plain 70) Tryz.f147 (rcArgs g37) (rcHp g37) (rcDone g37 [8]) = (True ) := by kernel_rfl
def g38 : Rc := { sz := 1, st := 0, len := 10, cells := codeCells, rest := [.int .i64 (.lit 9), .int .i64 (.lit 27)], val := .sliceG 0 8 0 1, new := [.grown 8 [.int .i64 (.lit 27), .bool (.lit false), .bool (.lit false), .int .i64 (.lit 0), .int .i64 (.lit 0), .int .i64 (.lit 0), .int .i64 (.lit 0), .int .i64 (.lit 0)]] }
theorem gr38 : sxFunc P R0 (fun _ => .plain 70) Tryz.f147 (rcArgs g38) (rcHp g38) (rcDone g38 [5]) = (True ) := by kernel_rfl
def gAll : List Rc := [g0, g1, g2, g3, g4, g5, g6, g7, g8, g9, g10, g11, g12, g13, g14, g15, g16, g17, g18, g19, g20, g21, g22, g23, g24, g25, g26, g27, g28, g29, g30, g31, g32, g33, g34, g35, g36, g37, g38]
noncomputable def rgS : SpecFn := rcSpec gAll (sxFunc P R0 (fun _ => .plain 70) Tryz.f147)
theorem rg_ok : SpecOk P 147 rgS := by
  have hs := func_sound (un := fun _ => .plain 70) R0_ok Tryz.func147
  refine rcSpec_ok hs hs fun c hc => ?_
  simp only [gAll, List.mem_cons, List.not_mem_nil, or_false] at hc
  rcases hc with rfl | rfl | rfl | rfl | rfl | rfl | rfl | rfl | rfl | rfl | rfl | rfl | rfl | rfl | rfl | rfl | rfl | rfl | rfl | rfl | rfl | rfl | rfl | rfl | rfl | rfl | rfl | rfl | rfl | rfl | rfl | rfl | rfl | rfl | rfl | rfl | rfl | rfl | rfl
  · exact ⟨[5], by rw [gr0]; simp⟩
  · exact ⟨[5], by rw [gr1]; simp⟩
  · exact ⟨[8], by rw [gr2]; simp⟩
  · exact ⟨[8], by rw [gr3]; simp⟩
  · exact ⟨[5], by rw [gr4]; simp⟩
  · exact ⟨[5], by rw [gr5]; simp⟩
  · exact ⟨[5], by rw [gr6]; simp⟩
  · exact ⟨[5], by rw [gr7]; simp⟩
  · exact ⟨[5], by rw [gr8]; simp⟩
  · exact ⟨[5], by rw [gr9]; simp⟩
  · exact ⟨[5], by rw [gr10]; simp⟩
  · exact ⟨[5], by rw [gr11]; simp⟩
  · exact ⟨[5], by rw [gr12]; simp⟩
  · exact ⟨[5], by rw [gr13]; simp⟩
  · exact ⟨[8], by rw [gr14]; simp⟩
  · exact ⟨[8], by rw [gr15]; simp⟩
  · exact ⟨[5], by rw [gr16]; simp⟩
  · exact ⟨[5], by rw [gr17]; simp⟩
  · exact ⟨[5], by rw [gr18]; simp⟩
  · exact ⟨[5], by rw [gr19]; simp⟩
  · exact ⟨[5], by rw [gr20]; simp⟩
  · exact ⟨[5], by rw [gr21]; simp⟩
  · exact ⟨[5], by rw [gr22]; simp⟩
  · exact ⟨[5], by rw [gr23]; simp⟩
  · exact ⟨[5], by rw [gr24]; simp⟩
  · exact ⟨[8], by rw [gr25]; simp⟩
  · exact ⟨[8], by rw [gr26]; simp⟩
  · exact ⟨[8], by rw [gr27]; simp⟩
  · exact ⟨[8], by rw [gr28]; simp⟩
  · exact ⟨[5], by rw [gr29]; simp⟩
  · exact ⟨[5], by rw [gr30]; simp⟩
  · exact ⟨[5], by rw [gr31]; simp⟩
  · exact ⟨[5], by rw [gr32]; simp⟩
  · exact ⟨[5], by rw [gr33]; simp⟩
  · exact ⟨[5], by rw [gr34]; simp⟩
  · exact ⟨[5], by rw [gr35]; simp⟩
  · exact ⟨[8], by rw [gr36]; simp⟩
  · exact ⟨[8], by rw [gr37]; simp⟩
  · exact ⟨[5], by rw [gr38]; simp⟩
end Go.Proofs.YtalifikpmlapgaaGreat.jitNames
