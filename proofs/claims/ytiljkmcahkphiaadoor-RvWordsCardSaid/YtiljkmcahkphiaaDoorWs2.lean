/- What rv.Show makes of a known operation: the other half of the rows. -/
import Derived.Test.YtiljkmcahkphiaaDoorWs0
import Derived.KernelRfl
namespace Go.Proofs.YtiljkmcahkphiaaDoor.Rv
open Go Go.Proofs.YtiljkmcahkphiaaDoor.Sx
set_option linter.unusedVariables false
theorem sh_17 (a b c d : Int) (Q : SV → Prop) : sxFunc P GS (fun _ => .plain 40) Tryd.f7 (rvArg (.lit 18) a b c d) hpT (fun v _ => Q v) = rvShowR ⟨18, 6, 51, 7, 0, [97, 110, 100]⟩ a b c d Q := by kernel_rfl
theorem sh_18 (a b c d : Int) (Q : SV → Prop) : sxFunc P GS (fun _ => .plain 40) Tryd.f7 (rvArg (.lit 19) a b c d) hpT (fun v _ => Q v) = rvShowR ⟨19, 6, 51, 6, 0, [111, 114]⟩ a b c d Q := by kernel_rfl
theorem sh_19 (a b c d : Int) (Q : SV → Prop) : sxFunc P GS (fun _ => .plain 40) Tryd.f7 (rvArg (.lit 20) a b c d) hpT (fun v _ => Q v) = rvShowR ⟨20, 6, 51, 4, 0, [120, 111, 114]⟩ a b c d Q := by kernel_rfl
theorem sh_20 (a b c d : Int) (Q : SV → Prop) : sxFunc P GS (fun _ => .plain 40) Tryd.f7 (rvArg (.lit 21) a b c d) hpT (fun v _ => Q v) = rvShowR ⟨21, 6, 51, 1, 0, [115, 108, 108]⟩ a b c d Q := by kernel_rfl
theorem sh_21 (a b c d : Int) (Q : SV → Prop) : sxFunc P GS (fun _ => .plain 40) Tryd.f7 (rvArg (.lit 22) a b c d) hpT (fun v _ => Q v) = rvShowR ⟨22, 6, 51, 5, 0, [115, 114, 108]⟩ a b c d Q := by kernel_rfl
theorem sh_22 (a b c d : Int) (Q : SV → Prop) : sxFunc P GS (fun _ => .plain 40) Tryd.f7 (rvArg (.lit 23) a b c d) hpT (fun v _ => Q v) = rvShowR ⟨23, 6, 59, 0, 0, [97, 100, 100, 119]⟩ a b c d Q := by kernel_rfl
theorem sh_23 (a b c d : Int) (Q : SV → Prop) : sxFunc P GS (fun _ => .plain 40) Tryd.f7 (rvArg (.lit 24) a b c d) hpT (fun v _ => Q v) = rvShowR ⟨24, 6, 59, 0, 32, [115, 117, 98, 119]⟩ a b c d Q := by kernel_rfl
theorem sh_24 (a b c d : Int) (Q : SV → Prop) : sxFunc P GS (fun _ => .plain 40) Tryd.f7 (rvArg (.lit 25) a b c d) hpT (fun v _ => Q v) = rvShowR ⟨25, 6, 59, 0, 1, [109, 117, 108, 119]⟩ a b c d Q := by kernel_rfl
theorem sh_25 (a b c d : Int) (Q : SV → Prop) : sxFunc P GS (fun _ => .plain 40) Tryd.f7 (rvArg (.lit 26) a b c d) hpT (fun v _ => Q v) = rvShowR ⟨26, 6, 59, 5, 1, [100, 105, 118, 117, 119]⟩ a b c d Q := by kernel_rfl
theorem sh_26 (a b c d : Int) (Q : SV → Prop) : sxFunc P GS (fun _ => .plain 40) Tryd.f7 (rvArg (.lit 27) a b c d) hpT (fun v _ => Q v) = rvShowR ⟨27, 6, 59, 1, 0, [115, 108, 108, 119]⟩ a b c d Q := by kernel_rfl
theorem sh_27 (a b c d : Int) (Q : SV → Prop) : sxFunc P GS (fun _ => .plain 40) Tryd.f7 (rvArg (.lit 28) a b c d) hpT (fun v _ => Q v) = rvShowR ⟨28, 6, 59, 5, 0, [115, 114, 108, 119]⟩ a b c d Q := by kernel_rfl
theorem sh_28 (a b c d : Int) (Q : SV → Prop) : sxFunc P GS (fun _ => .plain 40) Tryd.f7 (rvArg (.lit 29) a b c d) hpT (fun v _ => Q v) = rvShowR ⟨29, 7, 99, 0, 0, [98, 101, 113]⟩ a b c d Q := by kernel_rfl
theorem sh_29 (a b c d : Int) (Q : SV → Prop) : sxFunc P GS (fun _ => .plain 40) Tryd.f7 (rvArg (.lit 30) a b c d) hpT (fun v _ => Q v) = rvShowR ⟨30, 7, 99, 1, 0, [98, 110, 101]⟩ a b c d Q := by kernel_rfl
theorem sh_30 (a b c d : Int) (Q : SV → Prop) : sxFunc P GS (fun _ => .plain 40) Tryd.f7 (rvArg (.lit 31) a b c d) hpT (fun v _ => Q v) = rvShowR ⟨31, 7, 99, 6, 0, [98, 108, 116, 117]⟩ a b c d Q := by kernel_rfl
theorem sh_31 (a b c d : Int) (Q : SV → Prop) : sxFunc P GS (fun _ => .plain 40) Tryd.f7 (rvArg (.lit 32) a b c d) hpT (fun v _ => Q v) = rvShowR ⟨32, 7, 99, 7, 0, [98, 103, 101, 117]⟩ a b c d Q := by kernel_rfl
theorem sh_32 (a b c d : Int) (Q : SV → Prop) : sxFunc P GS (fun _ => .plain 40) Tryd.f7 (rvArg (.lit 33) a b c d) hpT (fun v _ => Q v) = rvShowR ⟨33, 8, 111, 0, 0, [106, 97, 108]⟩ a b c d Q := by kernel_rfl
theorem sh_33 (a b c d : Int) (Q : SV → Prop) : sxFunc P GS (fun _ => .plain 40) Tryd.f7 (rvArg (.lit 34) a b c d) hpT (fun v _ => Q v) = rvShowR ⟨34, 2, 103, 0, 0, [106, 97, 108, 114]⟩ a b c d Q := by kernel_rfl
end Go.Proofs.YtiljkmcahkphiaaDoor.Rv
