/- What the reference's Show makes of a known operation: the other half of the rows. -/
import Derived.Test.YtiljkmcahkphiaaDoorWs3
import Derived.KernelRfl
namespace Go.Proofs.YtiljkmcahkphiaaDoor.Rv
open Go Go.Proofs.YtiljkmcahkphiaaDoor.Sx
set_option linter.unusedVariables false
theorem rsh_17 (a b c d : Int) (Q : SV → Prop) : sxFunc P GR (fun _ => .plain 40) Tryd.f8 (rvArg (.lit 18) a b c d) hpT (fun v _ => Q v) = refShowR ⟨18, 6, 51, 7, 0, [97, 110, 100]⟩ a b c d Q := by kernel_rfl
theorem rsh_18 (a b c d : Int) (Q : SV → Prop) : sxFunc P GR (fun _ => .plain 40) Tryd.f8 (rvArg (.lit 19) a b c d) hpT (fun v _ => Q v) = refShowR ⟨19, 6, 51, 6, 0, [111, 114]⟩ a b c d Q := by kernel_rfl
theorem rsh_19 (a b c d : Int) (Q : SV → Prop) : sxFunc P GR (fun _ => .plain 40) Tryd.f8 (rvArg (.lit 20) a b c d) hpT (fun v _ => Q v) = refShowR ⟨20, 6, 51, 4, 0, [120, 111, 114]⟩ a b c d Q := by kernel_rfl
theorem rsh_20 (a b c d : Int) (Q : SV → Prop) : sxFunc P GR (fun _ => .plain 40) Tryd.f8 (rvArg (.lit 21) a b c d) hpT (fun v _ => Q v) = refShowR ⟨21, 6, 51, 1, 0, [115, 108, 108]⟩ a b c d Q := by kernel_rfl
theorem rsh_21 (a b c d : Int) (Q : SV → Prop) : sxFunc P GR (fun _ => .plain 40) Tryd.f8 (rvArg (.lit 22) a b c d) hpT (fun v _ => Q v) = refShowR ⟨22, 6, 51, 5, 0, [115, 114, 108]⟩ a b c d Q := by kernel_rfl
theorem rsh_22 (a b c d : Int) (Q : SV → Prop) : sxFunc P GR (fun _ => .plain 40) Tryd.f8 (rvArg (.lit 23) a b c d) hpT (fun v _ => Q v) = refShowR ⟨23, 6, 59, 0, 0, [97, 100, 100, 119]⟩ a b c d Q := by kernel_rfl
theorem rsh_23 (a b c d : Int) (Q : SV → Prop) : sxFunc P GR (fun _ => .plain 40) Tryd.f8 (rvArg (.lit 24) a b c d) hpT (fun v _ => Q v) = refShowR ⟨24, 6, 59, 0, 32, [115, 117, 98, 119]⟩ a b c d Q := by kernel_rfl
theorem rsh_24 (a b c d : Int) (Q : SV → Prop) : sxFunc P GR (fun _ => .plain 40) Tryd.f8 (rvArg (.lit 25) a b c d) hpT (fun v _ => Q v) = refShowR ⟨25, 6, 59, 0, 1, [109, 117, 108, 119]⟩ a b c d Q := by kernel_rfl
theorem rsh_25 (a b c d : Int) (Q : SV → Prop) : sxFunc P GR (fun _ => .plain 40) Tryd.f8 (rvArg (.lit 26) a b c d) hpT (fun v _ => Q v) = refShowR ⟨26, 6, 59, 5, 1, [100, 105, 118, 117, 119]⟩ a b c d Q := by kernel_rfl
theorem rsh_26 (a b c d : Int) (Q : SV → Prop) : sxFunc P GR (fun _ => .plain 40) Tryd.f8 (rvArg (.lit 27) a b c d) hpT (fun v _ => Q v) = refShowR ⟨27, 6, 59, 1, 0, [115, 108, 108, 119]⟩ a b c d Q := by kernel_rfl
theorem rsh_27 (a b c d : Int) (Q : SV → Prop) : sxFunc P GR (fun _ => .plain 40) Tryd.f8 (rvArg (.lit 28) a b c d) hpT (fun v _ => Q v) = refShowR ⟨28, 6, 59, 5, 0, [115, 114, 108, 119]⟩ a b c d Q := by kernel_rfl
theorem rsh_28 (a b c d : Int) (Q : SV → Prop) : sxFunc P GR (fun _ => .plain 40) Tryd.f8 (rvArg (.lit 29) a b c d) hpT (fun v _ => Q v) = refShowR ⟨29, 7, 99, 0, 0, [98, 101, 113]⟩ a b c d Q := by kernel_rfl
theorem rsh_29 (a b c d : Int) (Q : SV → Prop) : sxFunc P GR (fun _ => .plain 40) Tryd.f8 (rvArg (.lit 30) a b c d) hpT (fun v _ => Q v) = refShowR ⟨30, 7, 99, 1, 0, [98, 110, 101]⟩ a b c d Q := by kernel_rfl
theorem rsh_30 (a b c d : Int) (Q : SV → Prop) : sxFunc P GR (fun _ => .plain 40) Tryd.f8 (rvArg (.lit 31) a b c d) hpT (fun v _ => Q v) = refShowR ⟨31, 7, 99, 6, 0, [98, 108, 116, 117]⟩ a b c d Q := by kernel_rfl
theorem rsh_31 (a b c d : Int) (Q : SV → Prop) : sxFunc P GR (fun _ => .plain 40) Tryd.f8 (rvArg (.lit 32) a b c d) hpT (fun v _ => Q v) = refShowR ⟨32, 7, 99, 7, 0, [98, 103, 101, 117]⟩ a b c d Q := by kernel_rfl
theorem rsh_32 (a b c d : Int) (Q : SV → Prop) : sxFunc P GR (fun _ => .plain 40) Tryd.f8 (rvArg (.lit 33) a b c d) hpT (fun v _ => Q v) = refShowR ⟨33, 8, 111, 0, 0, [106, 97, 108]⟩ a b c d Q := by kernel_rfl
theorem rsh_33 (a b c d : Int) (Q : SV → Prop) : sxFunc P GR (fun _ => .plain 40) Tryd.f8 (rvArg (.lit 34) a b c d) hpT (fun v _ => Q v) = refShowR ⟨34, 2, 103, 0, 0, [106, 97, 108, 114]⟩ a b c d Q := by kernel_rfl
end Go.Proofs.YtiljkmcahkphiaaDoor.Rv
