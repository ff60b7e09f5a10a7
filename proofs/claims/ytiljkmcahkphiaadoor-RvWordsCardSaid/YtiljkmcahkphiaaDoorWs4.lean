/- What the reference's Show makes of a known operation: the first half of the rows. -/
import Derived.Test.YtiljkmcahkphiaaDoorWs3
import Derived.KernelRfl
namespace Go.Proofs.YtiljkmcahkphiaaDoor.Rv
open Go Go.Proofs.YtiljkmcahkphiaaDoor.Sx
set_option linter.unusedVariables false
theorem rsh_0 (a b c d : Int) (Q : SV → Prop) : sxFunc P GR (fun _ => .plain 40) Tryd.f8 (rvArg (.lit 1) a b c d) hpT (fun v _ => Q v) = refShowR ⟨1, 1, 55, 0, 0, [108, 117, 105]⟩ a b c d Q := by kernel_rfl
theorem rsh_1 (a b c d : Int) (Q : SV → Prop) : sxFunc P GR (fun _ => .plain 40) Tryd.f8 (rvArg (.lit 2) a b c d) hpT (fun v _ => Q v) = refShowR ⟨2, 2, 19, 0, 0, [97, 100, 100, 105]⟩ a b c d Q := by kernel_rfl
theorem rsh_2 (a b c d : Int) (Q : SV → Prop) : sxFunc P GR (fun _ => .plain 40) Tryd.f8 (rvArg (.lit 3) a b c d) hpT (fun v _ => Q v) = refShowR ⟨3, 2, 27, 0, 0, [97, 100, 100, 105, 119]⟩ a b c d Q := by kernel_rfl
theorem rsh_3 (a b c d : Int) (Q : SV → Prop) : sxFunc P GR (fun _ => .plain 40) Tryd.f8 (rvArg (.lit 4) a b c d) hpT (fun v _ => Q v) = refShowR ⟨4, 2, 19, 7, 0, [97, 110, 100, 105]⟩ a b c d Q := by kernel_rfl
theorem rsh_4 (a b c d : Int) (Q : SV → Prop) : sxFunc P GR (fun _ => .plain 40) Tryd.f8 (rvArg (.lit 5) a b c d) hpT (fun v _ => Q v) = refShowR ⟨5, 2, 19, 6, 0, [111, 114, 105]⟩ a b c d Q := by kernel_rfl
theorem rsh_5 (a b c d : Int) (Q : SV → Prop) : sxFunc P GR (fun _ => .plain 40) Tryd.f8 (rvArg (.lit 6) a b c d) hpT (fun v _ => Q v) = refShowR ⟨6, 2, 19, 4, 0, [120, 111, 114, 105]⟩ a b c d Q := by kernel_rfl
theorem rsh_6 (a b c d : Int) (Q : SV → Prop) : sxFunc P GR (fun _ => .plain 40) Tryd.f8 (rvArg (.lit 7) a b c d) hpT (fun v _ => Q v) = refShowR ⟨7, 3, 19, 1, 0, [115, 108, 108, 105]⟩ a b c d Q := by kernel_rfl
theorem rsh_7 (a b c d : Int) (Q : SV → Prop) : sxFunc P GR (fun _ => .plain 40) Tryd.f8 (rvArg (.lit 8) a b c d) hpT (fun v _ => Q v) = refShowR ⟨8, 3, 19, 5, 0, [115, 114, 108, 105]⟩ a b c d Q := by kernel_rfl
theorem rsh_8 (a b c d : Int) (Q : SV → Prop) : sxFunc P GR (fun _ => .plain 40) Tryd.f8 (rvArg (.lit 9) a b c d) hpT (fun v _ => Q v) = refShowR ⟨9, 4, 27, 1, 0, [115, 108, 108, 105, 119]⟩ a b c d Q := by kernel_rfl
theorem rsh_9 (a b c d : Int) (Q : SV → Prop) : sxFunc P GR (fun _ => .plain 40) Tryd.f8 (rvArg (.lit 10) a b c d) hpT (fun v _ => Q v) = refShowR ⟨10, 4, 27, 5, 0, [115, 114, 108, 105, 119]⟩ a b c d Q := by kernel_rfl
theorem rsh_10 (a b c d : Int) (Q : SV → Prop) : sxFunc P GR (fun _ => .plain 40) Tryd.f8 (rvArg (.lit 11) a b c d) hpT (fun v _ => Q v) = refShowR ⟨11, 2, 3, 3, 0, [108, 100]⟩ a b c d Q := by kernel_rfl
theorem rsh_11 (a b c d : Int) (Q : SV → Prop) : sxFunc P GR (fun _ => .plain 40) Tryd.f8 (rvArg (.lit 12) a b c d) hpT (fun v _ => Q v) = refShowR ⟨12, 2, 3, 2, 0, [108, 119]⟩ a b c d Q := by kernel_rfl
theorem rsh_12 (a b c d : Int) (Q : SV → Prop) : sxFunc P GR (fun _ => .plain 40) Tryd.f8 (rvArg (.lit 13) a b c d) hpT (fun v _ => Q v) = refShowR ⟨13, 2, 3, 6, 0, [108, 119, 117]⟩ a b c d Q := by kernel_rfl
theorem rsh_13 (a b c d : Int) (Q : SV → Prop) : sxFunc P GR (fun _ => .plain 40) Tryd.f8 (rvArg (.lit 14) a b c d) hpT (fun v _ => Q v) = refShowR ⟨14, 5, 35, 3, 0, [115, 100]⟩ a b c d Q := by kernel_rfl
theorem rsh_14 (a b c d : Int) (Q : SV → Prop) : sxFunc P GR (fun _ => .plain 40) Tryd.f8 (rvArg (.lit 15) a b c d) hpT (fun v _ => Q v) = refShowR ⟨15, 5, 35, 2, 0, [115, 119]⟩ a b c d Q := by kernel_rfl
theorem rsh_15 (a b c d : Int) (Q : SV → Prop) : sxFunc P GR (fun _ => .plain 40) Tryd.f8 (rvArg (.lit 16) a b c d) hpT (fun v _ => Q v) = refShowR ⟨16, 6, 51, 0, 0, [97, 100, 100]⟩ a b c d Q := by kernel_rfl
theorem rsh_16 (a b c d : Int) (Q : SV → Prop) : sxFunc P GR (fun _ => .plain 40) Tryd.f8 (rvArg (.lit 17) a b c d) hpT (fun v _ => Q v) = refShowR ⟨17, 6, 51, 0, 32, [115, 117, 98]⟩ a b c d Q := by kernel_rfl
end Go.Proofs.YtiljkmcahkphiaaDoor.Rv
