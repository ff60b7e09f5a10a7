/- What rv.Show makes of a known operation: the first half of the rows. -/
import Derived.Test.YtiljkmcahkphiaaDoorWs0
import Derived.KernelRfl
namespace Go.Proofs.YtiljkmcahkphiaaDoor.Rv
open Go Go.Proofs.YtiljkmcahkphiaaDoor.Sx
set_option linter.unusedVariables false
theorem sh_0 (a b c d : Int) (Q : SV → Prop) : sxFunc P GS (fun _ => .plain 40) Tryd.f7 (rvArg (.lit 1) a b c d) hpT (fun v _ => Q v) = rvShowR ⟨1, 1, 55, 0, 0, [108, 117, 105]⟩ a b c d Q := by kernel_rfl
theorem sh_1 (a b c d : Int) (Q : SV → Prop) : sxFunc P GS (fun _ => .plain 40) Tryd.f7 (rvArg (.lit 2) a b c d) hpT (fun v _ => Q v) = rvShowR ⟨2, 2, 19, 0, 0, [97, 100, 100, 105]⟩ a b c d Q := by kernel_rfl
theorem sh_2 (a b c d : Int) (Q : SV → Prop) : sxFunc P GS (fun _ => .plain 40) Tryd.f7 (rvArg (.lit 3) a b c d) hpT (fun v _ => Q v) = rvShowR ⟨3, 2, 27, 0, 0, [97, 100, 100, 105, 119]⟩ a b c d Q := by kernel_rfl
theorem sh_3 (a b c d : Int) (Q : SV → Prop) : sxFunc P GS (fun _ => .plain 40) Tryd.f7 (rvArg (.lit 4) a b c d) hpT (fun v _ => Q v) = rvShowR ⟨4, 2, 19, 7, 0, [97, 110, 100, 105]⟩ a b c d Q := by kernel_rfl
theorem sh_4 (a b c d : Int) (Q : SV → Prop) : sxFunc P GS (fun _ => .plain 40) Tryd.f7 (rvArg (.lit 5) a b c d) hpT (fun v _ => Q v) = rvShowR ⟨5, 2, 19, 6, 0, [111, 114, 105]⟩ a b c d Q := by kernel_rfl
theorem sh_5 (a b c d : Int) (Q : SV → Prop) : sxFunc P GS (fun _ => .plain 40) Tryd.f7 (rvArg (.lit 6) a b c d) hpT (fun v _ => Q v) = rvShowR ⟨6, 2, 19, 4, 0, [120, 111, 114, 105]⟩ a b c d Q := by kernel_rfl
theorem sh_6 (a b c d : Int) (Q : SV → Prop) : sxFunc P GS (fun _ => .plain 40) Tryd.f7 (rvArg (.lit 7) a b c d) hpT (fun v _ => Q v) = rvShowR ⟨7, 3, 19, 1, 0, [115, 108, 108, 105]⟩ a b c d Q := by kernel_rfl
theorem sh_7 (a b c d : Int) (Q : SV → Prop) : sxFunc P GS (fun _ => .plain 40) Tryd.f7 (rvArg (.lit 8) a b c d) hpT (fun v _ => Q v) = rvShowR ⟨8, 3, 19, 5, 0, [115, 114, 108, 105]⟩ a b c d Q := by kernel_rfl
theorem sh_8 (a b c d : Int) (Q : SV → Prop) : sxFunc P GS (fun _ => .plain 40) Tryd.f7 (rvArg (.lit 9) a b c d) hpT (fun v _ => Q v) = rvShowR ⟨9, 4, 27, 1, 0, [115, 108, 108, 105, 119]⟩ a b c d Q := by kernel_rfl
theorem sh_9 (a b c d : Int) (Q : SV → Prop) : sxFunc P GS (fun _ => .plain 40) Tryd.f7 (rvArg (.lit 10) a b c d) hpT (fun v _ => Q v) = rvShowR ⟨10, 4, 27, 5, 0, [115, 114, 108, 105, 119]⟩ a b c d Q := by kernel_rfl
theorem sh_10 (a b c d : Int) (Q : SV → Prop) : sxFunc P GS (fun _ => .plain 40) Tryd.f7 (rvArg (.lit 11) a b c d) hpT (fun v _ => Q v) = rvShowR ⟨11, 2, 3, 3, 0, [108, 100]⟩ a b c d Q := by kernel_rfl
theorem sh_11 (a b c d : Int) (Q : SV → Prop) : sxFunc P GS (fun _ => .plain 40) Tryd.f7 (rvArg (.lit 12) a b c d) hpT (fun v _ => Q v) = rvShowR ⟨12, 2, 3, 2, 0, [108, 119]⟩ a b c d Q := by kernel_rfl
theorem sh_12 (a b c d : Int) (Q : SV → Prop) : sxFunc P GS (fun _ => .plain 40) Tryd.f7 (rvArg (.lit 13) a b c d) hpT (fun v _ => Q v) = rvShowR ⟨13, 2, 3, 6, 0, [108, 119, 117]⟩ a b c d Q := by kernel_rfl
theorem sh_13 (a b c d : Int) (Q : SV → Prop) : sxFunc P GS (fun _ => .plain 40) Tryd.f7 (rvArg (.lit 14) a b c d) hpT (fun v _ => Q v) = rvShowR ⟨14, 5, 35, 3, 0, [115, 100]⟩ a b c d Q := by kernel_rfl
theorem sh_14 (a b c d : Int) (Q : SV → Prop) : sxFunc P GS (fun _ => .plain 40) Tryd.f7 (rvArg (.lit 15) a b c d) hpT (fun v _ => Q v) = rvShowR ⟨15, 5, 35, 2, 0, [115, 119]⟩ a b c d Q := by kernel_rfl
theorem sh_15 (a b c d : Int) (Q : SV → Prop) : sxFunc P GS (fun _ => .plain 40) Tryd.f7 (rvArg (.lit 16) a b c d) hpT (fun v _ => Q v) = rvShowR ⟨16, 6, 51, 0, 0, [97, 100, 100]⟩ a b c d Q := by kernel_rfl
theorem sh_16 (a b c d : Int) (Q : SV → Prop) : sxFunc P GS (fun _ => .plain 40) Tryd.f7 (rvArg (.lit 17) a b c d) hpT (fun v _ => Q v) = rvShowR ⟨17, 6, 51, 0, 32, [115, 117, 98]⟩ a b c d Q := by kernel_rfl
end Go.Proofs.YtiljkmcahkphiaaDoor.Rv
