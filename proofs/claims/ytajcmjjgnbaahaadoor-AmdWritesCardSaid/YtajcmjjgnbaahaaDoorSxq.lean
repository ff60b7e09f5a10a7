/- One of two that hold; and the same arguments, told in other words. -/
import Derived.Test.YtajcmjjgnbaahaaDoorSxc
namespace Go.Proofs.YtajcmjjgnbaahaaDoor.Sx
open Go Go.RowKit
set_option linter.unusedVariables false
def orS (s t : SpecFn) : SpecFn := fun args hp K => s args hp K ∨ t args hp K
def retS (s : SpecFn) : SpecFn := fun args hp K => ∃ args', (∀ ν, SV.denL ν args' = SV.denL ν args) /\ (SV.wfL (Live hp) args -> SV.wfL (Live hp) args') /\ s args' hp K
theorem or_ok {P : Program} {f : FuncId} {s t : SpecFn} (hs : SpecOk P f s) (ht : SpecOk P f t) : SpecOk P f (orS s t) := by
  intro B ν hp w args K h1 h2 h3 hx
  rcases hx with hx | hx
  · exact hs B ν hp w args K h1 h2 h3 hx
  · exact ht B ν hp w args K h1 h2 h3 hx
theorem ret_ok {P : Program} {f : FuncId} {s : SpecFn} (hs : SpecOk P f s) : SpecOk P f (retS s) := by
  intro B ν hp w args K h1 h2 h3 hx
  obtain ⟨args', e, hw, hx⟩ := hx
  have := hs B ν hp w args' K h1 h2 (hw h3) hx
  rw [e ν] at this
  exact this
end Go.Proofs.YtajcmjjgnbaahaaDoor.Sx
