/- For lifting a law: a record of whole numbers and truth values that came in. -/
import Derived.Test.YtajcmjjgnbaahaaDoorLaw
namespace Go.Proofs.YtajcmjjgnbaahaaDoor.LawKit
open Go Go.RowKit
set_option linter.unusedVariables false
set_option linter.unusedSimpArgs false
section
variable {P : Program}
theorem okWide_bool {W : World} {base : Nat} {t : TypeId} {v : Value} (ht : P.underlying t = some .bool) (h : Cell.okWide P W .any base t v) : ∃ b, v = .bool b := by
  unfold Cell.okWide at h
  rw [ht] at h
  simp only [Cell.ok, ht] at h
  split at h <;> simp_all
/-- A record by its cells. -/
theorem open_vals {W : World} {base : Nat} {t : TypeId} {fs : Array Field} {us : List (Option TypeDesc)} {v : Value} (ht : P.underlying t = some (.struct fs)) (hc0 : (P.cellTypes P.depth t).map (fun ts => ts.map P.underlying) = some us)
    (hsz : P.cellsOf t = us.length) (hval : Value.okWide P W .any base t v) :
    ∃ cs : Array Value, v = .agg cs ∧ cs.size = us.length ∧ ∀ (i : Nat) (u : Option TypeDesc) (w : Value), us[i]? = some u → cs[i]? = some w → ∃ t', P.underlying t' = u ∧ Cell.okWide P W .any base t' w := by
  obtain ⟨ts, hc, hts⟩ := Option.map_eq_some_iff.1 hc0
  unfold Value.okWide at hval
  rw [ht] at hval
  obtain ⟨cs, rfl, hs, ts', hc', _, hcell⟩ := hval
  rw [hc] at hc'; obtain rfl := Option.some.inj hc'
  have hl : ts.length = us.length := by simpa using congrArg List.length hts
  refine ⟨cs, rfl, by omega, fun i u w hu hw => ?_⟩
  obtain ⟨t', ht', ho⟩ := hcell i w hw
  have hi : i < us.length := (List.getElem?_eq_some_iff.1 hu).1
  rw [hl, Nat.mod_eq_of_lt hi] at ht'
  refine ⟨t', ?_, ho⟩
  have := congrArg (fun l => l[i]?) hts
  simpa [hu, ht'] using this
end
end Go.Proofs.YtajcmjjgnbaahaaDoor.LawKit
