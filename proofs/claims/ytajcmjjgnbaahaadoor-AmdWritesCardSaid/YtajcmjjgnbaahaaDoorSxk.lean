/- What a call with known arguments comes to, told once and used wherever it is made. -/
import Derived.Test.YtajcmjjgnbaahaaDoorSx5
namespace Go.Proofs.YtajcmjjgnbaahaaDoor.Sx
open Go Go.RowKit
set_option linter.unusedVariables false
set_option linter.unusedSimpArgs false
mutual
def eqLit : SV -> SV -> Bool
  | .int k (.lit a), .int k' (.lit b) => decide (k = k') && decide (a = b)
  | .bool (.lit a), .bool (.lit b) => a == b
  | .str a, .str b => a.data.toList == b.data.toList
  | .agg l, .agg l' => eqLits l l'
  | .nils, .nils | .nilp, .nilp | .nili, .nili => true
  | _, _ => false
def eqLits : List SV -> List SV -> Bool
  | [], [] => true
  | v :: r, v' :: r' => eqLit v v' && eqLits r r'
  | _, _ => false
end
section
variable {P : Program} {Γ : FuncId -> Option Cal} {B : Nat -> Prop} {ν : Nat -> Pl} {w : World}
mutual
theorem eqLit_den {ν ν' : Nat -> Pl} : ∀ {a b : SV}, eqLit a b = true -> a.den ν = b.den ν' /\ (∀ p, a.wf p) /\ ∀ p, b.wf p
  | .int k (.lit x), .int k' (.lit y), h => by simp only [eqLit, Bool.and_eq_true, decide_eq_true_eq] at h; obtain ⟨rfl, rfl⟩ := h; exact ⟨rfl, fun _ => trivial, fun _ => trivial⟩
  | .bool (.lit x), .bool (.lit y), h => by simp only [eqLit, beq_iff_eq] at h; subst h; exact ⟨rfl, fun _ => trivial, fun _ => trivial⟩
  | .str x, .str y, h => by
    simp only [eqLit, beq_iff_eq] at h
    have : x = y := by
      cases x; cases y; simp only at h
      congr 1; exact Array.ext' h
    subst this; exact ⟨rfl, fun _ => trivial, fun _ => trivial⟩
  | .agg l, .agg l', h => by
    simp only [eqLit] at h
    obtain ⟨h1, h2, h3⟩ := eqLits_den (ν := ν) (ν' := ν') h
    exact ⟨by simp only [SV.den, h1], fun p => by simpa [SV.wf] using h2 p, fun p => by simpa [SV.wf] using h3 p⟩
  | .nils, .nils, _ => ⟨rfl, fun _ => trivial, fun _ => trivial⟩
  | .nilp, .nilp, _ => ⟨rfl, fun _ => trivial, fun _ => trivial⟩
  | .nili, .nili, _ => ⟨rfl, fun _ => trivial, fun _ => trivial⟩
theorem eqLits_den {ν ν' : Nat -> Pl} : ∀ {a b : List SV}, eqLits a b = true -> SV.denL ν a = SV.denL ν' b /\ (∀ p, SV.wfL p a) /\ ∀ p, SV.wfL p b
  | [], [], _ => ⟨rfl, fun _ => trivial, fun _ => trivial⟩
  | v :: r, v' :: r', h => by
    simp only [eqLits, Bool.and_eq_true] at h
    obtain ⟨h1, h2, h3⟩ := eqLit_den (ν := ν) (ν' := ν') h.1
    obtain ⟨h4, h5, h6⟩ := eqLits_den (ν := ν) (ν' := ν') h.2
    exact ⟨by simp only [SV.denL, h1, h4], fun p => ⟨h2 p, h5 p⟩, fun p => ⟨h3 p, h6 p⟩⟩
end
theorem globOf_obj {g : Nat} {vs : List SV} : ∀ {hp : List SObj}, globOf hp g = some vs -> ∃ o : Nat, hp[o]? = some (.glob g vs)
  | [], h => by simp [globOf] at h
  | x :: r, h => by
    have ih := fun h' => globOf_obj (g := g) (vs := vs) (hp := r) h'
    cases x with
    | glob g' vs' =>
      simp only [globOf] at h
      split at h
      · rename_i e
        simp only [Option.some.injEq] at h; subst h; subst e
        exact ⟨0, rfl⟩
      · obtain ⟨o, ho⟩ := ih h; exact ⟨o + 1, by simpa using ho⟩
    | _ => obtain ⟨o, ho⟩ := ih h; exact ⟨o + 1, by simpa using ho⟩
end
end Go.Proofs.YtajcmjjgnbaahaaDoor.Sx
