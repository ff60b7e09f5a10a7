/- What has grown is a row of whatever room: for a call's result. -/
import Derived.Test.YtajcmjjgnbaahaaDoorSxc
namespace Go.Proofs.YtajcmjjgnbaahaaDoor.Sx
open Go Go.RowKit
set_option linter.unusedVariables false
set_option linter.unusedSimpArgs false
def growIE (vs : List SV) (U : Nat -> Int) (e : Nat) : IE :=
  match vs[e]? with
  | some (.int _ a) => a
  | _ => .var (U e)
def openK (v : SV) (hp : List SObj) (K : SV -> List SObj -> Prop) : Prop :=
  match v with
  | .tuple (.sliceG o 1 0 len :: r) =>
    match hp[o]? with
    | some (.grown 1 (.int k a :: vs)) =>
      if len = vs.length + 1 /\ okSVs [] r = true then
        ∀ (cap : Nat) (U : Nat -> Int), len <= cap -> cap <= 9223372036854775807 ->
          K (.tuple (.sliceE false o 1 (.lit 0) (.lit len) (.var cap) :: r)) (setAt hp o (.row true false [.int k (growIE (.int k a :: vs) U)] (.var cap)))
      else StuckAt 210
    | _ => StuckAt 211
  | v => K v hp
def openS (s : SpecFn) : SpecFn := fun args hp K => s args hp fun v hp => openK v hp K
theorem open_ok {P : Program} {f : FuncId} {s : SpecFn} (hs : SpecOk P f s) : SpecOk P f (openS s) := by
  intro B ν hp w args K h1 h2 h3 hx
  refine (hs B ν hp w args _ h1 h2 h3 hx).mono ?_
  rintro e w' ⟨ν', v, hp', a, b, c, d, s, k, hk⟩
  unfold openK at hk
  split at hk
  · rename_i o len r
    split at hk
    · rename_i kk a0 vs ho
      split at hk
      · rename_i hc
        obtain ⟨rfl, hr⟩ := hc
        obtain ⟨hB, g, hwv⟩ := s.obj o _ ho
        have hle := g.le
        rw [denL_length, List.length_cons, Nat.mul_one] at hle
        have hlike := g.like rfl kk a0.den (by simp [SV.denL, SV.den])
        let U : Nat -> Int := fun e => match w'.cell? ⟨(ν' o).blk, e, none⟩ with | some (.int _ n) => n | _ => 0
        have hrow : ObjSat B ν' (Live hp') w' o (.row true false [.int kk (growIE (.int kk a0 :: vs) U)] (.var (ν' o).off)) := by
          refine ⟨fun h => (by simp at h), fun _ _ => ⟨hB, g.lt⟩, fun _ h => (by cases h), fun e he j c hj => ?_, fun _ e he j hj => ?_⟩
          · cases j with
            | succ j => simp at hj
            | zero =>
              simp only [List.getElem?_cons_zero, Option.some.injEq] at hj; subst hj
              obtain ⟨m, hm⟩ := hlike e he
              refine ⟨.int kk m, by simpa [Pl.base] using hm, rfl, ?_⟩
              simp only [Col.den, growIE]
              have hcell : ∀ u, (SV.int kk a0 :: vs)[e]? = some u -> u.den ν' = .int kk m := fun u hu => by
                have := g.cell e (u.den ν') (by rw [denL_map, List.getElem?_map, hu]; rfl)
                rw [hm] at this
                exact (Option.some.inj this).symm
              split
              · rename_i k' a' hu
                have := hcell _ hu
                simp only [SV.den, Value.int.injEq] at this
                rw [this.2]
              · simp only [IE.den, U, hm]
          · have hj0 : j = 0 := by simpa using hj
            subst hj0
            simpa [Pl.base] using g.thawed e (by rw [Nat.mul_one]; exact he)
        obtain ⟨s1, s2⟩ := set_obj s (y := .row true false [.int kk (growIE (.int kk a0 :: vs) U)] (.var (ν' o).off)) (w' := w') ho rfl rfl rfl (Nat.le_refl _) (fun _ _ => rfl) (fun hl => hrow)
        refine ⟨ν', _, _, fun o' ho' => s2 o' (a o' ho'), b, ?_, ?_, s1, k, hk (ν' o).off U hle g.small⟩
        · rw [c]
          simp [SV.den, SV.denL, Pl.base, NE.den]
        · have hwr : SV.wfL (fun _ => False) r := closed_wf hr
          exact ⟨s2 o ⟨_, ho, rfl⟩, wfL_mono (fun _ h => h.elim) _ hwr⟩
      · exact stuckAt_elim hk
    · exact stuckAt_elim hk
  · exact ⟨ν', v, hp', a, b, c, d, s, k, hk⟩
end Go.Proofs.YtajcmjjgnbaahaaDoor.Sx
