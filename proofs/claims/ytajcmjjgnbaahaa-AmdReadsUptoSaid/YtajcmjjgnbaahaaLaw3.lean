/- What a law's argument is that is a slice of structs of whole numbers: a row that came in. -/
import Derived.Test.YtajcmjjgnbaahaaLaw2
import Derived.Deep.Slices
import Derived.Deep.Fields
import Derived.ChangeSame
namespace Go.Proofs.Ytajcmjjgnbaahaa.LawKit
open Go Go.ChangeShapes Go.WideShapes Go.ChangeAt Go.RowKit Go.Proofs.Ytajcmjjgnbaahaa.Sx Go.Deep
set_option linter.unusedVariables false
set_option linter.unusedSimpArgs false

section
variable {H : Type} {enc : TypeId × Value → H} {P : Program} {w : World} {base : Nat} {spare : Nat → Bool} {held : Bool}
theorem open_slice_fields {t e : TypeId} {fs : Array Field} {fuel : Nat} {cs : List Value} {x : DataW H × List MemPlace} (ht : P.underlying t = some (.slice e)) (he : P.underlying e = some (.struct fs))
    (hone : oneCellFields P fs = true) (hC : P.cellsOf e = fs.size) (h : DataW.trod enc P w base spare held fuel t cs = some x) :
    (cs = [.slice none 0 0] ∧ x = (.nil, [])) ∨
    ∃ (a : Addr) (len cap m : Nat), cs = [.slice (some a) len cap] ∧ len ≤ cap ∧ cap ≤ maxLen ∧ m = (if spare a.block then cap else len) ∧
      ∀ i, i < m → ∃ n : Nat, ∀ (j : Nat) (f : Field), fs[j]? = some f → ∃ (v : Value) (y : DataW H × List MemPlace), w.cell? (a.add (i * fs.size + j)) = some v ∧ DataW.trod enc P w base spare held n f.type [v] = some y := by
  rcases open_slice ht h with h0 | ⟨a, len, cap, m, n, D, Pl, hcs, hb, hl, hm, hmm, hx, hi⟩
  · exact .inl h0
  · refine .inr ⟨a, len, cap, m, hcs, hl, hm, hmm, fun i him => ?_⟩
    obtain ⟨cs', hc, ht'⟩ := hi i him
    rw [hC] at hc
    obtain ⟨ys, n', hn', hy, hlen, hyl, hf⟩ := DataW.trod_struct he ht'
    obtain ⟨_, hcl, hat⟩ := World.cells?_some hc
    refine ⟨n', fun j f hj => ?_⟩
    obtain ⟨ho, hk⟩ := hone_of hone j f hj
    have hjl : j < fs.size := (Array.getElem?_eq_some_iff.1 hj).1
    have hcell := hat j hjl
    have hv : cs'[j]? = some (cs'[j]'(by omega)) := List.getElem?_eq_getElem (by omega)
    have h1 := hf j f hj
    rw [ho, hk] at h1
    have hone' : (cs'.drop j).take 1 = [cs'[j]'(by omega)] := by
      rw [List.drop_eq_getElem_cons (by omega)]
      rfl
    rw [hone'] at h1
    have hys : ys[j]? = some (ys[j]'(by omega)) := List.getElem?_eq_getElem (by omega)
    refine ⟨_, _, ?_, h1.trans hys⟩
    rw [← Go.Deep.add_add, hcell, hv]
end

variable {H : Type} {enc : TypeId × Value → H} {P : Program}
/-- A slice of structs of whole numbers of one kind. -/
theorem input_recs {W : World} {base : Nat} {t e : TypeId} {fs : Array Field} {k : IntKind} {v : Value} {d : DataW H} {p : List MemPlace} (ht : P.underlying t = some (.slice e)) (he : P.underlying e = some (.struct fs))
    (hone : oneCellFields P fs = true) (hC : P.cellsOf e = fs.size) (hint : ∀ (j : Nat) (f : Field), fs[j]? = some f → P.underlying f.type = some (.int k))
    (hval : Value.okWide P W .any base t v) (h : DataW.Trod enc P W 0 (fun _ => true) true t v d p) :
    ∃ (pl : Pl) (len cap : Nat) (g : Nat → Nat → Int), v = .slice (bif pl.nil then none else some ⟨pl.blk, pl.off, none⟩) len cap ∧ len ≤ cap ∧ cap ≤ 9223372036854775807 ∧
      RowSat (fun b => b < W.heap.size) pl W false true ((List.range fs.size).map fun j => .int k fun i => .var (g i j)) cap ∧ ∀ i j, i < cap → j < fs.size → k.min ≤ g i j ∧ g i j ≤ k.max := by
  obtain ⟨a1, len, cap, rfl⟩ := okWide_slice ht hval
  obtain ⟨fuel, hf⟩ := h
  rcases open_slice_fields ht he hone hC hf with ⟨hcs, hx⟩ | ⟨a, len', cap', m, hcs, hl, hm, hmm, hat⟩
  · simp [Value.cells] at hcs
    obtain ⟨rfl, rfl, rfl⟩ := hcs
    exact ⟨⟨0, 0, true⟩, 0, 0, fun _ _ => 0, rfl, Nat.le_refl _, by omega, ⟨fun _ => rfl, fun h => (by simp at h), fun h => (by simp at h), fun e he => absurd he (by omega), fun h => (by cases h)⟩, fun i j hi => absurd hi (by omega)⟩
  · simp [Value.cells] at hcs
    obtain ⟨rfl, rfl, rfl⟩ := hcs
    obtain ⟨hblk, hsp⟩ := slice_block ht hval
    simp only [if_true] at hmm
    subst hmm
    obtain ⟨ab, ao, spot⟩ := a
    simp only at hsp hblk
    subst hsp
    have hz : ∀ i j, i < m → j < fs.size → ∃ z : Int, W.cell? ⟨ab, ao + (i * fs.size + j), none⟩ = some (.int k z) ∧ k.min ≤ z ∧ z ≤ k.max := fun i j hi hj => by
      obtain ⟨n, hn⟩ := hat i hi
      obtain ⟨u, y, hc, hy⟩ := hn j fs[j] (Array.getElem?_eq_getElem hj)
      obtain ⟨z, hu, _, hwz⟩ := DataW.trod_int (hint j fs[j] (Array.getElem?_eq_getElem hj)) hy
      simp only [List.cons.injEq, and_true] at hu
      subst hu
      rw [Addr.add_lit] at hc
      exact ⟨z, hc, by simpa [Lit.wf] using hwz⟩
    refine ⟨⟨ab, ao, false⟩, len, m, fun i j => intOf ((W.cell? ⟨ab, ao + (i * fs.size + j), none⟩).getD (.int k 0)), rfl, hl, by simpa [maxLen] using hm, ⟨fun h => (by simp at h), fun _ h => (by cases h), fun _ _ => hblk, ?_, fun h => (by cases h)⟩, ?_⟩
    · intro i hi j c hj
      simp only [List.getElem?_map, Option.map_eq_some_iff, List.getElem?_range'] at hj
      obtain ⟨j', hj', rfl⟩ := hj
      have hjl : j < fs.size := by
        have := (List.getElem?_eq_some_iff.1 hj').1
        simpa using this
      have : j' = j := by
        rw [List.getElem?_range hjl] at hj'
        simpa using hj'.symm
      subst this
      obtain ⟨z, hc, _⟩ := hz i j' hi hjl
      refine ⟨.int k z, ?_, rfl, ?_⟩
      · simpa [Pl.base] using hc
      · show Value.int k z = Col.den _ i
        simp [Col.den, IE.den, hc, intOf]
    · intro i j hi hj
      obtain ⟨z, hc, h1, h2⟩ := hz i j hi hj
      simp only [hc, Option.getD_some, intOf]
      exact ⟨h1, h2⟩
end Go.Proofs.Ytajcmjjgnbaahaa.LawKit
