/- What a law's argument is that is a slice of structs of whole numbers and truth values: a row that came in. -/
import Derived.Test.YtajcmjjgnbaahaaDoorLaw3
namespace Go.Proofs.YtajcmjjgnbaahaaDoor.LawKit
open Go Go.ChangeShapes Go.WideShapes Go.ChangeAt Go.RowKit Go.Proofs.YtajcmjjgnbaahaaDoor.Sx Go.Deep
set_option linter.unusedVariables false
set_option linter.unusedSimpArgs false
variable {H : Type} {enc : TypeId × Value -> H} {P : Program}
def boolOf : Value -> Bool
  | .bool b => b
  | _ => false
theorem input_mixed {W : World} {base : Nat} {t e : TypeId} {fs : Array Field} {ub : Nat -> Bool} {v : Value} {d : DataW H} {p : List MemPlace} (ht : P.underlying t = some (.slice e)) (he : P.underlying e = some (.struct fs))
    (hone : oneCellFields P fs = true) (hC : P.cellsOf e = fs.size) (hint : ∀ (j : Nat) (f : Field), fs[j]? = some f -> P.underlying f.type = some (if ub j = true then .bool else .int .i64))
    (hval : Value.okWide P W .any base t v) (h : DataW.Trod enc P W 0 (fun _ => true) true t v d p) :
    ∃ (pl : Pl) (len cap : Nat) (g : Nat -> Nat -> Int) (b : Nat -> Nat -> Bool), v = .slice (bif pl.nil then none else some ⟨pl.blk, pl.off, none⟩) len cap /\ len <= cap /\ cap <= 9223372036854775807 /\
      RowSat (fun b => b < W.heap.size) pl W false true ((List.range fs.size).map fun j => if ub j = true then Col.bool fun i => .var (b i j) else Col.int .i64 fun i => .var (g i j)) cap := by
  obtain ⟨a1, len, cap, rfl⟩ := okWide_slice ht hval
  obtain ⟨fuel, hf⟩ := h
  rcases open_slice_fields ht he hone hC hf with ⟨hcs, hx⟩ | ⟨a, len', cap', m, hcs, hl, hm, hmm, hat⟩
  · simp [Value.cells] at hcs
    obtain ⟨rfl, rfl, rfl⟩ := hcs
    exact ⟨⟨0, 0, true⟩, 0, 0, fun _ _ => 0, fun _ _ => false, rfl, Nat.le_refl _, by omega, ⟨fun _ => rfl, fun h => (by simp at h), fun h => (by simp at h), fun e he => absurd he (by omega), fun h => (by cases h)⟩⟩
  · simp [Value.cells] at hcs
    obtain ⟨rfl, rfl, rfl⟩ := hcs
    obtain ⟨hblk, hsp⟩ := slice_block ht hval
    simp only [if_true] at hmm
    subst hmm
    obtain ⟨ab, ao, spot⟩ := a
    simp only at hsp hblk
    subst hsp
    have hz : ∀ i j, i < m -> j < fs.size -> ∃ u : Value, W.cell? ⟨ab, ao + (i * fs.size + j), none⟩ = some u /\ u = (if ub j = true then .bool (boolOf u) else .int .i64 (intOf u)) := fun i j hi hj => by
      obtain ⟨n, hn⟩ := hat i hi
      obtain ⟨u, y, hc, hy⟩ := hn j fs[j] (Array.getElem?_eq_getElem hj)
      have hu := hint j fs[j] (Array.getElem?_eq_getElem hj)
      rw [Addr.add_lit] at hc
      refine ⟨u, hc, ?_⟩
      split
      · rename_i hb
        rw [if_pos hb] at hu
        obtain ⟨z, hz, _⟩ := DataW.trod_bool hu hy
        simp only [List.cons.injEq, and_true] at hz
        subst hz; rfl
      · rename_i hb
        rw [if_neg hb] at hu
        obtain ⟨z, hz, _⟩ := DataW.trod_int hu hy
        simp only [List.cons.injEq, and_true] at hz
        subst hz; rfl
    refine ⟨⟨ab, ao, false⟩, len, m, fun i j => intOf ((W.cell? ⟨ab, ao + (i * fs.size + j), none⟩).getD (.int .i64 0)), fun i j => boolOf ((W.cell? ⟨ab, ao + (i * fs.size + j), none⟩).getD (.bool false)), rfl, hl, by simpa [maxLen] using hm, ⟨fun h => (by simp at h), fun _ h => (by cases h), fun _ _ => hblk, ?_, fun h => (by cases h)⟩⟩
    intro i hi j c hj
    simp only [List.getElem?_map, Option.map_eq_some_iff] at hj
    obtain ⟨j', hj', rfl⟩ := hj
    have hjl : j < fs.size := by
      have := (List.getElem?_eq_some_iff.1 hj').1
      simpa using this
    have : j' = j := by
      rw [List.getElem?_range hjl] at hj'
      simpa using hj'.symm
    subst this
    obtain ⟨u, hc, hu⟩ := hz i j' hi hjl
    refine ⟨u, ?_, ?_⟩
    · simpa [Pl.base] using hc
    · split
      · rename_i hb
        rw [if_pos hb] at hu
        obtain ⟨z, rfl⟩ : ∃ z, u = .bool z := ⟨_, hu⟩
        refine ⟨rfl, ?_⟩
        show Value.bool z = Value.bool (BE.den (.var _))
        simp [BE.den, hc, boolOf]
      · rename_i hb
        rw [if_neg hb] at hu
        obtain ⟨z, rfl⟩ : ∃ z, u = .int .i64 z := ⟨_, hu⟩
        refine ⟨rfl, ?_⟩
        show Value.int .i64 z = Value.int .i64 (IE.den (.var _))
        simp [IE.den, hc, intOf]
end Go.Proofs.YtajcmjjgnbaahaaDoor.LawKit
