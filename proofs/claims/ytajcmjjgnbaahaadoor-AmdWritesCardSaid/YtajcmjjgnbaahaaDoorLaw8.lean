/- What a law's argument is that is a slice of structs: the bounds of its whole numbers, and of its room. -/
import Derived.Test.YtajcmjjgnbaahaaDoorLaw6
import Derived.SizedLaws
namespace Go.Proofs.YtajcmjjgnbaahaaDoor.LawKit
open Go Go.ChangeShapes Go.WideShapes Go.ChangeAt Go.RowKit Go.Proofs.YtajcmjjgnbaahaaDoor.Sx Go.Deep
set_option linter.unusedVariables false
set_option linter.unusedSimpArgs false
variable {H : Type} {enc : TypeId × Value -> H} {P : Program}
theorem room_slice {W : World} {t e : TypeId} {ts : List TypeId} {ds : List (DataW H)} {a : Option Addr} {len cap : Nat} {d : DataW H} {p : List MemPlace} (ht : P.underlying t = some (.slice e)) (h : DataW.Trod enc P W 0 (fun _ => true) true t (.slice a len cap) d p)
    (hsz : (DataW.weightsEach P ts ds).all (· <= reachBytes) = true) {j : Nat} (hj : ts[j]? = some t) (hd : ds[j]? = some d) : cap * P.bytesOf e <= reachBytes := by
  obtain ⟨fuel, hf⟩ := h
  rcases open_slice ht hf with ⟨hcs, hx⟩ | ⟨a, len', cap', m, n, D, Pl, hcs, hb, hl, hm, hmm, hx, hi⟩
  · simp [Value.cells] at hcs
    obtain ⟨_, _, rfl⟩ := hcs
    rw [Nat.zero_mul]; exact Nat.zero_le _
  · simp [Value.cells] at hcs
    obtain ⟨rfl, rfl, rfl⟩ := hcs
    simp only [if_true] at hmm
    subst hmm
    simp only [Prod.mk.injEq] at hx
    obtain ⟨rfl, _⟩ := hx
    have := sized_slice hsz hj hd ht
    simp only [List.length_map, List.length_range] at this
    rw [show len + (m - len) = m by omega] at this
    exact this
theorem mixed_fits {W : World} {t e : TypeId} {fs : Array Field} {ub : Nat -> Bool} {pl : Pl} {len cap : Nat} {g : Nat -> Nat -> Int} {b : Nat -> Nat -> Bool} {d : DataW H} {p : List MemPlace} (ht : P.underlying t = some (.slice e)) (he : P.underlying e = some (.struct fs))
    (hone : oneCellFields P fs = true) (hC : P.cellsOf e = fs.size) (hint : ∀ (j : Nat) (f : Field), fs[j]? = some f -> P.underlying f.type = some (if ub j = true then .bool else .int .i64))
    (h : DataW.Trod enc P W 0 (fun _ => true) true t (.slice (bif pl.nil then none else some ⟨pl.blk, pl.off, none⟩) len cap) d p)
    (hr : RowSat (fun b => b < W.heap.size) pl W false true ((List.range fs.size).map fun j => if ub j = true then Col.bool fun i => .var (b i j) else Col.int .i64 fun i => .var (g i j)) cap) :
    ∀ i j, i < cap -> j < fs.size -> ub j = false -> -9223372036854775808 <= g i j /\ g i j <= 9223372036854775807 := by
  intro i j hi hj hu
  obtain ⟨fuel, hf⟩ := h
  rcases open_slice_fields ht he hone hC hf with ⟨hcs, hx⟩ | ⟨a, len', cap', m, hcs, hl, hm, hmm, hat⟩
  · simp [Value.cells] at hcs
    omega
  · cases hn : pl.nil with
    | true =>
      rw [hn] at hcs
      simp [Value.cells] at hcs
    | false =>
      rw [hn] at hcs
      simp [Value.cells] at hcs
      obtain ⟨rfl, rfl, rfl⟩ := hcs
      simp only [if_true] at hmm
      subst hmm
      obtain ⟨n, hn'⟩ := hat i hi
      obtain ⟨u, y, hc, hy⟩ := hn' j fs[j] (Array.getElem?_eq_getElem hj)
      have hw := hint j fs[j] (Array.getElem?_eq_getElem hj)
      rw [if_neg (by rw [hu]; simp)] at hw
      obtain ⟨z, hz, _, hwz⟩ := DataW.trod_int hw hy
      simp only [List.cons.injEq, and_true] at hz
      subst hz
      obtain ⟨u', hc', _, hu'⟩ := hr.cell i hi j (Col.int .i64 fun i => .var (g i j)) (by
        rw [List.getElem?_map, List.getElem?_range hj]
        simp [hu])
      rw [Addr.add_lit] at hc
      have e1 : W.cell? ⟨pl.blk, pl.off + (i * fs.size + j), none⟩ = some u' := by simpa [Pl.base] using hc'
      rw [e1] at hc
      injection hc with hc
      subst hc
      have e2 : (Value.int .i64 z) = Value.int .i64 (g i j) := hu'
      injection e2 with _ e2
      subst e2
      have : IntKind.i64.min <= g i j /\ g i j <= IntKind.i64.max := by simpa [Lit.wf] using hwz
      simp only [IntKind.min, IntKind.max, IntKind.signed, IntKind.bits] at this
      simp at this
      omega
end Go.Proofs.YtajcmjjgnbaahaaDoor.LawKit
