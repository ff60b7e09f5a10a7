/- What a law's arguments are that are slices of numbers: rows that came in. -/
import Derived.Test.YtajcmjjgnbaahaaLaw
import Derived.Test.YtajcmjjgnbaahaaSx5
import Derived.ChangeSlices
namespace Go.Proofs.Ytajcmjjgnbaahaa.LawKit
open Go Go.ChangeShapes Go.WideShapes Go.ChangeAt Go.RowKit Go.Proofs.Ytajcmjjgnbaahaa.Sx
set_option linter.unusedVariables false
set_option linter.unusedSimpArgs false

variable {H : Type} {enc : TypeId × Value → H} {P : Program}

theorem slice_block {W : World} {base : Nat} {t e : TypeId} {a : Addr} {len cap : Nat} (ht : P.underlying t = some (.slice e)) (hval : Value.okWide P W .any base t (.slice (some a) len cap)) : a.block < W.heap.size ∧ a.spot = none := by
  simp only [Value.okWide, ht, Cell.okWide, Cell.ok] at hval
  obtain ⟨_, _, _, hsp, row, cells, hs, _⟩ := hval
  refine ⟨?_, hsp⟩
  unfold World.shape? at hs
  split at hs
  · rename_i h; exact (Array.getElem?_eq_some_iff.1 h).1
  · simp at hs

/-- A slice of whole numbers. -/
theorem input_ints {W : World} {base : Nat} {t e : TypeId} {k : IntKind} {v : Value} {d : DataW H} {p : List MemPlace} (ht : P.underlying t = some (.slice e)) (he : P.underlying e = some (.int k)) (hc : P.cellsOf e = 1)
    (hval : Value.okWide P W .any base t v) (h : DataW.Trod enc P W 0 (fun _ => true) true t v d p) :
    ∃ (pl : Pl) (len cap : Nat) (g : Nat → Int), v = .slice (bif pl.nil then none else some ⟨pl.blk, pl.off, none⟩) len cap ∧ len ≤ cap ∧ cap ≤ 9223372036854775807 ∧ RowSat (fun b => b < W.heap.size) pl W false true [.int k fun i => .var (g i)] cap ∧
      ∀ i, i < cap → k.min ≤ g i ∧ g i ≤ k.max := by
  obtain ⟨a1, len, cap, rfl⟩ := okWide_slice ht hval
  obtain ⟨fuel, hf⟩ := h
  rcases open_ints ht he hc hf with ⟨hcs, hx⟩ | ⟨a, len', cap', zs, hcs, _, hl, hm, hz, hx, hcell, hwz⟩
  · simp [Value.cells] at hcs
    obtain ⟨rfl, rfl, rfl⟩ := hcs
    exact ⟨⟨0, 0, true⟩, 0, 0, fun _ => 0, rfl, Nat.le_refl _, by omega, ⟨fun _ => rfl, fun h => (by simp at h), fun h => (by simp at h), fun e he => absurd he (by omega), fun h => (by cases h)⟩, fun i hi => absurd hi (by omega)⟩
  · simp [Value.cells] at hcs
    obtain ⟨rfl, rfl, rfl⟩ := hcs
    obtain ⟨hblk, hsp⟩ := slice_block ht hval
    simp only [if_true] at hz
    obtain ⟨ab, ao, spot⟩ := a
    simp only at hsp hblk
    subst hsp
    refine ⟨⟨ab, ao, false⟩, len, cap, fun i => zs.getD i 0, rfl, hl, by simpa [maxLen] using hm, ⟨fun h => (by simp at h), fun _ h => (by cases h), fun _ _ => hblk, ?_, fun h => (by cases h)⟩, ?_⟩
    · intro i hi j c hj
      cases j with
      | zero =>
        simp at hj; subst hj
        refine ⟨_, ?_, rfl, rfl⟩
        have := hcell i (by omega)
        rw [Addr.add_lit] at this
        simpa [Pl.base, Col.den, IE.den] using this
      | succ j => simp at hj
    · intro i hi
      have := hwz (zs.getD i 0) (by
        rw [List.getD_eq_getElem?_getD, List.getElem?_eq_getElem (show i < zs.length by omega)]
        exact List.getElem_mem _)
      simpa [Lit.wf] using this

theorem loopG_intro {n0 : Nat} {f : St → (SExit → St → Prop) → Prop} {K : SExit → St → Prop} {σ : St} {L : Nat} (hL : σ.tmps.length = L) (α : Type) (slots : α → List (Nat × SV)) (hp : α → List SObj) (inv : α → Prop) (μ : α → Nat)
    (h0 : ∃ a, inv a ∧ simAt n0 L σ (slots a) (hp a))
    (h1 : ∀ (u : Nat → Value) (a : α), inv a → f { tmps := fillT (slots a) u 0 L, hp := hp a } (thenS (fun σ' => ∃ a', inv a' ∧ μ a' < μ a ∧ simAt n0 L σ' (slots a') (hp a')) K)) : loopG n0 f K σ := by
  subst hL; exact ⟨α, slots, hp, inv, μ, h0, h1⟩

/-- A whole number. -/
theorem input_int {W : World} {base : Nat} {t : TypeId} {k : IntKind} {v : Value} (ht : P.underlying t = some (.int k)) (hval : Value.okWide P W .any base t v) : v = .int k (intOf v) ∧ IntKind.has k (intOf v) := by
  unfold Value.okWide at hval
  rw [ht] at hval
  exact okWide_int ht hval

/-- One row that came in. -/
theorem sat_row {W : World} {pl : Pl} {cols : List Col} {n : NE} (h : RowSat (fun b => b < W.heap.size) pl W false true cols n.den) : SatHp (fun b => b < W.heap.size) (fun _ => pl) [.row false true cols n] W := by
  refine ⟨fun o x hx => ?_, fun o o' ho => ?_⟩
  · cases o with
    | zero => simp at hx; subst hx; exact h
    | succ o => simp at hx
  · obtain ⟨x, hx, hw⟩ := ho
    cases o with
    | zero => simp at hx; subst hx; simp [SObj.owns] at hw
    | succ o => simp at hx

end Go.Proofs.Ytajcmjjgnbaahaa.LawKit
