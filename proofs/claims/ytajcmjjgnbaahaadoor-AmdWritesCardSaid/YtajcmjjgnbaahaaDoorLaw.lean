/- What a law's contract gives its row: the law answers true, and old blocks stay as they are. -/
import Derived.Test.YtajcmjjgnbaahaaDoorRows
import Derived.WalkKit
import Derived.ProofKit
import Derived.OpenShut
import Derived.ShutString
import Derived.ChangeOld
import Derived.Below
import Derived.SizedLaws
import Derived.Carry
namespace Go.Proofs.YtajcmjjgnbaahaaDoor.LawKit
open Go Go.ChangeShapes Go.WideShapes Go.ChangeAt Go.RowKit
set_option linter.unusedVariables false
variable {H : Type} {enc : TypeId × Value -> H} {P : Program}
theorem trodAll_below (lo : laidOutB P = true) {W W' : World} (hb : Below W.heap.size W W') : ∀ {ts : List TypeId} {vs : List Value} {ds : List (DataW H)} {p : List MemPlace},
    (∀ t ∈ ts, P.readableRec t = true /\ t < P.types.size) -> DataW.TrodAll enc P W 0 (fun _ => true) true ts vs ds p -> DataW.TrodAll enc P W' 0 (fun b => decide (b < W.heap.size)) true ts vs ds p
  | [], vs, ds, p, _, h => by
    obtain ⟨rfl, rfl, rfl⟩ := trodAll_nil h
    exact trodAll_mk0
  | t :: ts, vs, ds, p, hr, h => by
    obtain ⟨v, vs', d, ds', a, b, rfl, rfl, rfl, h1, h2⟩ := trodAll_cons h
    have hlt : ∀ x ∈ a, x.block < W.heap.size := by obtain ⟨m, hm⟩ := h1; exact DataW.trod_lt m _ _ _ hm
    have h0 := hr t (List.mem_cons_self ..)
    exact trodAll_cons_mk (Below.trod lo h0.1 h0.2 h1 hb hlt) (trodAll_below lo hb (fun t ht => hr t (List.mem_cons_of_mem _ ht)) h2)
theorem trodAll_length {W : World} {base : Nat} {sp : Nat -> Bool} {hd : Bool} : ∀ {ts : List TypeId} {vs : List Value} {ds : List (DataW H)} {p : List MemPlace}, DataW.TrodAll enc P W base sp hd ts vs ds p -> ds.length = ts.length
  | [], vs, ds, p, h => by obtain ⟨rfl, rfl, rfl⟩ := trodAll_nil h; rfl
  | t :: ts, vs, ds, p, h => by
    obtain ⟨v, vs', d, ds', a, b, rfl, rfl, rfl, h1, h2⟩ := trodAll_cons h
    simp [trodAll_length h2]
def intOf : Value -> Int
  | .int _ n => n
  | _ => 0
end Go.Proofs.YtajcmjjgnbaahaaDoor.LawKit
