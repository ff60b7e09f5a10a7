/- The law AmdNames answers true: the examples, and the errors by their numbers. No conditions but the tables of Go's own library. -/
import Derived.Test.YtajcmjjgnbaahaaDoorLaidLaw
import Derived.Test.YtajcmjjgnbaahaaDoorNm3
import Derived.Test.YtajcmjjgnbaahaaDoorCards
import Derived.Test.YtajcmjjgnbaahaaDoorTie
namespace Go.Proofs.YtajcmjjgnbaahaaDoor.amdNames
open Go Go.ChangeShapes Go.WideShapes Go.ChangeAt Go.RowKit Go.Proofs.YtajcmjjgnbaahaaDoor.Sx
set_option linter.unusedVariables false

theorem own : ownKnob Tryd.prog.godebug = none := by kernel_rfl
theorem laidOut : laidOutB Tryd.prog = true := by kernel_rfl
def tens : List Int := [1, 10, 100, 1000, 10000, 100000, 1000000, 10000000, 100000000, 1000000000, 10000000000, 100000000000, 1000000000000, 10000000000000, 100000000000000, 1000000000000000, 10000000000000000, 100000000000000000, 1000000000000000000, 10000000000000000000]
theorem tensSV : pow10 = tens.map fun z => .int .u64 (.lit z) := rfl
theorem gTab : Tryd.prog.globalNamed "internal/strconv.uint64pow10" = some 0 := by kernel_rfl
theorem tabType : ∃ t e, (Tryd.prog.globals[0]?).map (·.type) = some t ∧ Tryd.prog.underlying t = some (.array 20 e) ∧ Tryd.prog.underlying e = some (.int .u64) ∧ Tryd.prog.cellsOf e = 1 ∧ Tryd.prog.cellsOf t = 20 :=
  ⟨111, 92, by kernel_rfl, by kernel_rfl, by kernel_rfl, by kernel_rfl, by kernel_rfl⟩
theorem table {W : World} (h : laidMetH Tryd.prog Rows.amdNamesRow.laid W) : Lib.TabIs Tryd.prog W "internal/strconv.uint64pow10" .u64 tens := by
  obtain ⟨t, e, h1, h2, h3, h4, h5⟩ := tabType
  exact LawKit.tabIs_of_named gTab h1 h2 h3 h4 h5 h (by kernel_rfl)

theorem calls (W : World) (hL : laidMetH Tryd.prog Rows.amdNamesRow.laid W) : Calls P 5 #[] W fun r w' => r = .returned (.bool true) ∧ Below W.heap.size W w' := by
  have hs := func_sound (un := fun _ => .plain 60) G1_ok Tryd.func5
  have h0 := LawKit.glob_sat (table hL) gTab (by decide)
  rw [← tensSV] at h0
  refine (hs (fun b => b < W.heap.size) (fun _ => ⟨0, 0, false⟩) hp0 W [] (fun v _ => ∀ ν, v.den ν = .bool true) h0 (fun _ h => h) trivial ?_).mono ?_
  · rw [run (fun v => ∀ ν, v.den ν = .bool true)]
    exact ⟨fun _ => rfl, ⟨trivial, trivial⟩, trivial⟩
  · rintro e w' ⟨ν, v, hp, _, _, rfl, _, _, hb, hv⟩
    exact ⟨by rw [hv ν], hb.below⟩

/-- A world where the tables are laid. -/
def tab32 : List Int := [0, 1, 28, 2, 29, 14, 24, 3, 30, 22, 20, 15, 25, 17, 4, 8, 31, 27, 13, 23, 21, 19, 16, 7, 26, 12, 18, 6, 11, 5, 10, 9]
def tab64 : List Int := [0, 1, 56, 2, 57, 49, 28, 3, 61, 58, 42, 50, 38, 29, 17, 4, 62, 47, 59, 36, 45, 43, 51, 22, 53, 39, 33, 30, 24, 18, 12, 5, 63, 55, 48, 27, 60, 41, 37, 16, 46, 35, 44, 21, 52, 32, 23, 11, 54, 26, 40, 15, 34, 20, 31, 10, 25, 14, 19, 9, 13, 8, 7, 6]
noncomputable def laidHeap (os : Os) :=
  let h0 := (World.holding Tryd.prog os ⟨#[], #[], []⟩).heap
  let h1 := h0.modify 0 (fun | .cells _ t frozen => .cells (tens.map fun z => Value.int .u64 z).toArray t frozen | o => o)
  let h2 := h1.modify 1 (fun | .cells _ t frozen => .cells (tab32.map fun z => Value.int .u8 z).toArray t frozen | o => o)
  h2.modify 2 (fun | .cells _ t frozen => .cells (tab64.map fun z => Value.int .u8 z).toArray t frozen | o => o)
noncomputable def laidWorld (os : Os) : World := { World.holding Tryd.prog os ⟨#[], #[], []⟩ with heap := laidHeap os }
theorem laid_met (os : Os) : laidMet Tryd.prog Rows.amdNamesRow.laid ((laidWorld os).forCall (fun _ _ => 0) ⟨#[], #[], []⟩).memory :=
  laidMet_of_run' 8 (by kernel_rfl) (by kernel_rfl)
theorem reads (os : Os) {H : Type} (enc : TypeId × Value → H) : ∃ places, DataW.whole enc Tryd.prog ((laidWorld os).forCall (fun _ _ => 0) ⟨#[], #[], []⟩).memory Tryd.f5.params.toList Rows.amdNamesSpec.vars false (#[] : Array Value).toList 8 = some ([], [], places) :=
  ⟨[], by kernel_rfl⟩

set_option maxRecDepth 100000 in
theorem lifted (os : Os) (started : os.Started) (H : Type) (enc : TypeId × Value → H) (F : Stop.Interp) :
    ReturnsInHanded {} Tryd.checked os 5 .any ((OpenSpec.ofChange Rows.amdNamesSpec).preRow enc Tryd.prog Tryd.f5 Rows.amdNamesRow.domain false Rows.amdNamesRow.laid) (((OpenSpec.ofChange Rows.amdNamesSpec).at F).post enc Tryd.prog Tryd.f5 false true false false) := by
  obtain ⟨places, hx⟩ := reads os enc
  refine LawKit.laid_lifted (C := Tryd.checked) own started (by kernel_rfl) Tryd.func5
    (witness_row_at (enc := enc) (C := Tryd.checked) false (laidWorld os) #[] rfl (by kernel_rfl) (by kernel_rfl) (by kernel_rfl)
      (OpenSpec.preRow_of_cond 8 hx (by kernel_rfl) (fun k hk => by cases hk) (by kernel_rfl) (laid_met os)))
    laidOut rfl (by kernel_rfl) (by kernel_rfl) (tb := 4) Tryd.underlying4 ?_ ?_
  · intro ds hl
    match ds, hl with
    | [], _ => rfl
  · intro W base args ds p hval hA hsz hL
    rw [Tryd.params5] at hA
    obtain ⟨h0, _, _⟩ := trodAll_nil hA
    obtain rfl : args = #[] := by cases args; simp_all
    exact calls W hL

theorem said : Rows.AmdNamesSaid :=
  OpenClaim.holds_of_cond 5 Tryd.f5 rfl rfl rfl rfl rfl rfl rfl ⟨rfl, rfl, rfl, rfl, rfl⟩ rfl rfl rfl rfl rfl (by kernel_rfl) Tryd.func5 (by kernel_rfl)
    (of_decide_eq_true (by kernel_rfl)) (by unfold Func.isWrapper; first | (rw [if_pos (by decide +kernel)]; kernel_rfl) | (rw [if_neg (by decide +kernel)]; exact ⟨rfl, rfl⟩))
    (fun os started H enc _ F => by rw [OpenClaim.pre_eq_preRow]; exact lifted os started H enc F)

theorem plain (f : FuncId) (fn : Func) (hf : Tryd.pinned.checked.prog.funcNamed "ravelin/ravelinlaw18.AmdNames" = some f) (hfn : Tryd.pinned.checked.prog.funcs[f]? = some fn) :
    false = Tryd.pinned.checked.prog.looks [] ∧ ∀ (j : Nat) t, fn.params[j]? = some t → Tryd.pinned.checked.prog.wantsStandIn t = false := by
  obtain rfl : f = 5 := Option.some.inj ((show Tryd.prog.funcNamed "ravelin/ravelinlaw18.AmdNames" = some 5 by kernel_rfl).symm.trans hf) |>.symm
  obtain rfl : fn = Tryd.f5 := (Option.some.inj (Tryd.func5.symm.trans hfn)).symm
  refine ⟨by kernel_rfl, fun j t ht => ?_⟩
  rw [Tryd.params5] at ht
  simp at ht

theorem card : Rows.AmdNamesCardSaid :=
  Claim7.holds_tied_plain_at .later [] _ _ _ _ said (fun _ h => by cases h) (by kernel_rfl) (fun _ h => by cases h) amdNames_row_tie rfl ⟨rfl, rfl⟩ (by kernel_rfl) rfl plain (by kernel_rfl)
end Go.Proofs.YtajcmjjgnbaahaaDoor.amdNames

namespace Go.Proofs.YtajcmjjgnbaahaaDoor
/-- The card, under a short name, for the claim. -/
theorem amdNames_holds : Rows.AmdNamesCardSaid := amdNames.card
end Go.Proofs.YtajcmjjgnbaahaaDoor
