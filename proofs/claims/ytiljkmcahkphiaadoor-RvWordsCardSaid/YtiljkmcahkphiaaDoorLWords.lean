/- For every list of instructions, whatever it holds: the law RvWords answers true, and the list reads as it read before. No conditions but the tables of Go's own library. -/
import Derived.Test.YtiljkmcahkphiaaDoorWw2
import Derived.Test.YtiljkmcahkphiaaDoorCards
import Derived.Test.YtiljkmcahkphiaaDoorTie
namespace Go.Proofs.YtiljkmcahkphiaaDoor.rvWords
open Go Go.ChangeShapes Go.WideShapes Go.ChangeAt Go.RowKit Go.Proofs.YtiljkmcahkphiaaDoor.Sx
set_option linter.unusedVariables false
set_option linter.unusedSimpArgs false

theorem own : ownKnob Tryd.prog.godebug = none := by kernel_rfl
theorem laidOut : laidOutB Tryd.prog = true := by kernel_rfl
theorem tabType : ∃ t e, (Tryd.prog.globals[0]?).map (·.type) = some t ∧ Tryd.prog.underlying t = some (.array 20 e) ∧ Tryd.prog.underlying e = some (.int .u64) ∧ Tryd.prog.cellsOf e = 1 ∧ Tryd.prog.cellsOf t = 20 :=
  ⟨94, 52, by kernel_rfl, by kernel_rfl, by kernel_rfl, by kernel_rfl, by kernel_rfl⟩
theorem table {W : World} (h : laidMetH Tryd.prog Rows.rvWordsRow.laid W) : Lib.TabIs Tryd.prog W tenName .u64 Lib.pow10Tab := by
  obtain ⟨t, e, h1, h2, h3, h4, h5⟩ := tabType
  exact LawKit.tabIs_of_named Rv.gTens h1 h2 h3 h4 h5 h (by kernel_rfl)

theorem sat_row_tab {W : World} {pl : Pl} {cols : List Col} {n : NE} (h : RowSat (fun b => b < W.heap.size) pl W false true cols n.den) (ht : Lib.TabIs Tryd.prog W tenName .u64 Lib.pow10Tab) :
    SatHp (fun b => b < W.heap.size) (fun o => match o with | 0 => pl | _ => ⟨0, 0, false⟩) [.row false true cols n, .glob 0 tenTab] W := by
  have hg := LawKit.glob_sat ht Rv.gTens (by decide)
  rw [← tenTab_eq] at hg
  refine ⟨fun o x hx => ?_, fun o o' ho => ?_⟩
  · match o, hx with
    | 0, hx => simp at hx; subst hx; exact h
    | 1, hx =>
      simp at hx; subst hx
      obtain ⟨_, a, b, c, d⟩ := hg.obj 0 _ rfl
      exact ⟨rfl, a, b, c, d⟩
    | o + 2, hx => simp at hx
  · obtain ⟨x, hx, hw⟩ := ho
    match o, hx with
    | 0, hx => simp at hx; subst hx; simp [SObj.owns] at hw
    | 1, hx => simp at hx; subst hx; simp [SObj.owns] at hw
    | o + 2, hx => simp at hx

set_option maxRecDepth 100000 in
theorem words_calls (W : World) (pl : Pl) (g : Nat → Nat → Int) (len cap : Nat) (hle : len ≤ cap) (hcap : cap ≤ 9223372036854775807) (hg : ∀ i j, i < cap → j < 5 → Sx.inI64 (g i j))
    (hr : RowSat (fun b => b < W.heap.size) pl W false true (Rv.wCols g) cap) (ht : Lib.TabIs Tryd.prog W tenName .u64 Lib.pow10Tab) :
    Calls Rv.P 3 #[.slice (bif pl.nil then none else some ⟨pl.blk, pl.off, none⟩) len cap] W fun e W' => e = .returned (.bool true) ∧ Below W.heap.size W W' := by
  have hs := func_sound (un := Rv.wUn) Rv.GW_ok Tryd.func3
  have hc := hs (fun b => b < W.heap.size) (fun o => match o with | 0 => pl | _ => ⟨0, 0, false⟩) (Rv.wHp g cap) W [Rv.wArg len cap] _ (sat_row_tab (n := .var cap) hr ht) (fun _ h => h) ⟨⟨_, rfl, rfl⟩, trivial⟩ (Rv.words_sx g len cap hle hcap hg)
  have e : (SV.denL (fun o => match o with | 0 => pl | _ => ⟨0, 0, false⟩) [Rv.wArg len cap]).toArray = #[.slice (bif pl.nil then none else some ⟨pl.blk, pl.off, none⟩) len cap] := by
    simp [Rv.wArg, SV.denL, SV.den, Pl.base, NE.den]
  rw [e] at hc
  refine hc.mono ?_
  rintro e W' ⟨ν', v, hp', _, _, rfl, _, _, hb, hk⟩
  exact ⟨by rw [hk ν'], hb.below⟩
def tab32 : List Int := [0, 1, 28, 2, 29, 14, 24, 3, 30, 22, 20, 15, 25, 17, 4, 8, 31, 27, 13, 23, 21, 19, 16, 7, 26, 12, 18, 6, 11, 5, 10, 9]
def tab64 : List Int := [0, 1, 56, 2, 57, 49, 28, 3, 61, 58, 42, 50, 38, 29, 17, 4, 62, 47, 59, 36, 45, 43, 51, 22, 53, 39, 33, 30, 24, 18, 12, 5, 63, 55, 48, 27, 60, 41, 37, 16, 46, 35, 44, 21, 52, 32, 23, 11, 54, 26, 40, 15, 34, 20, 31, 10, 25, 14, 19, 9, 13, 8, 7, 6]
noncomputable def laidHeap (os : Os) :=
  let h0 := (World.holding Tryd.prog os ⟨#[], #[], []⟩).heap
  let h1 := h0.modify 0 (fun | .cells _ t frozen => .cells (Lib.pow10Tab.map fun z => Value.int .u64 z).toArray t frozen | o => o)
  let h2 := h1.modify 1 (fun | .cells _ t frozen => .cells (tab32.map fun z => Value.int .u8 z).toArray t frozen | o => o)
  h2.modify 2 (fun | .cells _ t frozen => .cells (tab64.map fun z => Value.int .u8 z).toArray t frozen | o => o)
noncomputable def laidWorld (os : Os) : World := { World.holding Tryd.prog os ⟨#[], #[], []⟩ with heap := laidHeap os }
theorem laid_met (os : Os) : laidMet Tryd.prog Rows.rvWordsRow.laid ((laidWorld os).forCall (fun _ _ => 0) ⟨#[], #[.slice none 0 0], []⟩).memory :=
  laidMet_of_run' 8 (by kernel_rfl) (by kernel_rfl)
theorem reads (os : Os) {H : Type} (enc : TypeId × Value → H) : ∃ places, DataW.whole enc Tryd.prog ((laidWorld os).forCall (fun _ _ => 0) ⟨#[], #[.slice none 0 0], []⟩).memory Tryd.f3.params.toList Rows.rvWordsSpec.vars false (#[.slice none 0 0] : Array Value).toList 8 = some ([.nil], [], places) :=
  ⟨[], by kernel_rfl⟩

theorem rvStruct : ∃ fs : Array Field, Tryd.prog.underlying 30 = some (.struct fs) ∧ Deep.oneCellFields Tryd.prog fs = true ∧ Tryd.prog.cellsOf 30 = fs.size ∧ fs.size = 5 ∧ ∀ (j : Nat) (f : Field), fs[j]? = some f → Tryd.prog.underlying f.type = some (.int .i64) := by
  refine ⟨_, Tryd.underlying30, by kernel_rfl, by kernel_rfl, by kernel_rfl, fun j f hf => ?_⟩
  match j, hf with
  | 0, hf => simp at hf; subst hf; exact Tryd.underlying28
  | 1, hf => simp at hf; subst hf; exact Tryd.underlying3
  | 2, hf => simp at hf; subst hf; exact Tryd.underlying3
  | 3, hf => simp at hf; subst hf; exact Tryd.underlying3
  | 4, hf => simp at hf; subst hf; exact Tryd.underlying3
  | n + 5, hf => simp at hf

set_option maxRecDepth 100000 in
theorem lifted (os : Os) (started : os.Started) (H : Type) (enc : TypeId × Value → H) (F : Stop.Interp) :
    ReturnsInHanded {} Tryd.checked os 3 .any ((OpenSpec.ofChange Rows.rvWordsSpec).preRow enc Tryd.prog Tryd.f3 Rows.rvWordsRow.domain false Rows.rvWordsRow.laid) (((OpenSpec.ofChange Rows.rvWordsSpec).at F).post enc Tryd.prog Tryd.f3 false true false false) := by
  obtain ⟨places, hx⟩ := reads os enc
  refine LawKit.laid_lifted (C := Tryd.checked) own started (by kernel_rfl) Tryd.func3
    (witness_row_at (enc := enc) (C := Tryd.checked) false (laidWorld os) #[.slice none 0 0] rfl (by kernel_rfl) (by kernel_rfl) (by kernel_rfl)
      (OpenSpec.preRow_of_cond 8 hx (by kernel_rfl) (fun k hk => by cases hk) (by kernel_rfl) (laid_met os)))
    laidOut rfl (by kernel_rfl) (by kernel_rfl) (tb := 4) Tryd.underlying4 ?_ ?_
  · intro ds hl
    match ds, hl with
    | [_], _ => rfl
  · intro W base args ds p hval hA hsz hL
    rw [Tryd.params3] at hval hA
    obtain ⟨v0, vs0, d0, ds0, p0, q0, hargs, rfl, rfl, h0, r0⟩ := trodAll_cons hA
    obtain ⟨rfl, rfl, rfl⟩ := trodAll_nil r0
    obtain rfl : args = #[v0] := by cases args; simp_all
    obtain ⟨fs, s1, s2, s3, s4, s5⟩ := rvStruct
    obtain ⟨pl, len, cap, g, rfl, hle, hcap, hr, hg⟩ := LawKit.input_recs (k := .i64) Tryd.underlying22 s1 s2 s3 s5 (hval 0 _ _ rfl rfl) h0
    rw [s4] at hr hg
    refine words_calls W pl g len cap hle hcap (fun i j hi hj => ?_) hr (table hL)
    have := hg i j hi hj
    simp only [IntKind.min, IntKind.max, IntKind.signed, IntKind.bits] at this
    simp at this
    exact ⟨by omega, by omega⟩

theorem said : Rows.RvWordsSaid :=
  OpenClaim.holds_of_cond 3 Tryd.f3 rfl rfl rfl rfl rfl rfl rfl ⟨rfl, rfl, rfl, rfl, rfl⟩ rfl rfl rfl rfl rfl (by kernel_rfl) Tryd.func3 (by kernel_rfl)
    (of_decide_eq_true (by kernel_rfl)) (by unfold Func.isWrapper; first | (rw [if_pos (by decide +kernel)]; kernel_rfl) | (rw [if_neg (by decide +kernel)]; exact ⟨rfl, rfl⟩))
    (fun os started H enc _ F => by rw [OpenClaim.pre_eq_preRow]; exact lifted os started H enc F)

theorem plain (f : FuncId) (fn : Func) (hf : Tryd.pinned.checked.prog.funcNamed "ravelin/ravelinlaw15.RvWords" = some f) (hfn : Tryd.pinned.checked.prog.funcs[f]? = some fn) :
    true = Tryd.pinned.checked.prog.looks [] ∧ ∀ (j : Nat) t, fn.params[j]? = some t → Tryd.pinned.checked.prog.wantsStandIn t = false := by
  obtain rfl : f = 3 := Option.some.inj ((show Tryd.prog.funcNamed "ravelin/ravelinlaw15.RvWords" = some 3 by kernel_rfl).symm.trans hf) |>.symm
  obtain rfl : fn = Tryd.f3 := (Option.some.inj (Tryd.func3.symm.trans hfn)).symm
  refine ⟨by kernel_rfl, fun j t ht => ?_⟩
  rw [Tryd.params3] at ht
  obtain rfl : t = 22 := by simpa using Array.mem_of_getElem? ht
  exact (show Tryd.prog.wantsStandIn 22 = false by kernel_rfl)

theorem card : Rows.RvWordsCardSaid :=
  Claim7.holds_tied_plain_at .later [] _ _ _ _ said (fun _ h => by cases h) (by kernel_rfl) (fun _ h => by cases h) rvWords_row_tie rfl ⟨rfl, rfl⟩ (by kernel_rfl) rfl plain (by kernel_rfl)
end Go.Proofs.YtiljkmcahkphiaaDoor.rvWords

namespace Go.Proofs.YtiljkmcahkphiaaDoor
/-- The card, under a short name, for the claim. -/
theorem rvWords_holds : Rows.RvWordsCardSaid := rvWords.card
end Go.Proofs.YtiljkmcahkphiaaDoor
