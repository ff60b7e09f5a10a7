/- For every list of instructions: the law AmdWrites answers true, and the list reads as it read before. No conditions but the tables of Go's own library. -/
import Derived.Test.YtajcmjjgnbaahaaDoorWl2
import Derived.Test.YtajcmjjgnbaahaaDoorLaidLaw
import Derived.Test.YtajcmjjgnbaahaaDoorLaw8
import Derived.Test.YtajcmjjgnbaahaaDoorCards
import Derived.Test.YtajcmjjgnbaahaaDoorTie
namespace Go.Proofs.YtajcmjjgnbaahaaDoor.amdWrites
open Go Go.ChangeShapes Go.WideShapes Go.ChangeAt Go.RowKit Go.Proofs.YtajcmjjgnbaahaaDoor.Sx
set_option linter.unusedVariables false
set_option linter.unusedSimpArgs false
theorem own : ownKnob Tryd.prog.godebug = none := by kernel_rfl
theorem laidOut : laidOutB Tryd.prog = true := by kernel_rfl
theorem tabType : ∃ t e, (Tryd.prog.globals[0]?).map (·.type) = some t /\ Tryd.prog.underlying t = some (.array 20 e) /\ Tryd.prog.underlying e = some (.int .u64) /\ Tryd.prog.cellsOf e = 1 /\ Tryd.prog.cellsOf t = 20 :=
  ⟨111, 92, by kernel_rfl, by kernel_rfl, by kernel_rfl, by kernel_rfl, by kernel_rfl⟩
theorem table {W : World} (h : laidMetH Tryd.prog Rows.amdWritesRow.laid W) : Lib.TabIs Tryd.prog W tenName .u64 Lib.pow10Tab := by
  obtain ⟨t, e, h1, h2, h3, h4, h5⟩ := tabType
  exact LawKit.tabIs_of_named Amd.gTens h1 h2 h3 h4 h5 h (by kernel_rfl)
theorem sat_row_tab {W : World} {pl : Pl} {cols : List Col} {n : NE} (h : RowSat (fun b => b < W.heap.size) pl W false true cols n.den) (ht : Lib.TabIs Tryd.prog W tenName .u64 Lib.pow10Tab) :
    SatHp (fun b => b < W.heap.size) (fun o => match o with | 0 => pl | _ => ⟨0, 0, false⟩) [.row false true cols n, .glob 0 tenTab] W := by
  have hg := LawKit.glob_sat ht Amd.gTens (by decide)
  rw [<- tenTab_eq] at hg
  refine ⟨fun o x hx => ?_, fun o o' ho => ?_⟩
  · match o, hx with
    | 0, hx => simp at hx; subst hx; exact h
    | 1, hx =>
      simp at hx; subst hx
      obtain ⟨_, a, b, c, d⟩ := hg.obj 0 _ rfl
      exact ⟨rfl, a, b, c, d⟩
    | o + 2, hx => simp at hx
  · obtain ⟨x, hx, hw⟩ := ho
    match o, hx with
    | 0, hx => simp at hx; subst hx; simp [SObj.owns] at hw
    | 1, hx => simp at hx; subst hx; simp [SObj.owns] at hw
    | o + 2, hx => simp at hx
set_option maxRecDepth 100000 in
theorem writes_calls (W : World) (pl : Pl) (X : Nat -> Amd.AI) (len cap : Nat) (hlc : len <= cap) (hl : len <= 4398046511104) (hX : ∀ i, i < len -> Amd.in64 (X i).disp /\ Amd.in64 (X i).imm)
    (hr : RowSat (fun b => b < W.heap.size) pl W false true (Amd.cols8 X) cap) (ht : Lib.TabIs Tryd.prog W tenName .u64 Lib.pow10Tab) :
    Calls Tryd.prog 4 #[.slice (bif pl.nil then none else some ⟨pl.blk, pl.off, none⟩) len cap] W fun e W' => e = .returned (.bool true) /\ Below W.heap.size W W' := by
  have hs := func_sound (un := fun _ => Amd.annA Amd.WlSt (Amd.wlSlots len cap) (fun _ => Amd.wlHp X cap) (Amd.wlInv len) (fun a => len - a.k)) (Amd.AW_ok X cap) Tryd.func4
  have hc := hs (fun b => b < W.heap.size) (fun o => match o with | 0 => pl | _ => ⟨0, 0, false⟩) (Amd.wlHp X cap) W [Amd.sl8 len cap] _ (sat_row_tab (n := .var cap) hr ht) (fun _ h => h)
    ⟨⟨_, rfl, rfl⟩, trivial⟩ (Amd.writes_sx hlc hl hX)
  have e : (SV.denL (fun o => match o with | 0 => pl | _ => ⟨0, 0, false⟩) [Amd.sl8 len cap]).toArray = #[.slice (bif pl.nil then none else some ⟨pl.blk, pl.off, none⟩) len cap] := by
    simp [Amd.sl8, SV.denL, SV.den, Pl.base, NE.den]
  rw [e] at hc
  refine hc.mono ?_
  rintro e W' ⟨ν', v, hp', _, _, rfl, _, _, hb, hk⟩
  exact ⟨by rw [hk ν'], hb.below⟩
def tab32 : List Int := [0, 1, 28, 2, 29, 14, 24, 3, 30, 22, 20, 15, 25, 17, 4, 8, 31, 27, 13, 23, 21, 19, 16, 7, 26, 12, 18, 6, 11, 5, 10, 9]
def tab64 : List Int := [0, 1, 56, 2, 57, 49, 28, 3, 61, 58, 42, 50, 38, 29, 17, 4, 62, 47, 59, 36, 45, 43, 51, 22, 53, 39, 33, 30, 24, 18, 12, 5, 63, 55, 48, 27, 60, 41, 37, 16, 46, 35, 44, 21, 52, 32, 23, 11, 54, 26, 40, 15, 34, 20, 31, 10, 25, 14, 19, 9, 13, 8, 7, 6]
noncomputable def laidHeap (os : Os) :=
  let h0 := (World.holding Tryd.prog os ⟨#[], #[], []⟩).heap
  let h1 := h0.modify 0 (fun | .cells _ t frozen => .cells (Lib.pow10Tab.map fun z => Value.int .u64 z).toArray t frozen | o => o)
  let h2 := h1.modify 1 (fun | .cells _ t frozen => .cells (tab32.map fun z => Value.int .u8 z).toArray t frozen | o => o)
  h2.modify 2 (fun | .cells _ t frozen => .cells (tab64.map fun z => Value.int .u8 z).toArray t frozen | o => o)
noncomputable def laidWorld (os : Os) : World := { World.holding Tryd.prog os ⟨#[], #[], []⟩ with heap := laidHeap os }
theorem laid_met (os : Os) : laidMet Tryd.prog Rows.amdWritesRow.laid ((laidWorld os).forCall (fun _ _ => 0) ⟨#[], #[.slice none 0 0], []⟩).memory :=
  laidMet_of_run' 8 (by kernel_rfl) (by kernel_rfl)
theorem reads (os : Os) {H : Type} (enc : TypeId × Value -> H) : ∃ places, DataW.whole enc Tryd.prog ((laidWorld os).forCall (fun _ _ => 0) ⟨#[], #[.slice none 0 0], []⟩).memory Tryd.f4.params.toList Rows.amdWritesSpec.vars false (#[.slice none 0 0] : Array Value).toList 8 = some ([.nil], [], places) :=
  ⟨[], by kernel_rfl⟩
def amdUb (j : Nat) : Bool := Nat.beq j 1 || Nat.beq j 2
set_option maxRecDepth 100000 in
theorem amdStruct : ∃ fs : Array Field, Tryd.prog.underlying 25 = some (.struct fs) /\ Deep.oneCellFields Tryd.prog fs = true /\ Tryd.prog.cellsOf 25 = fs.size /\ fs.size = 8 /\ ∀ (j : Nat) (f : Field), fs[j]? = some f -> Tryd.prog.underlying f.type = some (if amdUb j = true then .bool else .int .i64) := by
  refine ⟨_, Tryd.underlying25, by kernel_rfl, by kernel_rfl, by kernel_rfl, fun j f hf => ?_⟩
  match j, hf with
  | 0, hf => simp at hf; subst hf; exact Tryd.underlying22
  | 1, hf => simp at hf; subst hf; exact Tryd.underlying4
  | 2, hf => simp at hf; subst hf; exact Tryd.underlying4
  | 3, hf => simp at hf; subst hf; exact Tryd.underlying3
  | 4, hf => simp at hf; subst hf; exact Tryd.underlying3
  | 5, hf => simp at hf; subst hf; exact Tryd.underlying3
  | 6, hf => simp at hf; subst hf; exact Tryd.underlying3
  | 7, hf => simp at hf; subst hf; exact Tryd.underlying23
  | n + 8, hf => simp at hf
theorem amdBytes56 : Tryd.prog.bytesOf 25 = 56 := by kernel_rfl
set_option maxRecDepth 100000 in
theorem lifted (os : Os) (started : os.Started) (H : Type) (enc : TypeId × Value -> H) (F : Stop.Interp) :
    ReturnsInHanded {} Tryd.checked os 4 .any ((OpenSpec.ofChange Rows.amdWritesSpec).preRow enc Tryd.prog Tryd.f4 Rows.amdWritesRow.domain false Rows.amdWritesRow.laid) (((OpenSpec.ofChange Rows.amdWritesSpec).at F).post enc Tryd.prog Tryd.f4 false true false false) := by
  obtain ⟨places, hx⟩ := reads os enc
  refine LawKit.laid_lifted (C := Tryd.checked) own started (by kernel_rfl) Tryd.func4
    (witness_row_at (enc := enc) (C := Tryd.checked) false (laidWorld os) #[.slice none 0 0] rfl (by kernel_rfl) (by kernel_rfl) (by kernel_rfl)
      (OpenSpec.preRow_of_cond 8 hx (by kernel_rfl) (fun k hk => by cases hk) (by kernel_rfl) (laid_met os)))
    laidOut rfl (by kernel_rfl) (by kernel_rfl) (tb := 4) Tryd.underlying4 ?_ ?_
  · intro ds hl
    match ds, hl with
    | [_], _ => rfl
  · intro W base args ds p hval hA hsz hL
    rw [Tryd.params4] at hval hA hsz
    obtain ⟨v0, vs0, d0, ds0, p0, q0, hargs, rfl, rfl, h0, r0⟩ := trodAll_cons hA
    obtain ⟨rfl, rfl, rfl⟩ := trodAll_nil r0
    obtain rfl : args = #[v0] := by cases args; simp_all
    obtain ⟨fs, s1, s2, s3, s4, s5⟩ := amdStruct
    obtain ⟨pl, len, cap, g, b, rfl, hle, hcap, hr⟩ := LawKit.input_mixed (ub := amdUb) Tryd.underlying33 s1 s2 s3 s5 (hval 0 _ _ rfl rfl) h0
    have hfit := LawKit.mixed_fits (ub := amdUb) Tryd.underlying33 s1 s2 s3 s5 h0 hr
    have hroom := LawKit.room_slice Tryd.underlying33 h0 hsz (j := 0) rfl rfl
    rw [amdBytes56] at hroom
    rw [s4] at hr hfit
    have hrb : reachBytes = 140737488351232 := rfl
    rw [hrb] at hroom
    exact writes_calls W pl (fun i => ⟨g i 0, b i 1, b i 2, g i 3, g i 4, g i 5, g i 6, g i 7⟩) len cap hle (by omega) (fun i hi => ⟨hfit i 5 (by omega) (by decide) rfl, hfit i 6 (by omega) (by decide) rfl⟩) hr (table hL)
theorem said : Rows.AmdWritesSaid :=
  OpenClaim.holds_of_cond 4 Tryd.f4 rfl rfl rfl rfl rfl rfl rfl ⟨rfl, rfl, rfl, rfl, rfl⟩ rfl rfl rfl rfl rfl (by kernel_rfl) Tryd.func4 (by kernel_rfl)
    (of_decide_eq_true (by kernel_rfl)) (by unfold Func.isWrapper; first | (rw [if_pos (by decide +kernel)]; kernel_rfl) | (rw [if_neg (by decide +kernel)]; exact ⟨rfl, rfl⟩))
    (fun os started H enc _ F => by rw [OpenClaim.pre_eq_preRow]; exact lifted os started H enc F)
theorem plain (f : FuncId) (fn : Func) (hf : Tryd.pinned.checked.prog.funcNamed "ravelin/ravelinlaw18.AmdWrites" = some f) (hfn : Tryd.pinned.checked.prog.funcs[f]? = some fn) :
    false = Tryd.pinned.checked.prog.looks [] /\ ∀ (j : Nat) t, fn.params[j]? = some t -> Tryd.pinned.checked.prog.wantsStandIn t = false := by
  obtain rfl : f = 4 := Option.some.inj ((show Tryd.prog.funcNamed "ravelin/ravelinlaw18.AmdWrites" = some 4 by kernel_rfl).symm.trans hf) |>.symm
  obtain rfl : fn = Tryd.f4 := (Option.some.inj (Tryd.func4.symm.trans hfn)).symm
  refine ⟨by kernel_rfl, fun j t ht => ?_⟩
  rw [Tryd.params4] at ht
  obtain rfl : t = 33 := by simpa using Array.mem_of_getElem? ht
  exact (show Tryd.prog.wantsStandIn 33 = false by kernel_rfl)
theorem card : Rows.AmdWritesCardSaid :=
  Claim7.holds_tied_plain_at .later [] _ _ _ _ said (fun _ h => by cases h) (by kernel_rfl) (fun _ h => by cases h) amdWrites_row_tie rfl ⟨rfl, rfl⟩ (by kernel_rfl) rfl plain (by kernel_rfl)
end Go.Proofs.YtajcmjjgnbaahaaDoor.amdWrites
namespace Go.Proofs.YtajcmjjgnbaahaaDoor
theorem amdWrites_holds : Rows.AmdWritesCardSaid := amdWrites.card
end Go.Proofs.YtajcmjjgnbaahaaDoor
