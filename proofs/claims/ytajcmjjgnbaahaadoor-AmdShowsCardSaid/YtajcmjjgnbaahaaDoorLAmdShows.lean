/- For every two instructions: the law AmdShows answers true. No conditions but the tables of Go's own library. -/
import Derived.Test.YtajcmjjgnbaahaaDoorAs2
import Derived.Test.YtajcmjjgnbaahaaDoorLaidLaw
import Derived.Test.YtajcmjjgnbaahaaDoorLaw5
import Derived.Test.YtajcmjjgnbaahaaDoorCards
import Derived.Test.YtajcmjjgnbaahaaDoorTie
namespace Go.Proofs.YtajcmjjgnbaahaaDoor.amdShows
open Go Go.ChangeShapes Go.WideShapes Go.ChangeAt Go.RowKit Go.Proofs.YtajcmjjgnbaahaaDoor.Sx
set_option linter.unusedVariables false
set_option linter.unusedSimpArgs false

theorem own : ownKnob Tryd.prog.godebug = none := by kernel_rfl
theorem laidOut : laidOutB Tryd.prog = true := by kernel_rfl
theorem tabType : ∃ t e, (Tryd.prog.globals[0]?).map (·.type) = some t ∧ Tryd.prog.underlying t = some (.array 20 e) ∧ Tryd.prog.underlying e = some (.int .u64) ∧ Tryd.prog.cellsOf e = 1 ∧ Tryd.prog.cellsOf t = 20 :=
  ⟨111, 92, by kernel_rfl, by kernel_rfl, by kernel_rfl, by kernel_rfl, by kernel_rfl⟩
theorem table {W : World} (h : laidMetH Tryd.prog Rows.amdShowsRow.laid W) : Lib.TabIs Tryd.prog W tenName .u64 Lib.pow10Tab := by
  obtain ⟨t, e, h1, h2, h3, h4, h5⟩ := tabType
  exact LawKit.tabIs_of_named Amd.gTens h1 h2 h3 h4 h5 h (by kernel_rfl)

def valOf (x : Amd.AI) : Value := .agg #[.int .i64 x.op, .bool x.wide, .bool x.long, .int .i64 x.d, .int .i64 x.s, .int .i64 x.disp, .int .i64 x.imm, .int .i64 x.cc]
set_option maxRecDepth 100000 in
theorem shows_calls (W : World) (x y : Amd.AI) (hx : Amd.in64 x.disp ∧ Amd.in64 x.imm) (hy : Amd.in64 y.disp ∧ Amd.in64 y.imm) (ht : Lib.TabIs Tryd.prog W tenName .u64 Lib.pow10Tab) :
    Calls Tryd.prog 3 #[valOf x, valOf y] W fun e W' => e = .returned (.bool true) ∧ Below W.heap.size W W' := by
  have hs := func_sound (un := fun _ => .plain 40) Amd.AQ_ok Tryd.func3
  have h0 := LawKit.glob_sat ht Amd.gTens (by decide)
  rw [← tenTab_eq] at h0
  have hc := hs (fun b => b < W.heap.size) (fun _ => ⟨0, 0, false⟩) Amd.hpT W [Amd.xIn x, Amd.xIn y] _ h0 (fun _ h => h)
    ⟨(Amd.xArg_wf _ _ _ _ _ _ _ _ _).1, (Amd.xArg_wf _ _ _ _ _ _ _ _ _).1, trivial⟩ (Amd.shows_sx hx hy)
  have e : (SV.denL (fun _ => (⟨0, 0, false⟩ : Pl)) [Amd.xIn x, Amd.xIn y]).toArray = #[valOf x, valOf y] := by
    simp [Amd.xIn, Amd.xArg, valOf, SV.denL, SV.den, IE.den, BE.den]
  rw [e] at hc
  refine hc.mono ?_
  rintro e W' ⟨ν', v, hp', _, _, rfl, _, _, hb, hk⟩
  exact ⟨by rw [hk ν'], hb.below⟩

set_option maxRecDepth 100000 in
theorem open_amd {W : World} {base : Nat} {v : Value} (h : Value.okWide Tryd.prog W .any base 25 v) : ∃ x : Amd.AI, v = valOf x ∧ Amd.in64 x.disp ∧ Amd.in64 x.imm := by
  obtain ⟨cs, rfl, hl, hk⟩ := LawKit.open_vals (us := [some (.int .i64), some .bool, some .bool, some (.int .i64), some (.int .i64), some (.int .i64), some (.int .i64), some (.int .i64)]) Tryd.underlying25 (by kernel_rfl) (by kernel_rfl) h
  obtain ⟨l⟩ := cs
  match l, hl with
  | [a, b, c, d, e, f, g, h], _ =>
    obtain ⟨_, u0, k0⟩ := hk 0 _ a rfl rfl
    obtain ⟨_, u1, k1⟩ := hk 1 _ b rfl rfl
    obtain ⟨_, u2, k2⟩ := hk 2 _ c rfl rfl
    obtain ⟨_, u3, k3⟩ := hk 3 _ d rfl rfl
    obtain ⟨_, u4, k4⟩ := hk 4 _ e rfl rfl
    obtain ⟨_, u5, k5⟩ := hk 5 _ f rfl rfl
    obtain ⟨_, u6, k6⟩ := hk 6 _ g rfl rfl
    obtain ⟨_, u7, k7⟩ := hk 7 _ h rfl rfl
    obtain ⟨b1, rfl⟩ := LawKit.okWide_bool u1 k1
    obtain ⟨b2, rfl⟩ := LawKit.okWide_bool u2 k2
    refine ⟨⟨LawKit.intOf a, b1, b2, LawKit.intOf d, LawKit.intOf e, LawKit.intOf f, LawKit.intOf g, LawKit.intOf h⟩, ?_, (LawKit.okWide_int u5 k5).2, (LawKit.okWide_int u6 k6).2⟩
    rw [(LawKit.okWide_int u0 k0).1, (LawKit.okWide_int u3 k3).1, (LawKit.okWide_int u4 k4).1, (LawKit.okWide_int u5 k5).1, (LawKit.okWide_int u6 k6).1, (LawKit.okWide_int u7 k7).1]
    rfl

/-- A world where the tables are laid. -/
def tab32 : List Int := [0, 1, 28, 2, 29, 14, 24, 3, 30, 22, 20, 15, 25, 17, 4, 8, 31, 27, 13, 23, 21, 19, 16, 7, 26, 12, 18, 6, 11, 5, 10, 9]
def tab64 : List Int := [0, 1, 56, 2, 57, 49, 28, 3, 61, 58, 42, 50, 38, 29, 17, 4, 62, 47, 59, 36, 45, 43, 51, 22, 53, 39, 33, 30, 24, 18, 12, 5, 63, 55, 48, 27, 60, 41, 37, 16, 46, 35, 44, 21, 52, 32, 23, 11, 54, 26, 40, 15, 34, 20, 31, 10, 25, 14, 19, 9, 13, 8, 7, 6]
noncomputable def laidHeap (os : Os) :=
  let h0 := (World.holding Tryd.prog os ⟨#[], #[], []⟩).heap
  let h1 := h0.modify 0 (fun | .cells _ t frozen => .cells (Lib.pow10Tab.map fun z => Value.int .u64 z).toArray t frozen | o => o)
  let h2 := h1.modify 1 (fun | .cells _ t frozen => .cells (tab32.map fun z => Value.int .u8 z).toArray t frozen | o => o)
  h2.modify 2 (fun | .cells _ t frozen => .cells (tab64.map fun z => Value.int .u8 z).toArray t frozen | o => o)
noncomputable def laidWorld (os : Os) : World := { World.holding Tryd.prog os ⟨#[], #[], []⟩ with heap := laidHeap os }
def zArgs : Array Value := #[.agg #[.int .i64 0, .bool false, .bool false, .int .i64 0, .int .i64 0, .int .i64 0, .int .i64 0, .int .i64 0], .agg #[.int .i64 0, .bool false, .bool false, .int .i64 0, .int .i64 0, .int .i64 0, .int .i64 0, .int .i64 0]]
theorem laid_met (os : Os) : laidMet Tryd.prog Rows.amdShowsRow.laid ((laidWorld os).forCall (fun _ _ => 0) ⟨#[], zArgs, []⟩).memory :=
  laidMet_of_run' 8 (by kernel_rfl) (by kernel_rfl)
theorem reads (os : Os) {H : Type} (enc : TypeId × Value → H) : ∃ places, DataW.whole enc Tryd.prog ((laidWorld os).forCall (fun _ _ => 0) ⟨#[], zArgs, []⟩).memory Tryd.f3.params.toList Rows.amdShowsSpec.vars false zArgs.toList 8 = some ([.agg [.lit (.int .i64 0), .lit (.bool false), .lit (.bool false), .lit (.int .i64 0), .lit (.int .i64 0), .lit (.int .i64 0), .lit (.int .i64 0), .lit (.int .i64 0)], .agg [.lit (.int .i64 0), .lit (.bool false), .lit (.bool false), .lit (.int .i64 0), .lit (.int .i64 0), .lit (.int .i64 0), .lit (.int .i64 0), .lit (.int .i64 0)]], [], places) :=
  ⟨[], by kernel_rfl⟩

set_option maxRecDepth 100000 in
theorem lifted (os : Os) (started : os.Started) (H : Type) (enc : TypeId × Value → H) (F : Stop.Interp) :
    ReturnsInHanded {} Tryd.checked os 3 .any ((OpenSpec.ofChange Rows.amdShowsSpec).preRow enc Tryd.prog Tryd.f3 Rows.amdShowsRow.domain false Rows.amdShowsRow.laid) (((OpenSpec.ofChange Rows.amdShowsSpec).at F).post enc Tryd.prog Tryd.f3 false true false false) := by
  obtain ⟨places, hx⟩ := reads os enc
  refine LawKit.laid_lifted (C := Tryd.checked) own started (by kernel_rfl) Tryd.func3
    (witness_row_at (enc := enc) (C := Tryd.checked) false (laidWorld os) zArgs rfl (by kernel_rfl) (by kernel_rfl) (by kernel_rfl)
      (OpenSpec.preRow_of_cond 8 hx (by kernel_rfl) (fun k hk => by cases hk) (by kernel_rfl) (laid_met os)))
    laidOut rfl (by kernel_rfl) (by kernel_rfl) (tb := 4) Tryd.underlying4 ?_ ?_
  · intro ds hl
    match ds, hl with
    | [_, _], _ => rfl
  · intro W base args ds p hval hA hsz hL
    rw [Tryd.params3] at hval hA
    obtain ⟨v0, vs0, d0, ds0, p0, q0, hargs, rfl, rfl, h0, r0⟩ := trodAll_cons hA
    obtain ⟨v1, vs1, d1, ds1, p1, q1, rfl, rfl, rfl, h1, r1⟩ := trodAll_cons r0
    obtain ⟨rfl, rfl, rfl⟩ := trodAll_nil r1
    obtain rfl : args = #[v0, v1] := by cases args; simp_all
    obtain ⟨x, rfl, hx⟩ := open_amd (hval 0 _ _ rfl rfl)
    obtain ⟨y, rfl, hy⟩ := open_amd (hval 1 _ _ rfl rfl)
    exact shows_calls W x y hx hy (table hL)

theorem said : Rows.AmdShowsSaid :=
  OpenClaim.holds_of_cond 3 Tryd.f3 rfl rfl rfl rfl rfl rfl rfl ⟨rfl, rfl, rfl, rfl, rfl⟩ rfl rfl rfl rfl rfl (by kernel_rfl) Tryd.func3 (by kernel_rfl)
    (of_decide_eq_true (by kernel_rfl)) (by unfold Func.isWrapper; first | (rw [if_pos (by decide +kernel)]; kernel_rfl) | (rw [if_neg (by decide +kernel)]; exact ⟨rfl, rfl⟩))
    (fun os started H enc _ F => by rw [OpenClaim.pre_eq_preRow]; exact lifted os started H enc F)

theorem plain (f : FuncId) (fn : Func) (hf : Tryd.pinned.checked.prog.funcNamed "ravelin/ravelinlaw18.AmdShows" = some f) (hfn : Tryd.pinned.checked.prog.funcs[f]? = some fn) :
    false = Tryd.pinned.checked.prog.looks [] ∧ ∀ (j : Nat) t, fn.params[j]? = some t → Tryd.pinned.checked.prog.wantsStandIn t = false := by
  obtain rfl : f = 3 := Option.some.inj ((show Tryd.prog.funcNamed "ravelin/ravelinlaw18.AmdShows" = some 3 by kernel_rfl).symm.trans hf) |>.symm
  obtain rfl : fn = Tryd.f3 := (Option.some.inj (Tryd.func3.symm.trans hfn)).symm
  refine ⟨by kernel_rfl, fun j t ht => ?_⟩
  rw [Tryd.params3] at ht
  obtain rfl : t = 25 := by simpa using Array.mem_of_getElem? ht
  exact (show Tryd.prog.wantsStandIn 25 = false by kernel_rfl)

theorem card : Rows.AmdShowsCardSaid :=
  Claim7.holds_tied_plain_at .later [] _ _ _ _ said (fun _ h => by cases h) (by kernel_rfl) (fun _ h => by cases h) amdShows_row_tie rfl ⟨rfl, rfl⟩ (by kernel_rfl) rfl plain (by kernel_rfl)
end Go.Proofs.YtajcmjjgnbaahaaDoor.amdShows

namespace Go.Proofs.YtajcmjjgnbaahaaDoor
/-- The card, under a short name, for the claim. -/
theorem amdShows_holds : Rows.AmdShowsCardSaid := amdShows.card
end Go.Proofs.YtajcmjjgnbaahaaDoor
