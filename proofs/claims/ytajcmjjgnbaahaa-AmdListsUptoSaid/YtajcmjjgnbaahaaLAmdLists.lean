/- For every list of instructions and every slice of bytes, together of bulk at most 1048576: the law AmdLists answers true, and both read as they read before. -/
import Derived.Test.YtajcmjjgnbaahaaBl5
import Derived.Test.YtajcmjjgnbaahaaLaw4
import Derived.Test.YtajcmjjgnbaahaaLaw6
namespace Go.Proofs.Ytajcmjjgnbaahaa.amdLists
open Go Go.ChangeShapes Go.WideShapes Go.ChangeAt Go.RowKit Go.Proofs.Ytajcmjjgnbaahaa.Sx
set_option linter.unusedVariables false
set_option linter.unusedSimpArgs false

theorem own : ownKnob Try.prog.godebug = none := by kernel_rfl
theorem laidOut : laidOutB Try.prog = true := by kernel_rfl

set_option maxRecDepth 100000 in
theorem lists_calls (W : World) (pl pm : Pl) (X : Nat → Amd.AI) (len cap : Nat) (hlc : len ≤ cap) (hl : len ≤ 1048576) (h : Nat → Int) (m mc : Nat) (hb : Amd.BGood h m mc) (hm : m ≤ 1048576)
    (hr : RowSat (fun b => b < W.heap.size) pl W false true (Amd.cols8 X) cap) (hr' : RowSat (fun b => b < W.heap.size) pm W false true [Amd.col8 h] mc) :
    Calls Try.prog 5 #[.slice (bif pl.nil then none else some ⟨pl.blk, pl.off, none⟩) len cap, .slice (bif pm.nil then none else some ⟨pm.blk, pm.off, none⟩) m mc] W fun e W' => e = .returned (.bool true) ∧ Below W.heap.size W W' := by
  have hs := func_sound (un := fun _ => Amd.annA Amd.LSt (Amd.lSlots len cap m mc (Amd.catB X len).length) (Amd.lHp X cap h mc) (Amd.lInv X len (Amd.catB X len).length) (fun a => len - a.k)) Amd.LL_ok Try.func5
  have hc := hs (fun b => b < W.heap.size) (fun o => bif Nat.beq o 0 then pl else pm) [Amd.row8 X cap, Amd.rdRow h mc] W [Amd.sl8 len cap, Amd.slA 1 m mc] _ (LawKit.sat_rows2 (n := .var cap) (n' := .var mc) hr hr') (fun _ h => h)
    ⟨⟨_, rfl, rfl⟩, ⟨_, rfl, rfl⟩, trivial⟩ (Amd.lists_sx hlc hl hb hm)
  have e : (SV.denL (fun o => bif Nat.beq o 0 then pl else pm) [Amd.sl8 len cap, Amd.slA 1 m mc]).toArray = #[.slice (bif pl.nil then none else some ⟨pl.blk, pl.off, none⟩) len cap, .slice (bif pm.nil then none else some ⟨pm.blk, pm.off, none⟩) m mc] := by
    simp [Amd.sl8, Amd.slA, SV.denL, SV.den, Pl.base, NE.den]
    rfl
  rw [e] at hc
  refine hc.mono ?_
  rintro e W' ⟨ν', v, hp', _, _, rfl, _, _, hb, hk⟩
  exact ⟨by rw [hk ν'], hb.below⟩

def amdUb (j : Nat) : Bool := Nat.beq j 1 || Nat.beq j 2
set_option maxRecDepth 100000 in
theorem amdStruct : ∃ fs : Array Field, Try.prog.underlying 25 = some (.struct fs) ∧ Deep.oneCellFields Try.prog fs = true ∧ Try.prog.cellsOf 25 = fs.size ∧ fs.size = 8 ∧ ∀ (j : Nat) (f : Field), fs[j]? = some f → Try.prog.underlying f.type = some (if amdUb j = true then .bool else .int .i64) := by
  refine ⟨_, Try.underlying25, by kernel_rfl, by kernel_rfl, by kernel_rfl, fun j f hf => ?_⟩
  match j, hf with
  | 0, hf => simp at hf; subst hf; exact Try.underlying22
  | 1, hf => simp at hf; subst hf; exact Try.underlying4
  | 2, hf => simp at hf; subst hf; exact Try.underlying4
  | 3, hf => simp at hf; subst hf; exact Try.underlying3
  | 4, hf => simp at hf; subst hf; exact Try.underlying3
  | 5, hf => simp at hf; subst hf; exact Try.underlying3
  | 6, hf => simp at hf; subst hf; exact Try.underlying3
  | 7, hf => simp at hf; subst hf; exact Try.underlying23
  | n + 8, hf => simp at hf

set_option maxRecDepth 100000 in
theorem lifted (os : Os) (started : os.Started) (H : Type) (enc : TypeId × Value → H) (F : Stop.Interp) :
    ReturnsInHanded {} Try.checked os 5 .any ((Rows.OpenSpec.upto Rows.amdListsSpec).pre6 enc Try.prog Try.f5 Rows.amdListsUptoRow.domain false) (((Rows.OpenSpec.upto Rows.amdListsSpec).at F).post enc Try.prog Try.f5 false true false false) := by
  refine LawKit.law_lifted_cond (C := Try.checked) own started (by kernel_rfl) Try.func5
    (OpenSpec.witness (enc := enc) (C := Try.checked) (s := Rows.OpenSpec.upto Rows.amdListsSpec) (k := Rows.uptoSmall) rfl false ⟨#[], #[.slice none 0 0, .slice none 0 0], []⟩ 8 (by kernel_rfl) (by kernel_rfl) (by kernel_rfl)
      (x := ([.nil, .nil], [], [])) (by kernel_rfl) rfl (by kernel_rfl))
    laidOut rfl (by kernel_rfl) (by kernel_rfl) (tb := 4) Try.underlying4 ?_ ?_ F
  · intro ds hl
    match ds, hl with
    | [_, _], _ => rfl
  · intro W base args ds p hval hA hsz
    rw [Try.params5] at hval hA
    obtain ⟨v0, vs0, d0, ds0, p0, q0, hargs, rfl, rfl, h0, r0⟩ := trodAll_cons hA
    obtain ⟨v1, vs1, d1, ds1, p1, q1, rfl, rfl, rfl, h1, r1⟩ := trodAll_cons r0
    obtain ⟨rfl, rfl, rfl⟩ := trodAll_nil r1
    obtain rfl : args = #[v0, v1] := by cases args; simp_all
    obtain ⟨fs, s1, s2, s3, s4, s5⟩ := amdStruct
    obtain ⟨pl, len, cap, g, b, rfl, hle, hcap, hr⟩ := LawKit.input_mixed (ub := amdUb) Try.underlying37 s1 s2 s3 s5 (hval 0 _ _ rfl rfl) h0
    obtain ⟨pm, m, mc, f, rfl, hm, hmc, hr', hf⟩ := LawKit.input_ints Try.underlying26 Try.underlying5 (by kernel_rfl) (hval 1 _ _ rfl rfl) h1
    have k0 := LawKit.bulk_slice Try.underlying37 h0
    have k1 := LawKit.bulk_slice Try.underlying26 h1
    simp only [Rows.uptoBulkAll] at hsz
    rw [s4] at hr
    refine lists_calls W pl pm (fun i => ⟨g i 0, b i 1, b i 2, g i 3, g i 4, g i 5, g i 6, g i 7⟩) len cap hle (by omega) f m mc ⟨hm, by omega, fun i hi => ?_⟩ (by omega) hr hr'
    have := hf i (by omega)
    simp only [IntKind.min, IntKind.max, IntKind.signed, IntKind.bits] at this
    simp at this; omega

theorem over : Rows.amdListsUptoRow.holds Try.pinned (Rows.OpenSpec.upto Rows.amdListsSpec) :=
  OpenClaim.holds_of_cond 5 Try.f5 rfl rfl rfl rfl rfl rfl rfl ⟨rfl, rfl, rfl, rfl, rfl⟩ rfl rfl rfl rfl rfl (by kernel_rfl) Try.func5 (by kernel_rfl)
    (of_decide_eq_true (by kernel_rfl)) (by unfold Func.isWrapper; first | (rw [if_pos (by decide +kernel)]; kernel_rfl) | (rw [if_neg (by decide +kernel)]; exact ⟨rfl, rfl⟩))
    (fun os started H enc _ F => lifted os started H enc F)

theorem proved : Rows.AmdListsUptoSaid := over
end Go.Proofs.Ytajcmjjgnbaahaa.amdLists

namespace Go.Proofs.Ytajcmjjgnbaahaa
/-- The row, under a short name, for the claim. -/
theorem amdLists_holds : Rows.AmdListsUptoSaid := amdLists.proved
end Go.Proofs.Ytajcmjjgnbaahaa
