/- For every list of instructions and every slice of bytes, together of bulk at most 1048576: the law RvLists answers true, and both read as they read before. -/
import Derived.Test.YtiljkmcahkphiaaLi9
namespace Go.Proofs.Ytiljkmcahkphiaa.rvLists
open Go Go.ChangeShapes Go.WideShapes Go.ChangeAt Go.RowKit Go.Proofs.Ytiljkmcahkphiaa.Sx
set_option linter.unusedVariables false
set_option linter.unusedSimpArgs false

theorem own : ownKnob Try.prog.godebug = none := by kernel_rfl
theorem laidOut : laidOutB Try.prog = true := by kernel_rfl

theorem sat_two {W : World} {p q : Pl} {cols cols' : List Col} {n n' : NE} (h : RowSat (fun b => b < W.heap.size) p W false true cols n.den) (h' : RowSat (fun b => b < W.heap.size) q W false true cols' n'.den) :
    SatHp (fun b => b < W.heap.size) (fun o => match o with | 0 => p | _ => q) [.row false true cols n, .row false true cols' n'] W := by
  refine ⟨fun o x hx => ?_, fun o o' ho => ?_⟩
  · match o, hx with
    | 0, hx => simp at hx; subst hx; exact h
    | 1, hx => simp at hx; subst hx; exact h'
    | o + 2, hx => simp at hx
  · obtain ⟨x, hx, hw⟩ := ho
    match o, hx with
    | 0, hx => simp at hx; subst hx; simp [SObj.owns] at hw
    | 1, hx => simp at hx; subst hx; simp [SObj.owns] at hw
    | o + 2, hx => simp at hx

set_option maxRecDepth 100000 in
theorem lists_calls (W : World) (pl pm : Pl) (g : Nat → Nat → Int) (len cap : Nat) (hle : len ≤ cap) (hl2 : len ≤ 1048576) (hg : ∀ i, i < len → Rv.inI64 (g i 4) = true) (b : Nat → Int) (m mc : Nat) (hm : m ≤ mc) (hm2 : m ≤ 1048576) (hb : ∀ i, i < m → 0 ≤ b i ∧ b i < 256)
    (hr : RowSat (fun b => b < W.heap.size) pl W false true (Rv.cols5 g) cap) (hr' : RowSat (fun b => b < W.heap.size) pm W false true (Rv.col1 b) mc) :
    Calls Try.prog 6 #[.slice (bif pl.nil then none else some ⟨pl.blk, pl.off, none⟩) len cap, .slice (bif pm.nil then none else some ⟨pm.blk, pm.off, none⟩) m mc] W fun e W' => e = .returned (.bool true) ∧ Below W.heap.size W W' := by
  have hs := func_sound (un := Rv.laUn g len cap b m mc (Rv.iInv g len) (fun a => len - a.1) (Rv.jInv b m) (fun a => a.n - a.k)) Rv.GA_ok Try.func6
  have hc := hs (fun b => b < W.heap.size) (fun o => match o with | 0 => pl | _ => pm) (Rv.laHp g cap b mc) W [Rv.slL len cap, Rv.slM m mc] _ (sat_two (n := .var cap) (n' := .var mc) hr hr') (fun _ h => h) ⟨⟨_, rfl, rfl⟩, ⟨_, rfl, rfl⟩, trivial⟩ (Rv.lists_sx g len cap hle hl2 hg b m mc hm hm2 hb)
  have e : (SV.denL (fun o => match o with | 0 => pl | _ => pm) [Rv.slL len cap, Rv.slM m mc]).toArray = #[.slice (bif pl.nil then none else some ⟨pl.blk, pl.off, none⟩) len cap, .slice (bif pm.nil then none else some ⟨pm.blk, pm.off, none⟩) m mc] := by
    simp [Rv.slL, Rv.slM, SV.denL, SV.den, Pl.base, NE.den]
  rw [e] at hc
  refine hc.mono ?_
  rintro e W' ⟨ν', v, hp', _, _, rfl, _, _, hb, hk⟩
  exact ⟨by rw [hk ν'], hb.below⟩

theorem rvStruct : ∃ fs : Array Field, Try.prog.underlying 26 = some (.struct fs) ∧ Deep.oneCellFields Try.prog fs = true ∧ Try.prog.cellsOf 26 = fs.size ∧ fs.size = 5 ∧ ∀ (j : Nat) (f : Field), fs[j]? = some f → Try.prog.underlying f.type = some (.int .i64) := by
  refine ⟨_, Try.underlying26, by kernel_rfl, by kernel_rfl, by kernel_rfl, fun j f hf => ?_⟩
  match j, hf with
  | 0, hf => simp at hf; subst hf; exact Try.underlying24
  | 1, hf => simp at hf; subst hf; exact Try.underlying3
  | 2, hf => simp at hf; subst hf; exact Try.underlying3
  | 3, hf => simp at hf; subst hf; exact Try.underlying3
  | 4, hf => simp at hf; subst hf; exact Try.underlying3
  | n + 5, hf => simp at hf

set_option maxRecDepth 100000 in
theorem lifted (os : Os) (started : os.Started) (H : Type) (enc : TypeId × Value → H) (F : Stop.Interp) :
    ReturnsInHanded {} Try.checked os 6 .any ((Rows.OpenSpec.upto Rows.rvListsSpec).pre6 enc Try.prog Try.f6 Rows.rvListsUptoRow.domain false) (((Rows.OpenSpec.upto Rows.rvListsSpec).at F).post enc Try.prog Try.f6 false true false false) := by
  refine LawKit.law_lifted_cond (C := Try.checked) own started (by kernel_rfl) Try.func6
    (OpenSpec.witness (enc := enc) (C := Try.checked) (s := Rows.OpenSpec.upto Rows.rvListsSpec) (k := Rows.uptoSmall) rfl false ⟨#[], #[.slice none 0 0, .slice none 0 0], []⟩ 8 (by kernel_rfl) (by kernel_rfl) (by kernel_rfl)
      (x := ([.nil, .nil], [], [])) (by kernel_rfl) rfl (by kernel_rfl))
    laidOut rfl (by kernel_rfl) (by kernel_rfl) (tb := 4) Try.underlying4 ?_ ?_ F
  · intro ds hl
    match ds, hl with
    | [_, _], _ => rfl
  · intro W base args ds p hval hA hsz
    rw [Try.params6] at hval hA
    obtain ⟨v0, vs0, d0, ds0, p0, q0, hargs, rfl, rfl, h0, r0⟩ := trodAll_cons hA
    obtain ⟨v1, vs1, d1, ds1, p1, q1, rfl, rfl, rfl, h1, r1⟩ := trodAll_cons r0
    obtain ⟨rfl, rfl, rfl⟩ := trodAll_nil r1
    obtain rfl : args = #[v0, v1] := by cases args; simp_all
    obtain ⟨fs, s1, s2, s3, s4, s5⟩ := rvStruct
    obtain ⟨pl, len, cap, g, rfl, hle, hcap, hr, hg⟩ := LawKit.input_recs (k := .i64) Try.underlying42 s1 s2 s3 s5 (hval 0 _ _ rfl rfl) h0
    obtain ⟨pm, m, mc, b, rfl, hm, hmc, hr', hb⟩ := LawKit.input_ints Try.underlying43 Try.underlying5 (by kernel_rfl) (hval 1 _ _ rfl rfl) h1
    have k0 := LawKit.bulk_slice Try.underlying42 h0
    have k1 := LawKit.bulk_slice Try.underlying43 h1
    simp only [Rows.uptoBulkAll] at hsz
    rw [s4] at hr hg
    refine lists_calls W pl pm g len cap hle (by omega) (fun i hi => ?_) b m mc hm (by omega) (fun i hi => ?_) hr hr'
    · have := hg i 4 (by omega) (by omega)
      simp only [IntKind.min, IntKind.max, IntKind.signed, IntKind.bits] at this
      simp at this
      simp only [Rv.inI64, Bool.and_eq_true, decide_eq_true_eq]; omega
    · have := hb i (by omega)
      simp only [IntKind.min, IntKind.max, IntKind.signed, IntKind.bits] at this
      simp at this; omega

theorem over : Rows.rvListsUptoRow.holds Try.pinned (Rows.OpenSpec.upto Rows.rvListsSpec) :=
  OpenClaim.holds_of_cond 6 Try.f6 rfl rfl rfl rfl rfl rfl rfl ⟨rfl, rfl, rfl, rfl, rfl⟩ rfl rfl rfl rfl rfl (by kernel_rfl) Try.func6 (by kernel_rfl)
    (of_decide_eq_true (by kernel_rfl)) (by unfold Func.isWrapper; first | (rw [if_pos (by decide +kernel)]; kernel_rfl) | (rw [if_neg (by decide +kernel)]; exact ⟨rfl, rfl⟩))
    (fun os started H enc _ F => lifted os started H enc F)

theorem proved : Rows.RvListsUptoSaid := over
end Go.Proofs.Ytiljkmcahkphiaa.rvLists

namespace Go.Proofs.Ytiljkmcahkphiaa
/-- The row, under a short name, for the claim. -/
theorem rvLists_holds : Rows.RvListsUptoSaid := rvLists.proved
end Go.Proofs.Ytiljkmcahkphiaa
