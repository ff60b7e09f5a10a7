/- For all bytes and all places, together of bulk at most 1048576: the law AmdReads answers true, and both read as they read before. -/
import Derived.Test.YtajcmjjgnbaahaaRa4
import Derived.Test.YtajcmjjgnbaahaaLaw4
namespace Go.Proofs.Ytajcmjjgnbaahaa.amdReads
open Go Go.ChangeShapes Go.WideShapes Go.ChangeAt Go.RowKit Go.Proofs.Ytajcmjjgnbaahaa.Sx
set_option linter.unusedVariables false
set_option linter.unusedSimpArgs false

theorem own : ownKnob Try.prog.godebug = none := by kernel_rfl
theorem laidOut : laidOutB Try.prog = true := by kernel_rfl

set_option maxRecDepth 100000 in
theorem reads_calls (W : World) (pl pm : Pl) (g : Nat → Int) (len cap : Nat) (hg : Amd.BGood g len cap) (h : Nat → Int) (m mc : Nat) (hm : m ≤ mc) (hs : len ≤ 1048576) (hs' : m ≤ 1048576)
    (hr : RowSat (fun b => b < W.heap.size) pl W false true [Amd.col8 g] cap) (hr' : RowSat (fun b => b < W.heap.size) pm W false true [Amd.colI8 h] mc) :
    Calls Try.prog 4 #[.slice (bif pl.nil then none else some ⟨pl.blk, pl.off, none⟩) len cap, .slice (bif pm.nil then none else some ⟨pm.blk, pm.off, none⟩) m mc] W fun e W' => e = .returned (.bool true) ∧ Below W.heap.size W W' := by
  have hs'' := func_sound (un := Amd.raPlan g h len cap m mc (Amd.raI g len m) (fun a => m - a.i) (Amd.RaJ g len) (fun a => a.n - a.i)) Amd.RA_ok Try.func4
  have hc := hs'' (fun b => b < W.heap.size) (fun o => bif Nat.beq o 0 then pl else pm) [Amd.rdRow g cap, .row false true [Amd.colI8 h] (.var mc)] W [Amd.slA 0 len cap, Amd.slA 1 m mc] _ (LawKit.sat_rows2 (n := .var cap) (n' := .var mc) hr hr') (fun _ h => h)
    ⟨⟨_, rfl, rfl⟩, ⟨_, rfl, rfl⟩, trivial⟩ (of_eq_true (Amd.reads_true hg (by omega) hm (by omega)))
  have e : (SV.denL (fun o => bif Nat.beq o 0 then pl else pm) [Amd.slA 0 len cap, Amd.slA 1 m mc]).toArray = #[.slice (bif pl.nil then none else some ⟨pl.blk, pl.off, none⟩) len cap, .slice (bif pm.nil then none else some ⟨pm.blk, pm.off, none⟩) m mc] := by
    simp [Amd.slA, SV.denL, SV.den, IE.den, Pl.base, NE.den]
    rfl
  rw [e] at hc
  refine hc.mono ?_
  rintro e W' ⟨ν', v, hp', _, _, rfl, _, _, hb, hk⟩
  exact ⟨by rw [hk ν'], hb.below⟩

set_option maxRecDepth 100000 in
theorem lifted (os : Os) (started : os.Started) (H : Type) (enc : TypeId × Value → H) (F : Stop.Interp) :
    ReturnsInHanded {} Try.checked os 4 .any ((Rows.OpenSpec.upto Rows.amdReadsSpec).pre6 enc Try.prog Try.f4 Rows.amdReadsUptoRow.domain false) (((Rows.OpenSpec.upto Rows.amdReadsSpec).at F).post enc Try.prog Try.f4 false true false false) := by
  refine LawKit.law_lifted_cond (C := Try.checked) own started (by kernel_rfl) Try.func4
    (OpenSpec.witness (enc := enc) (C := Try.checked) (s := Rows.OpenSpec.upto Rows.amdReadsSpec) (k := Rows.uptoSmall) rfl false ⟨#[], #[.slice none 0 0, .slice none 0 0], []⟩ 8 (by kernel_rfl) (by kernel_rfl) (by kernel_rfl)
      (x := ([.nil, .nil], [], [])) (by kernel_rfl) rfl (by kernel_rfl))
    laidOut rfl (by kernel_rfl) (by kernel_rfl) (tb := 4) Try.underlying4 ?_ ?_ F
  · intro ds hl
    match ds, hl with
    | [_, _], _ => rfl
  · intro W base args ds p hval hA hsz
    rw [Try.params4] at hval hA
    obtain ⟨v1, vs1, d1, ds1, p1, q1, hargs, rfl, rfl, h1, r1⟩ := trodAll_cons hA
    obtain ⟨v2, vs2, d2, ds2, p2, q2, rfl, rfl, rfl, h2, r2⟩ := trodAll_cons r1
    obtain ⟨rfl, rfl, rfl⟩ := trodAll_nil r2
    obtain rfl : args = #[v1, v2] := by cases args; simp_all
    obtain ⟨pl, len, cap, g, rfl, hle, hcap, hr, hg⟩ := LawKit.input_ints Try.underlying26 Try.underlying5 (by kernel_rfl) (hval 0 _ _ rfl rfl) h1
    obtain ⟨pm, m, mc, b, rfl, hm, hmc, hr', hb⟩ := LawKit.input_ints Try.underlying35 Try.underlying3 (by kernel_rfl) (hval 1 _ _ rfl rfl) h2
    have k1 := LawKit.bulk_slice Try.underlying26 h1
    have k2 := LawKit.bulk_slice Try.underlying35 h2
    simp only [Rows.uptoBulkAll] at hsz
    have byte : ∀ {f : Nat → Int} {n : Nat}, (∀ i, i < n → IntKind.u8.min ≤ f i ∧ f i ≤ IntKind.u8.max) → ∀ i, i < n → 0 ≤ f i ∧ f i < 256 := fun hf i hi => by
      have := hf i hi
      simp only [IntKind.min, IntKind.max, IntKind.signed, IntKind.bits] at this
      simp at this; omega
    refine reads_calls W pl pm g len cap ⟨hle, by omega, fun i hi => byte hg i (by omega)⟩ b m mc hm (by omega) (by omega) hr hr'

theorem over : Rows.amdReadsUptoRow.holds Try.pinned (Rows.OpenSpec.upto Rows.amdReadsSpec) :=
  OpenClaim.holds_of_cond 4 Try.f4 rfl rfl rfl rfl rfl rfl rfl ⟨rfl, rfl, rfl, rfl, rfl⟩ rfl rfl rfl rfl rfl (by kernel_rfl) Try.func4 (by kernel_rfl)
    (of_decide_eq_true (by kernel_rfl)) (by unfold Func.isWrapper; first | (rw [if_pos (by decide +kernel)]; kernel_rfl) | (rw [if_neg (by decide +kernel)]; exact ⟨rfl, rfl⟩))
    (fun os started H enc _ F => lifted os started H enc F)

theorem proved : Rows.AmdReadsUptoSaid := over
end Go.Proofs.Ytajcmjjgnbaahaa.amdReads

namespace Go.Proofs.Ytajcmjjgnbaahaa
/-- The row, under a short name, for the claim. -/
theorem amdReads_holds : Rows.AmdReadsUptoSaid := amdReads.proved
end Go.Proofs.Ytajcmjjgnbaahaa
