/- For every target and every piece of code of bulk at most 1048576: the law ScanJumps answers true, and the code reads as it read before. -/
import Derived.Test.YtajcmjjgnbaahaaSj5
import Derived.Test.YtajcmjjgnbaahaaLaw4
namespace Go.Proofs.Ytajcmjjgnbaahaa.scanJumps
open Go Go.ChangeShapes Go.WideShapes Go.ChangeAt Go.RowKit Go.Proofs.Ytajcmjjgnbaahaa.Sx
set_option linter.unusedVariables false
set_option linter.unusedSimpArgs false

theorem own : ownKnob Try.prog.godebug = none := by kernel_rfl
theorem laidOut : laidOutB Try.prog = true := by kernel_rfl

set_option maxRecDepth 100000 in
theorem jumps_calls (W : World) (pl : Pl) (t : Int) (g : Nat → Int) (len cap : Nat) (hg : Amd.BGood g len cap) (hs : len ≤ 1048576)
    (hr : RowSat (fun b => b < W.heap.size) pl W false true [Amd.col8 g] cap) :
    Calls Try.prog 8 #[.int .i64 t, .slice (bif pl.nil then none else some ⟨pl.blk, pl.off, none⟩) len cap] W fun e W' => e = .returned (.bool true) ∧ Below W.heap.size W W' := by
  have hs' := func_sound (un := Amd.jPlan t g len cap) Amd.SJ_ok Try.func8
  have hc := hs' (fun b => b < W.heap.size) (fun _ => pl) [Amd.rdRow g cap] W [.int .i64 (.var t), Amd.sA 0 len cap] _ (LawKit.sat_row (n := .var cap) hr) (fun _ h => h)
    ⟨trivial, ⟨_, rfl, rfl⟩, trivial⟩ (Amd.jumps_sx hg hs)
  have e : (SV.denL (fun _ => pl) [.int .i64 (.var t), Amd.sA 0 len cap]).toArray = #[.int .i64 t, .slice (bif pl.nil then none else some ⟨pl.blk, pl.off, none⟩) len cap] := by
    simp [Amd.sA, SV.denL, SV.den, IE.den, Pl.base, NE.den]
  rw [e] at hc
  refine hc.mono ?_
  rintro e W' ⟨ν', v, hp', _, _, rfl, _, _, hb, hk⟩
  exact ⟨by rw [hk ν'], hb.below⟩

set_option maxRecDepth 100000 in
theorem lifted (os : Os) (started : os.Started) (H : Type) (enc : TypeId × Value → H) (F : Stop.Interp) :
    ReturnsInHanded {} Try.checked os 8 .any ((Rows.OpenSpec.upto Rows.scanJumpsSpec).pre6 enc Try.prog Try.f8 Rows.scanJumpsUptoRow.domain false) (((Rows.OpenSpec.upto Rows.scanJumpsSpec).at F).post enc Try.prog Try.f8 false true false false) := by
  refine LawKit.law_lifted_cond (C := Try.checked) own started (by kernel_rfl) Try.func8
    (OpenSpec.witness (enc := enc) (C := Try.checked) (s := Rows.OpenSpec.upto Rows.scanJumpsSpec) (k := Rows.uptoSmall) rfl false ⟨#[], #[.int .i64 0, .slice none 0 0], []⟩ 8 (by kernel_rfl) (by kernel_rfl) (by kernel_rfl)
      (x := ([.lit (.int .i64 0), .nil], [], [])) (by kernel_rfl) rfl (by kernel_rfl))
    laidOut rfl (by kernel_rfl) (by kernel_rfl) (tb := 4) Try.underlying4 ?_ ?_ F
  · intro ds hl
    match ds, hl with
    | [_, _], _ => rfl
  · intro W base args ds p hval hA hsz
    rw [Try.params8] at hval hA
    obtain ⟨v0, vs0, d0, ds0, p0, q0, hargs, rfl, rfl, h0, r0⟩ := trodAll_cons hA
    obtain ⟨v1, vs1, d1, ds1, p1, q1, rfl, rfl, rfl, h1, r1⟩ := trodAll_cons r0
    obtain ⟨rfl, rfl, rfl⟩ := trodAll_nil r1
    obtain rfl : args = #[v0, v1] := by cases args; simp_all
    obtain ⟨e0, _⟩ := LawKit.input_int (v := v0) Try.underlying46 (hval 0 _ _ rfl rfl)
    obtain ⟨pl, len, cap, g, rfl, hle, hcap, hr, hg⟩ := LawKit.input_ints Try.underlying26 Try.underlying5 (by kernel_rfl) (hval 1 _ _ rfl rfl) h1
    have k1 := LawKit.bulk_slice Try.underlying26 h1
    simp only [Rows.uptoBulkAll] at hsz
    have byte : ∀ {f : Nat → Int} {n : Nat}, (∀ i, i < n → IntKind.u8.min ≤ f i ∧ f i ≤ IntKind.u8.max) → ∀ i, i < n → 0 ≤ f i ∧ f i < 256 := fun hf i hi => by
      have := hf i hi
      simp only [IntKind.min, IntKind.max, IntKind.signed, IntKind.bits] at this
      simp at this; omega
    rw [e0]
    refine jumps_calls W pl _ g len cap ⟨hle, by omega, fun i hi => byte hg i (by omega)⟩ (by omega) hr

theorem over : Rows.scanJumpsUptoRow.holds Try.pinned (Rows.OpenSpec.upto Rows.scanJumpsSpec) :=
  OpenClaim.holds_of_cond 8 Try.f8 rfl rfl rfl rfl rfl rfl rfl ⟨rfl, rfl, rfl, rfl, rfl⟩ rfl rfl rfl rfl rfl (by kernel_rfl) Try.func8 (by kernel_rfl)
    (of_decide_eq_true (by kernel_rfl)) (by unfold Func.isWrapper; first | (rw [if_pos (by decide +kernel)]; kernel_rfl) | (rw [if_neg (by decide +kernel)]; exact ⟨rfl, rfl⟩))
    (fun os started H enc _ F => lifted os started H enc F)

theorem proved : Rows.ScanJumpsUptoSaid := over
end Go.Proofs.Ytajcmjjgnbaahaa.scanJumps

namespace Go.Proofs.Ytajcmjjgnbaahaa
/-- The row, under a short name, for the claim. -/
theorem scanJumps_holds : Rows.ScanJumpsUptoSaid := scanJumps.proved
end Go.Proofs.Ytajcmjjgnbaahaa
