/- For every target and every two pieces of code, together of bulk at most 1048576: the law ScanTwo answers true, and both read as they read before. -/
import Derived.Test.YtajcmjjgnbaahaaSn9
import Derived.Test.YtajcmjjgnbaahaaLaw4
namespace Go.Proofs.Ytajcmjjgnbaahaa.scanTwo
open Go Go.ChangeShapes Go.WideShapes Go.ChangeAt Go.RowKit Go.Proofs.Ytajcmjjgnbaahaa.Sx
set_option linter.unusedVariables false
set_option linter.unusedSimpArgs false

theorem own : ownKnob Try.prog.godebug = none := by kernel_rfl
theorem laidOut : laidOutB Try.prog = true := by kernel_rfl

set_option maxRecDepth 100000 in
theorem two_calls (W : World) (pl pm : Pl) (t : Int) (g : Nat → Int) (len cap : Nat) (hg : Amd.BGood g len cap) (h : Nat → Int) (m mc : Nat) (hb : Amd.BGood h m mc) (hs : len + m ≤ 1048576)
    (hr : RowSat (fun b => b < W.heap.size) pl W false true [Amd.col8 g] cap) (hr' : RowSat (fun b => b < W.heap.size) pm W false true [Amd.col8 h] mc) :
    Calls Try.prog 6 #[.int .i64 t, .slice (bif pl.nil then none else some ⟨pl.blk, pl.off, none⟩) len cap, .slice (bif pm.nil then none else some ⟨pm.blk, pm.off, none⟩) m mc] W fun e W' => e = .returned (.bool true) ∧ Below W.heap.size W W' := by
  have hs' := func_sound (un := fun _ => Amd.annS Amd.TwSt Amd.twSlots (Amd.twHp g cap h mc) Amd.TwInv (fun a => a.n - a.k)) Amd.SW_ok Try.func6
  have hc := hs' (fun b => b < W.heap.size) (fun o => bif Nat.beq o 0 then pl else pm) [Amd.rdRow g cap, Amd.rdRow h mc] W [.int .i64 (.var t), Amd.sA 0 len cap, Amd.sA 1 m mc] _ (LawKit.sat_rows2 (n := .var cap) (n' := .var mc) hr hr') (fun _ h => h)
    ⟨trivial, ⟨_, rfl, rfl⟩, ⟨_, rfl, rfl⟩, trivial⟩ (Amd.two_sx hg hb hs)
  have e : (SV.denL (fun o => bif Nat.beq o 0 then pl else pm) [.int .i64 (.var t), Amd.sA 0 len cap, Amd.sA 1 m mc]).toArray = #[.int .i64 t, .slice (bif pl.nil then none else some ⟨pl.blk, pl.off, none⟩) len cap, .slice (bif pm.nil then none else some ⟨pm.blk, pm.off, none⟩) m mc] := by
    simp [Amd.sA, SV.denL, SV.den, IE.den, Pl.base, NE.den]
    rfl
  rw [e] at hc
  refine hc.mono ?_
  rintro e W' ⟨ν', v, hp', _, _, rfl, _, _, hb, hk⟩
  exact ⟨by rw [hk ν'], hb.below⟩

set_option maxRecDepth 100000 in
theorem lifted (os : Os) (started : os.Started) (H : Type) (enc : TypeId × Value → H) (F : Stop.Interp) :
    ReturnsInHanded {} Try.checked os 6 .any ((Rows.OpenSpec.upto Rows.scanTwoSpec).pre6 enc Try.prog Try.f6 Rows.scanTwoUptoRow.domain false) (((Rows.OpenSpec.upto Rows.scanTwoSpec).at F).post enc Try.prog Try.f6 false true false false) := by
  refine LawKit.law_lifted_cond (C := Try.checked) own started (by kernel_rfl) Try.func6
    (OpenSpec.witness (enc := enc) (C := Try.checked) (s := Rows.OpenSpec.upto Rows.scanTwoSpec) (k := Rows.uptoSmall) rfl false ⟨#[], #[.int .i64 0, .slice none 0 0, .slice none 0 0], []⟩ 8 (by kernel_rfl) (by kernel_rfl) (by kernel_rfl)
      (x := ([.lit (.int .i64 0), .nil, .nil], [], [])) (by kernel_rfl) rfl (by kernel_rfl))
    laidOut rfl (by kernel_rfl) (by kernel_rfl) (tb := 4) Try.underlying4 ?_ ?_ F
  · intro ds hl
    match ds, hl with
    | [_, _, _], _ => rfl
  · intro W base args ds p hval hA hsz
    rw [Try.params6] at hval hA
    obtain ⟨v0, vs0, d0, ds0, p0, q0, hargs, rfl, rfl, h0, r0⟩ := trodAll_cons hA
    obtain ⟨v1, vs1, d1, ds1, p1, q1, rfl, rfl, rfl, h1, r1⟩ := trodAll_cons r0
    obtain ⟨v2, vs2, d2, ds2, p2, q2, rfl, rfl, rfl, h2, r2⟩ := trodAll_cons r1
    obtain ⟨rfl, rfl, rfl⟩ := trodAll_nil r2
    obtain rfl : args = #[v0, v1, v2] := by cases args; simp_all
    obtain ⟨e0, _⟩ := LawKit.input_int (v := v0) Try.underlying46 (hval 0 _ _ rfl rfl)
    obtain ⟨pl, len, cap, g, rfl, hle, hcap, hr, hg⟩ := LawKit.input_ints Try.underlying26 Try.underlying5 (by kernel_rfl) (hval 1 _ _ rfl rfl) h1
    obtain ⟨pm, m, mc, b, rfl, hm, hmc, hr', hb⟩ := LawKit.input_ints Try.underlying26 Try.underlying5 (by kernel_rfl) (hval 2 _ _ rfl rfl) h2
    have k1 := LawKit.bulk_slice Try.underlying26 h1
    have k2 := LawKit.bulk_slice Try.underlying26 h2
    simp only [Rows.uptoBulkAll] at hsz
    have byte : ∀ {f : Nat → Int} {n : Nat}, (∀ i, i < n → IntKind.u8.min ≤ f i ∧ f i ≤ IntKind.u8.max) → ∀ i, i < n → 0 ≤ f i ∧ f i < 256 := fun hf i hi => by
      have := hf i hi
      simp only [IntKind.min, IntKind.max, IntKind.signed, IntKind.bits] at this
      simp at this; omega
    rw [e0]
    refine two_calls W pl pm _ g len cap ⟨hle, by omega, fun i hi => byte hg i (by omega)⟩ b m mc ⟨hm, by omega, fun i hi => byte hb i (by omega)⟩ (by omega) hr hr'

theorem over : Rows.scanTwoUptoRow.holds Try.pinned (Rows.OpenSpec.upto Rows.scanTwoSpec) :=
  OpenClaim.holds_of_cond 6 Try.f6 rfl rfl rfl rfl rfl rfl rfl ⟨rfl, rfl, rfl, rfl, rfl⟩ rfl rfl rfl rfl rfl (by kernel_rfl) Try.func6 (by kernel_rfl)
    (of_decide_eq_true (by kernel_rfl)) (by unfold Func.isWrapper; first | (rw [if_pos (by decide +kernel)]; kernel_rfl) | (rw [if_neg (by decide +kernel)]; exact ⟨rfl, rfl⟩))
    (fun os started H enc _ F => lifted os started H enc F)

theorem proved : Rows.ScanTwoUptoSaid := over
end Go.Proofs.Ytajcmjjgnbaahaa.scanTwo

namespace Go.Proofs.Ytajcmjjgnbaahaa
/-- The row, under a short name, for the claim. -/
theorem scanTwo_holds : Rows.ScanTwoUptoSaid := scanTwo.proved
end Go.Proofs.Ytajcmjjgnbaahaa
