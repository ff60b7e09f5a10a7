/- For every list of numbers: the law AmdjitRegisters answers true, and the list reads as it read before. -/
import Derived.Test.YtalifikpmlapgaaGreatJn7
import Derived.Test.YtalifikpmlapgaaGreatAfRegisters
import Derived.Test.YtalifikpmlapgaaGreatJr3
namespace Go.Proofs.YtalifikpmlapgaaGreat.amdjitRegisters
open Go Go.ChangeShapes Go.WideShapes Go.ChangeAt Go.RowKit Go.Proofs.YtalifikpmlapgaaGreat.Sx Go.Proofs.YtalifikpmlapgaaGreat.jitNames
set_option linter.unusedVariables false
set_option maxRecDepth 100000 in
theorem regs_calls (W : World) (pl : Pl) (g : Nat → Int) (len cap : Nat) (hle : len ≤ cap) (hcap : cap ≤ 9223372036854775807)
    (hr : RowSat (fun b => b < W.heap.size) pl W false true [.int .i64 fun i => .var (g i)] cap) :
    Calls P 7 #[.slice (bif pl.nil then none else some ⟨pl.blk, pl.off, none⟩) len cap] W fun e W' => e = .returned (.bool true) ∧ Below W.heap.size W W' := by
  have hs := func_sound (un := fun _ => ann1 Nat (rSlots len cap) (rHp g cap) (fun k => k ≤ len) (fun k => len - k)) RG_ok Tryz.func7
  have hc := hs (fun b => b < W.heap.size) (fun _ => pl) (rHp0 g cap) W [slR len cap] _ (LawKit.sat_row (n := .var cap) hr) (fun _ h => h) ⟨⟨_, rfl, rfl⟩, trivial⟩ (regs_sx g len cap hle hcap)
  have e : (SV.denL (fun _ => pl) [slR len cap]).toArray = #[.slice (bif pl.nil then none else some ⟨pl.blk, pl.off, none⟩) len cap] := by
    simp [slR, SV.denL, SV.den, Pl.base, NE.den]
  rw [e] at hc
  refine hc.mono ?_
  rintro e W' ⟨ν', v, hp', _, _, rfl, _, _, hb, hk⟩
  exact ⟨by rw [hk ν'], hb.below⟩

theorem own : ownKnob Tryz.prog.godebug = none := by kernel_rfl
theorem laidOut : laidOutB Tryz.prog = true := by kernel_rfl

set_option maxRecDepth 100000 in
theorem lifted (os : Os) (started : os.Started) (H : Type) (enc : TypeId × Value → H) :
    ReturnsInHanded {} Tryz.checked os 7 .any (Rows.amdjitRegistersSpec.pre6 enc Tryz.prog Tryz.f7 Rows.amdjitRegistersRow.domain false) (Rows.amdjitRegistersSpec.post enc Tryz.prog Tryz.f7 false true false false) := by
  refine LawKit.law_lifted (C := Tryz.checked) own started (by kernel_rfl) Tryz.func7
    (ChangeSpec.witness6 (enc := enc) (C := Tryz.checked) false ⟨#[], #[.slice none 0 0], []⟩ 8 (by kernel_rfl) (by kernel_rfl) (by kernel_rfl) (by kernel_rfl))
    laidOut rfl (by kernel_rfl) (by kernel_rfl) (tb := 4) Tryz.underlying4 ?_ ?_
  · intro ds hl
    match ds, hl with
    | [_], _ => rfl
  · intro W base args ds p hval hA hsz
    rw [Tryz.params7] at hval hA
    obtain ⟨v0, vs0, d0, ds0, p0, q0, hargs, rfl, rfl, h0, r0⟩ := trodAll_cons hA
    obtain ⟨rfl, rfl, rfl⟩ := trodAll_nil r0
    obtain rfl : args = #[v0] := by cases args; simp_all
    obtain ⟨pl, len, cap, g, rfl, hle, hcap, hr, hg⟩ := LawKit.input_ints Tryz.underlying68 Tryz.underlying3 (by kernel_rfl) (hval 0 _ _ rfl rfl) h0
    exact regs_calls W pl g len cap hle hcap hr

theorem over : Rows.amdjitRegistersRow.holds Tryz.pinned (OpenSpec.ofChange Rows.amdjitRegistersSpec) :=
  OpenClaim.holds_of_wide 7 Tryz.f7 rfl rfl rfl rfl rfl rfl rfl ⟨rfl, rfl, rfl, rfl, rfl⟩ rfl rfl rfl rfl rfl (by kernel_rfl) Tryz.func7 facts
    (of_decide_eq_true (by kernel_rfl)) (by unfold Func.isWrapper; first | (rw [if_pos (by decide +kernel)]; kernel_rfl) | (rw [if_neg (by decide +kernel)]; exact ⟨rfl, rfl⟩))
    (fun os started H enc _ => lifted os started H enc)

theorem proved : Rows.AmdjitRegistersSaid := over
end Go.Proofs.YtalifikpmlapgaaGreat.amdjitRegisters

namespace Go.Proofs.YtalifikpmlapgaaGreat
/-- The row, under a short name, for the claim. -/
theorem amdjitRegisters_holds : Rows.AmdjitRegistersSaid := amdjitRegisters.proved
end Go.Proofs.YtalifikpmlapgaaGreat
