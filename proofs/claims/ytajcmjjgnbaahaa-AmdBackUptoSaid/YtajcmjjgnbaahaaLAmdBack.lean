/- For every instruction and every two slices of bytes, together of bulk at most 1048576: the law AmdBack answers true, and both slices read as they read before. -/
import Derived.Test.YtajcmjjgnbaahaaAl3
import Derived.Test.YtajcmjjgnbaahaaLaw4
import Derived.Test.YtajcmjjgnbaahaaLaw5
namespace Go.Proofs.Ytajcmjjgnbaahaa.amdBack
open Go Go.ChangeShapes Go.WideShapes Go.ChangeAt Go.RowKit Go.Proofs.Ytajcmjjgnbaahaa.Sx
set_option linter.unusedVariables false
set_option linter.unusedSimpArgs false

theorem own : ownKnob Try.prog.godebug = none := by kernel_rfl
theorem laidOut : laidOutB Try.prog = true := by kernel_rfl

set_option maxRecDepth 100000 in
theorem back_calls (W : World) (pl pm : Pl) (x : Amd.AI) (g : Nat → Int) (len cap : Nat) (hg : Amd.BGood g len cap) (hl2 : len ≤ 1048576) (h : Nat → Int) (m mc : Nat) (hb : Amd.BGood h m mc)
    (hr : RowSat (fun b => b < W.heap.size) pl W false true [Amd.col8 g] cap) (hr' : RowSat (fun b => b < W.heap.size) pm W false true [Amd.col8 h] mc) :
    Calls Try.prog 3 #[.agg #[.int .i64 x.op, .bool x.wide, .bool x.long, .int .i64 x.d, .int .i64 x.s, .int .i64 x.disp, .int .i64 x.imm, .int .i64 x.cc], .slice (bif pl.nil then none else some ⟨pl.blk, pl.off, none⟩) len cap, .slice (bif pm.nil then none else some ⟨pm.blk, pm.off, none⟩) m mc] W fun e W' => e = .returned (.bool true) ∧ Below W.heap.size W W' := by
  have hs := func_sound (un := fun _ => Amd.annA Amd.WSt (Amd.wSlots (Amd.amdBytes x).length m mc) (Amd.wHp g cap h mc) (Amd.wInv x) (fun a => (Amd.amdBytes x).length - a.k)) Amd.LB_ok Try.func3
  have hc := hs (fun b => b < W.heap.size) (fun o => bif Nat.beq o 0 then pl else pm) [Amd.rdRow g cap, Amd.rdRow h mc] W [Amd.xIn x, Amd.slA 0 len cap, Amd.slA 1 m mc] _ (LawKit.sat_rows2 (n := .var cap) (n' := .var mc) hr hr') (fun _ h => h)
    ⟨(Amd.xArg_wf _ _ _ _ _ _ _ _ _).1, ⟨_, rfl, rfl⟩, ⟨_, rfl, rfl⟩, trivial⟩ (Amd.back_sx x hg hl2 hb)
  have e : (SV.denL (fun o => bif Nat.beq o 0 then pl else pm) [Amd.xIn x, Amd.slA 0 len cap, Amd.slA 1 m mc]).toArray = #[.agg #[.int .i64 x.op, .bool x.wide, .bool x.long, .int .i64 x.d, .int .i64 x.s, .int .i64 x.disp, .int .i64 x.imm, .int .i64 x.cc], .slice (bif pl.nil then none else some ⟨pl.blk, pl.off, none⟩) len cap, .slice (bif pm.nil then none else some ⟨pm.blk, pm.off, none⟩) m mc] := by
    simp [Amd.xIn, Amd.xArg, Amd.slA, SV.denL, SV.den, IE.den, BE.den, Pl.base, NE.den]
    rfl
  rw [e] at hc
  refine hc.mono ?_
  rintro e W' ⟨ν', v, hp', _, _, rfl, _, _, hb, hk⟩
  exact ⟨by rw [hk ν'], hb.below⟩

set_option maxRecDepth 100000 in
theorem open_amd {W : World} {base : Nat} {v : Value} (h : Value.okWide Try.prog W .any base 25 v) : ∃ x : Amd.AI, v = .agg #[.int .i64 x.op, .bool x.wide, .bool x.long, .int .i64 x.d, .int .i64 x.s, .int .i64 x.disp, .int .i64 x.imm, .int .i64 x.cc] := by
  obtain ⟨cs, rfl, hl, hk⟩ := LawKit.open_vals (us := [some (.int .i64), some .bool, some .bool, some (.int .i64), some (.int .i64), some (.int .i64), some (.int .i64), some (.int .i64)]) Try.underlying25 (by kernel_rfl) (by kernel_rfl) h
  obtain ⟨l⟩ := cs
  match l, hl with
  | [a, b, c, d, e, f, g, h], _ =>
    obtain ⟨_, u0, k0⟩ := hk 0 _ a rfl rfl
    obtain ⟨_, u1, k1⟩ := hk 1 _ b rfl rfl
    obtain ⟨_, u2, k2⟩ := hk 2 _ c rfl rfl
    obtain ⟨_, u3, k3⟩ := hk 3 _ d rfl rfl
    obtain ⟨_, u4, k4⟩ := hk 4 _ e rfl rfl
    obtain ⟨_, u5, k5⟩ := hk 5 _ f rfl rfl
    obtain ⟨_, u6, k6⟩ := hk 6 _ g rfl rfl
    obtain ⟨_, u7, k7⟩ := hk 7 _ h rfl rfl
    obtain ⟨b1, rfl⟩ := LawKit.okWide_bool u1 k1
    obtain ⟨b2, rfl⟩ := LawKit.okWide_bool u2 k2
    refine ⟨⟨LawKit.intOf a, b1, b2, LawKit.intOf d, LawKit.intOf e, LawKit.intOf f, LawKit.intOf g, LawKit.intOf h⟩, ?_⟩
    rw [(LawKit.okWide_int u0 k0).1, (LawKit.okWide_int u3 k3).1, (LawKit.okWide_int u4 k4).1, (LawKit.okWide_int u5 k5).1, (LawKit.okWide_int u6 k6).1, (LawKit.okWide_int u7 k7).1]
    rfl

set_option maxRecDepth 100000 in
theorem lifted (os : Os) (started : os.Started) (H : Type) (enc : TypeId × Value → H) (F : Stop.Interp) :
    ReturnsInHanded {} Try.checked os 3 .any ((Rows.OpenSpec.upto Rows.amdBackSpec).pre6 enc Try.prog Try.f3 Rows.amdBackUptoRow.domain false) (((Rows.OpenSpec.upto Rows.amdBackSpec).at F).post enc Try.prog Try.f3 false true false false) := by
  refine LawKit.law_lifted_cond (C := Try.checked) own started (by kernel_rfl) Try.func3
    (OpenSpec.witness (enc := enc) (C := Try.checked) (s := Rows.OpenSpec.upto Rows.amdBackSpec) (k := Rows.uptoSmall) rfl false ⟨#[], #[.agg #[.int .i64 0, .bool false, .bool false, .int .i64 0, .int .i64 0, .int .i64 0, .int .i64 0, .int .i64 0], .slice none 0 0, .slice none 0 0], []⟩ 8 (by kernel_rfl) (by kernel_rfl) (by kernel_rfl)
      (x := ([.agg [.lit (.int .i64 0), .lit (.bool false), .lit (.bool false), .lit (.int .i64 0), .lit (.int .i64 0), .lit (.int .i64 0), .lit (.int .i64 0), .lit (.int .i64 0)], .nil, .nil], [], [])) (by kernel_rfl) rfl (by kernel_rfl))
    laidOut rfl (by kernel_rfl) (by kernel_rfl) (tb := 4) Try.underlying4 ?_ ?_ F
  · intro ds hl
    match ds, hl with
    | [_, _, _], _ => rfl
  · intro W base args ds p hval hA hsz
    rw [Try.params3] at hval hA
    obtain ⟨v0, vs0, d0, ds0, p0, q0, hargs, rfl, rfl, h0, r0⟩ := trodAll_cons hA
    obtain ⟨v1, vs1, d1, ds1, p1, q1, rfl, rfl, rfl, h1, r1⟩ := trodAll_cons r0
    obtain ⟨v2, vs2, d2, ds2, p2, q2, rfl, rfl, rfl, h2, r2⟩ := trodAll_cons r1
    obtain ⟨rfl, rfl, rfl⟩ := trodAll_nil r2
    obtain rfl : args = #[v0, v1, v2] := by cases args; simp_all
    obtain ⟨x, rfl⟩ := open_amd (hval 0 _ _ rfl rfl)
    obtain ⟨pl, len, cap, g, rfl, hle, hcap, hr, hg⟩ := LawKit.input_ints Try.underlying26 Try.underlying5 (by kernel_rfl) (hval 1 _ _ rfl rfl) h1
    obtain ⟨pm, m, mc, b, rfl, hm, hmc, hr', hb⟩ := LawKit.input_ints Try.underlying26 Try.underlying5 (by kernel_rfl) (hval 2 _ _ rfl rfl) h2
    have k1 := LawKit.bulk_slice Try.underlying26 h1
    have k2 := LawKit.bulk_slice Try.underlying26 h2
    simp only [Rows.uptoBulkAll] at hsz
    have byte : ∀ {f : Nat → Int} {n : Nat}, (∀ i, i < n → IntKind.u8.min ≤ f i ∧ f i ≤ IntKind.u8.max) → ∀ i, i < n → 0 ≤ f i ∧ f i < 256 := fun hf i hi => by
      have := hf i hi
      simp only [IntKind.min, IntKind.max, IntKind.signed, IntKind.bits] at this
      simp at this; omega
    refine back_calls W pl pm x g len cap ⟨hle, by omega, fun i hi => byte hg i (by omega)⟩ (by omega) b m mc ⟨hm, by omega, fun i hi => byte hb i (by omega)⟩ hr hr'

theorem over : Rows.amdBackUptoRow.holds Try.pinned (Rows.OpenSpec.upto Rows.amdBackSpec) :=
  OpenClaim.holds_of_cond 3 Try.f3 rfl rfl rfl rfl rfl rfl rfl ⟨rfl, rfl, rfl, rfl, rfl⟩ rfl rfl rfl rfl rfl (by kernel_rfl) Try.func3 (by kernel_rfl)
    (of_decide_eq_true (by kernel_rfl)) (by unfold Func.isWrapper; first | (rw [if_pos (by decide +kernel)]; kernel_rfl) | (rw [if_neg (by decide +kernel)]; exact ⟨rfl, rfl⟩))
    (fun os started H enc _ F => lifted os started H enc F)

theorem proved : Rows.AmdBackUptoSaid := over
end Go.Proofs.Ytajcmjjgnbaahaa.amdBack

namespace Go.Proofs.Ytajcmjjgnbaahaa
/-- The row, under a short name, for the claim. -/
theorem amdBack_holds : Rows.AmdBackUptoSaid := amdBack.proved
end Go.Proofs.Ytajcmjjgnbaahaa
