/- For every target, every piece of code and every list of constants, together of bulk at most 1048576: the law ScanReads answers true, and both read as they read before. -/
import Derived.Test.YtajcmjjgnbaahaaGreatLaw4
set_option linter.unusedVariables false
set_option linter.unusedSimpArgs false
namespace Go.Proofs.YtajcmjjgnbaahaaGreat.scanReads
open Go Go.ChangeShapes Go.WideShapes Go.ChangeAt Go.RowKit Go.Proofs.YtajcmjjgnbaahaaGreat.Sx
theorem own : ownKnob Tryz.prog.godebug = none := by kernel_rfl
theorem zWN : laidOutB Tryz.prog = true := by kernel_rfl
set_option maxRecDepth 100000 in
theorem zMt (W : World) (pl pm : Pl) (t : Int) (g : Nat -> Int) (len cap : Nat) (hg : Amd.BGood g len cap) (hs : len <= 1048576) (f : Nat -> Int) (m mc : Nat) (hm : m <= mc) (hm2 : m <= 1048576)
  (hr : zw (fun b => b < W.heap.size) pl W false true [Amd.col8 g] cap) (hr' : zw (fun b => b < W.heap.size) pm W false true [.int .u32 fun e => .var (f e)] mc) :
  Calls Tryz.prog 3 #[.int .i64 t, .slice (bif pl.nil then none else some ⟨pl.blk, pl.off, none⟩) len cap, .slice (bif pm.nil then none else some ⟨pm.blk, pm.off, none⟩) m mc] W fun e W' => e = .returned (.bool true) /\ Below W.heap.size W W' := by
 have hs' := zN (un := Amd.srPlan t g len cap f m mc) Amd.SR_ok Tryz.func3
 have hc := hs' (fun b => b < W.heap.size) (fun o => bif Nat.beq o 0 then pl else pm) [Amd.rdRow g cap, Amd.rd32 f mc] W [.int .i64 (.var t), Amd.sA 0 len cap, Amd.sA 1 m mc] _ (LawKit.sat_rows2 (n := .var cap) (n' := .var mc) hr hr') (fun _ h => h)
  ⟨trivial, ⟨_, rfl, rfl⟩, ⟨_, rfl, rfl⟩, trivial⟩ (Amd.scanReads_sx hg hs hm hm2)
 have e : (SV.denL (fun o => bif Nat.beq o 0 then pl else pm) [.int .i64 (.var t), Amd.sA 0 len cap, Amd.sA 1 m mc]).toArray = #[.int .i64 t, .slice (bif pl.nil then none else some ⟨pl.blk, pl.off, none⟩) len cap, .slice (bif pm.nil then none else some ⟨pm.blk, pm.off, none⟩) m mc] := by
  simp [Amd.sA, SV.denL, SV.den, IE.den, Pl.base, NE.den]
  rfl
 rw [e] at hc
 refine hc.mono ?_
 rintro e W' ⟨ν', v, hp', _, _, rfl, _, _, hb, hk⟩
 exact ⟨by rw [hk ν'], hb.below⟩
set_option maxRecDepth 100000 in
theorem zYg (os : Os) (started : os.Started) (H : Type) (enc : TypeId × Value -> H) (F : Stop.Interp) :
  ReturnsInHanded {} Tryz.checked os 3 .any ((Rows.OpenSpec.upto Rows.scanReadsSpec).pre6 enc Tryz.prog Tryz.f3 Rows.scanReadsUptoRow.domain false) (((Rows.OpenSpec.upto Rows.scanReadsSpec).at F).post enc Tryz.prog Tryz.f3 false true false false) := by
 refine LawKit.law_lifted_cond (C := Tryz.checked) own started (by kernel_rfl) Tryz.func3
  (OpenSpec.witness (enc := enc) (C := Tryz.checked) (s := Rows.OpenSpec.upto Rows.scanReadsSpec) (k := Rows.uptoSmall) rfl false ⟨#[], #[.int .i64 0, .slice none 0 0, .slice none 0 0], []⟩ 8 (by kernel_rfl) (by kernel_rfl) (by kernel_rfl)
   (x := ([.lit (.int .i64 0), .nil, .nil], [], [])) (by kernel_rfl) rfl (by kernel_rfl))
  zWN rfl (by kernel_rfl) (by kernel_rfl) (tb := 4) Tryz.underlying4 ?_ ?_ F
 ·intro ds hl
  match ds, hl with
  | [_, _, _], _ => rfl
 ·intro W base args ds p hval hA hsz
  rw [Tryz.params3] at hval hA
  obtain ⟨v0, vs0, d0, ds0, p0, q0, hargs, rfl, rfl, h0, r0⟩ := trodAll_cons hA
  obtain ⟨v1, vs1, d1, ds1, p1, q1, rfl, rfl, rfl, h1, r1⟩ := trodAll_cons r0
  obtain ⟨v2, vs2, d2, ds2, p2, q2, rfl, rfl, rfl, h2, r2⟩ := trodAll_cons r1
  obtain ⟨rfl, rfl, rfl⟩ := trodAll_nil r2
  obtain rfl : args = #[v0, v1, v2] := by cases args; simp_all
  obtain ⟨e0, _⟩ := LawKit.input_int (v := v0) Tryz.underlying22 (hval 0 _ _ rfl rfl)
  obtain ⟨pl, len, cap, g, rfl, hle, hcap, hr, hg⟩ := LawKit.input_ints Tryz.underlying23 Tryz.underlying5 (by kernel_rfl) (hval 1 _ _ rfl rfl) h1
  obtain ⟨pm, m, mc, f, rfl, hm, hmc, hr', hf⟩ := LawKit.input_ints Tryz.underlying24 Tryz.underlying33 (by kernel_rfl) (hval 2 _ _ rfl rfl) h2
  have k1 := LawKit.bulk_slice Tryz.underlying23 h1
  have k2 := LawKit.bulk_slice Tryz.underlying24 h2
  simp only [Rows.uptoBulkAll] at hsz
  have byte : ∀ {f : Nat -> Int} {n : Nat}, (∀ i, i < n -> IntKind.u8.min <= f i /\ f i <= IntKind.u8.max) -> ∀ i, i < n -> 0 <= f i /\ f i < 256 := fun hf i hi => by
   have := hf i hi
   simp only [IntKind.min, IntKind.max, IntKind.signed, IntKind.bits] at this
   simp at this; omega
  rw [e0]
  exact zMt W pl pm _ g len cap ⟨hle, by omega, fun i hi => byte hg i (by omega)⟩ (by omega) f m mc hm (by omega) hr hr'
theorem over : Rows.scanReadsUptoRow.holds Tryz.pinned (Rows.OpenSpec.upto Rows.scanReadsSpec) :=
 OpenClaim.holds_of_cond 3 Tryz.f3 rfl rfl rfl rfl rfl rfl rfl ⟨rfl, rfl, rfl, rfl, rfl⟩ rfl rfl rfl rfl rfl (by kernel_rfl) Tryz.func3 (by kernel_rfl)
  (of_decide_eq_true (by kernel_rfl)) (by unfold Func.isWrapper; first | (rw [if_pos (by decide +kernel)]; kernel_rfl) | (rw [if_neg (by decide +kernel)]; exact ⟨rfl, rfl⟩))
  (fun os started H enc _ F => zYg os started H enc F)
theorem proved : Rows.ScanReadsUptoSaid := over
end Go.Proofs.YtajcmjjgnbaahaaGreat.scanReads
namespace Go.Proofs.YtajcmjjgnbaahaaGreat
theorem scanReads_holds : Rows.ScanReadsUptoSaid := scanReads.proved
end Go.Proofs.YtajcmjjgnbaahaaGreat
