/- For every list of words, whatever it holds: the law RvReads answers true, and the list reads as it read before. -/
import Derived.Test.YtiljkmcahkphiaaLaw2
import Derived.Test.YtiljkmcahkphiaaRr9
namespace Go.Proofs.Ytiljkmcahkphiaa.Rv
open Go Go.Proofs.Ytiljkmcahkphiaa.Sx Go.RowKit
set_option linter.unusedVariables false
set_option linter.unusedSimpArgs false

def lwT : List (FuncId × Cal) := (9, .pure fDec) :: (12, .pure fEnc) :: (8, .pure fDec) :: rvT4
theorem lwT_ok : GammaOk P (table lwT) := table_cons frdec_ok (table_cons frenc_ok (table_cons fdec_ok rvT4_ok))
noncomputable def GL : FuncId → Option Cal := inl P (fun _ _ => 40) (table lwT) 4
theorem GL_ok : GammaOk P GL := inl_ok lwT_ok 4

def gUn : Nat → Nat := fun _ => 1000000
noncomputable def readsCode : Code := (Try.f3.body).getD .skip
noncomputable def readsBody (σ : St) (K : SExit → St → Prop) : Prop :=
  match (loopIn readsCode 0)[0]? with
  | some (b, c) => sxCode P GL gUn 1 c b σ K
  | none => False
noncomputable def readsK (Q : SV → Prop) : SExit → St → Prop := (ctxK (sxCode P GL gUn 1) readsCode 0 (endK Try.f3 Q)).getD fun _ _ => False
def readsSlots (len cap : Nat) (k : Int) : List (Nat × SV) := [(0, .sliceE true 0 1 (.lit 0) (.var len) (.var cap)), (2, .bool (.lit false)), (3, .bool (.lit true)), (4, .int .i64 (.var k))]
def readsHp (g : Nat → Int) (cap : Nat) : List SObj := [.row false true [.int .u32 fun i => .var (g i)] (.var cap)]
noncomputable def readsTmps (len cap : Nat) : List SV := setAt (setAt (setAt (setAt (setAt (List.replicate Try.f3.ntmps SV.undef) 0 (.sliceE true 0 1 (.lit 0) (.var len) (.var cap))) 2 (.bool (.lit false))) 3 (.bool (.lit true))) 4 (.int .i64 (.lit 0))) 11 (.bool (.lit true))

theorem reads_start (g : Nat → Int) (len cap : Nat) (Q : SV → Prop) : sxFunc P GL gUn Try.f3 [.sliceE true 0 1 (.lit 0) (.var len) (.var cap)] (readsHp g cap) (fun v _ => Q v) =
    loopG 1 readsBody (readsK Q) { tmps := readsTmps len cap, hp := readsHp g cap } := by kernel_rfl

def askIx (len cap : Nat) (k : Int) : Prop := BE.den (.ite (.var (decide (len ≤ cap ∧ 0 + cap ≤ cap))) (.var (decide (0 ≤ k ∧ k < (len : Int)))) (.lit false)) = true
def askLd (cap : Nat) (k : Int) : Prop := BE.den (.var (decide (0 + k.toNat + 1 ≤ cap))) = true
def forkB (e : BE) (A C : Prop) : Prop := (e.den = true → A) ∧ (e.den = false → C)
def neE (a b : Int) : BE := .cmp .neq (.var a) (.var b)
def neL (a b : Int) : BE := .cmp .neq (.var a) (.lit b)
def insEq (x y : RvIns) : BE := eqE x.op y.op (eqE x.rd y.rd (eqE x.r1 y.r1 (eqE x.r2 y.r2 (eqE x.imm y.imm (.lit true)))))
where eqE (a b : Int) (r : BE) : BE := .ite (.cmp .eql (.var a) (.var b)) r (.lit false)
def readsRHS (len cap : Nat) (k : Int) (x : Int) (Q : SV → Prop) (N : Prop) : Prop :=
  forkB (.cmp .lss (.var k) (.var (len : Int))) (askIx len cap k ∧ askLd cap k ∧ BE.den (.var (inU32 x)) = true ∧ askIx len cap k ∧ askLd cap k ∧ BE.den (.var (inU32 x)) = true ∧
    forkB (.not (insEq (rvDec x) (rvDec x))) (Q (.bool (.lit false))) (forkB (neE (rvDec x).err (rvDec x).err) (Q (.bool (.lit false))) (forkB (neL (rvDec x).err 0) N
      (BE.den (.var (inI64 (rvDec x).imm)) = true ∧ askIx len cap k ∧ askLd cap k ∧
        forkB (neE (rvEnc (rvDec x).op (rvDec x).rd (rvDec x).r1 (rvDec x).r2 (rvDec x).imm).1 x) (Q (.bool (.lit false)))
          (forkB (neL (rvEnc (rvDec x).op (rvDec x).rd (rvDec x).r1 (rvDec x).r2 (rvDec x).imm).2 0) (Q (.bool (.lit false))) N))))) (Q (.bool (.lit true)))
def readsNext (g : Nat → Int) (len cap : Nat) (k : Int) (I M : Int → Prop) : Prop :=
  ∃ k', I k' ∧ M k' ∧ len = len ∧ cap = cap ∧ IE.den (.add .i64 (.var k) (.lit 1)) = k' ∧ cap = cap ∧ (∀ e, e < cap → g e = g e) ∧ True

theorem reads_body (g : Nat → Int) (len cap : Nat) (k : Int) (u : Nat → Value) (I M : Int → Prop) (Q : SV → Prop) :
    readsBody { tmps := fillT (readsSlots len cap k) u 0 Try.f3.ntmps, hp := readsHp g cap } (thenS (fun σ' => ∃ k', I k' ∧ M k' ∧ simAt 1 Try.f3.ntmps σ' (readsSlots len cap k') (readsHp g cap)) (readsK Q)) =
      readsRHS len cap k (g (0 + k.toNat)) Q (readsNext g len cap k I M) := by kernel_rfl

theorem simAt_start (g : Nat → Int) (len cap : Nat) (k : Int) : simAt 1 Try.f3.ntmps { tmps := readsTmps len cap, hp := readsHp g cap } (readsSlots len cap k) (readsHp g cap) =
    (len = len ∧ cap = cap ∧ 0 = k ∧ cap = cap ∧ (∀ e, e < cap → g e = g e) ∧ True) := by kernel_rfl

theorem insEq_self (x : RvIns) : (insEq x x).den = true := by simp [insEq, insEq.eqE, BE.den, IE.den, cmpI_eql]

theorem dec_imm (w : Int) : inI64 (rvDec w).imm = true := by
  rcases decL_found w rvRows with ⟨r, hr, _, e⟩ | ⟨e, _⟩
  · have e' : rvDec w = insOf r w := e
    rw [e']; exact immD_i64 r hr w
  · have e' : rvDec w = ⟨0, 0, 0, 0, 0, 5⟩ := e
    rw [e']; decide

theorem reads_rhs (len cap : Nat) (hle : len ≤ cap) (k x : Int) (h0 : 0 ≤ k) (hx : k < len → 0 ≤ x ∧ x < 4294967296) (N : Prop) (hN : k < len → N) : readsRHS len cap k x (fun v => ∀ ν, v.den ν = .bool true) N := by
  refine ⟨fun hlt => ?_, fun _ ν => rfl⟩
  have hk : k < (len : Int) := by simpa [BE.den, IE.den, cmpI_lss] using hlt
  obtain ⟨x0, x1⟩ := hx hk
  have hix : askIx len cap k := by simp [askIx, BE.den]; omega
  have hld : askLd cap k := by simp [askLd, BE.den]; omega
  have hu : BE.den (.var (inU32 x)) = true := (inU32_iff x).2 ⟨x0, x1⟩
  refine ⟨hix, hld, hu, hix, hld, hu, fun h => ?_, fun _ => ⟨fun h => ?_, fun _ => ⟨fun _ => hN hk, fun he => ?_⟩⟩⟩
  · have := insEq_self (rvDec x)
    simp [BE.den, this] at h
  · simp [neE, BE.den, IE.den, cmpI_neq] at h
  · have he' : (rvDec x).err = 0 := by simpa [neL, BE.den, IE.den, cmpI_neq] using he
    have hed := enc_dec x x0 x1 he'
    refine ⟨dec_imm x, hix, hld, fun h => ?_, fun _ => ⟨fun h => ?_, fun _ => hN hk⟩⟩
    · rw [hed] at h; simp [neE, BE.den, IE.den, cmpI_neq] at h
    · rw [hed] at h; simp [neL, BE.den, IE.den, cmpI_neq] at h

set_option maxRecDepth 100000 in
theorem reads_sx (g : Nat → Int) (len cap : Nat) (hle : len ≤ cap) (hcap : cap ≤ 9223372036854775807) (hg : ∀ i, i < cap → 0 ≤ g i ∧ g i < 4294967296) :
    sxFunc P GL gUn Try.f3 [.sliceE true 0 1 (.lit 0) (.var len) (.var cap)] (readsHp g cap) (fun v _ => ∀ ν, v.den ν = .bool true) := by
  have e0 := reads_start g len cap (fun v => ∀ ν, v.den ν = .bool true)
  refine e0.mpr ?_
  refine LawKit.loopG_intro (L := Try.f3.ntmps) (by kernel_rfl) Int (readsSlots len cap) (fun _ => readsHp g cap) (fun k => 0 ≤ k ∧ k ≤ len) (fun k => ((len : Int) - k).toNat) ⟨0, ⟨by omega, by omega⟩, ?_⟩ ?_
  · have e1 := simAt_start g len cap 0
    refine e1.mpr ⟨rfl, rfl, rfl, rfl, fun _ _ => rfl, trivial⟩
  · intro u k ⟨h0, h1⟩
    have e2 := reads_body g len cap k u (fun k => 0 ≤ k ∧ k ≤ len) (fun k' => ((len : Int) - k').toNat < ((len : Int) - k).toNat) (fun v => ∀ ν, v.den ν = .bool true)
    refine e2.mpr (reads_rhs len cap hle k _ h0 (fun hk => hg _ (by omega)) _ fun hk => ?_)
    refine ⟨k + 1, ⟨by omega, by omega⟩, by omega, rfl, rfl, ?_, rfl, fun _ _ => rfl, trivial⟩
    simp only [IE.den]
    exact wrap_i64_in (by omega) (by omega)

set_option maxRecDepth 100000 in
theorem reads_calls (W : World) (pl : Pl) (g : Nat → Int) (len cap : Nat) (hle : len ≤ cap) (hcap : cap ≤ 9223372036854775807) (hg : ∀ i, i < cap → 0 ≤ g i ∧ g i < 4294967296)
    (hr : RowSat W.heap.size pl W false true [.int .u32 fun i => .var (g i)] cap) :
    Calls P 3 #[.slice (bif pl.nil then none else some ⟨pl.blk, pl.off, none⟩) len cap] W fun e W' => e = .returned (.bool true) ∧ Below W.heap.size W W' := by
  have hs := func_sound (un := gUn) GL_ok Try.func3
  have hc := hs W.heap.size (fun _ => pl) (readsHp g cap) W [.sliceE true 0 1 (.lit 0) (.var len) (.var cap)] _ (LawKit.sat_row (n := .var cap) hr) (Nat.le_refl _) ⟨⟨_, rfl, rfl⟩, trivial⟩ (reads_sx g len cap hle hcap hg)
  have e : (SV.denL (fun _ => pl) [.sliceE true 0 1 (.lit 0) (.var len) (.var cap)]).toArray = #[.slice (bif pl.nil then none else some ⟨pl.blk, pl.off, none⟩) len cap] := by
    simp [SV.denL, SV.den, Pl.base, NE.den]
  rw [e] at hc
  refine hc.mono ?_
  rintro e W' ⟨ν', v, hp', _, _, rfl, _, _, hb, hk⟩
  exact ⟨by rw [hk ν'], hb⟩

end Go.Proofs.Ytiljkmcahkphiaa.Rv

namespace Go.Proofs.Ytiljkmcahkphiaa.rvReads
open Go Go.ChangeShapes Go.WideShapes Go.ChangeAt Go.RowKit
set_option linter.unusedVariables false

theorem own : ownKnob Try.prog.godebug = none := by kernel_rfl
theorem laidOut : laidOutB Try.prog = true := by kernel_rfl

set_option maxRecDepth 100000 in
theorem lifted (os : Os) (started : os.Started) (H : Type) (enc : TypeId × Value → H) :
    ReturnsInHanded {} Try.checked os 3 .any (Rows.rvReadsSpec.pre6 enc Try.prog Try.f3 Rows.rvReadsRow.domain false) (Rows.rvReadsSpec.post enc Try.prog Try.f3 false true false false) := by
  refine LawKit.law_lifted (C := Try.checked) own started (by kernel_rfl) Try.func3
    (ChangeSpec.witness6 (enc := enc) (C := Try.checked) false ⟨#[], #[.slice none 0 0], []⟩ 8 (by kernel_rfl) (by kernel_rfl) (by kernel_rfl) (by kernel_rfl))
    laidOut rfl (by kernel_rfl) (by kernel_rfl) (tb := 4) Try.underlying4 ?_ ?_
  · intro ds hl
    match ds, hl with
    | [_], _ => rfl
  · intro W base args ds p hval hA hsz
    rw [Try.params3] at hval hA
    obtain ⟨v0, vs0, d0, ds0, p0, q0, hargs, rfl, rfl, h0, r0⟩ := trodAll_cons hA
    obtain ⟨rfl, rfl, rfl⟩ := trodAll_nil r0
    obtain rfl : args = #[v0] := by cases args; simp_all
    obtain ⟨pl, len, cap, g, rfl, hle, hcap, hr, hg⟩ := LawKit.input_ints Try.underlying22 Try.underlying30 (by kernel_rfl) (hval 0 _ _ rfl rfl) h0
    refine Rv.reads_calls W pl g len cap hle hcap (fun i hi => ?_) hr
    have := hg i hi
    simp only [IntKind.min, IntKind.max, IntKind.signed, IntKind.bits] at this
    simp at this; omega

theorem over : Rows.rvReadsRow.holds Try.pinned (OpenSpec.ofChange Rows.rvReadsSpec) :=
  OpenClaim.holds_of_wide 3 Try.f3 rfl rfl rfl rfl rfl rfl rfl ⟨rfl, rfl, rfl, rfl, rfl⟩ rfl rfl rfl rfl rfl (by kernel_rfl) Try.func3 (by kernel_rfl)
    (of_decide_eq_true (by kernel_rfl)) (by unfold Func.isWrapper; first | (rw [if_pos (by decide +kernel)]; kernel_rfl) | (rw [if_neg (by decide +kernel)]; exact ⟨rfl, rfl⟩))
    (fun os started H enc _ => lifted os started H enc)

theorem proved : Rows.RvReadsSaid := over
end Go.Proofs.Ytiljkmcahkphiaa.rvReads

namespace Go.Proofs.Ytiljkmcahkphiaa
/-- The row, under a short name, for the claim. -/
theorem rvReads_holds : Rows.RvReadsSaid := rvReads.proved
end Go.Proofs.Ytiljkmcahkphiaa
