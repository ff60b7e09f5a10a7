/- For every operation and every number beside a bound: the law RvBounds answers true. No conditions. -/
import Derived.Test.YtiljkmcahkphiaaLaw2
import Derived.Test.YtiljkmcahkphiaaRr9
namespace Go.Proofs.Ytiljkmcahkphiaa.Rv
open Go Go.Proofs.Ytiljkmcahkphiaa.Sx Go.RowKit
set_option linter.unusedVariables false
set_option linter.unusedSimpArgs false

def lbT : List (FuncId × Cal) := (9, .pure fDec) :: (12, .pure fEnc) :: (8, .pure fDec) :: rvT4
theorem lbT_ok : GammaOk P (table lbT) := table_cons frdec_ok (table_cons frenc_ok (table_cons fdec_ok rvT4_ok))
noncomputable def GB : FuncId → Option Cal := inl P (fun _ _ => 40) (table lbT) 4
theorem GB_ok : GammaOk P GB := inl_ok lbT_ok 4

structure BSt where
  op : Int
  form : Int
  code : Int
  f3 : Int
  f7 : Int
  name : ByteArray
  bnd : Nat → Int
  k : Int
def boundsSlots (near : Int) (a : BSt) : List (Nat × SV) := [(1, .int .i8 (.var near)), (4, .bool (.lit false)), (5, .bool (.lit true)), (7, .ptr 0 0), (8, .sliceE false 1 1 (.lit 0) (.lit 17) (.lit 17)), (9, .int .i64 (.var a.k))]
def boundsHp (a : BSt) : List SObj := [.cells [.int .i64 (.var a.op), .int .i64 (.var a.form), .int .u32 (.var a.code), .int .u32 (.var a.f3), .int .u32 (.var a.f7), .strE a.name] 39, .row true false [.int .i64 fun i => .var (a.bnd i)] (.lit 17)]
def boundsAnn (near : Int) : Ann where
  α := BSt
  slots := boundsSlots near
  hp := boundsHp
  inv := fun a => 0 ≤ a.k ∧ a.k ≤ 17
  μ := fun a => (17 - a.k).toNat
  exit := 0
  β := Unit
  slotsX := fun _ => [(4, .bool (.lit false)), (5, .bool (.lit true))]
  hpX := fun _ => []
  invX := fun _ => True
def boundsUn (near : Int) : Nat → Plan := fun n => if n = 0 then .said (boundsAnn near) else 40
noncomputable def boundsCode : Code := (Try.f5.body).getD .skip
noncomputable def boundsBody (near : Int) (σ : St) (K : SExit → St → Prop) : Prop :=
  match (loopIn boundsCode 0)[0]? with
  | some (b, c) => sxCode P GB (boundsUn near) 0 c b σ K
  | none => False
noncomputable def boundsK (near : Int) (Q : SV → Prop) : SExit → St → Prop := (ctxK (sxCode P GB (boundsUn near) 0) boundsCode 0 (endK Try.f5 Q)).getD fun _ _ => False
theorem bounds_body (near : Int) (u : Nat → Value) (a : BSt) (Q : SV → Prop) : boundsBody near { tmps := fillT (boundsSlots near a) u 0 81, hp := boundsHp a } (stepA 0 81 (boundsAnn near) (boundsK near Q) a) =
    ((BE.den (BE.cmp BinOp.lss (IE.var (BSt.k a)) (IE.lit 17)) = true → decide (0 ≤ BSt.k a ∧ BSt.k a < ↑17) = true ∧ decide (0 + Int.toNat (BSt.k a) + 1 ≤ 17) = true ∧ inI64 (IE.den (IE.add IntKind.i64 (IE.var (BSt.bnd a (0 + Int.toNat (BSt.k a)))) (IE.conv IntKind.i64 (IE.var near)))) = true ∧ inI64 (IE.den (IE.add IntKind.i64 (IE.var (BSt.bnd a (0 + Int.toNat (BSt.k a)))) (IE.conv IntKind.i64 (IE.var near)))) = true ∧ (BE.den (BE.cmp BinOp.neq (IE.var (Prod.snd (rvEnc (BSt.op a) 0 0 0 (IE.den (IE.add IntKind.i64 (IE.var (BSt.bnd a (0 + Int.toNat (BSt.k a)))) (IE.conv IntKind.i64 (IE.var near))))))) (IE.var (Prod.snd (rvEnc (BSt.op a) 0 0 0 (IE.den (IE.add IntKind.i64 (IE.var (BSt.bnd a (0 + Int.toNat (BSt.k a)))) (IE.conv IntKind.i64 (IE.var near)))))))) = true → Q (SV.bool (BE.lit false))) ∧ (BE.den (BE.cmp BinOp.neq (IE.var (Prod.snd (rvEnc (BSt.op a) 0 0 0 (IE.den (IE.add IntKind.i64 (IE.var (BSt.bnd a (0 + Int.toNat (BSt.k a)))) (IE.conv IntKind.i64 (IE.var near))))))) (IE.var (Prod.snd (rvEnc (BSt.op a) 0 0 0 (IE.den (IE.add IntKind.i64 (IE.var (BSt.bnd a (0 + Int.toNat (BSt.k a)))) (IE.conv IntKind.i64 (IE.var near)))))))) = false → (BE.den (BE.cmp BinOp.neq (IE.var (Prod.snd (rvEnc (BSt.op a) 0 0 0 (IE.den (IE.add IntKind.i64 (IE.var (BSt.bnd a (0 + Int.toNat (BSt.k a)))) (IE.conv IntKind.i64 (IE.var near))))))) (IE.lit 0)) = true → ∃ a', (Int.NonNeg (BSt.k a' - 0) ∧ Int.NonNeg (17 - BSt.k a')) ∧ Nat.le (Nat.succ (Ann.μ (boundsAnn near) a')) (Ann.μ (boundsAnn near) a) ∧ near = near ∧ IE.den (IE.add IntKind.i64 (IE.var (BSt.k a)) (IE.lit 1)) = BSt.k a' ∧ BSt.op a = BSt.op a' ∧ BSt.form a = BSt.form a' ∧ BSt.code a = BSt.code a' ∧ BSt.f3 a = BSt.f3 a' ∧ BSt.f7 a = BSt.f7 a' ∧ BSt.name a = BSt.name a' ∧ (∀ (e : Nat), e < 17 → BSt.bnd a e = BSt.bnd a' e) ∧ True) ∧ (BE.den (BE.cmp BinOp.neq (IE.var (Prod.snd (rvEnc (BSt.op a) 0 0 0 (IE.den (IE.add IntKind.i64 (IE.var (BSt.bnd a (0 + Int.toNat (BSt.k a)))) (IE.conv IntKind.i64 (IE.var near))))))) (IE.lit 0)) = false → inU32 (Prod.fst (rvEnc (BSt.op a) 0 0 0 (IE.den (IE.add IntKind.i64 (IE.var (BSt.bnd a (0 + Int.toNat (BSt.k a)))) (IE.conv IntKind.i64 (IE.var near)))))) = true ∧ (BE.den (BE.cmp BinOp.neq (IE.var (RvIns.err (rvDec (Prod.fst (rvEnc (BSt.op a) 0 0 0 (IE.den (IE.add IntKind.i64 (IE.var (BSt.bnd a (0 + Int.toNat (BSt.k a)))) (IE.conv IntKind.i64 (IE.var near))))))))) (IE.lit 0)) = true → Q (SV.bool (BE.lit false))) ∧ (BE.den (BE.cmp BinOp.neq (IE.var (RvIns.err (rvDec (Prod.fst (rvEnc (BSt.op a) 0 0 0 (IE.den (IE.add IntKind.i64 (IE.var (BSt.bnd a (0 + Int.toNat (BSt.k a)))) (IE.conv IntKind.i64 (IE.var near))))))))) (IE.lit 0)) = false → (BE.den (BE.cmp BinOp.neq (IE.var (RvIns.imm (rvDec (Prod.fst (rvEnc (BSt.op a) 0 0 0 (IE.den (IE.add IntKind.i64 (IE.var (BSt.bnd a (0 + Int.toNat (BSt.k a)))) (IE.conv IntKind.i64 (IE.var near))))))))) (IE.add IntKind.i64 (IE.var (BSt.bnd a (0 + Int.toNat (BSt.k a)))) (IE.conv IntKind.i64 (IE.var near)))) = true → Q (SV.bool (BE.lit false))) ∧ (BE.den (BE.cmp BinOp.neq (IE.var (RvIns.imm (rvDec (Prod.fst (rvEnc (BSt.op a) 0 0 0 (IE.den (IE.add IntKind.i64 (IE.var (BSt.bnd a (0 + Int.toNat (BSt.k a)))) (IE.conv IntKind.i64 (IE.var near))))))))) (IE.add IntKind.i64 (IE.var (BSt.bnd a (0 + Int.toNat (BSt.k a)))) (IE.conv IntKind.i64 (IE.var near)))) = false → (BE.den (BE.cmp BinOp.neq (IE.var (RvIns.op (rvDec (Prod.fst (rvEnc (BSt.op a) 0 0 0 (IE.den (IE.add IntKind.i64 (IE.var (BSt.bnd a (0 + Int.toNat (BSt.k a)))) (IE.conv IntKind.i64 (IE.var near))))))))) (IE.var (BSt.op a))) = true → Q (SV.bool (BE.lit false))) ∧ (BE.den (BE.cmp BinOp.neq (IE.var (RvIns.op (rvDec (Prod.fst (rvEnc (BSt.op a) 0 0 0 (IE.den (IE.add IntKind.i64 (IE.var (BSt.bnd a (0 + Int.toNat (BSt.k a)))) (IE.conv IntKind.i64 (IE.var near))))))))) (IE.var (BSt.op a))) = false → ∃ a', (Int.NonNeg (BSt.k a' - 0) ∧ Int.NonNeg (17 - BSt.k a')) ∧ Nat.le (Nat.succ (Ann.μ (boundsAnn near) a')) (Ann.μ (boundsAnn near) a) ∧ near = near ∧ IE.den (IE.add IntKind.i64 (IE.var (BSt.k a)) (IE.lit 1)) = BSt.k a' ∧ BSt.op a = BSt.op a' ∧ BSt.form a = BSt.form a' ∧ BSt.code a = BSt.code a' ∧ BSt.f3 a = BSt.f3 a' ∧ BSt.f7 a = BSt.f7 a' ∧ BSt.name a = BSt.name a' ∧ (∀ (e : Nat), e < 17 → BSt.bnd a e = BSt.bnd a' e) ∧ True)))))) ∧ (BE.den (BE.cmp BinOp.lss (IE.var (BSt.k a)) (IE.lit 17)) = false → ∃ (b : Unit), True ∧ True)) := by kernel_rfl

def colI (vs : List SV) (sz j e : Nat) : Int := IE.den (match cellsCol sz j vs with | .int _ g => g e | _ => .lit 0)
def colS (vs : List SV) (sz j e : Nat) : ByteArray := match cellsCol sz j vs with | .str g => g e | _ => .empty
def rowIdx (op : Int) : IE := .rem (.conv .i64 (.var op)) (.lit 34)
def bndCells : List SV := [0, 31, 32, 63, 64, 2047, 2048, -2048, -2049, 4094, 4096, -4096, -4098, 1048576, 1048574, -1048576, -1048578].map fun n => .int .i64 (.lit n)
def boundsStart (near : Int) (e : Nat) (a : BSt) : Prop :=
  near = near ∧ 0 = a.k ∧ colI rrCells 6 0 e = a.op ∧ colI rrCells 6 1 e = a.form ∧ colI rrCells 6 2 e = a.code ∧ colI rrCells 6 3 e = a.f3 ∧ colI rrCells 6 4 e = a.f7 ∧ colS rrCells 6 5 e = a.name ∧ (∀ e, e < 17 → colI bndCells 1 0 e = a.bnd e) ∧ True

theorem bounds_run (op near : Int) (Q : SV → Prop) : sxFunc P GB (boundsUn near) Try.f5 [.int .u8 (.var op), .int .i8 (.var near)] [] (fun v _ => Q v) =
    (BE.den (.var (decide (0 ≤ (rowIdx op).den ∧ (rowIdx op).den < (34 : Nat)))) = true ∧ BE.den (.var (decide (0 + (rowIdx op).den.toNat + 1 ≤ 34))) = true ∧
      (∃ a, (boundsAnn near).inv a ∧ boundsStart near (0 + (rowIdx op).den.toNat) a) ∧
      (∀ (u : Nat → Value) (a : BSt), (boundsAnn near).inv a → boundsBody near { tmps := fillT (boundsSlots near a) u 0 81, hp := boundsHp a } (stepA 0 81 (boundsAnn near) (boundsK near Q) a)) ∧
      (∀ (u : Nat → Value) (b : Unit), True → Q (.bool (.lit true)))) := by kernel_rfl

theorem rem34 (op : Int) (h0 : 0 ≤ op) (h1 : op < 256) : 0 ≤ (rowIdx op).den ∧ (rowIdx op).den < 34 := by
  have e : IntKind.i64.wrap op = op := wrap_i64_in (by omega) (by omega)
  simp only [rowIdx, IE.den, e]
  rw [Int.tmod_eq_emod_of_nonneg h0]
  omega

theorem enc_back {op d w : Int} (h : (rvEnc op 0 0 0 d).2 = 0) : inU32 (rvEnc op 0 0 0 d).1 = true ∧ rvDec (rvEnc op 0 0 0 d).1 = ⟨op, 0, 0, 0, d, 0⟩ := by
  obtain ⟨r, hr, e, ok, ew⟩ := enc_ok (op := op) (a := 0) (b := 0) (c := 0) (d := d) (w := (rvEnc op 0 0 0 d).1) (Prod.ext rfl h)
  obtain ⟨w0, w1, _⟩ := word_range r hr _ _ _ _ ok
  rw [ew, dec_enc r hr _ _ _ _ ok, e]
  exact ⟨(inU32_iff _).2 ⟨w0, w1⟩, rfl⟩

theorem add_i64 (x y : IE) : inI64 (IE.den (.add .i64 x y)) = true := by
  simp only [IE.den]
  generalize x.den + y.den = n
  rw [inI64_iff]
  rw [wrap_i64]
  split <;> omega

set_option maxRecDepth 100000 in
theorem bounds_step (near : Int) (u : Nat → Value) (a : BSt) (ha : (boundsAnn near).inv a) :
    boundsBody near { tmps := fillT (boundsSlots near a) u 0 81, hp := boundsHp a } (stepA 0 81 (boundsAnn near) (boundsK near fun v => ∀ ν, v.den ν = .bool true) a) := by
  obtain ⟨k0, k1⟩ := ha
  refine (bounds_body near u a _).mpr ⟨fun hlt => ?_, fun _ => ⟨(), trivial, trivial⟩⟩
  have hk : a.k < 17 := by simpa [BE.den, IE.den, cmpI_lss] using hlt
  have hi := add_i64 (.var (a.bnd (0 + a.k.toNat))) (.conv .i64 (.var near))
  have next : ∃ a' : BSt, (boundsAnn near).inv a' ∧ Nat.le (Nat.succ ((boundsAnn near).μ a')) ((boundsAnn near).μ a) ∧ near = near ∧ IE.den (.add .i64 (.var a.k) (.lit 1)) = a'.k ∧ a.op = a'.op ∧ a.form = a'.form ∧ a.code = a'.code ∧ a.f3 = a'.f3 ∧ a.f7 = a'.f7 ∧ a.name = a'.name ∧ (∀ e, e < 17 → a.bnd e = a'.bnd e) ∧ True := by
    refine ⟨{ a with k := a.k + 1 }, ⟨by show 0 ≤ a.k + 1; omega, by show a.k + 1 ≤ 17; omega⟩, ?_, rfl, ?_, rfl, rfl, rfl, rfl, rfl, rfl, fun _ _ => rfl, trivial⟩
    · show (17 - (a.k + 1)).toNat < (17 - a.k).toNat
      omega
    · simp only [IE.den]; exact wrap_i64_in (by omega) (by omega)
  generalize hd : IE.den (.add .i64 (.var (a.bnd (0 + a.k.toNat))) (.conv .i64 (.var near))) = d at *
  refine ⟨by simp; omega, by simp; omega, hi, hi, fun h => ?_, fun _ => ⟨fun _ => next, fun he => ?_⟩⟩
  · simp [BE.den, IE.den, cmpI_neq] at h
  · have he' : (rvEnc a.op 0 0 0 d).2 = 0 := by simpa [BE.den, IE.den, cmpI_neq] using he
    obtain ⟨hu, hx⟩ := enc_back (w := 0) he'
    rw [hx]
    refine ⟨hu, fun h => ?_, fun _ => ⟨fun h => ?_, fun _ => ⟨fun h => ?_, fun _ => next⟩⟩⟩
    · simp [BE.den, IE.den, cmpI_neq] at h
    · simp only [BE.den, cmpI_neq, hd] at h; simp [IE.den] at h
    · simp [BE.den, IE.den, cmpI_neq] at h

set_option maxRecDepth 100000 in
theorem bounds_sx (op near : Int) (h0 : 0 ≤ op) (h1 : op < 256) :
    sxFunc P GB (boundsUn near) Try.f5 [.int .u8 (.var op), .int .i8 (.var near)] [] (fun v _ => ∀ ν, v.den ν = .bool true) := by
  have hr := rem34 op h0 h1
  refine (bounds_run op near _).mpr ⟨?_, ?_, ⟨⟨_, _, _, _, _, _, fun e => colI bndCells 1 0 e, 0⟩, ⟨Int.le_refl 0, (by decide : (0 : Int) ≤ 17)⟩, rfl, rfl, rfl, rfl, rfl, rfl, rfl, rfl, fun _ _ => rfl, trivial⟩, fun u a ha => bounds_step near u a ha, fun u b _ ν => rfl⟩
  · simp only [BE.den, decide_eq_true_eq]; exact hr
  · simp only [BE.den, decide_eq_true_eq]; omega

set_option maxRecDepth 100000 in
theorem bounds_calls (op near : Int) (h0 : 0 ≤ op) (h1 : op < 256) (w : World) :
    Calls P 5 #[.int .u8 op, .int .i8 near] w fun r w' => r = .returned (.bool true) ∧ Below w.heap.size w w' := by
  have hs := func_sound (un := boundsUn near) GB_ok Try.func5
  exact calls_val hs (args := [.int .u8 (.var op), .int .i8 (.var near)]) (by simp [SV.wfL, SV.wf]) (bounds_sx op near h0 h1) w

end Go.Proofs.Ytiljkmcahkphiaa.Rv

namespace Go.Proofs.Ytiljkmcahkphiaa.rvBounds
open Go Go.ChangeShapes Go.WideShapes Go.ChangeAt Go.RowKit
set_option linter.unusedVariables false

theorem own : ownKnob Try.prog.godebug = none := by kernel_rfl
theorem laidOut : laidOutB Try.prog = true := by kernel_rfl

set_option maxRecDepth 100000 in
theorem lifted (os : Os) (started : os.Started) (H : Type) (enc : TypeId × Value → H) :
    ReturnsInHanded {} Try.checked os 5 .any (Rows.rvBoundsSpec.pre6 enc Try.prog Try.f5 Rows.rvBoundsRow.domain false) (Rows.rvBoundsSpec.post enc Try.prog Try.f5 false true false false) := by
  refine LawKit.law_lifted (C := Try.checked) own started (by kernel_rfl) Try.func5
    (ChangeSpec.witness6 (enc := enc) (C := Try.checked) false ⟨#[], #[.int .u8 0, .int .i8 0], []⟩ 8 (by kernel_rfl) (by kernel_rfl) (by kernel_rfl) (by kernel_rfl))
    laidOut rfl (by kernel_rfl) (by kernel_rfl) (tb := 4) Try.underlying4 ?_ ?_
  · intro ds hl
    match ds, hl with
    | [_, _], _ => rfl
  · intro W base args ds p hval hA hsz
    rw [Try.params5] at hval hA
    obtain ⟨v0, vs0, d0, ds0, p0, q0, hargs, rfl, rfl, h0, r0⟩ := trodAll_cons hA
    obtain ⟨v1, vs1, d1, ds1, p1, q1, rfl, rfl, rfl, h1, r1⟩ := trodAll_cons r0
    obtain ⟨rfl, rfl, rfl⟩ := trodAll_nil r1
    obtain rfl : args = #[v0, v1] := by cases args; simp_all
    obtain ⟨e0, k0⟩ := LawKit.input_int (k := .u8) (v := v0) Try.underlying5 (hval 0 _ _ rfl rfl)
    obtain ⟨e1, k1⟩ := LawKit.input_int (k := .i8) (v := v1) Try.underlying35 (hval 1 _ _ rfl rfl)
    rw [e0, e1]
    simp only [IntKind.has, IntKind.min, IntKind.max, IntKind.signed, IntKind.bits] at k0
    exact Rv.bounds_calls _ _ (by simp at k0; omega) (by simp at k0; omega) W

theorem over : Rows.rvBoundsRow.holds Try.pinned (OpenSpec.ofChange Rows.rvBoundsSpec) :=
  OpenClaim.holds_of_wide 5 Try.f5 rfl rfl rfl rfl rfl rfl rfl ⟨rfl, rfl, rfl, rfl, rfl⟩ rfl rfl rfl rfl rfl (by kernel_rfl) Try.func5 (by kernel_rfl)
    (of_decide_eq_true (by kernel_rfl)) (by unfold Func.isWrapper; first | (rw [if_pos (by decide +kernel)]; kernel_rfl) | (rw [if_neg (by decide +kernel)]; exact ⟨rfl, rfl⟩))
    (fun os started H enc _ => lifted os started H enc)

theorem proved : Rows.RvBoundsSaid := over
end Go.Proofs.Ytiljkmcahkphiaa.rvBounds

namespace Go.Proofs.Ytiljkmcahkphiaa
/-- The row, under a short name, for the claim. -/
theorem rvBounds_holds : Rows.RvBoundsSaid := rvBounds.proved
end Go.Proofs.Ytiljkmcahkphiaa
