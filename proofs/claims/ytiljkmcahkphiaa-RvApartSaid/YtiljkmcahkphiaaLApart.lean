/- RvApart: unlike instructions that may be have unlike words: the law returns true for every input. No conditions. -/
import Derived.Test.YtiljkmcahkphiaaRv6
import Derived.Test.YtiljkmcahkphiaaLaw
namespace Go.Proofs.Ytiljkmcahkphiaa.Rv
open Go Go.Proofs.Ytiljkmcahkphiaa.Sx Go.RowKit
set_option linter.unusedVariables false
set_option linter.unusedSimpArgs false

def rvSV (a b c d e : Int) : SV := .agg [.int .i64 (.var a), .int .i64 (.var b), .int .i64 (.var c), .int .i64 (.var d), .int .i64 (.var e)]
def neE (x : Int) (y : Int) : BE := .cmp .neq (.var x) (.lit y)
def eqE (x : Int) (y : Int) : BE := .cmp .eql (.var x) (.var y)

def apartE (a b c d e a' b' c' d' e' : Int) (Q : SV → Prop) : Prop :=
  BE.den (.var (inI64 e)) = true ∧ BE.den (.var (inI64 e')) = true ∧ (BE.den (neE (rvEnc a b c d e).2 0) = true → Q (.bool (.lit true))) ∧ (BE.den (neE (rvEnc a b c d e).2 0) = false →
    (BE.den (neE (rvEnc a' b' c' d' e').2 0) = true → Q (.bool (.lit true))) ∧ (BE.den (neE (rvEnc a' b' c' d' e').2 0) = false →
      Q (.bool (.eq (eqE (rvEnc a b c d e).1 (rvEnc a' b' c' d' e').1) (.ite (eqE a a') (.ite (eqE b b') (.ite (eqE c c') (.ite (eqE d d') (.ite (eqE e e') (.lit true) (.lit false)) (.lit false)) (.lit false)) (.lit false)) (.lit false))))))

theorem apart_run (a b c d e a' b' c' d' e' : Int) (Q : SV → Prop) : sxFunc P G4 (fun _ => 40) Try.f4 [rvSV a b c d e, rvSV a' b' c' d' e'] [] (fun v _ => Q v) = apartE a b c d e a' b' c' d' e' Q := by kernel_rfl

theorem apart_calls (a b c d e a' b' c' d' e' : Int) (he : inI64 e = true) (he' : inI64 e' = true) (w : World) :
    Calls P 4 #[.agg #[.int .i64 a, .int .i64 b, .int .i64 c, .int .i64 d, .int .i64 e], .agg #[.int .i64 a', .int .i64 b', .int .i64 c', .int .i64 d', .int .i64 e']] w fun r w' => r = .returned (.bool true) ∧ Below w.heap.size w w' := by
  have hs := func_sound (un := fun _ => 40) G4_ok Try.func4
  refine calls_val hs (args := [rvSV a b c d e, rvSV a' b' c' d' e']) (by simp [rvSV, SV.wfL, SV.wf]) ?_ w
  rw [apart_run]
  refine ⟨he, he', fun _ ν => rfl, fun h1 => ⟨fun _ ν => rfl, fun h2 ν => ?_⟩⟩
  have z1 : (rvEnc a b c d e).2 = 0 := by simpa [neE, BE.den, IE.den, cmpI] using h1
  have z2 : (rvEnc a' b' c' d' e').2 = 0 := by simpa [neE, BE.den, IE.den, cmpI] using h2
  have k := enc_inj (w := (rvEnc a b c d e).1) (w' := (rvEnc a' b' c' d' e').1) (by rw [← z1]) (by rw [← z2])
  have key : ((rvEnc a b c d e).1 == (rvEnc a' b' c' d' e').1) = (a == a' && (b == b' && (c == c' && (d == d' && e == e')))) := by
    rw [Bool.eq_iff_iff]
    simp only [beq_iff_eq, Bool.and_eq_true]
    exact k
  simp only [SV.den, BE.den, eqE, IE.den, cmpI, key]
  cases (a == a') <;> cases (b == b') <;> cases (c == c') <;> cases (d == d') <;> cases (e == e') <;> rfl

end Go.Proofs.Ytiljkmcahkphiaa.Rv

namespace Go.Proofs.Ytiljkmcahkphiaa.rvApart
open Go Go.ChangeShapes Go.WideShapes Go.ChangeAt Go.RowKit
set_option linter.unusedVariables false

theorem own : ownKnob Try.prog.godebug = none := by kernel_rfl
theorem laidOut : laidOutB Try.prog = true := by kernel_rfl
theorem open_rv {W : World} {base : Nat} {v : Value} (h : Value.okWide Try.prog W .any base 26 v) : ∃ a b c d e : Int, v = .agg #[.int .i64 a, .int .i64 b, .int .i64 c, .int .i64 d, .int .i64 e] ∧ Rv.inI64 e = true := by
  obtain ⟨ns, rfl, hl, hk⟩ := LawKit.open_cells (ks := [.i64, .i64, .i64, .i64, .i64]) Try.underlying26 (by kernel_rfl) (by kernel_rfl) h
  match ns, hl with
  | [a, b, c, d, e], _ =>
    refine ⟨a, b, c, d, e, rfl, ?_⟩
    have := hk 4 .i64 e rfl rfl
    simp only [IntKind.has, IntKind.min, IntKind.max, IntKind.signed, IntKind.bits] at this
    rw [Rv.inI64_iff]
    simp at this; omega

set_option maxRecDepth 100000 in
theorem lifted (os : Os) (started : os.Started) (H : Type) (enc : TypeId × Value → H) :
    ReturnsInHanded {} Try.checked os 4 .any (Rows.rvApartSpec.pre6 enc Try.prog Try.f4 Rows.rvApartRow.domain false) (Rows.rvApartSpec.post enc Try.prog Try.f4 false true false false) := by
  refine LawKit.law_lifted (C := Try.checked) own started (by kernel_rfl) Try.func4
    (ChangeSpec.witness6 (enc := enc) (C := Try.checked) false ⟨#[], #[.agg #[.int .i64 0, .int .i64 0, .int .i64 0, .int .i64 0, .int .i64 0], .agg #[.int .i64 0, .int .i64 0, .int .i64 0, .int .i64 0, .int .i64 0]], []⟩ 8 (by kernel_rfl) (by kernel_rfl) (by kernel_rfl) (by kernel_rfl))
    laidOut rfl (by kernel_rfl) (by kernel_rfl) (tb := 4) Try.underlying4 ?_ ?_
  · intro ds hl
    match ds, hl with
    | [_, _], _ => rfl
  · intro W base args ds p hval hA hsz
    rw [Try.params4] at hval hA
    obtain ⟨v0, vs0, d0, ds0, p0, q0, hargs, rfl, rfl, h0, r0⟩ := trodAll_cons hA
    obtain ⟨v1, vs1, d1, ds1, p1, q1, rfl, rfl, rfl, h1, r1⟩ := trodAll_cons r0
    obtain ⟨rfl, rfl, rfl⟩ := trodAll_nil r1
    obtain rfl : args = #[v0, v1] := by cases args; simp_all
    obtain ⟨a, b, c, d, e, rfl, he⟩ := open_rv (hval 0 _ _ rfl rfl)
    obtain ⟨a', b', c', d', e', rfl, he'⟩ := open_rv (hval 1 _ _ rfl rfl)
    exact Rv.apart_calls a b c d e a' b' c' d' e' he he' W

theorem over : Rows.rvApartRow.holds Try.pinned (OpenSpec.ofChange Rows.rvApartSpec) :=
  OpenClaim.holds_of_wide 4 Try.f4 rfl rfl rfl rfl rfl rfl rfl ⟨rfl, rfl, rfl, rfl, rfl⟩ rfl rfl rfl rfl rfl (by kernel_rfl) Try.func4 (by kernel_rfl)
    (of_decide_eq_true (by kernel_rfl)) (by unfold Func.isWrapper; first | (rw [if_pos (by decide +kernel)]; kernel_rfl) | (rw [if_neg (by decide +kernel)]; exact ⟨rfl, rfl⟩))
    (fun os started H enc _ => lifted os started H enc)

theorem proved : Rows.RvApartSaid := over
end Go.Proofs.Ytiljkmcahkphiaa.rvApart

namespace Go.Proofs.Ytiljkmcahkphiaa
/-- The row, under a short name, for the claim. -/
theorem rvApart_holds : Rows.RvApartSaid := rvApart.proved
end Go.Proofs.Ytiljkmcahkphiaa
