/- Encode's contract. -/
import Derived.Test.YtiljkmcahkphiaaRv3
namespace Go.Proofs.Ytiljkmcahkphiaa.Rv
open Go Go.Proofs.Ytiljkmcahkphiaa.Sx Go.RowKit
set_option linter.unusedVariables false
set_option linter.unusedSimpArgs false

/-- What Encode makes: the word and the error. -/
def rvEnc (op a b c d : Int) : Int × Int :=
  match rowOf rvRows op with
  | none => (0, 153)
  | some r =>
    if regB a (names r.form).1 && regB b (names r.form).2.1 && regB c (names r.form).2.2 then (if fitsB r.form d then (rvWord r a b c d, 0) else (0, 152)) else (0, 151)

def pairV (p : Int × Int) : Value := .tuple #[.int .u32 p.1, .int .i64 p.2]

theorem rowOf_some : ∀ {l : List RvRow} {n : Int} {r : RvRow}, rowOf l n = some r → r ∈ l ∧ r.op = n
  | [], _, _, h => by simp [rowOf] at h
  | x :: l, n, r, h => by
    unfold rowOf at h
    split at h
    · rename_i e; simp only [Option.some.injEq] at h; subst h; exact ⟨List.mem_cons_self .., e⟩
    · obtain ⟨h1, h2⟩ := rowOf_some h; exact ⟨List.mem_cons_of_mem _ h1, h2⟩

theorem asked_of {α : Type} {R : Prop} (h : R) : ∀ l : List α, asked l R
  | [] => h
  | _ :: l => ⟨rfl, asked_of h l⟩

theorem unlessB_of {b : Bool} {A B : Prop} (h1 : b = false → A) (h2 : b = true → B) : unlessB b A B := by
  refine ⟨fun h => h1 ?_, fun h => h2 ?_⟩ <;> simpa [BE.den] using h

theorem encE_of (r : RvRow) (hr : r ∈ rvRows) (a b c d : Int) (hd : inI64 d = true) (Q : SV → Prop) (hQ : ∀ v : SV, (∀ ν, v.den ν = pairV (if regB a (names r.form).1 && regB b (names r.form).2.1 && regB c (names r.form).2.2 then (if fitsB r.form d then (rvWord r a b c d, 0) else (0, 152)) else (0, 151))) → Q v) : encE r a b c d Q := by
  unfold encE
  refine unlessB_of (fun h => hQ _ ?_) fun ha => unlessB_of (fun h => hQ _ ?_) fun hb => unlessB_of (fun h => hQ _ ?_) fun hc => ⟨by simpa [BE.den] using hd, unlessB_of (fun h => hQ _ ?_) fun hf => asked_of (hQ _ ?_) _⟩
  · intro ν; simp [h, errSV, SV.den, SV.denL, IE.den, pairV]
  · intro ν; simp [ha, h, errSV, SV.den, SV.denL, IE.den, pairV]
  · intro ν; simp [ha, hb, h, errSV, SV.den, SV.denL, IE.den, pairV]
  · intro ν; simp [ha, hb, hc, h, errSV, SV.den, SV.denL, IE.den, pairV]
  · intro ν; simp [ha, hb, hc, hf, SV.den, SV.denL, IE.den, pairV, word_den r hr a b c d ha hb hc]

theorem enc_calls (op a b c d : Int) (hd : inI64 d = true) (w : World) :
    Calls P 10 #[.agg #[.int .i64 op, .int .i64 a, .int .i64 b, .int .i64 c, .int .i64 d]] w fun e w' => e = .returned (pairV (rvEnc op a b c d)) ∧ Below w.heap.size w w' := by
  have hs := func_sound (un := fun _ => 10) G2_ok Try.func10
  have fin2 : ∀ o : IE, o.den = op → sxFunc P G2 (fun _ => 10) Try.f10 (rvArg o a b c d) [] (fun v _ => ∀ ν, v.den ν = pairV (rvEnc op a b c d)) →
      Calls P 10 #[.agg #[.int .i64 op, .int .i64 a, .int .i64 b, .int .i64 c, .int .i64 d]] w fun e w' => e = .returned (pairV (rvEnc op a b c d)) ∧ Below w.heap.size w w' := by
    intro o ho hx
    have hc := calls_val hs (args := rvArg o a b c d) (by simp [rvArg, SV.wfL, SV.wf]) hx w
    have e : (SV.denL nu0 (rvArg o a b c d)).toArray = #[.agg #[.int .i64 op, .int .i64 a, .int .i64 b, .int .i64 c, .int .i64 d]] := by
      simp [rvArg, SV.denL, SV.den, IE.den, ho]
    rw [e] at hc
    exact hc
  cases hrow : rowOf rvRows op with
  | none =>
    refine fin2 (.var op) rfl ?_
    rw [enc_none]
    refine ⟨by simp [BE.den, hrow], fun ν => ?_⟩
    simp [errSV, SV.den, SV.denL, IE.den, pairV, rvEnc, hrow]
  | some r =>
    obtain ⟨hr, ho⟩ := rowOf_some hrow
    refine fin2 (.lit r.op) ho ?_
    rw [enc_run r hr]
    refine encE_of r hr a b c d hd _ fun v hv ν => ?_
    rw [hv ν]
    simp only [rvEnc, hrow]

end Go.Proofs.Ytiljkmcahkphiaa.Rv
