/- The document's Encode makes what Encode makes. -/
import Derived.Test.YtiljkmcahkphiaaRr5
namespace Go.Proofs.Ytiljkmcahkphiaa.Rv
open Go Go.Proofs.Ytiljkmcahkphiaa.Sx Go.RowKit
set_option linter.unusedVariables false
set_option linter.unusedSimpArgs false

theorem orIf_den {b : Bool} {w e : IE} {x y : Int} {m m' : Nat} (hw : w.den = x ∧ Sub m x ∧ m < 2 ^ 32) (he : b = true → e.den = y ∧ Sub m' y ∧ m' < 2 ^ 32) (hd : b = true → m &&& m' = 0) :
    (orIf b w e).den = x + (bif b then y else 0) ∧ Sub (bif b then m ||| m' else m) (x + (bif b then y else 0)) ∧ (bif b then m ||| m' else m) < 2 ^ 32 := by
  obtain ⟨h1, h2, h3⟩ := hw
  cases b with
  | false => simpa [orIf] using ⟨h1, h2, h3⟩
  | true =>
    obtain ⟨e1, e2, e3⟩ := he rfl
    obtain ⟨o1, o2⟩ := h2.or e2 (hd rfl) h3 e3
    exact ⟨by simp only [orIf, orU, IE.den, h1, e1, o1, cond_true], by simpa using o2, by simpa using Nat.or_lt_two_pow h3 e3⟩

theorem sub_add {m m' : Nat} {x y : Int} (hx : Sub m x) (hy : Sub m' y) (hd : m &&& m' = 0) (hm : m < 2 ^ 32) (hm' : m' < 2 ^ 32) : Sub (m ||| m') (x + y) := (hx.or hy hd hm hm').2

def layM : Nat → Nat
  | 1 => 4294963200
  | 2 => 4293918720
  | 3 | 4 => 66060288
  | 5 => 4261416832
  | 7 => 4261416832
  | 8 => 4294963200
  | _ => 0

theorem layW_sub (f : Nat) (hf : f ∈ [1, 2, 3, 4, 5, 6, 7, 8]) (d : Int) : Sub (layM f) (layW f d) ∧ layM f < 2 ^ 32 := by
  simp only [List.mem_cons, List.not_mem_nil, or_false] at hf
  rcases hf with rfl | rfl | rfl | rfl | rfl | rfl | rfl | rfl
  · exact ⟨by simpa [layM, layW, immW] using piece_sub d 0 20 12, by decide⟩
  · exact ⟨by simpa [layM, layW, immW] using piece_sub d 0 12 20, by decide⟩
  · exact ⟨by simpa [layM, layW, immW] using piece_sub d 0 6 20, by decide⟩
  · exact ⟨by simpa [layM, layW, immW] using piece_sub d 0 6 20, by decide⟩
  · have := sub_add (piece_sub d 0 5 7) (piece_sub d 5 7 25) (by decide) (by decide) (by decide)
    exact ⟨by simpa [layM, layW, immW] using this, by decide⟩
  · exact ⟨Sub.zero _, by decide⟩
  · have := sub_add (sub_add (sub_add (piece_sub d 1 4 8) (piece_sub d 5 6 25) (by decide) (by decide) (by decide)) (piece_sub d 11 1 7) (by decide) (by decide) (by decide)) (piece_sub d 12 1 31) (by decide) (by decide) (by decide)
    exact ⟨by simpa [layM, layW, immW] using this, by decide⟩
  · have := sub_add (sub_add (sub_add (piece_sub d 1 10 21) (piece_sub d 11 1 20) (by decide) (by decide) (by decide)) (piece_sub d 12 8 12) (by decide) (by decide) (by decide)) (piece_sub d 20 1 31) (by decide) (by decide) (by decide)
    exact ⟨by simpa [layM, layW, immW] using this, by decide⟩

theorem row_small (r : RvRow) (hr : r ∈ rvRows) : Sub 127 r.code ∧ Sub (7 * 2 ^ 12) (r.f3 * 4096) ∧ Sub (127 * 2 ^ 25) (r.f7 * 33554432) ∧ (r.form ≠ 6 → r.f7 = 0) := by
  simp only [rvRows, List.mem_cons, List.not_mem_nil, or_false] at hr
  rcases hr with rfl | rfl | rfl | rfl | rfl | rfl | rfl | rfl | rfl | rfl | rfl | rfl | rfl | rfl | rfl | rfl | rfl | rfl | rfl | rfl | rfl | rfl | rfl | rfl | rfl | rfl | rfl | rfl | rfl | rfl | rfl | rfl | rfl | rfl <;>
    exact ⟨subB (by decide), subB (by decide), subB (by decide), by decide⟩

def regM (b : Bool) (s : Nat) : Nat := if b then 31 * 2 ^ s else 0

theorem layW_imm (f : Nat) (d : Int) (h : fitsB f d = true) : layW f d = immW f d := by
  unfold layW
  split
  · simp only [fitsB, Bool.and_eq_true, decide_eq_true_eq] at h
    simp only [immW]; omega
  · rfl

theorem wordR_gen (r : RvRow) (hr : r ∈ rvRows) (f : Nat) (hf : r.form = f) (hfm : f ∈ [1, 2, 3, 4, 5, 6, 7, 8]) (a b c d : Int) (ha : regB a (names f).1 = true) (hb : regB b (names f).2.1 = true) (hc : regB c (names f).2.2 = true)
    (hl : 127 &&& layM f = 0)
    (h1 : (names f).1 = true → (127 ||| layM f) &&& regM (names f).1 7 = 0)
    (h2 : (names f).2.1 = true → (bif (names f).1 then (127 ||| layM f) ||| regM (names f).1 7 else (127 ||| layM f)) &&& regM (names f).2.1 15 = 0)
    (h3 : (names f).2.2 = true → (bif (names f).2.1 then (bif (names f).1 then (127 ||| layM f) ||| regM (names f).1 7 else (127 ||| layM f)) ||| regM (names f).2.1 15 else (bif (names f).1 then (127 ||| layM f) ||| regM (names f).1 7 else (127 ||| layM f))) &&& regM (names f).2.2 20 = 0)
    (M : Nat) (hM : M = bif (names f).2.2 then (bif (names f).2.1 then (bif (names f).1 then (127 ||| layM f) ||| regM (names f).1 7 else (127 ||| layM f)) ||| regM (names f).2.1 15 else (bif (names f).1 then (127 ||| layM f) ||| regM (names f).1 7 else (127 ||| layM f))) ||| regM (names f).2.2 20 else (bif (names f).2.1 then (bif (names f).1 then (127 ||| layM f) ||| regM (names f).1 7 else (127 ||| layM f)) ||| regM (names f).2.1 15 else (bif (names f).1 then (127 ||| layM f) ||| regM (names f).1 7 else (127 ||| layM f))))
    (h4 : (!(f == 1) && !(f == 8)) = true → M &&& (7 * 2 ^ 12) = 0)
    (h5 : (f == 6) = true → (bif (!(f == 1) && !(f == 8)) then M ||| (7 * 2 ^ 12) else M) &&& (127 * 2 ^ 25) = 0) :
    (wordR r a b c d).den = r.code + layW f d + (bif (names f).1 then a * 2 ^ 7 else 0) + (bif (names f).2.1 then b * 2 ^ 15 else 0) + (bif (names f).2.2 then c * 2 ^ 20 else 0) + (bif (!(f == 1) && !(f == 8)) then r.f3 * 4096 else 0) + (bif (f == 6) then r.f7 * 33554432 else 0) := by
  obtain ⟨s1, s2, s3, _⟩ := row_small r hr
  obtain ⟨l1, l2⟩ := layW_sub f hfm d
  obtain ⟨a1, a2, a3⟩ := reg_piece ha 7 (by decide)
  obtain ⟨b1, b2, b3⟩ := reg_piece hb 15 (by decide)
  obtain ⟨c1, c2, c3⟩ := reg_piece hc 20 (by decide)
  obtain ⟨o1, o2⟩ := s1.or l1 hl (by decide) l2
  have w0 : (orU (.lit r.code) (.var (layW f d))).den = r.code + layW f d ∧ Sub (127 ||| layM f) (r.code + layW f d) ∧ (127 ||| layM f) < 2 ^ 32 := ⟨by simp only [orU, IE.den, o1], o2, Nat.or_lt_two_pow (by decide) l2⟩
  have w1 := orIf_den (b := (names f).1) (e := shU (.conv .u32 (.var a)) 7) w0 (fun _ => ⟨a1, a2, a3⟩) h1
  have w2 := orIf_den (b := (names f).2.1) (e := shU (.conv .u32 (.var b)) 15) w1 (fun _ => ⟨b1, b2, b3⟩) h2
  have w3 := orIf_den (b := (names f).2.2) (e := shU (.conv .u32 (.var c)) 20) w2 (fun _ => ⟨c1, c2, c3⟩) h3
  have w4 := orIf_den (b := (!(f == 1) && !(f == 8))) (e := .lit (r.f3 * 4096)) w3 (fun _ => ⟨rfl, s2, by decide⟩) (fun h => by have := h4 h; rw [hM] at this; exact this)
  have w5 := orIf_den (b := (f == 6)) (e := .lit (r.f7 * 33554432)) w4 (fun _ => ⟨rfl, s3, by decide⟩) (fun h => by have := h5 h; rw [hM] at this; exact this)
  unfold wordR
  rw [hf]
  exact w5.1

theorem wordR_den (r : RvRow) (hr : r ∈ rvRows) (a b c d : Int) (ha : regB a (names r.form).1 = true) (hb : regB b (names r.form).2.1 = true) (hc : regB c (names r.form).2.2 = true) (hd : fitsB r.form d = true) :
    (wordR r a b c d).den = rvWord r a b c d := by
  obtain ⟨_, _, _, h7⟩ := row_small r hr
  have hl := layW_imm r.form d hd
  have z : ∀ {n : Int}, regB n false = true → n = 0 := fun h => by simpa [regB] using h
  rcases form_range r hr with h | h | h | h | h | h | h | h
  · rw [h] at ha hb hc hl
    rw [wordR_gen r hr 1 h (by decide) a b c d ha hb hc (by decide) (by decide) (by decide) (by decide) _ rfl (by decide) (by decide), hl]
    simp [names, rvWord, fixedOf, h, z hb, z hc]; omega
  · rw [h] at ha hb hc hl
    rw [wordR_gen r hr 2 h (by decide) a b c d ha hb hc (by decide) (by decide) (by decide) (by decide) _ rfl (by decide) (by decide), hl]
    simp [names, rvWord, fixedOf, h, h7, z hc]; omega
  · rw [h] at ha hb hc hl
    rw [wordR_gen r hr 3 h (by decide) a b c d ha hb hc (by decide) (by decide) (by decide) (by decide) _ rfl (by decide) (by decide), hl]
    simp [names, rvWord, fixedOf, h, h7, z hc]; omega
  · rw [h] at ha hb hc hl
    rw [wordR_gen r hr 4 h (by decide) a b c d ha hb hc (by decide) (by decide) (by decide) (by decide) _ rfl (by decide) (by decide), hl]
    simp [names, rvWord, fixedOf, h, h7, z hc]; omega
  · rw [h] at ha hb hc hl
    rw [wordR_gen r hr 5 h (by decide) a b c d ha hb hc (by decide) (by decide) (by decide) (by decide) _ rfl (by decide) (by decide), hl]
    simp [names, rvWord, fixedOf, h, h7, z ha]; omega
  · rw [h] at ha hb hc hl
    rw [wordR_gen r hr 6 h (by decide) a b c d ha hb hc (by decide) (by decide) (by decide) (by decide) _ rfl (by decide) (by decide), hl]
    simp [names, rvWord, fixedOf, h]; omega
  · rw [h] at ha hb hc hl
    rw [wordR_gen r hr 7 h (by decide) a b c d ha hb hc (by decide) (by decide) (by decide) (by decide) _ rfl (by decide) (by decide), hl]
    simp [names, rvWord, fixedOf, h, h7, z ha]; omega
  · rw [h] at ha hb hc hl
    rw [wordR_gen r hr 8 h (by decide) a b c d ha hb hc (by decide) (by decide) (by decide) (by decide) _ rfl (by decide) (by decide), hl]
    simp [names, rvWord, fixedOf, h, z hb, z hc]; omega

theorem encR_of (r : RvRow) (hr : r ∈ rvRows) (a b c d : Int) (hd : inI64 d = true) (Q : SV → Prop) (hQ : ∀ v : SV, (∀ ν, v.den ν = pairV (if regB a (names r.form).1 && regB b (names r.form).2.1 && regB c (names r.form).2.2 then (if fitsB r.form d then (rvWord r a b c d, 0) else (0, 152)) else (0, 151))) → Q v) : encR r a b c d Q := by
  unfold encR
  refine unlessB_of (fun h => hQ _ ?_) fun ha => unlessB_of (fun h => hQ _ ?_) fun hb => unlessB_of (fun h => hQ _ ?_) fun hc => unlessB_of (fun h => hQ _ ?_) fun hf => ⟨by simpa [BE.den] using hd, hQ _ ?_⟩
  · intro ν; simp [h, errSV, SV.den, SV.denL, IE.den, pairV]
  · intro ν; simp [ha, h, errSV, SV.den, SV.denL, IE.den, pairV]
  · intro ν; simp [ha, hb, h, errSV, SV.den, SV.denL, IE.den, pairV]
  · intro ν; simp [ha, hb, hc, h, errSV, SV.den, SV.denL, IE.den, pairV]
  · intro ν; simp [ha, hb, hc, hf, SV.den, SV.denL, IE.den, pairV, wordR_den r hr a b c d ha hb hc hf]

theorem renc_calls (op a b c d : Int) (hd : inI64 d = true) (w : World) :
    Calls P 12 #[.agg #[.int .i64 op, .int .i64 a, .int .i64 b, .int .i64 c, .int .i64 d]] w fun e w' => e = .returned (pairV (rvEnc op a b c d)) ∧ Below w.heap.size w w' := by
  have hs := func_sound (un := fun _ => 40) H3_ok Try.func12
  have fin2 : ∀ o : IE, o.den = op → sxFunc P H3 (fun _ => 40) Try.f12 (rvArg o a b c d) [] (fun v _ => ∀ ν, v.den ν = pairV (rvEnc op a b c d)) →
      Calls P 12 #[.agg #[.int .i64 op, .int .i64 a, .int .i64 b, .int .i64 c, .int .i64 d]] w fun e w' => e = .returned (pairV (rvEnc op a b c d)) ∧ Below w.heap.size w w' := by
    intro o ho hx
    have hc := calls_val hs (args := rvArg o a b c d) (by simp [rvArg, SV.wfL, SV.wf]) hx w
    have e : (SV.denL nu0 (rvArg o a b c d)).toArray = #[.agg #[.int .i64 op, .int .i64 a, .int .i64 b, .int .i64 c, .int .i64 d]] := by
      simp [rvArg, SV.denL, SV.den, IE.den, ho]
    rw [e] at hc
    exact hc
  cases hrow : rowOf rvRows op with
  | none =>
    refine fin2 (.var op) rfl ?_
    rw [renc_none]
    refine ⟨by simp [BE.den, rowOf_rr, hrow], fun ν => ?_⟩
    simp [errSV, SV.den, SV.denL, IE.den, pairV, rvEnc, hrow]
  | some r =>
    obtain ⟨hr, ho⟩ := rowOf_some hrow
    refine fin2 (.lit r.op) ho ?_
    rw [renc_run r hr]
    refine encR_of r hr a b c d hd _ fun v hv ν => ?_
    rw [hv ν]
    simp only [rvEnc, hrow]

theorem frenc_ok : PureOk P 12 fEnc := by
  intro args p v hF hp
  unfold fEnc at hF
  split at hF
  · rename_i op a b c d
    simp only [Option.some.injEq, Prod.mk.injEq] at hF; obtain ⟨rfl, rfl⟩ := hF
    refine ⟨by simp [SV.wfL, SV.wf], by simp [SV.wfL, SV.wf], fun w => ?_⟩
    have := renc_calls op.den a.den b.den c.den d.den (by simpa [Holds, BE.den] using hp) w
    simpa [SV.denL, SV.den, IE.den, pairV] using this
  · simp at hF

def rrT4 : List (FuncId × Cal) := (12, .pure fEnc) :: rrT3
theorem rrT4_ok : GammaOk P (table rrT4) := table_cons frenc_ok rrT3_ok
noncomputable def H4 : FuncId → Option Cal := inl P (fun _ _ => 40) (table rrT4) 6
theorem H4_ok : GammaOk P H4 := inl_ok rrT4_ok 6

end Go.Proofs.Ytiljkmcahkphiaa.Rv
