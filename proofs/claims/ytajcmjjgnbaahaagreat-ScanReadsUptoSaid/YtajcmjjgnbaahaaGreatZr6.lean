/- The document's Encode makes what Encode makes. -/
import Derived.Test.YtajcmjjgnbaahaaGreatZr5
set_option linter.unusedVariables false
set_option linter.unusedSimpArgs false
namespace Go.Proofs.YtajcmjjgnbaahaaGreat.Rv
open Go Go.Proofs.YtajcmjjgnbaahaaGreat.Sx Go.RowKit
theorem zFp {b : Bool} {w e : IE} {x y : Int} {m m' : Nat} (hw : w.den = x /\ Sub m x /\ m < 2 ^ 32) (he : b = true -> e.den = y /\ Sub m' y /\ m' < 2 ^ 32) (hd : b = true -> m &&& m' = 0) :
  (orIf b w e).den = x + (bif b then y else 0) /\ Sub (bif b then m ||| m' else m) (x + (bif b then y else 0)) /\ (bif b then m ||| m' else m) < 2 ^ 32 := by
 obtain ⟨h1, h2, h3⟩ := hw
 cases b with
 | false => simpa [orIf] using ⟨h1, h2, h3⟩
 | true =>
  obtain ⟨e1, e2, e3⟩ := he rfl
  obtain ⟨o1, o2⟩ := h2.or e2 (hd rfl) h3 e3
  exact ⟨by simp only [orIf, orU, IE.den, h1, e1, o1, cond_true], by simpa using o2, by simpa using Nat.or_lt_two_pow h3 e3⟩
theorem zFC {m m' : Nat} {x y : Int} (hx : Sub m x) (hy : Sub m' y) (hd : m &&& m' = 0) (hm : m < 2 ^ 32) (hm' : m' < 2 ^ 32) : Sub (m ||| m') (x + y) := (hx.or hy hd hm hm').2
def layM : Nat -> Nat
 | 1 => 4294963200
 | 2 => 4293918720
 | 3 | 4 => 66060288
 | 5 => 4261416832
 | 7 => 4261416832
 | 8 => 4294963200
 | _ => 0
theorem zTX (f : Nat) (hf : f ∈ [1, 2, 3, 4, 5, 6, 7, 8]) (d : Int) : Sub (layM f) (layW f d) /\ layM f < 2 ^ 32 := by
 simp only [List.mem_cons, List.not_mem_nil, or_false] at hf
 rcases hf with rfl | rfl | rfl | rfl | rfl | rfl | rfl | rfl
 ·exact ⟨by simpa [layM, layW, immW] using zAA d 0 20 12, by decide⟩
 ·exact ⟨by simpa [layM, layW, immW] using zAA d 0 12 20, by decide⟩
 ·exact ⟨by simpa [layM, layW, immW] using zAA d 0 6 20, by decide⟩
 ·exact ⟨by simpa [layM, layW, immW] using zAA d 0 6 20, by decide⟩
 ·have := zFC (zAA d 0 5 7) (zAA d 5 7 25) (by decide) (by decide) (by decide)
  exact ⟨by simpa [layM, layW, immW] using this, by decide⟩
 ·exact ⟨Sub.zero _, by decide⟩
 ·have := zFC (zFC (zFC (zAA d 1 4 8) (zAA d 5 6 25) (by decide) (by decide) (by decide)) (zAA d 11 1 7) (by decide) (by decide) (by decide)) (zAA d 12 1 31) (by decide) (by decide) (by decide)
  exact ⟨by simpa [layM, layW, immW] using this, by decide⟩
 ·have := zFC (zFC (zFC (zAA d 1 10 21) (zAA d 11 1 20) (by decide) (by decide) (by decide)) (zAA d 12 8 12) (by decide) (by decide) (by decide)) (zAA d 20 1 31) (by decide) (by decide) (by decide)
  exact ⟨by simpa [layM, layW, immW] using this, by decide⟩
theorem zLS (r : z9) (hr : r ∈ zf) : Sub 127 r.code /\ Sub (7 * 2 ^ 12) (r.f3 * 4096) /\ Sub (127 * 2 ^ 25) (r.f7 * 33554432) /\ (r.form ≠ 6 -> r.f7 = 0) := by
 simp only [zf, List.mem_cons, List.not_mem_nil, or_false] at hr
 rcases hr with rfl | rfl | rfl | rfl | rfl | rfl | rfl | rfl | rfl | rfl | rfl | rfl | rfl | rfl | rfl | rfl | rfl | rfl | rfl | rfl | rfl | rfl | rfl | rfl | rfl | rfl | rfl | rfl | rfl | rfl | rfl | rfl | rfl | rfl <;>
  exact ⟨subB (by decide), subB (by decide), subB (by decide), by decide⟩
def regM (b : Bool) (s : Nat) : Nat := if b then 31 * 2 ^ s else 0
theorem zTY (f : Nat) (d : Int) (h : zC0 f d = true) : layW f d = immW f d := by
 unfold layW
 split
 ·simp only [zC0, Bool.and_eq_true, decide_eq_true_eq] at h
  simp only [immW]; omega
 ·rfl
theorem zCD (r : z9) (hr : r ∈ zf) (f : Nat) (hf : r.form = f) (hfm : f ∈ [1, 2, 3, 4, 5, 6, 7, 8]) (a b c d : Int) (ha : regB a (zd f).1 = true) (hb : regB b (zd f).2.1 = true) (hc : regB c (zd f).2.2 = true)
  (hl : 127 &&& layM f = 0)
  (h1 : (zd f).1 = true -> (127 ||| layM f) &&& regM (zd f).1 7 = 0)
  (h2 : (zd f).2.1 = true -> (bif (zd f).1 then (127 ||| layM f) ||| regM (zd f).1 7 else (127 ||| layM f)) &&& regM (zd f).2.1 15 = 0)
  (h3 : (zd f).2.2 = true -> (bif (zd f).2.1 then (bif (zd f).1 then (127 ||| layM f) ||| regM (zd f).1 7 else (127 ||| layM f)) ||| regM (zd f).2.1 15 else (bif (zd f).1 then (127 ||| layM f) ||| regM (zd f).1 7 else (127 ||| layM f))) &&& regM (zd f).2.2 20 = 0)
  (M : Nat) (hM : M = bif (zd f).2.2 then (bif (zd f).2.1 then (bif (zd f).1 then (127 ||| layM f) ||| regM (zd f).1 7 else (127 ||| layM f)) ||| regM (zd f).2.1 15 else (bif (zd f).1 then (127 ||| layM f) ||| regM (zd f).1 7 else (127 ||| layM f))) ||| regM (zd f).2.2 20 else (bif (zd f).2.1 then (bif (zd f).1 then (127 ||| layM f) ||| regM (zd f).1 7 else (127 ||| layM f)) ||| regM (zd f).2.1 15 else (bif (zd f).1 then (127 ||| layM f) ||| regM (zd f).1 7 else (127 ||| layM f))))
  (h4 : (!(f == 1) && !(f == 8)) = true -> M &&& (7 * 2 ^ 12) = 0)
  (h5 : (f == 6) = true -> (bif (!(f == 1) && !(f == 8)) then M ||| (7 * 2 ^ 12) else M) &&& (127 * 2 ^ 25) = 0) :
  (zST r a b c d).den = r.code + layW f d + (bif (zd f).1 then a * 2 ^ 7 else 0) + (bif (zd f).2.1 then b * 2 ^ 15 else 0) + (bif (zd f).2.2 then c * 2 ^ 20 else 0) + (bif (!(f == 1) && !(f == 8)) then r.f3 * 4096 else 0) + (bif (f == 6) then r.f7 * 33554432 else 0) := by
 obtain ⟨s1, s2, s3, _⟩ := zLS r hr
 obtain ⟨l1, l2⟩ := zTX f hfm d
 obtain ⟨a1, a2, a3⟩ := zH4 ha 7 (by decide)
 obtain ⟨b1, b2, b3⟩ := zH4 hb 15 (by decide)
 obtain ⟨c1, c2, c3⟩ := zH4 hc 20 (by decide)
 obtain ⟨o1, o2⟩ := s1.or l1 hl (by decide) l2
 have w0 : (orU (.lit r.code) (.var (layW f d))).den = r.code + layW f d /\ Sub (127 ||| layM f) (r.code + layW f d) /\ (127 ||| layM f) < 2 ^ 32 := ⟨by simp only [orU, IE.den, o1], o2, Nat.or_lt_two_pow (by decide) l2⟩
 have w1 := zFp (b := (zd f).1) (e := shU (.conv .u32 (.var a)) 7) w0 (fun _ => ⟨a1, a2, a3⟩) h1
 have w2 := zFp (b := (zd f).2.1) (e := shU (.conv .u32 (.var b)) 15) w1 (fun _ => ⟨b1, b2, b3⟩) h2
 have w3 := zFp (b := (zd f).2.2) (e := shU (.conv .u32 (.var c)) 20) w2 (fun _ => ⟨c1, c2, c3⟩) h3
 have w4 := zFp (b := (!(f == 1) && !(f == 8))) (e := .lit (r.f3 * 4096)) w3 (fun _ => ⟨rfl, s2, by decide⟩) (fun h => by have := h4 h; rw [hM] at this; exact this)
 have w5 := zFp (b := (f == 6)) (e := .lit (r.f7 * 33554432)) w4 (fun _ => ⟨rfl, s3, by decide⟩) (fun h => by have := h5 h; rw [hM] at this; exact this)
 unfold zST
 rw [hf]
 exact w5.1
theorem zPo (r : z9) (hr : r ∈ zf) (a b c d : Int) (ha : regB a (zd r.form).1 = true) (hb : regB b (zd r.form).2.1 = true) (hc : regB c (zd r.form).2.2 = true) (hd : zC0 r.form d = true) :
  (zST r a b c d).den = zAQ r a b c d := by
 obtain ⟨_, _, _, h7⟩ := zLS r hr
 have hl := zTY r.form d hd
 have z : ∀ {n : Int}, regB n false = true -> n = 0 := fun h => by simpa [regB] using h
 rcases zBK r hr with h | h | h | h | h | h | h | h
 ·rw [h] at ha hb hc hl
  rw [zCD r hr 1 h (by decide) a b c d ha hb hc (by decide) (by decide) (by decide) (by decide) _ rfl (by decide) (by decide), hl]
  simp [zd, zAQ, zAp, h, z hb, z hc]; omega
 ·rw [h] at ha hb hc hl
  rw [zCD r hr 2 h (by decide) a b c d ha hb hc (by decide) (by decide) (by decide) (by decide) _ rfl (by decide) (by decide), hl]
  simp [zd, zAQ, zAp, h, h7, z hc]; omega
 ·rw [h] at ha hb hc hl
  rw [zCD r hr 3 h (by decide) a b c d ha hb hc (by decide) (by decide) (by decide) (by decide) _ rfl (by decide) (by decide), hl]
  simp [zd, zAQ, zAp, h, h7, z hc]; omega
 ·rw [h] at ha hb hc hl
  rw [zCD r hr 4 h (by decide) a b c d ha hb hc (by decide) (by decide) (by decide) (by decide) _ rfl (by decide) (by decide), hl]
  simp [zd, zAQ, zAp, h, h7, z hc]; omega
 ·rw [h] at ha hb hc hl
  rw [zCD r hr 5 h (by decide) a b c d ha hb hc (by decide) (by decide) (by decide) (by decide) _ rfl (by decide) (by decide), hl]
  simp [zd, zAQ, zAp, h, h7, z ha]; omega
 ·rw [h] at ha hb hc hl
  rw [zCD r hr 6 h (by decide) a b c d ha hb hc (by decide) (by decide) (by decide) (by decide) _ rfl (by decide) (by decide), hl]
  simp [zd, zAQ, zAp, h]; omega
 ·rw [h] at ha hb hc hl
  rw [zCD r hr 7 h (by decide) a b c d ha hb hc (by decide) (by decide) (by decide) (by decide) _ rfl (by decide) (by decide), hl]
  simp [zd, zAQ, zAp, h, h7, z ha]; omega
 ·rw [h] at ha hb hc hl
  rw [zCD r hr 8 h (by decide) a b c d ha hb hc (by decide) (by decide) (by decide) (by decide) _ rfl (by decide) (by decide), hl]
  simp [zd, zAQ, zAp, h, z hb, z hc]; omega
theorem zW0 (r : z9) (hr : r ∈ zf) (a b c d : Int) (hd : zHG d = true) (Q : SV -> Prop) (hQ : ∀ v : SV, (∀ ν, v.den ν = zIA (if regB a (zd r.form).1 && regB b (zd r.form).2.1 && regB c (zd r.form).2.2 then (if zC0 r.form d then (zAQ r a b c d, 0) else (0, 152)) else (0, 151))) -> Q v) : encR r a b c d Q := by
 unfold encR
 refine zEb (fun h => hQ _ ?_) fun ha => zEb (fun h => hQ _ ?_) fun hb => zEb (fun h => hQ _ ?_) fun hc => zEb (fun h => hQ _ ?_) fun hf => ⟨by simpa [BE.den] using hd, hQ _ ?_⟩
 ·intro ν; simp [h, zF1, SV.den, SV.denL, IE.den, zIA]
 ·intro ν; simp [ha, h, zF1, SV.den, SV.denL, IE.den, zIA]
 ·intro ν; simp [ha, hb, h, zF1, SV.den, SV.denL, IE.den, zIA]
 ·intro ν; simp [ha, hb, hc, h, zF1, SV.den, SV.denL, IE.den, zIA]
 ·intro ν; simp [ha, hb, hc, hf, SV.den, SV.denL, IE.den, zIA, zPo r hr a b c d ha hb hc hf]
theorem zPD (op a b c d : Int) (hd : zHG d = true) (w : World) :
  Calls P 22 #[.agg #[.int .i64 op, .int .i64 a, .int .i64 b, .int .i64 c, .int .i64 d]] w fun e w' => e = .returned (zIA (zHD op a b c d)) /\ Below w.heap.size w w' := by
 have hs := zN (un := fun _ => 40) zbk Tryz.func22
 have fin2 : ∀ o : IE, o.den = op -> zH P H3 (fun _ => 40) Tryz.f22 (zMj o a b c d) [] (fun v _ => ∀ ν, v.den ν = zIA (zHD op a b c d)) ->
   Calls P 22 #[.agg #[.int .i64 op, .int .i64 a, .int .i64 b, .int .i64 c, .int .i64 d]] w fun e w' => e = .returned (zIA (zHD op a b c d)) /\ Below w.heap.size w w' := by
  intro o ho hx
  have hc := zIn hs (args := zMj o a b c d) (by simp [zMj, SV.wfL, SV.wf]) hx w
  have e : (SV.denL nu0 (zMj o a b c d)).toArray = #[.agg #[.int .i64 op, .int .i64 a, .int .i64 b, .int .i64 c, .int .i64 d]] := by
   simp [zMj, SV.denL, SV.den, IE.den, ho]
  rw [e] at hc
  exact hc
 cases hrow : zCz zf op with
 | none =>
  refine fin2 (.var op) rfl ?_
  rw [zQY]
  refine ⟨by simp [BE.den, zKN, hrow], fun ν => ?_⟩
  simp [zF1, SV.den, SV.denL, IE.den, zIA, zHD, hrow]
 | some r =>
  obtain ⟨hr, ho⟩ := zEh hrow
  refine fin2 (.lit r.op) ho ?_
  rw [zS2 r hr]
  refine zW0 r hr a b c d hd _ fun v hv ν => ?_
  rw [hv ν]
  simp only [zHD, hrow]
theorem zTl : zAr P 22 fEnc := by
 intro args p v hF hp
 unfold fEnc at hF
 split at hF
 ·rename_i op a b c d
  simp only [Option.some.injEq, Prod.mk.injEq] at hF; obtain ⟨rfl, rfl⟩ := hF
  refine ⟨by simp [SV.wfL, SV.wf], by simp [SV.wfL, SV.wf], fun w => ?_⟩
  have := zPD op.den a.den b.den c.den d.den (by simpa [zAJ, BE.den] using hp) w
  simpa [SV.denL, SV.den, IE.den, zIA] using this
 ·simp at hF
def rrT4 : List (FuncId × Cal) := (22, .pure fEnc) :: rrT3
theorem zVH : zO P (zx rrT4) := zG zTl zQQ
noncomputable def H4 : FuncId -> Option Cal := inl P (fun _ _ => 40) (zx rrT4) 6
theorem zbj : zO P H4 := zAh zVH 6
end Go.Proofs.YtajcmjjgnbaahaaGreat.Rv
