/- Show of both sides as told calls, whatever the operation. -/
import Derived.Test.YtajcmjjgnbaahaaDoorSw4
import Derived.Test.YtajcmjjgnbaahaaDoorSw5
namespace Go.Proofs.YtajcmjjgnbaahaaDoor.Amd
open Go Go.Proofs.YtajcmjjgnbaahaaDoor.Sx Go.RowKit
set_option linter.unusedVariables false
set_option linter.unusedSimpArgs false
def showF : TabFn
  | [.agg [.int .i64 op, .bool w, .bool l, .int .i64 d, .int .i64 s, .int .i64 dp, .int .i64 im, .int .i64 cc]] => some (in64 dp.den /\ in64 im.den, .strE (showB ⟨op.den, w.den, l.den, d.den, s.den, dp.den, im.den, cc.den⟩))
  | _ => none
theorem op_cases {x : AI} (h : amdErr x = 0) : x.op = 1 ∨ x.op = 2 ∨ x.op = 3 ∨ x.op = 4 ∨ x.op = 5 ∨ x.op = 6 ∨ x.op = 7 ∨ x.op = 8 ∨ x.op = 9 ∨ x.op = 10 ∨ x.op = 11 ∨ x.op = 12 ∨ x.op = 13 ∨ x.op = 14 ∨ x.op = 15 ∨ x.op = 16 ∨ x.op = 17 ∨ x.op = 18 ∨ x.op = 19 ∨ x.op = 20 ∨ x.op = 21 ∨ x.op = 22 ∨ x.op = 23 ∨ x.op = 24 ∨ x.op = 25 ∨ x.op = 26 ∨ x.op = 27 := by
  have hf : formOf x.op ≠ none := by
    intro h0
    unfold amdErr at h; rw [h0] at h; exact absurd (show (181 : Int) = 0 from h) (by decide)
  by_cases h1 : 1 <= x.op /\ x.op <= 27
  · omega
  · exfalso; apply hf; unfold formOf; repeat (rw [if_neg (by omega)])
theorem cc_cases {cc : Int} (h : 2 <= cc /\ cc <= 7) : cc = 2 ∨ cc = 3 ∨ cc = 4 ∨ cc = 5 ∨ cc = 6 ∨ cc = 7 := by omega
theorem or_ok {f : FuncId} {s t : SpecFn} (h1 : SpecOk P f s) (h2 : SpecOk P f t) : SpecOk P f (fun a hp K => s a hp K ∨ t a hp K) :=
  fun B ν hp w args K a b c h => h.elim (h1 B ν hp w args K a b c) (h2 B ν hp w args K a b c)
theorem ashow_run (x : AI) (hE : amdErr x = 0) (hp : in64 x.disp) (hi : in64 x.imm) : ∃ args', (∀ ν, SV.denL nu0 args' = SV.denL ν [xIn x]) /\ SV.wfL (fun _ => False) args' /\ sxFunc P AS (fun _ => .plain 40) Tryd.f8 args' hpT (fun v _ => shQ (showB x) v) := by
  obtain ⟨op, wide, long, d, s, disp, imm, cc⟩ := x
  rcases op_cases hE with h | h | h | h | h | h | h | h | h | h | h | h | h | h | h | h | h | h | h | h | h | h | h | h | h | h | h
  · have h : op = 1 := h
    subst h
    exact ⟨[xArg (.lit 1) wide (.var long) d s disp imm cc], fun _ => rfl, ⟨by simp [xArg, SV.wfL, SV.wf], trivial⟩, by rw [ashow_1_ok wide long d s disp imm cc hE hp hi]; trivial⟩
  · have h : op = 2 := h
    subst h
    exact ⟨[xArg (.lit 2) wide (.var long) d s disp imm cc], fun _ => rfl, ⟨by simp [xArg, SV.wfL, SV.wf], trivial⟩, by rw [ashow_2_ok wide long d s disp imm cc hE hp hi]; trivial⟩
  · have h : op = 3 := h
    subst h
    exact ⟨[xArg (.lit 3) wide (.var long) d s disp imm cc], fun _ => rfl, ⟨by simp [xArg, SV.wfL, SV.wf], trivial⟩, by rw [ashow_3_ok wide long d s disp imm cc hE hp hi]; trivial⟩
  · have h : op = 4 := h
    subst h
    exact ⟨[xArg (.lit 4) wide (.var long) d s disp imm cc], fun _ => rfl, ⟨by simp [xArg, SV.wfL, SV.wf], trivial⟩, by rw [ashow_4_ok wide long d s disp imm cc hE hp hi]; trivial⟩
  · have h : op = 5 := h
    subst h
    exact ⟨[xArg (.lit 5) wide (.var long) d s disp imm cc], fun _ => rfl, ⟨by simp [xArg, SV.wfL, SV.wf], trivial⟩, by rw [ashow_5_ok wide long d s disp imm cc hE hp hi]; trivial⟩
  · have h : op = 6 := h
    subst h
    exact ⟨[xArg (.lit 6) wide (.var long) d s disp imm cc], fun _ => rfl, ⟨by simp [xArg, SV.wfL, SV.wf], trivial⟩, by rw [ashow_6_ok wide long d s disp imm cc hE hp hi]; trivial⟩
  · have h : op = 7 := h
    subst h
    exact ⟨[xArg (.lit 7) wide (.var long) d s disp imm cc], fun _ => rfl, ⟨by simp [xArg, SV.wfL, SV.wf], trivial⟩, by rw [ashow_7_ok wide long d s disp imm cc hE hp hi]; trivial⟩
  · have h : op = 8 := h
    subst h
    exact ⟨[xArg (.lit 8) wide (.var long) d s disp imm cc], fun _ => rfl, ⟨by simp [xArg, SV.wfL, SV.wf], trivial⟩, by rw [ashow_8_ok wide long d s disp imm cc hE hp hi]; trivial⟩
  · have h : op = 9 := h
    subst h
    exact ⟨[xArg (.lit 9) wide (.var long) d s disp imm cc], fun _ => rfl, ⟨by simp [xArg, SV.wfL, SV.wf], trivial⟩, by rw [ashow_9_ok wide long d s disp imm cc hE hp hi]; trivial⟩
  · have h : op = 10 := h
    subst h
    exact ⟨[xArg (.lit 10) wide (.var long) d s disp imm cc], fun _ => rfl, ⟨by simp [xArg, SV.wfL, SV.wf], trivial⟩, by rw [ashow_10_ok wide long d s disp imm cc hE hp hi]; trivial⟩
  · have h : op = 11 := h
    subst h
    exact ⟨[xArg (.lit 11) wide (.var long) d s disp imm cc], fun _ => rfl, ⟨by simp [xArg, SV.wfL, SV.wf], trivial⟩, by rw [ashow_11_ok wide long d s disp imm cc hE hp hi]; trivial⟩
  · have h : op = 12 := h
    subst h
    exact ⟨[xArg (.lit 12) wide (.var long) d s disp imm cc], fun _ => rfl, ⟨by simp [xArg, SV.wfL, SV.wf], trivial⟩, by rw [ashow_12_ok wide long d s disp imm cc hE hp hi]; trivial⟩
  · have h : op = 13 := h
    subst h
    exact ⟨[xArg (.lit 13) wide (.var long) d s disp imm cc], fun _ => rfl, ⟨by simp [xArg, SV.wfL, SV.wf], trivial⟩, by rw [ashow_13_ok wide long d s disp imm cc hE hp hi]; trivial⟩
  · have h : op = 14 := h
    subst h
    exact ⟨[xArg (.lit 14) wide (.var long) d s disp imm cc], fun _ => rfl, ⟨by simp [xArg, SV.wfL, SV.wf], trivial⟩, by rw [ashow_14_ok wide long d s disp imm cc hE hp hi]; trivial⟩
  · have h : op = 15 := h
    subst h
    exact ⟨[xArg (.lit 15) wide (.var long) d s disp imm cc], fun _ => rfl, ⟨by simp [xArg, SV.wfL, SV.wf], trivial⟩, by rw [ashow_15_ok wide long d s disp imm cc hE hp hi]; trivial⟩
  · have h : op = 16 := h
    subst h
    exact ⟨[xArg (.lit 16) wide (.var long) d s disp imm cc], fun _ => rfl, ⟨by simp [xArg, SV.wfL, SV.wf], trivial⟩, by rw [ashow_16_ok wide long d s disp imm cc hE hp hi]; trivial⟩
  · have h : op = 17 := h
    subst h
    exact ⟨[xArg (.lit 17) wide (.var long) d s disp imm cc], fun _ => rfl, ⟨by simp [xArg, SV.wfL, SV.wf], trivial⟩, by rw [ashow_17_ok wide long d s disp imm cc hE hp hi]; trivial⟩
  · have h : op = 18 := h
    subst h
    exact ⟨[xArg (.lit 18) wide (.var long) d s disp imm cc], fun _ => rfl, ⟨by simp [xArg, SV.wfL, SV.wf], trivial⟩, by rw [ashow_18_ok wide long d s disp imm cc hE hp hi]; trivial⟩
  · have h : op = 19 := h
    subst h
    exact ⟨[xArg (.lit 19) wide (.var long) d s disp imm cc], fun _ => rfl, ⟨by simp [xArg, SV.wfL, SV.wf], trivial⟩, by rw [ashow_19_ok wide long d s disp imm cc hE hp hi]; trivial⟩
  · have h : op = 20 := h
    subst h
    exact ⟨[xArg (.lit 20) wide (.var long) d s disp imm cc], fun _ => rfl, ⟨by simp [xArg, SV.wfL, SV.wf], trivial⟩, by rw [ashow_20_ok wide long d s disp imm cc hE hp hi]; trivial⟩
  · have h : op = 21 := h
    subst h
    exact ⟨[xArg (.lit 21) wide (.var long) d s disp imm cc], fun _ => rfl, ⟨by simp [xArg, SV.wfL, SV.wf], trivial⟩, by rw [ashow_21_ok wide long d s disp imm cc hE hp hi]; trivial⟩
  · have h : op = 22 := h
    subst h
    exact ⟨[xArg (.lit 22) wide (.var long) d s disp imm cc], fun _ => rfl, ⟨by simp [xArg, SV.wfL, SV.wf], trivial⟩, by rw [ashow_22_ok wide long d s disp imm cc hE hp hi]; trivial⟩
  · have h : op = 23 := h
    subst h
    exact ⟨[xArg (.lit 23) wide (.var long) d s disp imm cc], fun _ => rfl, ⟨by simp [xArg, SV.wfL, SV.wf], trivial⟩, by rw [ashow_23_ok wide long d s disp imm cc hE hp hi]; trivial⟩
  · have h : op = 24 := h
    subst h
    exact ⟨[xArg (.lit 24) wide (.var long) d s disp imm cc], fun _ => rfl, ⟨by simp [xArg, SV.wfL, SV.wf], trivial⟩, by rw [ashow_24_ok wide long d s disp imm cc hE hp hi]; trivial⟩
  · have h : op = 25 := h
    subst h
    exact ⟨[xArg (.lit 25) wide (.var long) d s disp imm cc], fun _ => rfl, ⟨by simp [xArg, SV.wfL, SV.wf], trivial⟩, by rw [ashow_25_ok wide long d s disp imm cc hE hp hi]; trivial⟩
  · have h : op = 26 := h
    subst h
    rcases cc_cases (cc_ok hE) with h | h | h | h | h | h
    · subst h; exact ⟨[xArgC 26 wide long d s disp imm 2], fun _ => rfl, ⟨by simp [xArgC, SV.wfL, SV.wf], trivial⟩, by rw [ashow_26_2_ok wide long d s disp imm hE hp hi]; trivial⟩
    · subst h; exact ⟨[xArgC 26 wide long d s disp imm 3], fun _ => rfl, ⟨by simp [xArgC, SV.wfL, SV.wf], trivial⟩, by rw [ashow_26_3_ok wide long d s disp imm hE hp hi]; trivial⟩
    · subst h; exact ⟨[xArgC 26 wide long d s disp imm 4], fun _ => rfl, ⟨by simp [xArgC, SV.wfL, SV.wf], trivial⟩, by rw [ashow_26_4_ok wide long d s disp imm hE hp hi]; trivial⟩
    · subst h; exact ⟨[xArgC 26 wide long d s disp imm 5], fun _ => rfl, ⟨by simp [xArgC, SV.wfL, SV.wf], trivial⟩, by rw [ashow_26_5_ok wide long d s disp imm hE hp hi]; trivial⟩
    · subst h; exact ⟨[xArgC 26 wide long d s disp imm 6], fun _ => rfl, ⟨by simp [xArgC, SV.wfL, SV.wf], trivial⟩, by rw [ashow_26_6_ok wide long d s disp imm hE hp hi]; trivial⟩
    · subst h; exact ⟨[xArgC 26 wide long d s disp imm 7], fun _ => rfl, ⟨by simp [xArgC, SV.wfL, SV.wf], trivial⟩, by rw [ashow_26_7_ok wide long d s disp imm hE hp hi]; trivial⟩
  · have h : op = 27 := h
    subst h
    exact ⟨[xArg (.lit 27) wide (.var long) d s disp imm cc], fun _ => rfl, ⟨by simp [xArg, SV.wfL, SV.wf], trivial⟩, by rw [ashow_27_ok wide long d s disp imm cc hE hp hi]; trivial⟩
theorem ashow_ok : SpecOk P 8 (tabSpec 0 showF) := by
  refine tab_of gTens (or_ok (func_sound (un := fun _ => .plain 40) AE_ok Tryd.func8) (func_sound (un := fun _ => .plain 40) AS_ok Tryd.func8)) ?_
  intro args p v hF hp
  unfold showF at hF
  split at hF
  · rename_i op w l d s dp im cc
    simp only [Option.some.injEq, Prod.mk.injEq] at hF
    obtain ⟨rfl, rfl⟩ := hF
    generalize hx : (⟨op.den, w.den, l.den, d.den, s.den, dp.den, im.den, cc.den⟩ : AI) = x
    have hden : ∀ ν, SV.denL ν [xIn x] = SV.denL ν [.agg [.int .i64 op, .bool w, .bool l, .int .i64 d, .int .i64 s, .int .i64 dp, .int .i64 im, .int .i64 cc]] := by intro ν; rw [<- hx]; rfl
    by_cases hE : amdErr x = 0
    · obtain ⟨args', h1, h2, h3⟩ := ashow_run x hE (by rw [<- hx]; exact hp.1) (by rw [<- hx]; exact hp.2)
      exact ⟨args', fun ν => (h1 ν).trans (hden ν), h2, trivial, .inr h3⟩
    · refine ⟨[xIn x], fun ν => hden ν, ⟨by simp [xIn, xArg, SV.wfL, SV.wf], trivial⟩, trivial, .inl ?_⟩
      rw [aerr_nf]
      refine ⟨fun h => hE h, by rw [show BE.den (.cmp .neq (.var (amdErr x)) (.lit 0)) = cmpI .neq (amdErr x) 0 from rfl, cmpI]; simp [hE], fun ν => ?_⟩
      unfold showB; rw [if_neg hE]; rfl
  · simp at hF
theorem rshow_run (x : AI) (hE : amdErr x = 0) (hp : in64 x.disp) (hi : in64 x.imm) : ∃ args', (∀ ν, SV.denL nu0 args' = SV.denL ν [xIn x]) /\ SV.wfL (fun _ => False) args' /\ sxFunc P RS (fun _ => .plain 40) Tryd.f11 args' hpT (fun v _ => shQ (showB x) v) := by
  obtain ⟨op, wide, long, d, s, disp, imm, cc⟩ := x
  rcases op_cases hE with h | h | h | h | h | h | h | h | h | h | h | h | h | h | h | h | h | h | h | h | h | h | h | h | h | h | h
  · have h : op = 1 := h
    subst h
    exact ⟨[xArg (.lit 1) wide (.var long) d s disp imm cc], fun _ => rfl, ⟨by simp [xArg, SV.wfL, SV.wf], trivial⟩, by rw [rshow_1_ok wide long d s disp imm cc hE hp hi]; trivial⟩
  · have h : op = 2 := h
    subst h
    exact ⟨[xArg (.lit 2) wide (.var long) d s disp imm cc], fun _ => rfl, ⟨by simp [xArg, SV.wfL, SV.wf], trivial⟩, by rw [rshow_2_ok wide long d s disp imm cc hE hp hi]; trivial⟩
  · have h : op = 3 := h
    subst h
    exact ⟨[xArg (.lit 3) wide (.var long) d s disp imm cc], fun _ => rfl, ⟨by simp [xArg, SV.wfL, SV.wf], trivial⟩, by rw [rshow_3_ok wide long d s disp imm cc hE hp hi]; trivial⟩
  · have h : op = 4 := h
    subst h
    exact ⟨[xArg (.lit 4) wide (.var long) d s disp imm cc], fun _ => rfl, ⟨by simp [xArg, SV.wfL, SV.wf], trivial⟩, by rw [rshow_4_ok wide long d s disp imm cc hE hp hi]; trivial⟩
  · have h : op = 5 := h
    subst h
    exact ⟨[xArg (.lit 5) wide (.var long) d s disp imm cc], fun _ => rfl, ⟨by simp [xArg, SV.wfL, SV.wf], trivial⟩, by rw [rshow_5_ok wide long d s disp imm cc hE hp hi]; trivial⟩
  · have h : op = 6 := h
    subst h
    exact ⟨[xArg (.lit 6) wide (.var long) d s disp imm cc], fun _ => rfl, ⟨by simp [xArg, SV.wfL, SV.wf], trivial⟩, by rw [rshow_6_ok wide long d s disp imm cc hE hp hi]; trivial⟩
  · have h : op = 7 := h
    subst h
    exact ⟨[xArg (.lit 7) wide (.var long) d s disp imm cc], fun _ => rfl, ⟨by simp [xArg, SV.wfL, SV.wf], trivial⟩, by rw [rshow_7_ok wide long d s disp imm cc hE hp hi]; trivial⟩
  · have h : op = 8 := h
    subst h
    exact ⟨[xArg (.lit 8) wide (.var long) d s disp imm cc], fun _ => rfl, ⟨by simp [xArg, SV.wfL, SV.wf], trivial⟩, by rw [rshow_8_ok wide long d s disp imm cc hE hp hi]; trivial⟩
  · have h : op = 9 := h
    subst h
    exact ⟨[xArg (.lit 9) wide (.var long) d s disp imm cc], fun _ => rfl, ⟨by simp [xArg, SV.wfL, SV.wf], trivial⟩, by rw [rshow_9_ok wide long d s disp imm cc hE hp hi]; trivial⟩
  · have h : op = 10 := h
    subst h
    exact ⟨[xArg (.lit 10) wide (.var long) d s disp imm cc], fun _ => rfl, ⟨by simp [xArg, SV.wfL, SV.wf], trivial⟩, by rw [rshow_10_ok wide long d s disp imm cc hE hp hi]; trivial⟩
  · have h : op = 11 := h
    subst h
    exact ⟨[xArg (.lit 11) wide (.var long) d s disp imm cc], fun _ => rfl, ⟨by simp [xArg, SV.wfL, SV.wf], trivial⟩, by rw [rshow_11_ok wide long d s disp imm cc hE hp hi]; trivial⟩
  · have h : op = 12 := h
    subst h
    exact ⟨[xArg (.lit 12) wide (.var long) d s disp imm cc], fun _ => rfl, ⟨by simp [xArg, SV.wfL, SV.wf], trivial⟩, by rw [rshow_12_ok wide long d s disp imm cc hE hp hi]; trivial⟩
  · have h : op = 13 := h
    subst h
    exact ⟨[xArg (.lit 13) wide (.var long) d s disp imm cc], fun _ => rfl, ⟨by simp [xArg, SV.wfL, SV.wf], trivial⟩, by rw [rshow_13_ok wide long d s disp imm cc hE hp hi]; trivial⟩
  · have h : op = 14 := h
    subst h
    exact ⟨[xArg (.lit 14) wide (.var long) d s disp imm cc], fun _ => rfl, ⟨by simp [xArg, SV.wfL, SV.wf], trivial⟩, by rw [rshow_14_ok wide long d s disp imm cc hE hp hi]; trivial⟩
  · have h : op = 15 := h
    subst h
    exact ⟨[xArg (.lit 15) wide (.var long) d s disp imm cc], fun _ => rfl, ⟨by simp [xArg, SV.wfL, SV.wf], trivial⟩, by rw [rshow_15_ok wide long d s disp imm cc hE hp hi]; trivial⟩
  · have h : op = 16 := h
    subst h
    exact ⟨[xArg (.lit 16) wide (.var long) d s disp imm cc], fun _ => rfl, ⟨by simp [xArg, SV.wfL, SV.wf], trivial⟩, by rw [rshow_16_ok wide long d s disp imm cc hE hp hi]; trivial⟩
  · have h : op = 17 := h
    subst h
    exact ⟨[xArg (.lit 17) wide (.var long) d s disp imm cc], fun _ => rfl, ⟨by simp [xArg, SV.wfL, SV.wf], trivial⟩, by rw [rshow_17_ok wide long d s disp imm cc hE hp hi]; trivial⟩
  · have h : op = 18 := h
    subst h
    exact ⟨[xArg (.lit 18) wide (.var long) d s disp imm cc], fun _ => rfl, ⟨by simp [xArg, SV.wfL, SV.wf], trivial⟩, by rw [rshow_18_ok wide long d s disp imm cc hE hp hi]; trivial⟩
  · have h : op = 19 := h
    subst h
    exact ⟨[xArg (.lit 19) wide (.var long) d s disp imm cc], fun _ => rfl, ⟨by simp [xArg, SV.wfL, SV.wf], trivial⟩, by rw [rshow_19_ok wide long d s disp imm cc hE hp hi]; trivial⟩
  · have h : op = 20 := h
    subst h
    exact ⟨[xArg (.lit 20) wide (.var long) d s disp imm cc], fun _ => rfl, ⟨by simp [xArg, SV.wfL, SV.wf], trivial⟩, by rw [rshow_20_ok wide long d s disp imm cc hE hp hi]; trivial⟩
  · have h : op = 21 := h
    subst h
    exact ⟨[xArg (.lit 21) wide (.var long) d s disp imm cc], fun _ => rfl, ⟨by simp [xArg, SV.wfL, SV.wf], trivial⟩, by rw [rshow_21_ok wide long d s disp imm cc hE hp hi]; trivial⟩
  · have h : op = 22 := h
    subst h
    exact ⟨[xArg (.lit 22) wide (.var long) d s disp imm cc], fun _ => rfl, ⟨by simp [xArg, SV.wfL, SV.wf], trivial⟩, by rw [rshow_22_ok wide long d s disp imm cc hE hp hi]; trivial⟩
  · have h : op = 23 := h
    subst h
    exact ⟨[xArg (.lit 23) wide (.var long) d s disp imm cc], fun _ => rfl, ⟨by simp [xArg, SV.wfL, SV.wf], trivial⟩, by rw [rshow_23_ok wide long d s disp imm cc hE hp hi]; trivial⟩
  · have h : op = 24 := h
    subst h
    exact ⟨[xArg (.lit 24) wide (.var long) d s disp imm cc], fun _ => rfl, ⟨by simp [xArg, SV.wfL, SV.wf], trivial⟩, by rw [rshow_24_ok wide long d s disp imm cc hE hp hi]; trivial⟩
  · have h : op = 25 := h
    subst h
    exact ⟨[xArg (.lit 25) wide (.var long) d s disp imm cc], fun _ => rfl, ⟨by simp [xArg, SV.wfL, SV.wf], trivial⟩, by rw [rshow_25_ok wide long d s disp imm cc hE hp hi]; trivial⟩
  · have h : op = 26 := h
    subst h
    exact ⟨[xArg (.lit 26) wide (.var long) d s disp imm cc], fun _ => rfl, ⟨by simp [xArg, SV.wfL, SV.wf], trivial⟩, by rw [rshow_26_ok wide long d s disp imm cc hE hp hi]; trivial⟩
  · have h : op = 27 := h
    subst h
    exact ⟨[xArg (.lit 27) wide (.var long) d s disp imm cc], fun _ => rfl, ⟨by simp [xArg, SV.wfL, SV.wf], trivial⟩, by rw [rshow_27_ok wide long d s disp imm cc hE hp hi]; trivial⟩
theorem rshow_ok : SpecOk P 11 (tabSpec 0 showF) := by
  refine tab_of gTens (or_ok (func_sound (un := fun _ => .plain 40) AE_ok Tryd.func11) (func_sound (un := fun _ => .plain 40) RS_ok Tryd.func11)) ?_
  intro args p v hF hp
  unfold showF at hF
  split at hF
  · rename_i op w l d s dp im cc
    simp only [Option.some.injEq, Prod.mk.injEq] at hF
    obtain ⟨rfl, rfl⟩ := hF
    generalize hx : (⟨op.den, w.den, l.den, d.den, s.den, dp.den, im.den, cc.den⟩ : AI) = x
    have hden : ∀ ν, SV.denL ν [xIn x] = SV.denL ν [.agg [.int .i64 op, .bool w, .bool l, .int .i64 d, .int .i64 s, .int .i64 dp, .int .i64 im, .int .i64 cc]] := by intro ν; rw [<- hx]; rfl
    by_cases hE : amdErr x = 0
    · obtain ⟨args', h1, h2, h3⟩ := rshow_run x hE (by rw [<- hx]; exact hp.1) (by rw [<- hx]; exact hp.2)
      exact ⟨args', fun ν => (h1 ν).trans (hden ν), h2, trivial, .inr h3⟩
    · refine ⟨[xIn x], fun ν => hden ν, ⟨by simp [xIn, xArg, SV.wfL, SV.wf], trivial⟩, trivial, .inl ?_⟩
      rw [rerr_nf]
      refine ⟨fun h => hE h, by rw [show BE.den (.cmp .neq (.var (amdErr x)) (.lit 0)) = cmpI .neq (amdErr x) 0 from rfl, cmpI]; simp [hE], fun ν => ?_⟩
      unfold showB; rw [if_neg hE]; rfl
  · simp at hF
end Go.Proofs.YtajcmjjgnbaahaaDoor.Amd
