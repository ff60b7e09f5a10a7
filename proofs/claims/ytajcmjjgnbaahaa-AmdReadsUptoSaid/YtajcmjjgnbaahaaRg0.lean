/- The instructions that bytes could be: the one that stands there is among them. -/
import Derived.Test.YtajcmjjgnbaahaaAp3
namespace Go.Proofs.Ytajcmjjgnbaahaa.Amd
open Go
set_option linter.unusedVariables false
set_option linter.unusedSimpArgs false

section
variable (g : Nat → Int) (len : Nat)
/-- Does a prefix stand there? -/
def gHas (i : Nat) : Bool := decide (i < len ∧ 64 ≤ g i ∧ g i ≤ 79)
def gpI (i : Nat) : Nat := if gHas g len i = true then i + 1 else i
def gpP (i : Nat) : Int := if gHas g len i = true then g i % 16 else 0
def gY (q : Nat) : Int := if q < len then g q else 0
def gN (q : Nat) (long : Bool) : Int := if q + numK long ≤ len then numV g q long else 0
def gU (q : Nat) : Int := if q + 4 ≤ len then u4 g q else 0
def yR (y P : Int) : Int := y / 8 % 8 + hiR P
def yB (y P : Int) : Int := y % 8 + hiB P
def ySib (y : Int) : Nat := if y % 8 = 4 then 1 else 0
def gCC (q : Nat) : Int := if q < len then g q % 16 else 0
/-- What these bytes could be. -/
def gX (op : Int) (p : Nat) (P : Int) (long : Bool) : Form → AI
  | .movImm => ⟨op, false, long, yB (g p) P, 0, 0, gU g len (p + 1), 0⟩
  | .two _ => ⟨op, hiW P, long, yB (gY g len (p + 1)) P, yR (gY g len (p + 1)) P, 0, 0, 0⟩
  | .load => ⟨op, hiW P, long, yR (gY g len (p + 1)) P, yB (gY g len (p + 1)) P, gN g len (p + 2 + ySib (gY g len (p + 1))) long, 0, 0⟩
  | .store => ⟨op, hiW P, long, yB (gY g len (p + 1)) P, yR (gY g len (p + 1)) P, gN g len (p + 2 + ySib (gY g len (p + 1))) long, 0, 0⟩
  | .imul => ⟨op, hiW P, long, yR (gY g len (p + 2)) P, yB (gY g len (p + 2)) P, 0, 0, 0⟩
  | .imm _ => ⟨op, hiW P, long, yB (gY g len (p + 1)) P, 0, 0, gN g len (p + 2) long, 0⟩
  | .one _ _ => ⟨op, hiW P, long, yB (gY g len (p + 1)) P, 0, 0, 0, 0⟩
  | .stack _ => ⟨op, false, long, yB (g p) P, 0, 0, 0, 0⟩
  | .jmp => ⟨op, false, long, 0, 0, 0, gN g len (p + 1) long, 0⟩
  | .jcc => ⟨op, false, long, 0, 0, 0, gN g len (p + if long = true then 2 else 1) long, gCC g len (p + if long = true then 1 else 0)⟩
  | .ret => ⟨op, false, long, 0, 0, 0, 0, 0⟩
end
def choice : Form → Bool
  | .load | .store | .imm _ | .jmp | .jcc => true
  | _ => false

section
variable {g : Nat → Int} {len i : Nat}
theorem gp_of {P c : Int} {r : List Int} (hp : 0 ≤ P ∧ P < 16 ∧ P / 2 % 2 = 0) (hc : c / 16 ≠ 4) (hr : reads g i (withP P (c :: r))) (hl : i + (withP P (c :: r)).length ≤ len) :
    ∃ j, gpI g len i = j ∧ gpP g len i = P ∧ g j = c ∧ reads g (j + 1) r ∧ j + 1 + r.length ≤ len := by
  unfold withP at hr hl
  by_cases h : P = 0
  · subst h
    simp only [if_true, reads, List.length_cons] at hr hl
    have hn : gHas g len i = false := by
      unfold gHas; rw [decide_eq_false_iff_not]; intro ⟨_, h1, h2⟩; rw [hr.1] at h1 h2; omega
    refine ⟨i, by unfold gpI; rw [hn]; rfl, by unfold gpP; rw [hn]; rfl, hr.1, hr.2, by omega⟩
  · simp only [if_neg h, reads, List.length_cons] at hr hl
    have hn : gHas g len i = true := by
      unfold gHas; rw [decide_eq_true_eq]; rw [hr.1]; omega
    refine ⟨i + 1, by unfold gpI; rw [hn]; rfl, ?_, hr.2.1, hr.2.2, by omega⟩
    unfold gpP; rw [hn, hr.1]; show (64 + P) % 16 = P; omega
theorem gp_bare {c : Int} {r : List Int} (hc : c / 16 ≠ 4) (hr : reads g i (c :: r)) (hl : i + (c :: r).length ≤ len) :
    gpI g len i = i ∧ gpP g len i = 0 ∧ reads g (i + 1) r ∧ i + 1 + r.length ≤ len := by
  obtain ⟨j, h1, h2, h3, h4, h5⟩ := gp_of (P := 0) (by decide) hc (by simpa [withP] using hr) (by simpa [withP] using hl)
  have : j = i := by
    have hn : gHas g len i = false := by
      unfold gHas; rw [decide_eq_false_iff_not]; intro ⟨_, h1, h2⟩; rw [hr.1] at h1 h2; omega
    rw [← h1]; unfold gpI; rw [hn]; rfl
  subst this
  exact ⟨h1, h2, h4, h5⟩
theorem gY_of {q : Nat} (h : q < len) : gY g len q = g q := by unfold gY; rw [if_pos h]
theorem y_pair {mm r b P : Int} : yR (pairB mm r b) P = r % 8 + hiR P ∧ yB (pairB mm r b) P = b % 8 + hiB P := by
  have := pairB_parts mm r b
  unfold yR yB
  rw [this.2.1, this.2.2]
  exact ⟨rfl, rfl⟩
theorem y_sib {mm r b : Int} : ySib (pairB mm r b) = (if b % 8 = 4 then [(36 : Int)] else []).length := by
  have := pairB_parts mm r b
  unfold ySib
  rw [this.2.2]; split <;> rfl
theorem gN_of {q : Nat} {v : Int} {long : Bool} (hv : numOk v long) (hr : reads g q (numB v long)) (hl : q + (numB v long).length ≤ len) : gN g len q long = v := by
  obtain ⟨h1, h2⟩ := num_read hr hv
  unfold gN
  rw [if_pos (by omega), h1]
theorem gU_of {q : Nat} {v : Int} (h0 : 0 ≤ v) (h1 : v ≤ 4294967295) (hr : reads g q (le4 v)) (hl : q + (le4 v).length ≤ len) : gU g len q = v := by
  unfold gU
  rw [show (le4 v).length = 4 from rfl] at hl
  rw [if_pos hl, u4_read hr h0 h1]
theorem g_mem {r b v P : Int} {long : Bool} {q : Nat} (hv : numOk v long) (hr : reads g q (memB r b v long)) (hl : q + (memB r b v long).length ≤ len) :
    q < len ∧ yR (gY g len q) P = r % 8 + hiR P ∧ yB (gY g len q) P = b % 8 + hiB P ∧ gN g len (q + 1 + ySib (gY g len q)) long = v := by
  simp only [memB, reads, List.length_cons, List.length_append] at hr hl
  rw [reads_append] at hr
  have hq : q < len := by omega
  rw [gY_of hq, hr.1, y_sib]
  exact ⟨hq, y_pair.1, y_pair.2, gN_of hv hr.2.2 (by omega)⟩

/-- The instruction that stands there is one that it could be. -/
theorem guess_of {y : AI} {f : Form} (hf : formOf y.op = some f) (he : amdErr y = 0) (hp : plain y = y) (hr : reads g i (amdBytes y)) (hl : i + (amdBytes y).length ≤ len) :
    gpI g len i < len ∧ gX g len y.op (gpI g len i) (gpP g len i) y.long f = y ∧ (y.long = true → choice f = true) := by
  have ho := form_of hf
  unfold amdErr at he
  unfold amdBytes at hr hl
  unfold plain at hp
  rw [hf] at he hp hr hl
  simp only at he hp hr hl
  obtain ⟨o, w, lg, d, s, dp, im, cc⟩ := y
  cases f with
  | movImm =>
    simp only [encE] at he
    obtain ⟨h1, h2⟩ := if_zero (by decide) he
    obtain ⟨h3, _⟩ := if_zero (by decide) h2
    simp only [plainF, AI.mk.injEq] at hp
    obtain ⟨_, rfl, rfl, _, rfl, rfl, _, rfl⟩ := hp
    obtain ⟨j, e1, e2, e3, e4, e5⟩ := gp_of (pfx_ok false 0 d) (by dsimp only; omega) hr hl
    refine ⟨by omega, ?_, fun h => by cases h⟩
    rw [e1, e2]
    simp only [gX, AI.mk.injEq, true_and, and_true]
    refine ⟨?_, gU_of (by omega) (by omega) e4 e5⟩
    unfold yB
    rw [e3, show (184 + d % 8) % 8 = d % 8 by omega]
    exact pfx_B _ _ (not_bad h1)
  | two c =>
    simp only [encE] at he
    obtain ⟨h1, _⟩ := if_zero (by decide) he
    simp only [plainF, AI.mk.injEq] at hp
    obtain ⟨_, _, rfl, _, _, rfl, rfl, rfl⟩ := hp
    obtain ⟨j, e1, e2, e3, e4, e5⟩ := gp_of (pfx_ok w s d) (two_code (g := g) (len := len) ho).1 hr hl
    simp only [List.length_cons, List.length_nil] at e5
    simp only [reads] at e4
    refine ⟨by omega, ?_, fun h => by cases h⟩
    rw [e1, e2]
    simp only [gX, AI.mk.injEq, true_and, and_true]
    rw [gY_of (by omega), e4.1, y_pair.1, y_pair.2]
    exact ⟨pfx_W _ _ _, pfx_B _ _ (not_bad fun h => h1 (.inr h)), pfx_R _ _ (not_bad fun h => h1 (.inl h))⟩
  | load =>
    simp only [encE] at he
    obtain ⟨h1, h2⟩ := if_zero (by decide) he
    simp only [plainF, AI.mk.injEq] at hp
    obtain ⟨_, _, _, _, _, _, rfl, rfl⟩ := hp
    obtain ⟨j, e1, e2, e3, e4, e5⟩ := gp_of (pfx_ok w d s) (by decide) hr hl
    obtain ⟨m1, m2, m3, m4⟩ := g_mem (P := pfx w d s) (if_one (by decide) h2) e4 e5
    refine ⟨by omega, ?_, fun h => rfl⟩
    rw [e1, e2]
    simp only [gX, AI.mk.injEq, true_and, and_true]
    rw [m2, m3, show j + 2 + ySib (gY g len (j + 1)) = j + 1 + 1 + ySib (gY g len (j + 1)) by omega, m4]
    exact ⟨pfx_W _ _ _, pfx_R _ _ (not_bad fun h => h1 (.inl h)), pfx_B _ _ (not_bad fun h => h1 (.inr h)), rfl⟩
  | store =>
    simp only [encE] at he
    obtain ⟨h1, h2⟩ := if_zero (by decide) he
    simp only [plainF, AI.mk.injEq] at hp
    obtain ⟨_, _, _, _, _, _, rfl, rfl⟩ := hp
    obtain ⟨j, e1, e2, e3, e4, e5⟩ := gp_of (pfx_ok w s d) (by decide) hr hl
    obtain ⟨m1, m2, m3, m4⟩ := g_mem (P := pfx w s d) (if_one (by decide) h2) e4 e5
    refine ⟨by omega, ?_, fun h => rfl⟩
    rw [e1, e2]
    simp only [gX, AI.mk.injEq, true_and, and_true]
    rw [m2, m3, show j + 2 + ySib (gY g len (j + 1)) = j + 1 + 1 + ySib (gY g len (j + 1)) by omega, m4]
    exact ⟨pfx_W _ _ _, pfx_B _ _ (not_bad fun h => h1 (.inl h)), pfx_R _ _ (not_bad fun h => h1 (.inr h)), rfl⟩
  | imul =>
    simp only [encE] at he
    obtain ⟨h1, _⟩ := if_zero (by decide) he
    simp only [plainF, AI.mk.injEq] at hp
    obtain ⟨_, _, rfl, _, _, rfl, rfl, rfl⟩ := hp
    obtain ⟨j, e1, e2, e3, e4, e5⟩ := gp_of (pfx_ok w d s) (by decide) hr hl
    simp only [List.length_cons, List.length_nil] at e5
    simp only [reads] at e4
    refine ⟨by omega, ?_, fun h => by cases h⟩
    rw [e1, e2]
    simp only [gX, AI.mk.injEq, true_and, and_true]
    rw [gY_of (by omega), show g (j + 2) = pairB 3 d s from e4.2.1, y_pair.1, y_pair.2]
    exact ⟨pfx_W _ _ _, pfx_R _ _ (not_bad fun h => h1 (.inr h)), pfx_B _ _ (not_bad fun h => h1 (.inl h))⟩
  | imm n =>
    simp only [encE] at he
    obtain ⟨h1, h2⟩ := if_zero (by decide) he
    simp only [plainF, AI.mk.injEq] at hp
    obtain ⟨_, _, _, _, rfl, rfl, _, rfl⟩ := hp
    obtain ⟨j, e1, e2, e3, e4, e5⟩ := gp_of (pfx_ok w 0 d) (by split <;> decide) hr hl
    simp only [List.length_cons] at e5
    simp only [reads] at e4
    refine ⟨by omega, ?_, fun h => rfl⟩
    rw [e1, e2]
    simp only [gX, AI.mk.injEq, true_and, and_true]
    rw [gY_of (by omega), e4.1, y_pair.2]
    exact ⟨pfx_W _ _ _, pfx_B _ _ (not_bad h1), gN_of (if_one (by decide) h2) e4.2 (by omega)⟩
  | one c n =>
    simp only [encE] at he
    obtain ⟨h1, _⟩ := if_zero (by decide) he
    simp only [plainF, AI.mk.injEq] at hp
    obtain ⟨_, _, rfl, _, rfl, rfl, rfl, rfl⟩ := hp
    obtain ⟨j, e1, e2, e3, e4, e5⟩ := gp_of (pfx_ok w 0 d) (one_code (g := g) (len := len) ho).2.1 hr hl
    simp only [List.length_cons, List.length_nil] at e5
    simp only [reads] at e4
    refine ⟨by omega, ?_, fun h => by cases h⟩
    rw [e1, e2]
    simp only [gX, AI.mk.injEq, true_and, and_true]
    rw [gY_of (by omega), e4.1, y_pair.2]
    exact ⟨pfx_W _ _ _, pfx_B _ _ (not_bad h1)⟩
  | stack c =>
    simp only [encE] at he
    obtain ⟨h1, _⟩ := if_zero (by decide) he
    simp only [plainF, AI.mk.injEq] at hp
    obtain ⟨_, rfl, rfl, _, rfl, rfl, rfl, rfl⟩ := hp
    have hc := (stack_code (g := g) (len := len) ho).1
    obtain ⟨j, e1, e2, e3, e4, e5⟩ := gp_of (pfx_ok false 0 d) (by dsimp only; omega) hr hl
    simp only [List.length_nil] at e5
    refine ⟨by omega, ?_, fun h => by cases h⟩
    rw [e1, e2]
    simp only [gX, AI.mk.injEq, true_and, and_true]
    unfold yB
    rw [e3, show (c + d % 8) % 8 = d % 8 by omega]
    exact pfx_B _ _ (not_bad h1)
  | jmp =>
    simp only [encE] at he
    simp only [plainF, AI.mk.injEq] at hp
    obtain ⟨_, rfl, _, rfl, rfl, rfl, _, rfl⟩ := hp
    obtain ⟨e1, e2, e4, e5⟩ := gp_bare (by dsimp only; split <;> decide) hr hl
    refine ⟨by omega, ?_, fun h => rfl⟩
    rw [e1, e2]
    simp only [gX, AI.mk.injEq, true_and, and_true]
    exact gN_of (if_one (by decide) he) e4 e5
  | jcc =>
    simp only [encE] at he
    obtain ⟨h1, h2⟩ := if_zero (by decide) he
    simp only [plainF, AI.mk.injEq] at hp
    obtain ⟨_, rfl, _, rfl, rfl, rfl, _, _⟩ := hp
    simp only [encL] at hr hl
    have hv := if_one (by decide) h2
    cases lg with
    | true =>
      rw [if_pos rfl] at hr hl
      obtain ⟨e1, e2, e4, e5⟩ := gp_bare (by decide) hr hl
      simp only [List.length_cons] at e5
      simp only [reads] at e4
      refine ⟨by omega, ?_, fun h => rfl⟩
      rw [e1, e2]
      simp only [gX, AI.mk.injEq, true_and, and_true, if_true]
      refine ⟨gN_of hv e4.2 (by omega), ?_⟩
      unfold gCC; rw [if_pos (by omega), e4.1]; omega
    | false =>
      simp only [Bool.false_eq_true, if_false] at hr hl
      obtain ⟨e1, e2, e4, e5⟩ := gp_bare (by omega) hr hl
      refine ⟨by omega, ?_, fun h => rfl⟩
      rw [e1, e2]
      simp only [gX, AI.mk.injEq, true_and, and_true, Bool.false_eq_true, if_false]
      refine ⟨gN_of hv e4 (by omega), ?_⟩
      unfold gCC; rw [if_pos (by omega), Nat.add_zero, hr.1]; omega
  | ret =>
    simp only [plainF, AI.mk.injEq] at hp
    obtain ⟨_, rfl, rfl, rfl, rfl, rfl, rfl, rfl⟩ := hp
    obtain ⟨e1, e2, e4, e5⟩ := gp_bare (by decide) hr hl
    refine ⟨by omega, ?_, fun h => by cases h⟩
    rw [e1, e2]
    simp only [gX]
/-- What it could be has the fields that count. -/
theorem guess_plain {op : Int} {f : Form} (hf : formOf op = some f) {p : Nat} {P : Int} {long : Bool} (hc : long = true → choice f = true) : plain (gX g len op p P long f) = gX g len op p P long f := by
  have ho := form_of hf
  have e : plain (gX g len op p P long f) = plainF f (gX g len op p P long f) := by
    unfold plain
    have : (gX g len op p P long f).op = op := by cases f <;> rfl
    rw [this, hf]
  rw [e]
  have hl : choice f = false → long = false := fun h => by
    cases hlo : long with
    | false => rfl
    | true => rw [hc hlo] at h; cases h
  cases f <;> simp only [plainF, gX, AI.mk.injEq, true_and, and_true] <;> first | exact (hl rfl).symm | rfl | trivial
end
end Go.Proofs.Ytajcmjjgnbaahaa.Amd
