/- The instructions that bytes could be: the one that stands there is among them. -/
import Derived.Test.YtajcmjjgnbaahaaGreatAp3
set_option linter.unusedVariables false
set_option linter.unusedSimpArgs false
namespace Go.Proofs.YtajcmjjgnbaahaaGreat.Amd
open Go
section
variable (g : Nat -> Int) (len : Nat)
def gHas (i : Nat) : Bool := decide (i < len /\ 64 <= g i /\ g i <= 79)
def gpI (i : Nat) : Nat := if gHas g len i = true then i + 1 else i
def gpP (i : Nat) : Int := if gHas g len i = true then g i % 16 else 0
def gY (q : Nat) : Int := if q < len then g q else 0
def gN (q : Nat) (long : Bool) : Int := if q + numK long <= len then numV g q long else 0
def gU (q : Nat) : Int := if q + 4 <= len then u4 g q else 0
def yR (y P : Int) : Int := y / 8 % 8 + hiR P
def yB (y P : Int) : Int := y % 8 + hiB P
def ySib (y : Int) : Nat := if y % 8 = 4 then 1 else 0
def gCC (q : Nat) : Int := if q < len then g q % 16 else 0
def gX (op : Int) (p : Nat) (P : Int) (long : Bool) : Form -> AI
 | .movImm => ⟨op, false, long, yB (g p) P, 0, 0, gU g len (p + 1), 0⟩
 | .two _ => ⟨op, hiW P, long, yB (gY g len (p + 1)) P, yR (gY g len (p + 1)) P, 0, 0, 0⟩
 | .load => ⟨op, hiW P, long, yR (gY g len (p + 1)) P, yB (gY g len (p + 1)) P, gN g len (p + 2 + ySib (gY g len (p + 1))) long, 0, 0⟩
 | .store => ⟨op, hiW P, long, yB (gY g len (p + 1)) P, yR (gY g len (p + 1)) P, gN g len (p + 2 + ySib (gY g len (p + 1))) long, 0, 0⟩
 | .imul => ⟨op, hiW P, long, yR (gY g len (p + 2)) P, yB (gY g len (p + 2)) P, 0, 0, 0⟩
 | .imm _ => ⟨op, hiW P, long, yB (gY g len (p + 1)) P, 0, 0, gN g len (p + 2) long, 0⟩
 | .one _ _ => ⟨op, hiW P, long, yB (gY g len (p + 1)) P, 0, 0, 0, 0⟩
 | .stack _ => ⟨op, false, long, yB (g p) P, 0, 0, 0, 0⟩
 | .jmp => ⟨op, false, long, 0, 0, 0, gN g len (p + 1) long, 0⟩
 | .jcc => ⟨op, false, long, 0, 0, 0, gN g len (p + if long = true then 2 else 1) long, gCC g len (p + if long = true then 1 else 0)⟩
 | .ret => ⟨op, false, long, 0, 0, 0, 0, 0⟩
end
def zEV : Form -> Bool
 | .load | .store | .imm _ | .jmp | .jcc => true
 | _ => false
section
variable {g : Nat -> Int} {len i : Nat}
theorem zKs {P c : Int} {r : List Int} (hp : 0 <= P /\ P < 16 /\ P / 2 % 2 = 0) (hc : c / 16 ≠ 4) (hr : zu g i (zAO P (c :: r))) (hl : i + (zAO P (c :: r)).length <= len) :
  ∃ j, gpI g len i = j /\ gpP g len i = P /\ g j = c /\ zu g (j + 1) r /\ j + 1 + r.length <= len := by
 unfold zAO at hr hl
 by_cases h : P = 0
 ·subst h
  simp only [if_true, zu, List.length_cons] at hr hl
  have hn : gHas g len i = false := by
   unfold gHas; rw [decide_eq_false_iff_not]; intro ⟨_, h1, h2⟩; rw [hr.1] at h1 h2; omega
  refine ⟨i, by unfold gpI; rw [hn]; rfl, by unfold gpP; rw [hn]; rfl, hr.1, hr.2, by omega⟩
 ·simp only [if_neg h, zu, List.length_cons] at hr hl
  have hn : gHas g len i = true := by
   unfold gHas; rw [decide_eq_true_eq]; rw [hr.1]; omega
  refine ⟨i + 1, by unfold gpI; rw [hn]; rfl, ?_, hr.2.1, hr.2.2, by omega⟩
  unfold gpP; rw [hn, hr.1]; show (64 + P) % 16 = P; omega
theorem zKt {c : Int} {r : List Int} (hc : c / 16 ≠ 4) (hr : zu g i (c :: r)) (hl : i + (c :: r).length <= len) :
  gpI g len i = i /\ gpP g len i = 0 /\ zu g (i + 1) r /\ i + 1 + r.length <= len := by
 obtain ⟨j, h1, h2, h3, h4, h5⟩ := zKs (P := 0) (by decide) hc (by simpa [zAO] using hr) (by simpa [zAO] using hl)
 have : j = i := by
  have hn : gHas g len i = false := by
   unfold gHas; rw [decide_eq_false_iff_not]; intro ⟨_, h1, h2⟩; rw [hr.1] at h1 h2; omega
  rw [<- h1]; unfold gpI; rw [hn]; rfl
 subst this
 exact ⟨h1, h2, h4, h5⟩
theorem zL2 {q : Nat} (h : q < len) : gY g len q = g q := by unfold gY; rw [if_pos h]
theorem zGi {mm r b P : Int} : yR (zAm mm r b) P = r % 8 + hiR P /\ yB (zAm mm r b) P = b % 8 + hiB P := by
 have := zB2 mm r b
 unfold yR yB
 rw [this.2.1, this.2.2]
 exact ⟨rfl, rfl⟩
theorem zZ4 {mm r b : Int} : ySib (zAm mm r b) = (if b % 8 = 4 then [(36 : Int)] else []).length := by
 have := zB2 mm r b
 unfold ySib
 rw [this.2.2]; split <;> rfl
theorem zRl {q : Nat} {v : Int} {long : Bool} (hv : zAs v long) (hr : zu g q (numB v long)) (hl : q + (numB v long).length <= len) : gN g len q long = v := by
 obtain ⟨h1, h2⟩ := zEk hr hv
 unfold gN
 rw [if_pos (by omega), h1]
theorem za1 {q : Nat} {v : Int} (h0 : 0 <= v) (h1 : v <= 4294967295) (hr : zu g q (le4 v)) (hl : q + (le4 v).length <= len) : gU g len q = v := by
 unfold gU
 rw [show (le4 v).length = 4 from rfl] at hl
 rw [if_pos hl, zPv hr h0 h1]
theorem zY1 {r b v P : Int} {long : Bool} {q : Nat} (hv : zAs v long) (hr : zu g q (memB r b v long)) (hl : q + (memB r b v long).length <= len) :
  q < len /\ yR (gY g len q) P = r % 8 + hiR P /\ yB (gY g len q) P = b % 8 + hiB P /\ gN g len (q + 1 + ySib (gY g len q)) long = v := by
 simp only [memB, zu, List.length_cons, List.length_append] at hr hl
 rw [zC7] at hr
 have hq : q < len := by omega
 rw [zL2 hq, hr.1, zZ4]
 exact ⟨hq, zGi.1, zGi.2, zRl hv hr.2.2 (by omega)⟩
theorem zTd {y : AI} {f : Form} (hf : zA y.op = some f) (he : zM y = 0) (hp : plain y = y) (hr : zu g i (zD y)) (hl : i + (zD y).length <= len) :
  gpI g len i < len /\ gX g len y.op (gpI g len i) (gpP g len i) y.long f = y /\ (y.long = true -> zEV f = true) := by
 have ho := zFR hf
 unfold zM at he
 unfold zD at hr hl
 unfold plain at hp
 rw [hf] at he hp hr hl
 simp only at he hp hr hl
 obtain ⟨o, w, lg, d, s, dp, im, cc⟩ := y
 cases f with
 | movImm =>
  simp only [encE] at he
  obtain ⟨h1, h2⟩ := zAT (by decide) he
  obtain ⟨h3, _⟩ := zAT (by decide) h2
  simp only [zAx, AI.mk.injEq] at hp
  obtain ⟨_, rfl, rfl, _, rfl, rfl, _, rfl⟩ := hp
  obtain ⟨j, e1, e2, e3, e4, e5⟩ := zKs (zCQ false 0 d) (by dsimp only; omega) hr hl
  refine ⟨by omega, ?_, fun h => by cases h⟩
  rw [e1, e2]
  simp only [gX, AI.mk.injEq, true_and, and_true]
  refine ⟨?_, za1 (by omega) (by omega) e4 e5⟩
  unfold yB
  rw [e3, show (184 + d % 8) % 8 = d % 8 by omega]
  exact zEv _ _ (zAM h1)
 | two c =>
  simp only [encE] at he
  obtain ⟨h1, _⟩ := zAT (by decide) he
  simp only [zAx, AI.mk.injEq] at hp
  obtain ⟨_, _, rfl, _, _, rfl, rfl, rfl⟩ := hp
  obtain ⟨j, e1, e2, e3, e4, e5⟩ := zKs (zCQ w s d) (zNX (g := g) (len := len) ho).1 hr hl
  simp only [List.length_cons, List.length_nil] at e5
  simp only [zu] at e4
  refine ⟨by omega, ?_, fun h => by cases h⟩
  rw [e1, e2]
  simp only [gX, AI.mk.injEq, true_and, and_true]
  rw [zL2 (by omega), e4.1, zGi.1, zGi.2]
  exact ⟨zHE _ _ _, zEv _ _ (zAM fun h => h1 (.inr h)), zLe _ _ (zAM fun h => h1 (.inl h))⟩
 | load =>
  simp only [encE] at he
  obtain ⟨h1, h2⟩ := zAT (by decide) he
  simp only [zAx, AI.mk.injEq] at hp
  obtain ⟨_, _, _, _, _, _, rfl, rfl⟩ := hp
  obtain ⟨j, e1, e2, e3, e4, e5⟩ := zKs (zCQ w d s) (by decide) hr hl
  obtain ⟨m1, m2, m3, m4⟩ := zY1 (P := pfx w d s) (zE6 (by decide) h2) e4 e5
  refine ⟨by omega, ?_, fun h => rfl⟩
  rw [e1, e2]
  simp only [gX, AI.mk.injEq, true_and, and_true]
  rw [m2, m3, show j + 2 + ySib (gY g len (j + 1)) = j + 1 + 1 + ySib (gY g len (j + 1)) by omega, m4]
  exact ⟨zHE _ _ _, zLe _ _ (zAM fun h => h1 (.inl h)), zEv _ _ (zAM fun h => h1 (.inr h)), rfl⟩
 | store =>
  simp only [encE] at he
  obtain ⟨h1, h2⟩ := zAT (by decide) he
  simp only [zAx, AI.mk.injEq] at hp
  obtain ⟨_, _, _, _, _, _, rfl, rfl⟩ := hp
  obtain ⟨j, e1, e2, e3, e4, e5⟩ := zKs (zCQ w s d) (by decide) hr hl
  obtain ⟨m1, m2, m3, m4⟩ := zY1 (P := pfx w s d) (zE6 (by decide) h2) e4 e5
  refine ⟨by omega, ?_, fun h => rfl⟩
  rw [e1, e2]
  simp only [gX, AI.mk.injEq, true_and, and_true]
  rw [m2, m3, show j + 2 + ySib (gY g len (j + 1)) = j + 1 + 1 + ySib (gY g len (j + 1)) by omega, m4]
  exact ⟨zHE _ _ _, zEv _ _ (zAM fun h => h1 (.inl h)), zLe _ _ (zAM fun h => h1 (.inr h)), rfl⟩
 | imul =>
  simp only [encE] at he
  obtain ⟨h1, _⟩ := zAT (by decide) he
  simp only [zAx, AI.mk.injEq] at hp
  obtain ⟨_, _, rfl, _, _, rfl, rfl, rfl⟩ := hp
  obtain ⟨j, e1, e2, e3, e4, e5⟩ := zKs (zCQ w d s) (by decide) hr hl
  simp only [List.length_cons, List.length_nil] at e5
  simp only [zu] at e4
  refine ⟨by omega, ?_, fun h => by cases h⟩
  rw [e1, e2]
  simp only [gX, AI.mk.injEq, true_and, and_true]
  rw [zL2 (by omega), show g (j + 2) = zAm 3 d s from e4.2.1, zGi.1, zGi.2]
  exact ⟨zHE _ _ _, zLe _ _ (zAM fun h => h1 (.inr h)), zEv _ _ (zAM fun h => h1 (.inl h))⟩
 | imm n =>
  simp only [encE] at he
  obtain ⟨h1, h2⟩ := zAT (by decide) he
  simp only [zAx, AI.mk.injEq] at hp
  obtain ⟨_, _, _, _, rfl, rfl, _, rfl⟩ := hp
  obtain ⟨j, e1, e2, e3, e4, e5⟩ := zKs (zCQ w 0 d) (by split <;> decide) hr hl
  simp only [List.length_cons] at e5
  simp only [zu] at e4
  refine ⟨by omega, ?_, fun h => rfl⟩
  rw [e1, e2]
  simp only [gX, AI.mk.injEq, true_and, and_true]
  rw [zL2 (by omega), e4.1, zGi.2]
  exact ⟨zHE _ _ _, zEv _ _ (zAM h1), zRl (zE6 (by decide) h2) e4.2 (by omega)⟩
 | one c n =>
  simp only [encE] at he
  obtain ⟨h1, _⟩ := zAT (by decide) he
  simp only [zAx, AI.mk.injEq] at hp
  obtain ⟨_, _, rfl, _, rfl, rfl, rfl, rfl⟩ := hp
  obtain ⟨j, e1, e2, e3, e4, e5⟩ := zKs (zCQ w 0 d) (zNy (g := g) (len := len) ho).2.1 hr hl
  simp only [List.length_cons, List.length_nil] at e5
  simp only [zu] at e4
  refine ⟨by omega, ?_, fun h => by cases h⟩
  rw [e1, e2]
  simp only [gX, AI.mk.injEq, true_and, and_true]
  rw [zL2 (by omega), e4.1, zGi.2]
  exact ⟨zHE _ _ _, zEv _ _ (zAM h1)⟩
 | stack c =>
  simp only [encE] at he
  obtain ⟨h1, _⟩ := zAT (by decide) he
  simp only [zAx, AI.mk.injEq] at hp
  obtain ⟨_, rfl, rfl, _, rfl, rfl, rfl, rfl⟩ := hp
  have hc := (zJK (g := g) (len := len) ho).1
  obtain ⟨j, e1, e2, e3, e4, e5⟩ := zKs (zCQ false 0 d) (by dsimp only; omega) hr hl
  simp only [List.length_nil] at e5
  refine ⟨by omega, ?_, fun h => by cases h⟩
  rw [e1, e2]
  simp only [gX, AI.mk.injEq, true_and, and_true]
  unfold yB
  rw [e3, show (c + d % 8) % 8 = d % 8 by omega]
  exact zEv _ _ (zAM h1)
 | jmp =>
  simp only [encE] at he
  simp only [zAx, AI.mk.injEq] at hp
  obtain ⟨_, rfl, _, rfl, rfl, rfl, _, rfl⟩ := hp
  obtain ⟨e1, e2, e4, e5⟩ := zKt (by dsimp only; split <;> decide) hr hl
  refine ⟨by omega, ?_, fun h => rfl⟩
  rw [e1, e2]
  simp only [gX, AI.mk.injEq, true_and, and_true]
  exact zRl (zE6 (by decide) he) e4 e5
 | jcc =>
  simp only [encE] at he
  obtain ⟨h1, h2⟩ := zAT (by decide) he
  simp only [zAx, AI.mk.injEq] at hp
  obtain ⟨_, rfl, _, rfl, rfl, rfl, _, _⟩ := hp
  simp only [encL] at hr hl
  have hv := zE6 (by decide) h2
  cases lg with
  | true =>
   rw [if_pos rfl] at hr hl
   obtain ⟨e1, e2, e4, e5⟩ := zKt (by decide) hr hl
   simp only [List.length_cons] at e5
   simp only [zu] at e4
   refine ⟨by omega, ?_, fun h => rfl⟩
   rw [e1, e2]
   simp only [gX, AI.mk.injEq, true_and, and_true, if_true]
   refine ⟨zRl hv e4.2 (by omega), ?_⟩
   unfold gCC; rw [if_pos (by omega), e4.1]; omega
  | false =>
   simp only [Bool.false_eq_true, if_false] at hr hl
   obtain ⟨e1, e2, e4, e5⟩ := zKt (by omega) hr hl
   refine ⟨by omega, ?_, fun h => rfl⟩
   rw [e1, e2]
   simp only [gX, AI.mk.injEq, true_and, and_true, Bool.false_eq_true, if_false]
   refine ⟨zRl hv e4 (by omega), ?_⟩
   unfold gCC; rw [if_pos (by omega), Nat.add_zero, hr.1]; omega
 | ret =>
  simp only [zAx, AI.mk.injEq] at hp
  obtain ⟨_, rfl, rfl, rfl, rfl, rfl, rfl, rfl⟩ := hp
  obtain ⟨e1, e2, e4, e5⟩ := zKt (by decide) hr hl
  refine ⟨by omega, ?_, fun h => by cases h⟩
  rw [e1, e2]
  simp only [gX]
theorem zM9 {op : Int} {f : Form} (hf : zA op = some f) {p : Nat} {P : Int} {long : Bool} (hc : long = true -> zEV f = true) : plain (gX g len op p P long f) = gX g len op p P long f := by
 have ho := zFR hf
 have e : plain (gX g len op p P long f) = zAx f (gX g len op p P long f) := by
  unfold plain
  have : (gX g len op p P long f).op = op := by cases f <;> rfl
  rw [this, hf]
 rw [e]
 have hl : zEV f = false -> long = false := fun h => by
  cases hlo : long with
  | false => rfl
  | true => rw [hc hlo] at h; cases h
 cases f <;> simp only [zAx, gX, AI.mk.injEq, true_and, and_true] <;> first | exact (hl rfl).symm | rfl | trivial
end
end Go.Proofs.YtajcmjjgnbaahaaGreat.Amd
