/- An instruction of any code: its contract; Decode's run. -/
import Derived.Test.YtajcmjjgnbaahaaGreatSxc
import Derived.Test.YtajcmjjgnbaahaaGreatAd5
set_option linter.unusedVariables false
set_option linter.unusedSimpArgs false
namespace Go.Proofs.YtajcmjjgnbaahaaGreat.Sx
open Go Go.RowKit
def orS (s t : zl) : zl := fun args hp K => s args hp K ∨ t args hp K
def retS (s : zl) : zl := fun args hp K => ∃ args', (∀ ν, SV.denL ν args' = SV.denL ν args) /\ (SV.wfL (Live hp) args -> SV.wfL (Live hp) args') /\ s args' hp K
theorem zYK {P : Program} {f : FuncId} {s t : zl} (hs : zZ P f s) (ht : zZ P f t) : zZ P f (orS s t) := by
 intro B ν hp w args K h1 h2 h3 hx
 rcases hx with hx | hx
 ·exact hs B ν hp w args K h1 h2 h3 hx
 ·exact ht B ν hp w args K h1 h2 h3 hx
theorem zLU {P : Program} {f : FuncId} {s : zl} (hs : zZ P f s) : zZ P f (retS s) := by
 intro B ν hp w args K h1 h2 h3 hx
 obtain ⟨args', e, hw, hx⟩ := hx
 have := hs B ν hp w args' K h1 h2 (hw h3) hx
 rw [e ν] at this
 exact this
end Go.Proofs.YtajcmjjgnbaahaaGreat.Sx
namespace Go.Proofs.YtajcmjjgnbaahaaGreat.Amd
open Go Go.Proofs.YtajcmjjgnbaahaaGreat.Sx Go.RowKit
structure zEZ (b : Bool) (c : Int) : Prop where
 nb : b = false
 c0 : 0 <= c
 c1 : c < 256
def zLt : Ins -> List SV -> Ins -> List SV -> Prop := fun ins pl _ pl' => match ins, pl, pl' with
 | [(cs, len, cap)], [.int .i64 a, .int .u8 p, .bool b], [.int .u8 c] => (∃ g : Nat -> Int, cs = [.int .u8 fun e => .var (g e)]) /\ zAD (colG cs) len cap a.den p.den /\ zEZ b.den c.den
 | _, _, _ => False
def zKo : Ins -> List SV -> Ins -> List SV -> List Out := fun ins pl _ pl' => match ins, pl, pl' with
 | [(cs, len, _)], [.int .i64 a, .int .u8 p, .bool _], [.int .u8 c] => [.any InR (zAv (colG cs) len p.den c.den a.den) (fun r _ => ySV (InR.y r)) (fun _ => []) (fun r => rdCs (InR.pos r) p.den (InR.bad r))]
 | _, _, _ => []
theorem zRa {ins : Ins} {pl : List SV} {ins' : Ins} {pl' : List SV} (h : zLt ins pl ins' pl') :
  ∃ (g : Nat -> Int) (len cap : Nat) (a p : IE) (b : BE) (c : IE), ins = [([.int .u8 fun e => .var (g e)], len, cap)] /\ pl = [.int .i64 a, .int .u8 p, .bool b] /\ pl' = [.int .u8 c] /\ zAD g len cap a.den p.den /\ zEZ b.den c.den := by
 unfold zLt at h
 split at h
 ·obtain ⟨⟨g, rfl⟩, h2, h3⟩ := h
  exact ⟨g, _, _, _, _, _, _, rfl, rfl, rfl, h2, h3⟩
 ·exact h.elim
theorem zTZ {f : FuncId} {s : zl} (hs : zZ P f s)
  (h : ∀ (g : Nat -> Int) (len cap : Nat) (a p c : Int), zAD g len cap a p -> 0 <= c -> c < 256 -> s [.ptr 1 0, .int .u8 (.var c)] [rdRow g cap, zAu len cap a p false] (zG4 (zAv g len p c a) g len cap p)) :
  zZ P f (zC9 rdTy rdK [.plain] zLt zKo) := by
 refine zYa hs (fun sz zs hm => ?_) ?_ ?_
 ·simp [rdK] at hm; obtain ⟨rfl, rfl⟩ := hm; rfl
 ·intro ins pl ins' pl' o ho
  unfold zKo at ho
  split at ho
  ·simp only [List.mem_singleton] at ho; subst ho
   exact fun r => ⟨zBU (by simp [ySV, SV.wf, SV.wfL]), rfl, by simp [rdCs, SV.wf, SV.wfL]⟩
  ·simp at ho
 ·intro ins pl ins' pl' u hi hi' hu hw hw' hp
  obtain ⟨g, len, cap, a, p, b, c, rfl, rfl, rfl, hg, hc⟩ := zRa hp
  have e2 : ins' = [] := zFv hi' fun sz zs h => by simp at h
  subst e2
  have hr := h g len cap a.den p.den c.den hg hc.c0 hc.c1
  have hb := hc.nb
  rw [<- hb] at hr
  exact hr
theorem zSl {x : Int} : BE.den (.cmp .neq (.shr .u8 (.var x) (.lit 6)) (.lit 3)) = !decide (x / 64 = 3) := zNf (mm := 3)
theorem zEm {c k : Int} (h : c = k) : (∀ ν, SV.denL ν [.ptr 1 0, .int .u8 (.lit k)] = SV.denL ν [.ptr 1 0, .int .u8 (.var c)]) /\ ∀ n, SV.wfL n [.ptr 1 0, .int .u8 (.var c)] -> SV.wfL n [.ptr 1 0, .int .u8 (.lit k)] := by
 subst h
 exact ⟨fun ν => rfl, fun n h => ⟨h.1, trivial, trivial⟩⟩
theorem zYp : zZ P 76 (zC9 rdTy rdK [.plain] zLt zKo) := by
 have h4 := zN (un := fun _ => 40) zbd Tryz.func76
 have h3 := zN (un := fun _ => 40) zbe Tryz.func76
 have h5 := zN (un := fun _ => 40) zbc Tryz.func76
 refine zTZ (zYK h4 (zYK (zLU h3) (zLU h5))) ?_
 intro g len cap a p c hg hc0 hc1
 have A : askA len cap := ask2 hg.room
 have B : preP g len cap a p := preG hg
 have B1 : preP g len cap (nxA len a) p := preG hg.next
 have e0 := hg.pos0
 have e1 := hg.pos1
 have e2 := hg.small
 have ha : zCO g len a.toNat = nxV g len a := by
  unfold nxV zCO
  by_cases h : a < len
  ·rw [if_pos h, if_pos (by omega)]
  ·rw [if_neg h, if_neg (by omega)]
 by_cases h235 : c = 235
 ·obtain ⟨w1, w2⟩ := zEm h235
  refine .inr (.inl ⟨_, w1, w2 _, ?_⟩)
  rw [zWR]
  subst h235
  exact ⟨A, B, A, B, A, B, zk (zUS hg rfl (by unfold decC; simp))⟩
 by_cases h137 : c = 137
 ·obtain ⟨w1, w2⟩ := zEm h137
  refine .inr (.inl ⟨_, w1, w2 _, ?_⟩)
  rw [zWT]
  subst h137
  rw [zSl]
  refine ⟨A, B, A, B, fun h => ⟨A, B, ?_⟩, fun h => ⟨A, B, ?_⟩⟩
  ·have h : ¬ nxV g len a / 64 = 3 := by simpa using h
   exact zk (zTV hg (by unfold decC; simp [ha, h]))
  ·have h : nxV g len a / 64 = 3 := by simpa using h
   exact zk (zFu hg (by decide) (by unfold decC; simp [ha, h]))
 by_cases h131 : c = 131
 ·obtain ⟨w1, w2⟩ := zEm h131
  refine .inr (.inr ⟨_, w1, w2 _, ?_⟩)
  rw [zWU]
  subst h131
  simp only [zTS hg, decide_eq_true_eq, decide_eq_false_iff_not]
  refine ⟨A, B, fun h => ?_, fun k0 => ⟨fun h => ?_, fun k1 => ⟨fun h => ?_, fun k2 => ⟨fun h => ?_, fun k3 => ?_⟩⟩⟩⟩
  ·have L := zk (g := g) (len := len) (cap := cap) (p := p) (zG2 (op := 14) hg (long := false) rfl (by decide) (show decC g len p 131 a.toNat = dImm g len 14 p 131 a.toNat by unfold decC; simp [<- h]))
   repeat' with_reducible apply And.intro
   all_goals first | exact A | exact B | exact B1 | exact L
  ·have L := zk (g := g) (len := len) (cap := cap) (p := p) (zG2 (op := 17) hg (long := false) rfl (by decide) (show decC g len p 131 a.toNat = dImm g len 17 p 131 a.toNat by unfold decC; simp [<- h]))
   repeat' with_reducible apply And.intro
   all_goals first | exact A | exact B | exact B1 | exact L
  ·have L := zk (g := g) (len := len) (cap := cap) (p := p) (zG2 (op := 15) hg (long := false) rfl (by decide) (show decC g len p 131 a.toNat = dImm g len 15 p 131 a.toNat by unfold decC; simp [<- h]))
   repeat' with_reducible apply And.intro
   all_goals first | exact A | exact B | exact B1 | exact L
  ·have L := zk (g := g) (len := len) (cap := cap) (p := p) (zG2 (op := 16) hg (long := false) rfl (by decide) (show decC g len p 131 a.toNat = dImm g len 16 p 131 a.toNat by unfold decC; simp [<- h]))
   repeat' with_reducible apply And.intro
   all_goals first | exact A | exact B | exact B1 | exact L
  ·refine zk (zGa hg rfl ?_)
   unfold decC
   simp [Ne.symm k0, Ne.symm k1, Ne.symm k2, Ne.symm k3]
 by_cases h129 : c = 129
 ·obtain ⟨w1, w2⟩ := zEm h129
  refine .inr (.inr ⟨_, w1, w2 _, ?_⟩)
  rw [zWV]
  subst h129
  simp only [zTS hg, decide_eq_true_eq, decide_eq_false_iff_not]
  refine ⟨A, B, fun h => ?_, fun k0 => ⟨fun h => ?_, fun k1 => ⟨fun h => ?_, fun k2 => ⟨fun h => ?_, fun k3 => ?_⟩⟩⟩⟩
  ·have L := zk (g := g) (len := len) (cap := cap) (p := p) (zG2 (op := 14) hg (long := true) rfl (by decide) (show decC g len p 129 a.toNat = dImm g len 14 p 129 a.toNat by unfold decC; simp [<- h]))
   repeat' with_reducible apply And.intro
   all_goals first | exact A | exact B | exact B1 | exact L
  ·have L := zk (g := g) (len := len) (cap := cap) (p := p) (zG2 (op := 17) hg (long := true) rfl (by decide) (show decC g len p 129 a.toNat = dImm g len 17 p 129 a.toNat by unfold decC; simp [<- h]))
   repeat' with_reducible apply And.intro
   all_goals first | exact A | exact B | exact B1 | exact L
  ·have L := zk (g := g) (len := len) (cap := cap) (p := p) (zG2 (op := 15) hg (long := true) rfl (by decide) (show decC g len p 129 a.toNat = dImm g len 15 p 129 a.toNat by unfold decC; simp [<- h]))
   repeat' with_reducible apply And.intro
   all_goals first | exact A | exact B | exact B1 | exact L
  ·have L := zk (g := g) (len := len) (cap := cap) (p := p) (zG2 (op := 16) hg (long := true) rfl (by decide) (show decC g len p 129 a.toNat = dImm g len 16 p 129 a.toNat by unfold decC; simp [<- h]))
   repeat' with_reducible apply And.intro
   all_goals first | exact A | exact B | exact B1 | exact L
  ·refine zk (zGa hg rfl ?_)
   unfold decC
   simp [Ne.symm k0, Ne.symm k1, Ne.symm k2, Ne.symm k3]
 by_cases h247 : c = 247
 ·obtain ⟨w1, w2⟩ := zEm h247
  refine .inr (.inl ⟨_, w1, w2 _, ?_⟩)
  rw [zWQ]
  subst h247
  simp only [zTS hg, decide_eq_true_eq, decide_eq_false_iff_not]
  refine ⟨A, B, fun h => ⟨A, B, A, B, zk (zLr hg (by decide) (by unfold decC; simp [<- h]))⟩, fun k0 => ⟨fun h => ⟨A, B, A, B, zk (zLr hg (by decide) (by unfold decC; simp [<- h]))⟩, fun k1 => ⟨fun h => ⟨A, B, A, B, zk (zLr hg (by decide) (by unfold decC; simp [<- h]))⟩, fun k2 => ?_⟩⟩⟩
  refine zk (zGa hg rfl ?_)
  unfold decC
  simp [Ne.symm k0, Ne.symm k1, Ne.symm k2]
 by_cases h211 : c = 211
 ·obtain ⟨w1, w2⟩ := zEm h211
  refine .inr (.inl ⟨_, w1, w2 _, ?_⟩)
  rw [zWS]
  subst h211
  simp only [zTS hg, decide_eq_true_eq, decide_eq_false_iff_not]
  refine ⟨A, B, fun h => ⟨A, B, A, B, zk (zLr hg (by decide) (by unfold decC; simp [<- h]))⟩, fun k0 => ⟨fun h => ⟨A, B, A, B, zk (zLr hg (by decide) (by unfold decC; simp [<- h]))⟩, fun k1 => ?_⟩⟩
  refine zk (zGa hg rfl ?_)
  unfold decC
  simp [Ne.symm k0, Ne.symm k1]
 left
 rw [zYq]
 have hrest : ¬ (c = 15 /\ a.toNat < len) -> zQX g len cap a p false c (zAv g len p c a) := fun h => zPB hg hc0 hc1 h h235 h137 h131 h129 h247 h211
 refine ⟨A, B, fun h => ⟨fun hl => ?_, fun hl => ?_⟩, fun h => ?_⟩
 ·have h : c = 15 := by rw [zPe] at h; simpa using h
  have hl : a < len := by simpa [BE.den, IE.den, zQ] using hl
  subst h
  rw [zQA e0 (by omega), zZt e0 (by omega), zSL e0 (by omega)]
  have hx := hg.byte a.toNat (by omega)
  have hg1 : zAD g len cap (a + 1) p := ⟨hg.room, hg.small, by omega, by omega, hg.p0, hg.p1, hg.byte⟩
  have B2 : preP g len cap (a + 1) p := preG hg1
  have et : (a + 1).toNat = a.toNat + 1 := by omega
  simp only [zPe, zTw hx.1 hx.2, zZn hx.1 hx.2, zZm hx.1 hx.2, zTu hx.1 hx.2, zY0, decide_eq_true_eq, decide_eq_false_iff_not]
  have hj : g a.toNat / 16 * 16 = 128 -> decC g len p 15 a.toNat = dJcc g len p (g a.toNat % 16) true (a + 1).toNat := fun h => by
   unfold decC; rw [if_pos ⟨rfl, by omega⟩, if_neg (by omega), if_pos (by omega), et]
  refine ⟨zAl (by simp; have := hg.room; omega) (by simp; omega), by have := hg.room; omega, fun h => ⟨A, B2, zk (zWF hg (by unfold decC; rw [if_pos ⟨rfl, by omega⟩, if_pos h]))⟩, fun k1 => ⟨fun h => ?_, fun k2 => ?_⟩⟩
  ·have hl : decide (128 <= g a.toNat) = true := by simp; omega
   rw [hl]
   refine ⟨A, B2, fun hn => ⟨A, B2, zk (zKm hg (hj h) (.inl (zQ2 hg hn)) true)⟩, fun hn => ⟨fun h2 => ⟨A, B2, zk (zKm hg (hj h) (.inr h2) true)⟩, fun h2 => ⟨A, B2, zk (zRI hg (by omega) (zQ3 hg hn) (by omega) (hj h))⟩⟩⟩
  ·refine zk (zGa hg rfl ?_)
   unfold decC; rw [if_pos ⟨rfl, by omega⟩, if_neg k1, if_neg (by omega)]
 ·have hl : ¬ a < len := by simpa [BE.den, IE.den, zQ] using hl
  exact hrest fun h => hl (by omega)
 ·have h : ¬ c = 15 := by rw [zPe] at h; simpa using h
  exact hrest fun h' => h h'.1
abbrev insM : zl := zC9 rdTy rdK [.plain] zLt zKo
def rdT6 : List (FuncId × Cal) := (76, .spec insM fun _ _ => none) :: rdT3
theorem zVX : zO P (zx rdT6) := zG zYp zKW
noncomputable def R6 : FuncId -> Option Cal := inl P (fun _ _ => 40) (zx rdT6) 6
theorem zbb : zO P R6 := zAh zVX 6
def zR5 (g : Nat -> Int) (cap : Nat) (y' : AI) (n' e' : Int) : SV -> List SObj -> Prop := fun v hp => zA8 1 1 { tmps := [v], hp := hp } [(0, .tuple [ySV y', .int .i64 (.var n'), .int .i64 (.var e')])] [rdRow g cap]
end Go.Proofs.YtajcmjjgnbaahaaGreat.Amd
