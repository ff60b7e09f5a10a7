/- What is told of instructions, their bytes and contracts, that many texts share. -/
import Derived.Test.YtajcmjjgnbaahaaGreatAd6
set_option linter.unusedVariables false
set_option linter.unusedSimpArgs false
namespace Go.Proofs.YtajcmjjgnbaahaaGreat.Amd
open Go Go.Proofs.YtajcmjjgnbaahaaGreat.Sx Go.RowKit
def pfI (x : Int) : Int := IE.den (.bits .and .u8 (.var x) (.lit 15))
def pfB (x : Int) : Bool := BE.den (.cmp .neq (.bits .and .u8 (.bits .and .u8 (.var x) (.lit 15)) (.lit 2)) (.lit 0))
def zJp (g : Nat -> Int) (cap : Nat) (y' : AI) (n' e' k : Int) : Prop :=
 0 = AI.op y' /\ false = AI.wide y' /\ false = AI.long y' /\ 0 = AI.d y' /\ 0 = AI.s y' /\ 0 = AI.disp y' /\ 0 = AI.imm y' /\ 0 = AI.cc y' /\ 0 = n' /\ k = e' /\ cap = cap /\ (∀ (e : Nat), e < cap -> g e = g e) /\ True
def zP0 (g : Nat -> Int) (len cap : Nat) (y' : AI) (n' e' p c q : Int) (bad : Bool) : Prop :=
 BE.den (.ite (.var (decide (0 + cap <= cap))) (.var (decide (len <= cap))) (.lit false)) = true /\ ((∃ (g_1 : Nat -> Int), List.map Col.nrm (zY (NE.lit 0) [col8 g]) = [Col.int .u8 fun e => IE.var (g_1 e)]) /\ zAD g len cap q p /\ zEZ bad c) /\ ∀ (b : InR), zAv g len p c q b -> (InR.bad b = true -> zJp g cap y' n' e' 5) /\ (InR.bad b = false -> (BE.den (.cmp .eql (.var (AI.op (InR.y b))) (.lit 0)) = true -> zJp g cap y' n' e' 5) /\ (BE.den (.cmp .eql (.var (AI.op (InR.y b))) (.lit 0)) = false -> AI.op (InR.y b) = AI.op (InR.y b) /\ AI.wide (InR.y b) = AI.wide (InR.y b) /\ AI.long (InR.y b) = AI.long (InR.y b) /\ AI.d (InR.y b) = AI.d (InR.y b) /\ AI.s (InR.y b) = AI.s (InR.y b) /\ AI.disp (InR.y b) = AI.disp (InR.y b) /\ AI.imm (InR.y b) = AI.imm (InR.y b) /\ AI.cc (InR.y b) = AI.cc (InR.y b) /\ len = len /\ cap = cap /\ InR.pos b = InR.pos b /\ p = p /\ InR.bad b = InR.bad b /\ AI.op (InR.y b) = AI.op y' /\ AI.wide (InR.y b) = AI.wide y' /\ AI.long (InR.y b) = AI.long y' /\ AI.d (InR.y b) = AI.d y' /\ AI.s (InR.y b) = AI.s y' /\ AI.disp (InR.y b) = AI.disp y' /\ AI.imm (InR.y b) = AI.imm y' /\ AI.cc (InR.y b) = AI.cc y' /\ InR.pos b = n' /\ 0 = e' /\ cap = cap /\ (∀ (e : Nat), e < cap -> g e = g e) /\ True))
theorem zY7 (g : Nat -> Int) (len cap : Nat) (a : Int) (y' : AI) (n' e' : Int) : zH P R6 (fun _ => 40) Tryz.f74 [.sliceE true 0 1 (.lit 0) (.var len) (.var cap), .int .i64 (.var a)] [rdRow g cap] (zR5 g cap y' n' e') =
  ((BE.den (.cmp .lss (.var a) (.lit 0)) = true -> zJp g cap y' n' e' 1) /\ (BE.den (.cmp .lss (.var a) (.lit 0)) = false -> (BE.den (.cmp .gtr (.var a) (.var (↑len : Int))) = true -> zJp g cap y' n' e' 1) /\ (BE.den (.cmp .gtr (.var a) (.var (↑len : Int))) = false -> askA len cap /\ preP g len cap a 0 /\ (BE.den (.cmp .eql (.bits .and .u8 (.var (nxV g len a)) (.lit 240)) (.lit 64)) = true -> (nxB len a (false) = true -> askA len cap /\ preP g len cap (nxA len a) (pfI (nxV g len a)) /\ (nxB len (nxA len a) (true) = true -> zJp g cap y' n' e' 5) /\ (nxB len (nxA len a) (true) = false -> zP0 g len cap y' n' e' (pfI (nxV g len a)) (nxV g len (nxA len a)) (nxA len (nxA len a)) (nxB len (nxA len a) (true)))) /\ (nxB len a (false) = false -> (BE.den (.cmp .eql (.bits .and .u8 (.var (nxV g len a)) (.lit 15)) (.lit 0)) = true -> askA len cap /\ preP g len cap (nxA len a) (pfI (nxV g len a)) /\ (nxB len (nxA len a) (true) = true -> zJp g cap y' n' e' 5) /\ (nxB len (nxA len a) (true) = false -> zP0 g len cap y' n' e' (pfI (nxV g len a)) (nxV g len (nxA len a)) (nxA len (nxA len a)) (nxB len (nxA len a) (true)))) /\ (BE.den (.cmp .eql (.bits .and .u8 (.var (nxV g len a)) (.lit 15)) (.lit 0)) = false -> askA len cap /\ preP g len cap (nxA len a) (pfI (nxV g len a)) /\ (nxB len (nxA len a) (pfB (nxV g len a)) = true -> zJp g cap y' n' e' 5) /\ (nxB len (nxA len a) (pfB (nxV g len a)) = false -> zP0 g len cap y' n' e' (pfI (nxV g len a)) (nxV g len (nxA len a)) (nxA len (nxA len a)) (nxB len (nxA len a) (pfB (nxV g len a))))))) /\ (BE.den (.cmp .eql (.bits .and .u8 (.var (nxV g len a)) (.lit 240)) (.lit 64)) = false -> (nxB len a (false) = true -> zJp g cap y' n' e' 5) /\ (nxB len a (false) = false -> zP0 g len cap y' n' e' 0 (nxV g len a) (nxA len a) (nxB len a (false))))))) := by kernel_rfl
def zI : AI := ⟨0, false, false, 0, 0, 0, 0, 0⟩
def zIj (o : Option (AI × Nat)) : AI × Int × Int := match o with | some (y, e) => (y, (e : Int), 0) | none => (zI, 0, 5)
def zi (g : Nat -> Int) (len : Nat) (a : Int) : AI × Int × Int := if a < 0 ∨ (len : Int) < a then (zI, 0, 1) else zIj (zr g len a.toNat)
structure BGood (g : Nat -> Int) (len cap : Nat) : Prop where
 room : len <= cap
 small : len <= 4611686018427387904
 byte : ∀ i, i < len -> 0 <= g i /\ g i < 256
def zZX (z : AI × Int × Int) : SV := .tuple [ySV (Prod.fst z), .int .i64 (.var (Prod.fst (Prod.snd z))), .int .i64 (.var (Prod.snd (Prod.snd z)))]
def zME : Ins -> List SV -> Prop := fun ins pl => match ins, pl with
 | [(cs, len, cap)], [.int .i64 _] => (∃ g : Nat -> Int, cs = [.int .u8 fun e => .var (g e)]) /\ BGood (colG cs) len cap
 | _, _ => False
def zIi : Ins -> List SV -> List Out := fun ins pl => match ins, pl with
 | [(cs, len, _)], [.int .i64 a] => [.one (fun _ => zZX (zi (colG cs) len a.den)) [] []]
 | _, _ => []
theorem zR3 {ins : Ins} {pl : List SV} (h : zME ins pl) : ∃ (g : Nat -> Int) (len cap : Nat) (a : IE), ins = [([.int .u8 fun e => .var (g e)], len, cap)] /\ pl = [.int .i64 a] /\ BGood g len cap := by
 unfold zME at h
 split at h
 ·obtain ⟨⟨g, rfl⟩, h2⟩ := h
  exact ⟨g, _, _, _, rfl, rfl, h2⟩
 ·exact h.elim
theorem zOk {f : FuncId} {s : zl} (hs : zZ P f s)
  (h : ∀ (g : Nat -> Int) (len cap : Nat) (a : Int), BGood g len cap -> s [.sliceE true 0 1 (.lit 0) (.var len) (.var cap), .int .i64 (.var a)] [rdRow g cap] (zR5 g cap (Prod.fst (zi g len a)) (Prod.fst (Prod.snd (zi g len a))) (Prod.snd (Prod.snd (zi g len a))))) :
  zZ P f (zAK [.rows 1 zz1, .plain] zME zIi) := by
 refine zH5 hs (fun sz zs h => by simp at h; obtain ⟨rfl, rfl⟩ := h; rfl) ?_ ?_
 ·intro ins pl o ho
  unfold zIi at ho
  split at ho
  ·simp only [List.mem_singleton] at ho; subst ho
   exact ⟨zBU (by simp [zZX, ySV, SV.wf, SV.wfL]), rfl, by simp [SV.wfL]⟩
  ·simp at ho
 ·intro ins pl u hi hw hp
  obtain ⟨g, len, cap, a, rfl, rfl, hg⟩ := zR3 hp
  exact h g len cap a.den hg
theorem zDe (g : Nat -> Int) (cap : Nat) (k : Int) : zJp g cap zI 0 k k := ⟨rfl, rfl, rfl, rfl, rfl, rfl, rfl, rfl, rfl, rfl, rfl, fun _ _ => rfl, trivial⟩
theorem zJG {g : Nat -> Int} {len cap : Nat} {p c q : Int} {bad : Bool} (hg : zAD g len cap q p) (hb : bad = false) (h0 : 0 <= c) (h1 : c < 256) {z : AI × Int × Int} (hz : z = zIj (decC g len p c q.toNat)) :
  zP0 g len cap (Prod.fst z) (Prod.fst (Prod.snd z)) (Prod.snd (Prod.snd z)) p c q bad := by
 subst hz
 refine ⟨ask2 hg.room, ⟨⟨g, rfl⟩, hg, ⟨hb, h0, h1⟩⟩, fun b hp => ⟨fun h => ?_, fun h => ⟨fun h2 => ?_, fun h2 => ?_⟩⟩⟩
 ·rcases hp with ⟨_, hd⟩ | ⟨e, _, _, _⟩
  ·rw [hd]; exact zDe g cap 5
  ·rw [h] at e; cases e
 ·have h2 : b.y.op = 0 := by rw [zPe] at h2; simpa using h2
  rcases hp with ⟨_, hd⟩ | ⟨_, e, _, _⟩
  ·rw [hd]; exact zDe g cap 5
  ·exact absurd h2 e
 ·have h2 : ¬ b.y.op = 0 := by rw [zPe] at h2; simpa using h2
  rcases hp with ⟨e, _⟩ | ⟨_, _, e, hd⟩
  ·rcases e with e | e
   ·rw [h] at e; cases e
   ·exact absurd e h2
  ·rw [hd]
   refine ⟨rfl, rfl, rfl, rfl, rfl, rfl, rfl, rfl, rfl, rfl, rfl, rfl, rfl, rfl, rfl, rfl, rfl, rfl, rfl, rfl, rfl, ?_, rfl, rfl, fun _ _ => rfl, trivial⟩
   show b.pos = ((b.pos.toNat : Nat) : Int)
   omega
theorem zQm {x : Int} (h0 : 0 <= x) (h1 : x < 256) : pfI x = x % 16 := by unfold pfI; simp only [IE.den]; exact zW8 h0 h1
theorem zYE {x : Int} (h0 : 0 <= x) (h1 : x < 256) : pfB x = decide (x / 2 % 2 = 1) := by
 have : ∀ n : Fin 256, pfB ((n.val : Nat) : Int) = decide (((n.val : Nat) : Int) / 2 % 2 = 1) := by decide +kernel
 have h := this ⟨x.toNat, by omega⟩
 simpa [Int.toNat_of_nonneg h0] using h
theorem c_15 {x : Int} (h0 : 0 <= x) (h1 : x < 256) (n : Int) : BE.den (.cmp .eql (.bits .and .u8 (.var x) (.lit 15)) (.lit n)) = decide (x % 16 = n) := by
 simp only [BE.den, IE.den, za]; rw [zW8 h0 h1]
theorem zRz : zZ P 74 (zAK [.rows 1 zz1, .plain] zME zIi) := by
 have hs := zN (un := fun _ => 40) zbb Tryz.func74
 refine zOk hs ?_
 intro g len cap a hb
 rw [zY7]
 refine ⟨fun h => ?_, fun h => ⟨fun h2 => ?_, fun h2 => ?_⟩⟩
 ·have h : a < 0 := by simpa [BE.den, IE.den, zQ] using h
  have e : zi g len a = (zI, 0, 1) := by unfold zi; rw [if_pos (.inl h)]
  rw [e]; exact zDe g cap 1
 ·have h : ¬ a < 0 := by simpa [BE.den, IE.den, zQ] using h
  have h2 : (len : Int) < a := by simpa [BE.den, IE.den, zAS] using h2
  have e : zi g len a = (zI, 0, 1) := by unfold zi; rw [if_pos (.inr h2)]
  rw [e]; exact zDe g cap 1
 have h : ¬ a < 0 := by simpa [BE.den, IE.den, zQ] using h
 have h2 : ¬ (len : Int) < a := by simpa [BE.den, IE.den, zAS] using h2
 have e : zi g len a = zIj (zr g len a.toNat) := by unfold zi; rw [if_neg (by omega)]
 rw [e]
 have hg0 : zAD g len cap a 0 := ⟨hb.room, hb.small, by omega, by omega, by decide, by decide, hb.byte⟩
 have hx := hg0.nx
 have A : askA len cap := ask2 hb.room
 refine ⟨A, preG hg0, fun k => ?_, fun k => ?_⟩
 ·rw [zTw hx.1 hx.2] at k
  have k : nxV g len a / 16 * 16 = 64 := by simpa using k
  have ha : a < len := by
   refine Classical.byContradiction fun hn => ?_
   unfold nxV at k; rw [if_neg hn] at k; omega
  rw [zGu ha, zA7 ha]
  have hv := zD8 (g := g) ha
  have hp0 : 0 <= pfI (nxV g len a) := by rw [zQm hx.1 hx.2]; omega
  have hp1 : pfI (nxV g len a) < 16 := by rw [zQm hx.1 hx.2]; omega
  have hg1 : zAD g len cap (a + 1) (pfI (nxV g len a)) := ⟨hb.room, hb.small, by omega, by omega, hp0, hp1, hb.byte⟩
  rw [c_15 hx.1 hx.2, zYE hx.1 hx.2]
  refine ⟨fun h => (by cases h), fun _ => ⟨fun k2 => ?_, fun k2 => ?_⟩⟩
  ·have k2 : nxV g len a % 16 = 0 := by simpa using k2
   have e : zr g len a.toNat = none := by
    unfold zr
    rw [if_neg (by omega), if_pos (by rw [hv] at k; omega), if_pos (.inl (by rw [hv] at k2; exact k2))]
   rw [e]
   exact ⟨A, preG hg1, fun _ => zDe g cap 5, fun h => absurd h (by rw [zB9]; simp)⟩
  ·have k2 : ¬ nxV g len a % 16 = 0 := by simpa using k2
   refine ⟨A, preG hg1, fun k3 => ?_, fun k3 => ?_⟩
   ·have e : zr g len a.toNat = none := by
     have : nxV g len a / 2 % 2 = 1 ∨ (len : Int) <= a + 1 := by simpa [nxB] using k3
     unfold zr
     rw [if_neg (by omega), if_pos (by rw [hv] at k; omega), if_pos (by rw [hv] at this; omega)]
    rw [e]; exact zDe g cap 5
   ·have k4 : ¬ nxV g len a / 2 % 2 = 1 /\ ¬ (len : Int) <= a + 1 := by
     have := k3
     simp only [nxB, Bool.or_eq_false_iff, decide_eq_false_iff_not] at this
     exact this
    have h1 : a + 1 < len := by omega
    have hx1 := hg1.nx
    refine zJG hg1.next k3 hx1.1 hx1.2 ?_
    have e : zr g len a.toNat = decC g len (g a.toNat % 16) (g (a.toNat + 1)) (a.toNat + 2) := by
     rw [hv] at k k2 k4
     unfold zr
     rw [if_neg (by omega), if_pos (by omega), if_neg (by omega)]
    rw [e, zA7 h1, zD8 h1, zQm hx.1 hx.2, hv, show (a + 1).toNat = a.toNat + 1 by omega, show (a + 1 + 1).toNat = a.toNat + 2 by omega]
 ·rw [zTw hx.1 hx.2] at k
  have k : ¬ nxV g len a / 16 * 16 = 64 := by simpa using k
  refine ⟨fun k2 => ?_, fun k2 => ?_⟩
  ·have k2 : (len : Int) <= a := by simpa [nxB] using k2
   have e : zr g len a.toNat = none := by unfold zr; rw [if_pos (by omega)]
   rw [e]; exact zDe g cap 5
  ·have ha : a < len := by
    have : ¬ (len : Int) <= a := by simpa [nxB] using k2
    omega
   refine zJG hg0.next k2 hx.1 hx.2 ?_
   have hv := zD8 (g := g) ha
   have e : zr g len a.toNat = decC g len 0 (g a.toNat) (a.toNat + 1) := by
    rw [hv] at k
    unfold zr
    rw [if_neg (by omega), if_neg (by omega)]
   rw [e, zA7 ha, hv, show (a + 1).toNat = a.toNat + 1 by omega]
def xArg (op : IE) (wide : Bool) (long : BE) (d s disp imm cc : Int) : SV := .agg [.int .i64 op, .bool (.var wide), .bool long, .int .i64 (.var d), .int .i64 (.var s), .int .i64 (.var disp), .int .i64 (.var imm), .int .i64 (.var cc)]
def zGf (O : Nat × (Nat -> Int) -> Prop) (E : Prop) (m : Nat) (er : Int) : List Out :=
 [.any (Nat × (Nat -> Int)) O (fun c n => .tuple [.sliceE false n 1 (.lit 0) (.var m) (.var c.1), .int .i64 (.lit 0)]) (fun c => [.row true false [.int .u8 fun e => .var (c.2 e)] (.var c.1)]) (fun _ => []),
  .any Unit (fun _ => E) (fun _ _ => .tuple [.nils, .int .i64 (.var er)]) (fun _ => []) fun _ => []]
def encQ (O : Nat × (Nat -> Int) -> Prop) (E : Prop) (m : Nat) (er : Int) : SV -> List SObj -> Prop :=
 fun v hp => zVg v hp fun v hp => zFH (zGf O E m er) fun o => o.some 0 fun val new _ => zA8 0 1 { tmps := [v], hp := hp } [(0, val)] ([] ++ new)
def zR (O : Nat × (Nat -> Int) -> Prop) (E : Prop) (m : Nat) (cells : List SV) : Prop :=
 ∀ (cap : Nat) (U : Nat -> Int), cells.length <= cap -> cap <= 9223372036854775807 -> (∃ b, O b /\ cells.length = m /\ cap = Prod.fst b /\ cap = Prod.fst b /\ (∀ (e : Nat), e < Prod.fst b -> IE.den (zG5 cells U e) = Prod.snd b e) /\ True) ∨ ∃ (b : Unit), E /\ zF 65
def zBD (O : Nat × (Nat -> Int) -> Prop) (E : Prop) (er e : Int) : Prop := (∃ b, O b /\ zF 65) ∨ ∃ (b : Unit), E /\ e = er /\ True
structure EncO (x : AI) (c : Nat × (Nat -> Int)) : Prop where
 err : zM x = 0
 len : (zD x).length <= c.1
 cap : c.1 <= 9223372036854775807
 cell : ∀ e, e < (zD x).length -> c.2 e = (zD x).getD e 0
def zBb : SV -> Int
 | .int _ e => e.den
 | _ => 0
def intB : SV -> Bool
 | .int _ _ => true
 | _ => false
theorem zWo {cells : List SV} {U : Nat -> Int} {e : Nat} (h : e < cells.length) (hk : cells.all intB = true) : (zG5 cells U e).den = (cells.map zBb).getD e 0 := by
 have hx : cells[e]? = some cells[e] := List.getElem?_eq_getElem h
 have hi : intB cells[e] = true := List.all_eq_true.1 hk _ (List.getElem_mem h)
 unfold zG5
 rw [List.getD_eq_getElem?_getD, List.getElem?_map, hx]
 cases hc : cells[e] <;> rw [hc] at hi <;> first | rfl | simp [intB] at hi
theorem zDM {x : AI} {e : Int} (h : e = zM x) (h0 : e ≠ 0) : zBD (EncO x) (zM x ≠ 0) (zM x) e := .inr ⟨(), by rw [<- h]; exact h0, h, trivial⟩
theorem zh {x : AI} {cells : List SV} {E : Prop} (he : zM x = 0) (hB : zD x = cells.map zBb) (hk : cells.all intB = true) : zR (EncO x) E (zD x).length cells := by
 intro cap U h1 h2
 have hl : (zD x).length = cells.length := by rw [hB, List.length_map]
 refine .inl ⟨(cap, fun e => (zG5 cells U e).den), ⟨he, by rw [hl]; exact h1, h2, fun e h => ?_⟩, hl.symm, rfl, rfl, fun _ _ => rfl, trivial⟩
 rw [hB]; exact zWo (by omega) hk
theorem d_ne (x : Int) : BE.den (.cmp .neq (.var x) (.lit 0)) = !decide (x = 0) := by simp only [BE.den, IE.den, zAd]
theorem zPc (x n : Int) : BE.den (.cmp .lss (.var x) (.lit n)) = decide (x < n) := by simp only [BE.den, IE.den, zQ]
theorem zZY (x n : Int) : BE.den (.cmp .gtr (.var x) (.lit n)) = decide (n < x) := by simp only [BE.den, IE.den, zAS]
theorem zTr (x n : Int) : BE.den (.cmp .eql (.var x) (.lit n)) = decide (x = n) := by simp only [BE.den, IE.den, za]
def xIn (x : AI) : SV := xArg (.var x.op) x.wide (.var x.long) x.d x.s x.disp x.imm x.cc
def zMA : Ins -> List SV -> Prop := fun ins pl => match ins, pl with
 | [], [.agg [.int .i64 _, .bool _, .bool _, .int .i64 _, .int .i64 _, .int .i64 _, .int .i64 _, .int .i64 _]] => True
 | _, _ => False
def zF2 : Ins -> List SV -> List Out := fun ins pl => match ins, pl with
 | [], [.agg [.int .i64 op, .bool w, .bool l, .int .i64 d, .int .i64 s, .int .i64 dp, .int .i64 im, .int .i64 cc]] =>
  zGf (EncO ⟨op.den, w.den, l.den, d.den, s.den, dp.den, im.den, cc.den⟩) (zM ⟨op.den, w.den, l.den, d.den, s.den, dp.den, im.den, cc.den⟩ ≠ 0) (zD ⟨op.den, w.den, l.den, d.den, s.den, dp.den, im.den, cc.den⟩).length (zM ⟨op.den, w.den, l.den, d.den, s.den, dp.den, im.den, cc.den⟩)
 | _, _ => []
theorem zRx {ins : Ins} {pl : List SV} (h : zMA ins pl) : ∃ (op : IE) (w l : BE) (d s dp im cc : IE), ins = [] /\ pl = [.agg [.int .i64 op, .bool w, .bool l, .int .i64 d, .int .i64 s, .int .i64 dp, .int .i64 im, .int .i64 cc]] := by
 unfold zMA at h
 split at h
 ·exact ⟨_, _, _, _, _, _, _, _, rfl, rfl⟩
 ·exact h.elim
theorem zMB (O : Nat × (Nat -> Int) -> Prop) (E : Prop) (m : Nat) (er : Int) : ∀ o ∈ zGf O E m er, o.good := by
 intro o ho
 unfold zGf at ho
 simp only [List.mem_cons, List.not_mem_nil, or_false] at ho
 rcases ho with rfl | rfl
 ·intro c
  refine ⟨⟨fun n m ν ν' h => ?_, fun n p h => ?_⟩, rfl, trivial⟩
  ·have := h 0 (by simp)
   simp only [Nat.add_zero] at this
   simp [SV.den, SV.denL, this]
  ·exact ⟨h 0 (by simp), trivial, trivial⟩
 ·intro c
  exact ⟨⟨fun n m ν ν' h => rfl, fun n p h => ⟨trivial, trivial, trivial⟩⟩, rfl, trivial⟩
theorem zTq {f : FuncId} {s : zl} (hs : zZ P f s)
  (h : ∀ x : AI, s [xIn x] [] (fun v hp => zFH (zGf (EncO x) (zM x ≠ 0) (zD x).length (zM x)) fun o => o.some 0 fun val new _ => zA8 0 1 { tmps := [v], hp := hp } [(0, val)] ([] ++ new))) :
  zZ P f (zAK [.plain] zMA zF2) := by
 refine zH5 hs (fun sz zs h => by simp at h) ?_ ?_
 ·intro ins pl o ho
  unfold zF2 at ho
  split at ho
  ·exact zMB _ _ _ _ o ho
  ·simp at ho
 ·intro ins pl u hi hw hp
  obtain ⟨op, w, l, d, s, dp, im, cc, rfl, rfl⟩ := zRx hp
  exact h ⟨op.den, w.den, l.den, d.den, s.den, dp.den, im.den, cc.den⟩
theorem zTN {s : zl} {args args' : List SV} {x : AI} (e : ∀ ν, SV.denL ν args' = SV.denL ν args) (hw : ∀ n, SV.wfL n args') (h : s args' [] (encQ (EncO x) (zM x ≠ 0) (zD x).length (zM x))) :
  zYM (retS s) args [] (fun v hp => zFH (zGf (EncO x) (zM x ≠ 0) (zD x).length (zM x)) fun o => o.some 0 fun val new _ => zA8 0 1 { tmps := [v], hp := hp } [(0, val)] ([] ++ new)) :=
 ⟨args', e, fun _ => hw _, h⟩
theorem zUj (op : IE) (w : Bool) (l : BE) (d s dp im cc : Int) (n : Nat -> Prop) : SV.wfL n [xArg op w l d s dp im cc] := ⟨⟨trivial, trivial, trivial, trivial, trivial, trivial, trivial, trivial, trivial⟩, trivial⟩
abbrev encM : zl := zAK [.plain] zMA zF2
abbrev encG : zEz := zBn [.plain] zF2
theorem zAn {f : FuncId} {s : zl} {g : zEz} (h : zZ P f s) : zNN P f (.spec s g) := h
abbrev decM : zl := zAK [.rows 1 zz1, .plain] zME zIi
abbrev decG : zEz := zBn [.rows 1 zz1, .plain] zIi
def livF : zBN := fun args => match args with
 | [] => some (none, .bool (.lit true))
 | _ => none
def annA (α : Type) (slots : α -> List (Nat × SV)) (hp : α -> List SObj) (inv : α -> Prop) (μ : α -> Nat) : Plan :=
 .said ⟨α, slots, hp, inv, μ, 999999, Unit, fun _ => [], fun _ => [], fun _ => False⟩
def slA (i len cap : Nat) : SV := .sliceE true i 1 (.lit 0) (.var len) (.var cap)
def yes : SV -> Prop := fun v => ∀ ν, v.den ν = .bool true
theorem zPh {i k : Nat} (h : i < k) : Nat.blt i k = true := by simp [Nat.blt, Nat.ble_eq]; omega
theorem zSF {i k : Nat} (h : k <= i) : Nat.blt i k = false := by
 cases hb : Nat.blt i k with
 | false => rfl
 | true => simp [Nat.blt, Nat.ble_eq] at hb; omega
theorem zNr {g : Nat -> Int} : ∀ {l : List Int} {i : Nat}, (∀ e, e < l.length -> g (i + e) = l.getD e 0) -> zu g i l
 | [], _, _ => trivial
 | c :: l, i, h => ⟨by have := h 0 (by simp); simpa using this, zNr fun e he => by
   have := h (e + 1) (by simp; omega)
   rw [show i + 1 + e = i + (e + 1) by omega, this]; rfl⟩
theorem zLV {g : Nat -> Int} : ∀ {l : List Int} {i : Nat}, zu g i l -> ∀ e, e < l.length -> g (i + e) = l.getD e 0
 | [], _, _, e, he => by simp at he
 | c :: l, i, h, 0, _ => by simpa using h.1
 | c :: l, i, h, e + 1, he => by
  have := zLV h.2 e (by simpa using he)
  rw [show i + (e + 1) = i + 1 + e by omega, this]; rfl
theorem zI5 {x y : Int} (h : x = y) {p : Prop} (hn : BE.den (.cmp .neq (.var x) (.var y)) = true) : p := by
 simp [BE.den, IE.den, zAd, h] at hn
theorem zat {A B : ByteArray} (h : A = B) {p : Prop} (hn : (!ByteArray.toList A == ByteArray.toList B) = true) : p := by
 subst h; simp at hn
theorem zDi {f : FuncId} {G : FuncId -> Option Cal} {fn : Func} (h : ∀ un, zZ P f (zH P G un fn)) : zZ P f (fun args hp K => ∃ un, zH P G un fn args hp K) := by
 intro B ν hp w args K h1 h2 h3 ⟨un, hx⟩
 exact h un B ν hp w args K h1 h2 h3 hx
theorem zAw {n e : Nat} {X Y Z : IE} {x : Int} (h1 : e < n -> Z.den = x) (h2 : e = n -> X.den = x) (h3 : n < e -> Y.den = x) : IE.den (Bool.rec (motive := fun _ => IE) (bif Nat.blt e (n + (0 + 1)) then X else Y) Z (Nat.blt e n)) = x := by
 by_cases h : e < n
 ·rw [zPh h]; exact h1 h
 ·have hb : Nat.blt e n = false := zSF (by omega)
  rw [hb]
  by_cases h' : e = n
  ·rw [zPh (show e < n + (0 + 1) by omega)]; exact h2 h'
  ·rw [zSF (show n + (0 + 1) <= e by omega)]; exact h3 (by omega)
theorem zK2 {n e : Nat} {X Y Z : BE} {x : Bool} (h1 : e < n -> Z.den = x) (h2 : e = n -> X.den = x) (h3 : n < e -> Y.den = x) : BE.den (Bool.rec (motive := fun _ => BE) (bif Nat.blt e (n + (0 + 1)) then X else Y) Z (Nat.blt e n)) = x := by
 by_cases h : e < n
 ·rw [zPh h]; exact h1 h
 ·have hb : Nat.blt e n = false := zSF (by omega)
  rw [hb]
  by_cases h' : e = n
  ·rw [zPh (show e < n + (0 + 1) by omega)]; exact h2 h'
  ·rw [zSF (show n + (0 + 1) <= e by omega)]; exact h3 (by omega)
theorem zNF {g : Nat -> Int} {len i e : Nat} {y : AI} (hb : ∀ k, k < len -> 0 <= g k /\ g k < 256) (h : zr g len i = some (y, e)) : i < e /\ e <= len := by
 obtain ⟨e1, e2, e3, e4, e5⟩ := zGe hb h
 have := zSE e2
 omega
end Go.Proofs.YtajcmjjgnbaahaaGreat.Amd
