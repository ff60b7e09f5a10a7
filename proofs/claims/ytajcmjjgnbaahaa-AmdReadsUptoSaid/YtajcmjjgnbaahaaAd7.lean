/- Decode: its contract. -/
import Derived.Test.YtajcmjjgnbaahaaAd6
namespace Go.Proofs.Ytajcmjjgnbaahaa.Amd
open Go Go.Proofs.Ytajcmjjgnbaahaa.Sx Go.RowKit
set_option linter.unusedVariables false
set_option linter.unusedSimpArgs false

def pfI (x : Int) : Int := IE.den (IE.bits BinOp.and IntKind.u8 (IE.var x) (IE.lit 15))
def pfB (x : Int) : Bool := BE.den (BE.cmp BinOp.neq (IE.bits BinOp.and IntKind.u8 (IE.bits BinOp.and IntKind.u8 (IE.var x) (IE.lit 15)) (IE.lit 2)) (IE.lit 0))
def zLeaf (g : Nat → Int) (cap : Nat) (y' : AI) (n' e' k : Int) : Prop :=
  0 = AI.op y' ∧ false = AI.wide y' ∧ false = AI.long y' ∧ 0 = AI.d y' ∧ 0 = AI.s y' ∧ 0 = AI.disp y' ∧ 0 = AI.imm y' ∧ 0 = AI.cc y' ∧ 0 = n' ∧ k = e' ∧ cap = cap ∧ (∀ (e : Nat), e < cap → g e = g e) ∧ True
def tailD (g : Nat → Int) (len cap : Nat) (y' : AI) (n' e' p c q : Int) (bad : Bool) : Prop :=
  BE.den (BE.ite (BE.var (decide (0 + cap ≤ cap))) (BE.var (decide (len ≤ cap))) (BE.lit false)) = true ∧ ((∃ (g_1 : Nat → Int), List.map Col.nrm (shiftAll (NE.lit 0) [col8 g]) = [Col.int IntKind.u8 fun e ↦ IE.var (g_1 e)]) ∧ RGood g len cap q p ∧ CodeOk bad c) ∧ ∀ (b : InR), insPost g len p c q b → (InR.bad b = true → zLeaf g cap y' n' e' 5) ∧ (InR.bad b = false → (BE.den (BE.cmp BinOp.eql (IE.var (AI.op (InR.y b))) (IE.lit 0)) = true → zLeaf g cap y' n' e' 5) ∧ (BE.den (BE.cmp BinOp.eql (IE.var (AI.op (InR.y b))) (IE.lit 0)) = false → AI.op (InR.y b) = AI.op (InR.y b) ∧ AI.wide (InR.y b) = AI.wide (InR.y b) ∧ AI.long (InR.y b) = AI.long (InR.y b) ∧ AI.d (InR.y b) = AI.d (InR.y b) ∧ AI.s (InR.y b) = AI.s (InR.y b) ∧ AI.disp (InR.y b) = AI.disp (InR.y b) ∧ AI.imm (InR.y b) = AI.imm (InR.y b) ∧ AI.cc (InR.y b) = AI.cc (InR.y b) ∧ len = len ∧ cap = cap ∧ InR.pos b = InR.pos b ∧ p = p ∧ InR.bad b = InR.bad b ∧ AI.op (InR.y b) = AI.op y' ∧ AI.wide (InR.y b) = AI.wide y' ∧ AI.long (InR.y b) = AI.long y' ∧ AI.d (InR.y b) = AI.d y' ∧ AI.s (InR.y b) = AI.s y' ∧ AI.disp (InR.y b) = AI.disp y' ∧ AI.imm (InR.y b) = AI.imm y' ∧ AI.cc (InR.y b) = AI.cc y' ∧ InR.pos b = n' ∧ 0 = e' ∧ cap = cap ∧ (∀ (e : Nat), e < cap → g e = g e) ∧ True))
theorem dec_nf (g : Nat → Int) (len cap : Nat) (a : Int) (y' : AI) (n' e' : Int) : sxFunc P R6 (fun _ => 40) Try.f11 [.sliceE true 0 1 (.lit 0) (.var len) (.var cap), .int .i64 (.var a)] [rdRow g cap] (decEnd g cap y' n' e') =
    ((BE.den (BE.cmp BinOp.lss (IE.var a) (IE.lit 0)) = true → zLeaf g cap y' n' e' 1) ∧ (BE.den (BE.cmp BinOp.lss (IE.var a) (IE.lit 0)) = false → (BE.den (BE.cmp BinOp.gtr (IE.var a) (IE.var (↑len : Int))) = true → zLeaf g cap y' n' e' 1) ∧ (BE.den (BE.cmp BinOp.gtr (IE.var a) (IE.var (↑len : Int))) = false → askA len cap ∧ preP g len cap a 0 ∧ (BE.den (BE.cmp BinOp.eql (IE.bits BinOp.and IntKind.u8 (IE.var (nxV g len a)) (IE.lit 240)) (IE.lit 64)) = true → (nxB len a (false) = true → askA len cap ∧ preP g len cap (nxA len a) (pfI (nxV g len a)) ∧ (nxB len (nxA len a) (true) = true → zLeaf g cap y' n' e' 5) ∧ (nxB len (nxA len a) (true) = false → tailD g len cap y' n' e' (pfI (nxV g len a)) (nxV g len (nxA len a)) (nxA len (nxA len a)) (nxB len (nxA len a) (true)))) ∧ (nxB len a (false) = false → (BE.den (BE.cmp BinOp.eql (IE.bits BinOp.and IntKind.u8 (IE.var (nxV g len a)) (IE.lit 15)) (IE.lit 0)) = true → askA len cap ∧ preP g len cap (nxA len a) (pfI (nxV g len a)) ∧ (nxB len (nxA len a) (true) = true → zLeaf g cap y' n' e' 5) ∧ (nxB len (nxA len a) (true) = false → tailD g len cap y' n' e' (pfI (nxV g len a)) (nxV g len (nxA len a)) (nxA len (nxA len a)) (nxB len (nxA len a) (true)))) ∧ (BE.den (BE.cmp BinOp.eql (IE.bits BinOp.and IntKind.u8 (IE.var (nxV g len a)) (IE.lit 15)) (IE.lit 0)) = false → askA len cap ∧ preP g len cap (nxA len a) (pfI (nxV g len a)) ∧ (nxB len (nxA len a) (pfB (nxV g len a)) = true → zLeaf g cap y' n' e' 5) ∧ (nxB len (nxA len a) (pfB (nxV g len a)) = false → tailD g len cap y' n' e' (pfI (nxV g len a)) (nxV g len (nxA len a)) (nxA len (nxA len a)) (nxB len (nxA len a) (pfB (nxV g len a))))))) ∧ (BE.den (BE.cmp BinOp.eql (IE.bits BinOp.and IntKind.u8 (IE.var (nxV g len a)) (IE.lit 240)) (IE.lit 64)) = false → (nxB len a (false) = true → zLeaf g cap y' n' e' 5) ∧ (nxB len a (false) = false → tailD g len cap y' n' e' 0 (nxV g len a) (nxA len a) (nxB len a (false))))))) := by kernel_rfl

def zI : AI := ⟨0, false, false, 0, 0, 0, 0, 0⟩
/-- What Decode answers. -/
def decOf (o : Option (AI × Nat)) : AI × Int × Int := match o with | some (y, e) => (y, (e : Int), 0) | none => (zI, 0, 5)
def decOut (g : Nat → Int) (len : Nat) (a : Int) : AI × Int × Int := if a < 0 ∨ (len : Int) < a then (zI, 0, 1) else decOf (amdDec g len a.toNat)
structure BGood (g : Nat → Int) (len cap : Nat) : Prop where
  room : len ≤ cap
  small : len ≤ 4611686018427387904
  byte : ∀ i, i < len → 0 ≤ g i ∧ g i < 256
def decSV (z : AI × Int × Int) : SV := .tuple [ySV (Prod.fst z), .int .i64 (.var (Prod.fst (Prod.snd z))), .int .i64 (.var (Prod.snd (Prod.snd z)))]
def decPre : Ins → List SV → Prop := fun ins pl => match ins, pl with
  | [(cs, len, cap)], [.int .i64 _] => (∃ g : Nat → Int, cs = [.int .u8 fun e => .var (g e)]) ∧ BGood (colG cs) len cap
  | _, _ => False
def decOuts : Ins → List SV → List Out := fun ins pl => match ins, pl with
  | [(cs, len, _)], [.int .i64 a] => [.one (fun _ => decSV (decOut (colG cs) len a.den)) [] []]
  | _, _ => []
theorem decPre_of {ins : Ins} {pl : List SV} (h : decPre ins pl) : ∃ (g : Nat → Int) (len cap : Nat) (a : IE), ins = [([.int .u8 fun e => .var (g e)], len, cap)] ∧ pl = [.int .i64 a] ∧ BGood g len cap := by
  unfold decPre at h
  split at h
  · obtain ⟨⟨g, rfl⟩, h2⟩ := h
    exact ⟨g, _, _, _, rfl, rfl, h2⟩
  · exact h.elim
theorem dec_spec {f : FuncId} {s : SpecFn} (hs : SpecOk P f s)
    (h : ∀ (g : Nat → Int) (len cap : Nat) (a : Int), BGood g len cap → s [.sliceE true 0 1 (.lit 0) (.var len) (.var cap), .int .i64 (.var a)] [rdRow g cap] (decEnd g cap (Prod.fst (decOut g len a)) (Prod.fst (Prod.snd (decOut g len a))) (Prod.snd (Prod.snd (decOut g len a))))) :
    SpecOk P f (rdSpec [.rows 1 zz1, .plain] decPre decOuts) := by
  refine rd_ok hs (fun sz zs h => by simp at h; obtain ⟨rfl, rfl⟩ := h; rfl) ?_ ?_
  · intro ins pl o ho
    unfold decOuts at ho
    split at ho
    · simp only [List.mem_singleton] at ho; subst ho
      exact ⟨movable_closed (by simp [decSV, ySV, SV.wf, SV.wfL]), rfl, by simp [SV.wfL]⟩
    · simp at ho
  · intro ins pl u hi hw hp
    obtain ⟨g, len, cap, a, rfl, rfl, hg⟩ := decPre_of hp
    exact h g len cap a.den hg

theorem zLeaf_of (g : Nat → Int) (cap : Nat) (k : Int) : zLeaf g cap zI 0 k k := ⟨rfl, rfl, rfl, rfl, rfl, rfl, rfl, rfl, rfl, rfl, rfl, fun _ _ => rfl, trivial⟩
theorem tail_holds {g : Nat → Int} {len cap : Nat} {p c q : Int} {bad : Bool} (hg : RGood g len cap q p) (hb : bad = false) (h0 : 0 ≤ c) (h1 : c < 256) {z : AI × Int × Int} (hz : z = decOf (decC g len p c q.toNat)) :
    tailD g len cap (Prod.fst z) (Prod.fst (Prod.snd z)) (Prod.snd (Prod.snd z)) p c q bad := by
  subst hz
  refine ⟨ask2 hg.room, ⟨⟨g, rfl⟩, hg, ⟨hb, h0, h1⟩⟩, fun b hp => ⟨fun h => ?_, fun h => ⟨fun h2 => ?_, fun h2 => ?_⟩⟩⟩
  · rcases hp with ⟨_, hd⟩ | ⟨e, _, _, _⟩
    · rw [hd]; exact zLeaf_of g cap 5
    · rw [h] at e; cases e
  · have h2 : b.y.op = 0 := by rw [c_eql] at h2; simpa using h2
    rcases hp with ⟨_, hd⟩ | ⟨_, e, _, _⟩
    · rw [hd]; exact zLeaf_of g cap 5
    · exact absurd h2 e
  · have h2 : ¬ b.y.op = 0 := by rw [c_eql] at h2; simpa using h2
    rcases hp with ⟨e, _⟩ | ⟨_, _, e, hd⟩
    · rcases e with e | e
      · rw [h] at e; cases e
      · exact absurd e h2
    · rw [hd]
      refine ⟨rfl, rfl, rfl, rfl, rfl, rfl, rfl, rfl, rfl, rfl, rfl, rfl, rfl, rfl, rfl, rfl, rfl, rfl, rfl, rfl, rfl, ?_, rfl, rfl, fun _ _ => rfl, trivial⟩
      show b.pos = ((b.pos.toNat : Nat) : Int)
      omega
theorem pfI_eq {x : Int} (h0 : 0 ≤ x) (h1 : x < 256) : pfI x = x % 16 := by unfold pfI; simp only [IE.den]; exact and15 h0 h1
theorem pfB_eq {x : Int} (h0 : 0 ≤ x) (h1 : x < 256) : pfB x = decide (x / 2 % 2 = 1) := by
  have : ∀ n : Fin 256, pfB ((n.val : Nat) : Int) = decide (((n.val : Nat) : Int) / 2 % 2 = 1) := by decide +kernel
  have h := this ⟨x.toNat, by omega⟩
  simpa [Int.toNat_of_nonneg h0] using h
theorem c_15 {x : Int} (h0 : 0 ≤ x) (h1 : x < 256) (n : Int) : BE.den (BE.cmp BinOp.eql (IE.bits BinOp.and IntKind.u8 (IE.var x) (IE.lit 15)) (IE.lit n)) = decide (x % 16 = n) := by
  simp only [BE.den, IE.den, cmpI_eql]; rw [and15 h0 h1]

theorem decode_ok : SpecOk P 11 (rdSpec [.rows 1 zz1, .plain] decPre decOuts) := by
  have hs := func_sound (un := fun _ => 40) R6_ok Try.func11
  refine dec_spec hs ?_
  intro g len cap a hb
  rw [dec_nf]
  refine ⟨fun h => ?_, fun h => ⟨fun h2 => ?_, fun h2 => ?_⟩⟩
  · have h : a < 0 := by simpa [BE.den, IE.den, cmpI_lss] using h
    have e : decOut g len a = (zI, 0, 1) := by unfold decOut; rw [if_pos (.inl h)]
    rw [e]; exact zLeaf_of g cap 1
  · have h : ¬ a < 0 := by simpa [BE.den, IE.den, cmpI_lss] using h
    have h2 : (len : Int) < a := by simpa [BE.den, IE.den, cmpI_gtr] using h2
    have e : decOut g len a = (zI, 0, 1) := by unfold decOut; rw [if_pos (.inr h2)]
    rw [e]; exact zLeaf_of g cap 1
  have h : ¬ a < 0 := by simpa [BE.den, IE.den, cmpI_lss] using h
  have h2 : ¬ (len : Int) < a := by simpa [BE.den, IE.den, cmpI_gtr] using h2
  have e : decOut g len a = decOf (amdDec g len a.toNat) := by unfold decOut; rw [if_neg (by omega)]
  rw [e]
  have hg0 : RGood g len cap a 0 := ⟨hb.room, hb.small, by omega, by omega, by decide, by decide, hb.byte⟩
  have hx := hg0.nx
  have A : askA len cap := ask2 hb.room
  refine ⟨A, preG hg0, fun k => ?_, fun k => ?_⟩
  · rw [c_240 hx.1 hx.2] at k
    have k : nxV g len a / 16 * 16 = 64 := by simpa using k
    have ha : a < len := by
      refine Classical.byContradiction fun hn => ?_
      unfold nxV at k; rw [if_neg hn] at k; omega
    rw [nxB_in ha, nxA_in ha]
    have hv := nx_in (g := g) ha
    have hp0 : 0 ≤ pfI (nxV g len a) := by rw [pfI_eq hx.1 hx.2]; omega
    have hp1 : pfI (nxV g len a) < 16 := by rw [pfI_eq hx.1 hx.2]; omega
    have hg1 : RGood g len cap (a + 1) (pfI (nxV g len a)) := ⟨hb.room, hb.small, by omega, by omega, hp0, hp1, hb.byte⟩
    rw [c_15 hx.1 hx.2, pfB_eq hx.1 hx.2]
    refine ⟨fun h => (by cases h), fun _ => ⟨fun k2 => ?_, fun k2 => ?_⟩⟩
    · have k2 : nxV g len a % 16 = 0 := by simpa using k2
      have e : amdDec g len a.toNat = none := by
        unfold amdDec
        rw [if_neg (by omega), if_pos (by rw [hv] at k; omega), if_pos (.inl (by rw [hv] at k2; exact k2))]
      rw [e]
      exact ⟨A, preG hg1, fun _ => zLeaf_of g cap 5, fun h => absurd h (by rw [nxB_true]; simp)⟩
    · have k2 : ¬ nxV g len a % 16 = 0 := by simpa using k2
      refine ⟨A, preG hg1, fun k3 => ?_, fun k3 => ?_⟩
      · have e : amdDec g len a.toNat = none := by
          have : nxV g len a / 2 % 2 = 1 ∨ (len : Int) ≤ a + 1 := by simpa [nxB] using k3
          unfold amdDec
          rw [if_neg (by omega), if_pos (by rw [hv] at k; omega), if_pos (by rw [hv] at this; omega)]
        rw [e]; exact zLeaf_of g cap 5
      · have k4 : ¬ nxV g len a / 2 % 2 = 1 ∧ ¬ (len : Int) ≤ a + 1 := by
          have := k3
          simp only [nxB, Bool.or_eq_false_iff, decide_eq_false_iff_not] at this
          exact this
        have h1 : a + 1 < len := by omega
        have hx1 := hg1.nx
        refine tail_holds hg1.next k3 hx1.1 hx1.2 ?_
        have e : amdDec g len a.toNat = decC g len (g a.toNat % 16) (g (a.toNat + 1)) (a.toNat + 2) := by
          rw [hv] at k k2 k4
          unfold amdDec
          rw [if_neg (by omega), if_pos (by omega), if_neg (by omega)]
        rw [e, nxA_in h1, nx_in h1, pfI_eq hx.1 hx.2, hv, show (a + 1).toNat = a.toNat + 1 by omega, show (a + 1 + 1).toNat = a.toNat + 2 by omega]
  · rw [c_240 hx.1 hx.2] at k
    have k : ¬ nxV g len a / 16 * 16 = 64 := by simpa using k
    refine ⟨fun k2 => ?_, fun k2 => ?_⟩
    · have k2 : (len : Int) ≤ a := by simpa [nxB] using k2
      have e : amdDec g len a.toNat = none := by unfold amdDec; rw [if_pos (by omega)]
      rw [e]; exact zLeaf_of g cap 5
    · have ha : a < len := by
        have : ¬ (len : Int) ≤ a := by simpa [nxB] using k2
        omega
      refine tail_holds hg0.next k2 hx.1 hx.2 ?_
      have hv := nx_in (g := g) ha
      have e : amdDec g len a.toNat = decC g len 0 (g a.toNat) (a.toNat + 1) := by
        rw [hv] at k
        unfold amdDec
        rw [if_neg (by omega), if_neg (by omega)]
      rw [e, nxA_in ha, hv, show (a + 1).toNat = a.toNat + 1 by omega]
end Go.Proofs.Ytajcmjjgnbaahaa.Amd
