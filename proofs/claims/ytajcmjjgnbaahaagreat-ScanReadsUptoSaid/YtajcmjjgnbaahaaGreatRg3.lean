/- Do bytes begin with those of an instruction: its run, its contract. -/
import Derived.Test.YtajcmjjgnbaahaaGreatRg0
import Derived.Test.YtajcmjjgnbaahaaGreatBr0
import Derived.Test.YtajcmjjgnbaahaaGreatRf3
import Derived.Test.YtajcmjjgnbaahaaGreatRe6
set_option linter.unusedVariables false
set_option linter.unusedSimpArgs false
namespace Go.Proofs.YtajcmjjgnbaahaaGreat.Amd
open Go Go.Proofs.YtajcmjjgnbaahaaGreat.Sx Go.RowKit
def zLj (g : Nat -> Int) (cap : Nat) (v : Int) (ok : Bool) : SV -> List SObj -> Prop :=
 fun w hp => zA8 1 1 { tmps := [w], hp := hp } [(0, .tuple [.int .i64 (.var v), .bool (.var ok)])] [rdRow g cap]
theorem zSu (g : Nat -> Int) (len cap : Nat) (q v : Int) (ok : Bool) : zH P A0 (fun _ => 40) Tryz.f32 [slA 0 len cap, .int .i64 (.var q), .int .i64 (.lit 4)] [rdRow g cap] (zLj g cap v ok) =
  ((BE.den (BE.cmp BinOp.gtr (IE.lit 4) (IE.sub IntKind.i64 (IE.var (↑len : Int)) (IE.var q))) = true -> 0 = v /\ BE.den (BE.lit false) = ok /\ cap = cap /\ (∀ (e : Nat), e < cap -> g e = g e) /\ True) /\ (BE.den (BE.cmp BinOp.gtr (IE.lit 4) (IE.sub IntKind.i64 (IE.var (↑len : Int)) (IE.var q))) = false -> BE.den (BE.ite (BE.var (decide (len <= cap /\ 0 + cap <= cap))) (BE.var (decide (0 <= IE.den (IE.add IntKind.i64 (IE.var q) (IE.lit 0)) /\ IE.den (IE.add IntKind.i64 (IE.var q) (IE.lit 0)) < (↑len : Int)))) (BE.lit false)) = true /\ decide (0 + Int.toNat (IE.den (IE.add IntKind.i64 (IE.var q) (IE.lit 0))) + 1 <= cap) = true /\ BE.den (BE.ite (BE.var (decide (len <= cap /\ 0 + cap <= cap))) (BE.var (decide (0 <= IE.den (IE.add IntKind.i64 (IE.var q) (IE.lit 1)) /\ IE.den (IE.add IntKind.i64 (IE.var q) (IE.lit 1)) < (↑len : Int)))) (BE.lit false)) = true /\ decide (0 + Int.toNat (IE.den (IE.add IntKind.i64 (IE.var q) (IE.lit 1))) + 1 <= cap) = true /\ BE.den (BE.ite (BE.var (decide (len <= cap /\ 0 + cap <= cap))) (BE.var (decide (0 <= IE.den (IE.add IntKind.i64 (IE.var q) (IE.lit 2)) /\ IE.den (IE.add IntKind.i64 (IE.var q) (IE.lit 2)) < (↑len : Int)))) (BE.lit false)) = true /\ decide (0 + Int.toNat (IE.den (IE.add IntKind.i64 (IE.var q) (IE.lit 2))) + 1 <= cap) = true /\ BE.den (BE.ite (BE.var (decide (len <= cap /\ 0 + cap <= cap))) (BE.var (decide (0 <= IE.den (IE.add IntKind.i64 (IE.var q) (IE.lit 3)) /\ IE.den (IE.add IntKind.i64 (IE.var q) (IE.lit 3)) < (↑len : Int)))) (BE.lit false)) = true /\ decide (0 + Int.toNat (IE.den (IE.add IntKind.i64 (IE.var q) (IE.lit 3))) + 1 <= cap) = true /\ BE.den (BE.ite (BE.var (decide (len <= cap /\ 0 + cap <= cap))) (BE.var (decide (0 <= IE.den (IE.sub IntKind.i64 (IE.add IntKind.i64 (IE.var q) (IE.lit 4)) (IE.lit 1)) /\ IE.den (IE.sub IntKind.i64 (IE.add IntKind.i64 (IE.var q) (IE.lit 4)) (IE.lit 1)) < (↑len : Int)))) (BE.lit false)) = true /\ decide (0 + Int.toNat (IE.den (IE.sub IntKind.i64 (IE.add IntKind.i64 (IE.var q) (IE.lit 4)) (IE.lit 1))) + 1 <= cap) = true /\ (BE.den (BE.cmp BinOp.geq (IE.var (g (0 + Int.toNat (IE.den (IE.sub IntKind.i64 (IE.add IntKind.i64 (IE.var q) (IE.lit 4)) (IE.lit 1)))))) (IE.lit 128)) = true -> IE.den (IE.sub IntKind.i64 (IE.conv IntKind.i64 (IE.add IntKind.u64 (IE.add IntKind.u64 (IE.add IntKind.u64 (IE.add IntKind.u64 (IE.lit 0) (IE.shl IntKind.u64 (IE.conv IntKind.u64 (IE.var (g (0 + Int.toNat (IE.den (IE.add IntKind.i64 (IE.var q) (IE.lit 0))))))) (IE.lit 0))) (IE.shl IntKind.u64 (IE.conv IntKind.u64 (IE.var (g (0 + Int.toNat (IE.den (IE.add IntKind.i64 (IE.var q) (IE.lit 1))))))) (IE.lit 8))) (IE.shl IntKind.u64 (IE.conv IntKind.u64 (IE.var (g (0 + Int.toNat (IE.den (IE.add IntKind.i64 (IE.var q) (IE.lit 2))))))) (IE.lit 16))) (IE.shl IntKind.u64 (IE.conv IntKind.u64 (IE.var (g (0 + Int.toNat (IE.den (IE.add IntKind.i64 (IE.var q) (IE.lit 3))))))) (IE.lit 24)))) (IE.lit 4294967296)) = v /\ BE.den (BE.lit true) = ok /\ cap = cap /\ (∀ (e : Nat), e < cap -> g e = g e) /\ True) /\ (BE.den (BE.cmp BinOp.geq (IE.var (g (0 + Int.toNat (IE.den (IE.sub IntKind.i64 (IE.add IntKind.i64 (IE.var q) (IE.lit 4)) (IE.lit 1)))))) (IE.lit 128)) = false -> IE.den (IE.conv IntKind.i64 (IE.add IntKind.u64 (IE.add IntKind.u64 (IE.add IntKind.u64 (IE.add IntKind.u64 (IE.lit 0) (IE.shl IntKind.u64 (IE.conv IntKind.u64 (IE.var (g (0 + Int.toNat (IE.den (IE.add IntKind.i64 (IE.var q) (IE.lit 0))))))) (IE.lit 0))) (IE.shl IntKind.u64 (IE.conv IntKind.u64 (IE.var (g (0 + Int.toNat (IE.den (IE.add IntKind.i64 (IE.var q) (IE.lit 1))))))) (IE.lit 8))) (IE.shl IntKind.u64 (IE.conv IntKind.u64 (IE.var (g (0 + Int.toNat (IE.den (IE.add IntKind.i64 (IE.var q) (IE.lit 2))))))) (IE.lit 16))) (IE.shl IntKind.u64 (IE.conv IntKind.u64 (IE.var (g (0 + Int.toNat (IE.den (IE.add IntKind.i64 (IE.var q) (IE.lit 3))))))) (IE.lit 24)))) = v /\ BE.den (BE.lit true) = ok /\ cap = cap /\ (∀ (e : Nat), e < cap -> g e = g e) /\ True))) := by kernel_rfl
theorem zSw (g : Nat -> Int) (len cap : Nat) (q v : Int) (ok : Bool) : zH P A0 (fun _ => 40) Tryz.f32 [slA 0 len cap, .int .i64 (.var q), .int .i64 (.lit 1)] [rdRow g cap] (zLj g cap v ok) =
  ((BE.den (BE.cmp BinOp.gtr (IE.lit 1) (IE.sub IntKind.i64 (IE.var (↑len : Int)) (IE.var q))) = true -> 0 = v /\ BE.den (BE.lit false) = ok /\ cap = cap /\ (∀ (e : Nat), e < cap -> g e = g e) /\ True) /\ (BE.den (BE.cmp BinOp.gtr (IE.lit 1) (IE.sub IntKind.i64 (IE.var (↑len : Int)) (IE.var q))) = false -> BE.den (BE.ite (BE.var (decide (len <= cap /\ 0 + cap <= cap))) (BE.var (decide (0 <= IE.den (IE.add IntKind.i64 (IE.var q) (IE.lit 0)) /\ IE.den (IE.add IntKind.i64 (IE.var q) (IE.lit 0)) < (↑len : Int)))) (BE.lit false)) = true /\ decide (0 + Int.toNat (IE.den (IE.add IntKind.i64 (IE.var q) (IE.lit 0))) + 1 <= cap) = true /\ BE.den (BE.ite (BE.var (decide (len <= cap /\ 0 + cap <= cap))) (BE.var (decide (0 <= IE.den (IE.sub IntKind.i64 (IE.add IntKind.i64 (IE.var q) (IE.lit 1)) (IE.lit 1)) /\ IE.den (IE.sub IntKind.i64 (IE.add IntKind.i64 (IE.var q) (IE.lit 1)) (IE.lit 1)) < (↑len : Int)))) (BE.lit false)) = true /\ decide (0 + Int.toNat (IE.den (IE.sub IntKind.i64 (IE.add IntKind.i64 (IE.var q) (IE.lit 1)) (IE.lit 1))) + 1 <= cap) = true /\ (BE.den (BE.cmp BinOp.geq (IE.var (g (0 + Int.toNat (IE.den (IE.sub IntKind.i64 (IE.add IntKind.i64 (IE.var q) (IE.lit 1)) (IE.lit 1)))))) (IE.lit 128)) = true -> IE.den (IE.sub IntKind.i64 (IE.conv IntKind.i64 (IE.add IntKind.u64 (IE.lit 0) (IE.shl IntKind.u64 (IE.conv IntKind.u64 (IE.var (g (0 + Int.toNat (IE.den (IE.add IntKind.i64 (IE.var q) (IE.lit 0))))))) (IE.lit 0)))) (IE.lit 256)) = v /\ BE.den (BE.lit true) = ok /\ cap = cap /\ (∀ (e : Nat), e < cap -> g e = g e) /\ True) /\ (BE.den (BE.cmp BinOp.geq (IE.var (g (0 + Int.toNat (IE.den (IE.sub IntKind.i64 (IE.add IntKind.i64 (IE.var q) (IE.lit 1)) (IE.lit 1)))))) (IE.lit 128)) = false -> IE.den (IE.conv IntKind.i64 (IE.add IntKind.u64 (IE.lit 0) (IE.shl IntKind.u64 (IE.conv IntKind.u64 (IE.var (g (0 + Int.toNat (IE.den (IE.add IntKind.i64 (IE.var q) (IE.lit 0))))))) (IE.lit 0)))) = v /\ BE.den (BE.lit true) = ok /\ cap = cap /\ (∀ (e : Nat), e < cap -> g e = g e) /\ True))) := by kernel_rfl
theorem zPY (a b : IE) : BE.den (BE.cmp BinOp.gtr a b) = decide (b.den < a.den) := by simp only [BE.den, zAS]
theorem zTj (a b : IE) : BE.den (BE.cmp BinOp.geq a b) = decide (b.den <= a.den) := by simp only [BE.den, zAG]
def zGW (g : Nat -> Int) (len : Nat) (q n : Int) : Int := gN g len q.toNat (decide (n = 4))
def numT (len : Nat) (q n : Int) : Bool := decide (q.toNat + numK (decide (n = 4)) <= len)
def zLi : Ins -> List SV -> Prop := fun ins pl => match ins, pl with
 | [(cs, len, cap)], [.int .i64 q, .int .i64 n] => (∃ g : Nat -> Int, cs = [.int .u8 fun e => .var (g e)]) /\ BGood (colG cs) len cap /\ (0 <= q.den /\ q.den <= 4611686018427387999) /\ (n.den = 1 ∨ n.den = 4)
 | _, _ => False
def zIF : Ins -> List SV -> List Out := fun ins pl => match ins, pl with
 | [(cs, len, _)], [.int .i64 q, .int .i64 n] => [.one (fun _ => .tuple [.int .i64 (.var (zGW (colG cs) len q.den n.den)), .bool (.var (numT len q.den n.den))]) [] []]
 | _, _ => []
theorem zQw {ins : Ins} {pl : List SV} (h : zLi ins pl) : ∃ (g : Nat -> Int) (len cap : Nat) (q n : IE), ins = [([.int .u8 fun e => .var (g e)], len, cap)] /\ pl = [.int .i64 q, .int .i64 n] /\ BGood g len cap /\ (0 <= q.den /\ q.den <= 4611686018427387999) /\ (n.den = 1 ∨ n.den = 4) := by
 unfold zLi at h
 split at h
 ·obtain ⟨⟨g, rfl⟩, h2, h3, h4⟩ := h
  exact ⟨g, _, _, _, _, rfl, rfl, h2, h3, h4⟩
 ·exact h.elim
theorem zTP {f : FuncId} {s : zl} (hs : zZ P f s)
  (h : ∀ (g : Nat -> Int) (len cap : Nat) (q n : Int), BGood g len cap -> 0 <= q -> q <= 4611686018427387999 -> (n = 1 ∨ n = 4) -> s [slA 0 len cap, .int .i64 (.var q), .int .i64 (.var n)] [rdRow g cap] (zLj g cap (zGW g len q n) (numT len q n))) :
  zZ P f (zAK [.rows 1 zz1, .plain, .plain] zLi zIF) := by
 refine zH5 hs (fun sz zs h => by simp at h; obtain ⟨rfl, rfl⟩ := h; rfl) ?_ ?_
 ·intro ins pl o ho
  unfold zIF at ho
  split at ho
  ·simp only [List.mem_singleton] at ho; subst ho
   exact ⟨zBU (by simp [SV.wf, SV.wfL]), rfl, by simp [SV.wfL]⟩
  ·simp at ho
 ·intro ins pl u hi hw hp
  obtain ⟨g, len, cap, q, n, rfl, rfl, h1, h2, h3⟩ := zQw hp
  exact h g len cap q.den n.den h1 h2.1 h2.2 h3
theorem at_q {q : Int} (h0 : 0 <= q) (h1 : q <= 4611686018427387999) (k : Int) (hk0 : 0 <= k) (hk : k <= 8) : IE.den (IE.add IntKind.i64 (IE.var q) (IE.lit k)) = q + k := by
 simp only [IE.den]; rw [zE (by omega) (by omega)]
theorem zZs {q : Int} (h0 : 0 <= q) (h1 : q <= 4611686018427387999) (k : Int) (hk0 : 1 <= k) (hk : k <= 8) : IE.den (IE.sub IntKind.i64 (IE.add IntKind.i64 (IE.var q) (IE.lit k)) (IE.lit 1)) = q + (k - 1) := by
 simp only [IE.den]; rw [zE (n := q + k) (by omega) (by omega), zE (by omega) (by omega)]; omega
theorem zSh {q : Int} {len : Nat} (hl : len <= 4611686018427387904) (h0 : 0 <= q) (h1 : q <= 4611686018427387999) : IE.den (IE.sub IntKind.i64 (IE.var (len : Int)) (IE.var q)) = len - q := by
 simp only [IE.den]; rw [zE (by omega) (by omega)]
theorem zEX {len cap : Nat} {x : Int} (hr : len <= cap) (h0 : 0 <= x) (h1 : x < len) : BE.den (BE.ite (BE.var (decide (len <= cap /\ 0 + cap <= cap))) (BE.var (decide (0 <= x /\ x < (len : Int)))) (BE.lit false)) = true := by
 simp [BE.den, hr, h0, h1]
theorem zLO {b : Int} (s : Nat) (hs : s <= 24) (h0 : 0 <= b) (h1 : b < 256) : shlI .u64 (IntKind.u64.wrap b) s = b * 2 ^ s := by
 have hle : (2 : Int) ^ s <= 2 ^ 24 := by exact_mod_cast Nat.pow_le_pow_right (by decide : 0 < 2) hs
 have hp : (0 : Int) < 2 ^ s := Int.pow_pos (by decide)
 have h2 : b * 2 ^ s <= 255 * 2 ^ 24 := Int.mul_le_mul (by omega) hle (Int.le_of_lt hp) (by decide)
 have h3 : 0 <= b * 2 ^ s := Int.mul_nonneg h0 (Int.le_of_lt hp)
 rw [zAE h0 (by omega), zCN .u64 b s (by simp [IntKind.bits]; omega)]
 exact zAE h3 (by omega)
theorem sum1 {a : Int} (ha : 0 <= a /\ a < 256) : IE.den (IE.conv .i64 (IE.add .u64 (IE.lit 0) (IE.shl .u64 (IE.conv .u64 (IE.var a)) (IE.lit 0)))) = a := by
 simp only [IE.den]
 have e0 : shlI .u64 (IntKind.u64.wrap a) 0 = a * 2 ^ 0 := zLO 0 (by decide) ha.1 ha.2
 rw [e0, zAE (by omega) (by omega), zE (by omega) (by omega)]; omega
theorem sum4 {a b c d : Int} (ha : 0 <= a /\ a < 256) (hb : 0 <= b /\ b < 256) (hc : 0 <= c /\ c < 256) (hd : 0 <= d /\ d < 256) :
  IE.den (IE.conv .i64 (IE.add .u64 (IE.add .u64 (IE.add .u64 (IE.add .u64 (IE.lit 0) (IE.shl .u64 (IE.conv .u64 (IE.var a)) (IE.lit 0))) (IE.shl .u64 (IE.conv .u64 (IE.var b)) (IE.lit 8))) (IE.shl .u64 (IE.conv .u64 (IE.var c)) (IE.lit 16))) (IE.shl .u64 (IE.conv .u64 (IE.var d)) (IE.lit 24)))) = a + b * 256 + c * 65536 + d * 16777216 := by
 simp only [IE.den]
 have e0 : shlI .u64 (IntKind.u64.wrap a) 0 = a * 2 ^ 0 := zLO 0 (by decide) ha.1 ha.2
 have e1 : shlI .u64 (IntKind.u64.wrap b) 8 = b * 2 ^ 8 := zLO 8 (by decide) hb.1 hb.2
 have e2 : shlI .u64 (IntKind.u64.wrap c) 16 = c * 2 ^ 16 := zLO 16 (by decide) hc.1 hc.2
 have e3 : shlI .u64 (IntKind.u64.wrap d) 24 = d * 2 ^ 24 := zLO 24 (by decide) hd.1 hd.2
 rw [e0, e1, e2, e3, zAE (n := 0 + a * 2 ^ 0) (by omega) (by omega), zAE (n := 0 + a * 2 ^ 0 + b * 2 ^ 8) (by omega) (by omega), zAE (n := 0 + a * 2 ^ 0 + b * 2 ^ 8 + c * 2 ^ 16) (by omega) (by omega), zAE (by omega) (by omega), zE (by omega) (by omega)]
 omega
theorem zSv {g : Nat -> Int} {len cap : Nat} {q : Int} (hg : BGood g len cap) (h0 : 0 <= q) (h1 : q <= 4611686018427387999) : zH P A0 (fun _ => 40) Tryz.f32 [slA 0 len cap, .int .i64 (.var q), .int .i64 (.lit 1)] [rdRow g cap] (zLj g cap (zGW g len q 1) (numT len q 1)) = True := by
 apply eq_true
 have hsm := hg.small
 have hrm := hg.room
 have hby := hg.byte
 have e0 := at_q h0 h1 0 (by decide) (by decide)
 have f1 := zZs h0 h1 1 (by decide) (by decide)
 rw [zSw]
 simp only [e0, f1, zPY, zSh hsm h0 h1, decide_eq_true_eq, decide_eq_false_iff_not]
 obtain ⟨j, rfl⟩ := Int.eq_ofNat_of_zero_le h0
 have hk : numK (decide ((1 : Int) = 4)) = 1 := rfl
 refine ⟨fun h => ?_, fun h => ?_⟩
 ·have h : ((len : Int) - (j : Int)) < 1 := h
  have hn : ¬ (Int.toNat (j : Int) + numK (decide ((1 : Int) = 4)) <= len) := by rw [hk]; omega
  refine ⟨?_, ?_, trivial, fun _ _ => trivial, trivial⟩
  ·unfold zGW gN; rw [if_neg hn]
  ·unfold numT; exact (decide_eq_false hn).symm
 ·have h : ¬ (((len : Int) - (j : Int)) < 1) := h
  have hy : (Int.toNat (j : Int) + numK (decide ((1 : Int) = 4)) <= len) := by rw [hk]; omega
  have t0 : 0 + Int.toNat ((j : Int) + 0) = j := by omega
  have t1 : 0 + Int.toNat ((j : Int) + (1 - 1)) = j := by omega
  have hv : zGW g len (j : Int) 1 = s8 (g j) := by
   unfold zGW gN; rw [if_pos hy]; rfl
  have ht : numT len (j : Int) 1 = true := decide_eq_true hy
  have hb := hby j (by omega)
  rw [hv, ht]
  simp only [t0, t1, zTj, decide_eq_true_eq, decide_eq_false_iff_not]
  refine ⟨zEX hrm (by omega) (by omega), by omega, zEX hrm (by omega) (by omega), by omega, fun h2 => ⟨?_, rfl, trivial, fun _ _ => trivial, trivial⟩, fun h2 => ⟨?_, rfl, trivial, fun _ _ => trivial, trivial⟩⟩
  ·have h2 : 128 <= g j := h2
   show IntKind.i64.wrap (IE.den (IE.conv .i64 (IE.add .u64 (IE.lit 0) (IE.shl .u64 (IE.conv .u64 (IE.var (g j))) (IE.lit 0)))) - 256) = _
   rw [sum1 hb, zE (by omega) (by omega)]
   unfold s8; rw [if_pos h2]
  ·have h2 : ¬ 128 <= g j := h2
   rw [sum1 hb]
   unfold s8; rw [if_neg h2]
theorem zSt {g : Nat -> Int} {len cap : Nat} {q : Int} (hg : BGood g len cap) (h0 : 0 <= q) (h1 : q <= 4611686018427387999) : zH P A0 (fun _ => 40) Tryz.f32 [slA 0 len cap, .int .i64 (.var q), .int .i64 (.lit 4)] [rdRow g cap] (zLj g cap (zGW g len q 4) (numT len q 4)) = True := by
 apply eq_true
 have hsm := hg.small
 have hrm := hg.room
 have hby := hg.byte
 have e0 := at_q h0 h1 0 (by decide) (by decide)
 have e1 := at_q h0 h1 1 (by decide) (by decide)
 have e2 := at_q h0 h1 2 (by decide) (by decide)
 have e3 := at_q h0 h1 3 (by decide) (by decide)
 have f4 := zZs h0 h1 4 (by decide) (by decide)
 rw [zSu]
 simp only [e0, e1, e2, e3, f4, zPY, zSh hsm h0 h1, decide_eq_true_eq, decide_eq_false_iff_not]
 clear e0 e1 e2 e3 f4
 obtain ⟨j, rfl⟩ := Int.eq_ofNat_of_zero_le h0
 clear h0 h1 hsm
 have hk : numK (decide ((4 : Int) = 4)) = 4 := rfl
 refine ⟨fun h => ?_, fun h => ?_⟩
 ·have h : ((len : Int) - (j : Int)) < 4 := h
  have hn : ¬ (Int.toNat (j : Int) + numK (decide ((4 : Int) = 4)) <= len) := by rw [hk]; omega
  refine ⟨?_, ?_, trivial, fun _ _ => trivial, trivial⟩
  ·unfold zGW gN; rw [if_neg hn]
  ·unfold numT; exact (decide_eq_false hn).symm
 ·have h : ¬ (((len : Int) - (j : Int)) < 4) := h
  have hy : (Int.toNat (j : Int) + numK (decide ((4 : Int) = 4)) <= len) := by rw [hk]; omega
  have t0 : 0 + Int.toNat ((j : Int) + 0) = j := by omega
  have t1 : 0 + Int.toNat ((j : Int) + 1) = j + 1 := by omega
  have t2 : 0 + Int.toNat ((j : Int) + 2) = j + 2 := by omega
  have t3 : 0 + Int.toNat ((j : Int) + 3) = j + 3 := by omega
  have t4 : 0 + Int.toNat ((j : Int) + (4 - 1)) = j + 3 := by omega
  have hv : zGW g len (j : Int) 4 = s32 (u4 g j) := by
   unfold zGW gN; rw [if_pos hy]; rfl
  have ht : numT len (j : Int) 4 = true := decide_eq_true hy
  have hj : j + 4 <= len := by rw [hk] at hy; omega
  clear h hy hk
  have b0 := hby j (by omega)
  have b1 := hby (j + 1) (by omega)
  have b2 := hby (j + 2) (by omega)
  have b3 := hby (j + 3) (by omega)
  rw [hv, ht]
  simp only [t0, t1, t2, t3, t4, zTj, decide_eq_true_eq, decide_eq_false_iff_not]
  clear t0 t1 t2 t3 t4 hv ht hby
  have A0 := zEX (x := (j : Int) + 0) hrm (by omega) (by omega)
  have A1 := zEX (x := (j : Int) + 1) hrm (by omega) (by omega)
  have A2 := zEX (x := (j : Int) + 2) hrm (by omega) (by omega)
  have A3 := zEX (x := (j : Int) + 3) hrm (by omega) (by omega)
  have A4 := zEX (x := (j : Int) + (4 - 1)) hrm (by omega) (by omega)
  refine ⟨A0, by omega, A1, by omega, A2, by omega, A3, by omega, A4, by omega, fun h2 => ⟨?_, rfl, trivial, fun _ _ => trivial, trivial⟩, fun h2 => ⟨?_, rfl, trivial, fun _ _ => trivial, trivial⟩⟩
  ·have h2 : 128 <= g (j + 3) := h2
   have e := sum4 b0 b1 b2 b3
   generalize (IE.conv .i64 (IE.add .u64 (IE.add .u64 (IE.add .u64 (IE.add .u64 (IE.lit 0) (IE.shl .u64 (IE.conv .u64 (IE.var (g j))) (IE.lit 0))) (IE.shl .u64 (IE.conv .u64 (IE.var (g (j + 1)))) (IE.lit 8))) (IE.shl .u64 (IE.conv .u64 (IE.var (g (j + 2)))) (IE.lit 16))) (IE.shl .u64 (IE.conv .u64 (IE.var (g (j + 3)))) (IE.lit 24)))) = X at e ⊢
   show IntKind.i64.wrap (X.den - 4294967296) = _
   rw [e, zE (by omega) (by omega)]
   unfold s32 u4; rw [if_pos (by omega)]
  ·have h2 : ¬ 128 <= g (j + 3) := h2
   rw [sum4 b0 b1 b2 b3]
   unfold s32 u4; rw [if_neg (by omega)]
theorem zPA : zZ P 32 (zAK [.rows 1 zz1, .plain, .plain] zLi zIF) := by
 have hs := zN (un := fun _ => 40) zK7 Tryz.func32
 refine zTP (zLU hs) ?_
 intro g len cap q n hg h0 h1 hn
 rcases hn with rfl | rfl
 ·refine ⟨[slA 0 len cap, .int .i64 (.var q), .int .i64 (.lit 1)], fun _ => rfl, fun h => h, ?_⟩
  rw [zSv hg h0 h1]; trivial
 ·refine ⟨[slA 0 len cap, .int .i64 (.var q), .int .i64 (.lit 4)], fun _ => rfl, fun h => h, ?_⟩
  rw [zSt hg h0 h1]; trivial
def smT : List (FuncId × Cal) := [(34, .spec encM encG)]
theorem zXZ : zO P (zx smT) := zG (zAn zPC) fun g s h => by simp [zx] at h
noncomputable def SM : FuncId -> Option Cal := inl P (fun _ _ => 40) (zx smT) 4
theorem zbY : zO P SM := zAh zXZ 4
structure SmSt where
 c : Nat
 w : Nat -> Int
 i : Nat
def zQG (n : Nat) (q : Int) (len cap : Nat) (a : SmSt) : List (Nat × SV) := [(0, slA 0 len cap), (1, .int .i64 (.var q)), (8, .sliceE false 1 1 (.lit 0) (.var n) (.var (SmSt.c a))), (10, .int .i64 (.var (SmSt.i a)))]
def smHp (g : Nat -> Int) (cap : Nat) (a : SmSt) : List SObj := [rdRow g cap, .row true false [.int .u8 fun e => .var (SmSt.w a e)] (.var (SmSt.c a))]
def zXb (g : Nat -> Int) (cap : Nat) (v : Int) (ok : Bool) : SV -> List SObj -> Prop :=
 fun w hp => zA8 1 1 { tmps := [w], hp := hp } [(0, .tuple [.int .i64 (.var v), .bool (.var ok)])] [rdRow g cap]
def xE (x : AI) : AI := ⟨AI.op x, AI.wide x, AI.long x, AI.d x, AI.s x, AI.disp x, AI.imm x, AI.cc x⟩
def zQJ (g : Nat -> Int) (len cap : Nat) (q : Int) (x : AI) (I : SmSt -> Prop) (M : SmSt -> Nat) (v : Int) (ok : Bool) : Prop :=
 ∀ (u : Nat -> Value) (a : SmSt), I a -> (BE.den (BE.cmp BinOp.lss (IE.var (↑(SmSt.i a) : Int)) (IE.var (↑(List.length (zD x)) : Int))) = true -> decide (0 <= (↑(SmSt.i a) : Int) /\ (↑(SmSt.i a) : Int) < (↑(List.length (zD x)) : Int)) = true /\ decide (0 + Int.toNat (↑(SmSt.i a) : Int) + 1 <= SmSt.c a) = true /\ BE.den (BE.ite (BE.var (decide (len <= cap /\ 0 + cap <= cap))) (BE.var (decide (0 <= IE.den (IE.add IntKind.i64 (IE.var q) (IE.var (↑(SmSt.i a) : Int))) /\ IE.den (IE.add IntKind.i64 (IE.var q) (IE.var (↑(SmSt.i a) : Int))) < (↑len : Int)))) (BE.lit false)) = true /\ decide (0 + Int.toNat (IE.den (IE.add IntKind.i64 (IE.var q) (IE.var (↑(SmSt.i a) : Int)))) + 1 <= cap) = true /\ (BE.den (BE.cmp BinOp.neq (IE.var (SmSt.w a (0 + Int.toNat (↑(SmSt.i a) : Int)))) (IE.var (g (0 + Int.toNat (IE.den (IE.add IntKind.i64 (IE.var q) (IE.var (↑(SmSt.i a) : Int)))))))) = true -> 0 = v /\ BE.den (BE.lit false) = ok /\ cap = cap /\ (∀ (e : Nat), e < cap -> g e = g e) /\ True) /\ (BE.den (BE.cmp BinOp.neq (IE.var (SmSt.w a (0 + Int.toNat (↑(SmSt.i a) : Int)))) (IE.var (g (0 + Int.toNat (IE.den (IE.add IntKind.i64 (IE.var q) (IE.var (↑(SmSt.i a) : Int)))))))) = false -> ∃ a', I a' /\ Nat.le (Nat.succ (M a')) (M a) /\ len = len /\ cap = cap /\ q = q /\ List.length (zD x) = List.length (zD x) /\ SmSt.c a = SmSt.c a' /\ IE.den (IE.add IntKind.i64 (IE.var (↑(SmSt.i a) : Int)) (IE.lit 1)) = (↑(SmSt.i a') : Int) /\ cap = cap /\ (∀ (e : Nat), e < cap -> g e = g e) /\ SmSt.c a = SmSt.c a' /\ (∀ (e : Nat), e < SmSt.c a' -> SmSt.w a e = SmSt.w a' e) /\ True)) /\ (BE.den (BE.cmp BinOp.lss (IE.var (↑(SmSt.i a) : Int)) (IE.var (↑(List.length (zD x)) : Int))) = false -> IE.den (IE.add IntKind.i64 (IE.var q) (IE.var (↑(List.length (zD x)) : Int))) = v /\ BE.den (BE.lit true) = ok /\ cap = cap /\ (∀ (e : Nat), e < cap -> g e = g e) /\ True)
theorem zVD (g : Nat -> Int) (len cap : Nat) (q : Int) (x : AI) (I : SmSt -> Prop) (M : SmSt -> Nat) (v : Int) (ok : Bool) : zH P SM (fun _ => annA SmSt (zQG (zD x).length q len cap) (smHp g cap) I M) Tryz.f24 [slA 0 len cap, .int .i64 (.var q), xIn x] [rdRow g cap] (zXb g cap v ok) =
  (True /\ (∀ (b : Nat × (Nat -> Int)), EncO (xE x) b -> (BE.den (BE.cmp BinOp.gtr (IE.var (↑(List.length (zD (xE x))) : Int)) (IE.sub IntKind.i64 (IE.var (↑len : Int)) (IE.var q))) = true -> 0 = v /\ BE.den (BE.lit false) = ok /\ cap = cap /\ (∀ (e : Nat), e < cap -> g e = g e) /\ True) /\ (BE.den (BE.cmp BinOp.gtr (IE.var (↑(List.length (zD (xE x))) : Int)) (IE.sub IntKind.i64 (IE.var (↑len : Int)) (IE.var q))) = false -> (∃ a, I a /\ len = len /\ cap = cap /\ q = q /\ List.length (zD (xE x)) = List.length (zD x) /\ Prod.fst b = SmSt.c a /\ 0 = (↑(SmSt.i a) : Int) /\ cap = cap /\ (∀ (e : Nat), e < cap -> g e = g e) /\ Prod.fst b = SmSt.c a /\ (∀ (e : Nat), e < SmSt.c a -> Prod.snd b e = SmSt.w a e) /\ True) /\ zQJ g len cap q x I M v ok /\ ∀ (u : Nat -> Value) (b : Unit), False -> False)) /\ ∀ (b : Unit), zM (xE x) ≠ 0 -> (BE.den (BE.cmp BinOp.neq (IE.var (zM (xE x))) (IE.lit 0)) = true -> 0 = v /\ BE.den (BE.lit false) = ok /\ cap = cap /\ (∀ (e : Nat), e < cap -> g e = g e) /\ True) /\ (BE.den (BE.cmp BinOp.neq (IE.var (zM (xE x))) (IE.lit 0)) = false -> (BE.den (BE.cmp BinOp.gtr (IE.lit 0) (IE.sub IntKind.i64 (IE.var (↑len : Int)) (IE.var q))) = true -> 0 = v /\ BE.den (BE.lit false) = ok /\ cap = cap /\ (∀ (e : Nat), e < cap -> g e = g e) /\ True) /\ (BE.den (BE.cmp BinOp.gtr (IE.lit 0) (IE.sub IntKind.i64 (IE.var (↑len : Int)) (IE.var q))) = false -> (∃ a, I a /\ len = len /\ cap = cap /\ q = q /\ zF 65) /\ zQJ g len cap q x I M v ok /\ ∀ (u : Nat -> Value) (b : Unit), False -> False))) := by kernel_rfl
def zLW (g : Nat -> Int) : Nat -> List Int -> Bool
 | _, [] => true
 | i, c :: r => decide (g i = c) && zLW g (i + 1) r
theorem zJQ {g : Nat -> Int} : ∀ {l : List Int} {i : Nat}, zLW g i l = true ↔ zu g i l
 | [], i => by simp [zLW, zu]
 | c :: r, i => by simp [zLW, zu, zJQ (l := r)]
def smV (g : Nat -> Int) (len : Nat) (q : Int) (x : AI) : Bool := decide (zM x = 0) && (decide (q.toNat + (zD x).length <= len) && zLW g q.toNat (zD x))
def smE (g : Nat -> Int) (len : Nat) (q : Int) (x : AI) : Int := if smV g len q x = true then q + (zD x).length else 0
theorem zKE {g : Nat -> Int} {len j : Nat} {x : AI} : smV g len (j : Int) x = true ↔ zM x = 0 /\ j + (zD x).length <= len /\ zu g j (zD x) := by
 unfold smV
 rw [Bool.and_eq_true, Bool.and_eq_true, decide_eq_true_eq, decide_eq_true_eq, zJQ, Int.toNat_natCast]
def zQH : Ins -> List SV -> Prop := fun ins pl => match ins, pl with
 | [(cs, len, cap)], [.int .i64 q, .agg [.int .i64 _, .bool _, .bool _, .int .i64 _, .int .i64 _, .int .i64 _, .int .i64 _, .int .i64 _]] => (∃ g : Nat -> Int, cs = [.int .u8 fun e => .var (g e)]) /\ BGood (colG cs) len cap /\ 0 <= q.den /\ q.den <= len
 | _, _ => False
def zLL : Ins -> List SV -> List Out := fun ins pl => match ins, pl with
 | [(cs, len, _)], [.int .i64 q, .agg [.int .i64 op, .bool w, .bool l, .int .i64 d, .int .i64 s, .int .i64 dp, .int .i64 im, .int .i64 cc]] =>
  [.one (fun _ => .tuple [.int .i64 (.var (smE (colG cs) len q.den ⟨op.den, w.den, l.den, d.den, s.den, dp.den, im.den, cc.den⟩)), .bool (.var (smV (colG cs) len q.den ⟨op.den, w.den, l.den, d.den, s.den, dp.den, im.den, cc.den⟩))]) [] []]
 | _, _ => []
theorem zSi {ins : Ins} {pl : List SV} (h : zQH ins pl) : ∃ (g : Nat -> Int) (len cap : Nat) (q op : IE) (w l : BE) (d s dp im cc : IE), ins = [([.int .u8 fun e => .var (g e)], len, cap)] /\
  pl = [.int .i64 q, .agg [.int .i64 op, .bool w, .bool l, .int .i64 d, .int .i64 s, .int .i64 dp, .int .i64 im, .int .i64 cc]] /\ BGood g len cap /\ 0 <= q.den /\ q.den <= len := by
 unfold zQH at h
 split at h
 ·obtain ⟨⟨g, rfl⟩, h2, h3⟩ := h
  exact ⟨g, _, _, _, _, _, _, _, _, _, _, _, rfl, rfl, h2, h3⟩
 ·exact h.elim
theorem zU9 {f : FuncId} {s : zl} (hs : zZ P f s)
  (h : ∀ (g : Nat -> Int) (len cap j : Nat) (x : AI), BGood g len cap -> j <= len -> s [slA 0 len cap, .int .i64 (.var j), xIn x] [rdRow g cap] (zXb g cap (smE g len j x) (smV g len j x))) :
  zZ P f (zAK [.rows 1 zz1, .plain, .plain] zQH zLL) := by
 refine zH5 hs (fun sz zs h => by simp at h; obtain ⟨rfl, rfl⟩ := h; rfl) ?_ ?_
 ·intro ins pl o ho
  unfold zLL at ho
  split at ho
  ·simp only [List.mem_singleton] at ho; subst ho
   exact ⟨zBU (by simp [SV.wf, SV.wfL]), rfl, by simp [SV.wfL]⟩
  ·simp at ho
 ·intro ins pl u hi hw hp
  obtain ⟨g, len, cap, q, op, w, l, d, s, dp, im, cc, rfl, rfl, h1, h2, h3⟩ := zSi hp
  obtain ⟨j, hj⟩ := Int.eq_ofNat_of_zero_le h2
  have := h g len cap j ⟨op.den, w.den, l.den, d.den, s.den, dp.den, im.den, cc.den⟩ h1 (by omega)
  rw [<- hj] at this
  exact this
def zXa (g : Nat -> Int) (len j : Nat) (x : AI) (a : SmSt) : Prop :=
 zM x = 0 /\ j + (zD x).length <= len /\ a.i <= (zD x).length /\ (zD x).length <= a.c /\ (∀ e, e < (zD x).length -> a.w e = (zD x).getD e 0) /\ ∀ e, e < a.i -> g (j + e) = (zD x).getD e 0
theorem zVA {g : Nat -> Int} {len j : Nat} {x : AI} {cap : Nat} (h : ¬ (zM x = 0 /\ j + (zD x).length <= len /\ zu g j (zD x))) : 0 = smE g len j x /\ BE.den (BE.lit false) = smV g len j x /\ cap = cap /\ (∀ (e : Nat), e < cap -> g e = g e) /\ True := by
 have hf : smV g len j x = false := by
  cases hv : smV g len j x with
  | false => rfl
  | true => exact absurd (zKE.1 hv) h
 refine ⟨?_, hf.symm, rfl, fun _ _ => rfl, trivial⟩
 unfold smE; rw [hf]; rfl
theorem zQI {g : Nat -> Int} {len cap j : Nat} {x : AI} (hg : BGood g len cap) : zQJ g len cap (j : Int) x (zXa g len j x) (fun a => (zD x).length - a.i) (smE g len j x) (smV g len j x) := by
 rintro _ ⟨c, w, i⟩ ⟨i1, i2, i3, i4, i5, i6⟩
 dsimp only at i1 i2 i3 i4 i5 i6 ⊢
 have hsm := hg.small
 have hrm := hg.room
 refine ⟨fun hlt => ?_, fun hge => ?_⟩
 ·have hlt : (i : Int) < ((zD x).length : Int) := by simpa [BE.den, IE.den, zQ] using hlt
  have hi : i < (zD x).length := by omega
  have e1 : IE.den (IE.add IntKind.i64 (IE.var (j : Int)) (IE.var (i : Int))) = ((j + i : Nat) : Int) := by
   simp only [IE.den]; rw [zE (by omega) (by omega)]; omega
  have t1 : 0 + Int.toNat ((j + i : Nat) : Int) = j + i := by omega
  have t2 : 0 + Int.toNat ((i : Nat) : Int) = i := by omega
  rw [e1, t1, t2]
  refine ⟨decide_eq_true ⟨by omega, hlt⟩, decide_eq_true (by omega), zEX hrm (by omega) (by omega), decide_eq_true (by omega), fun hn => ?_, fun hn => ?_⟩
  ·have hn : ¬ w i = g (j + i) := by simpa [BE.den, IE.den, zAd] using hn
   refine zVA fun ⟨_, _, hr⟩ => hn ?_
   rw [i5 i hi]; exact (zLV hr i hi).symm
  ·have hn : w i = g (j + i) := by simpa [BE.den, IE.den, zAd] using hn
   have e2 : IE.den (IE.add IntKind.i64 (IE.var (i : Int)) (IE.lit 1)) = ((i + 1 : Nat) : Int) := by
    simp only [IE.den]; rw [zE (by omega) (by omega)]; omega
   refine ⟨⟨c, w, i + 1⟩, ⟨i1, i2, hi, i4, i5, fun e he => ?_⟩, ?_, rfl, rfl, rfl, rfl, rfl, e2, rfl, fun _ _ => rfl, rfl, fun _ _ => rfl, trivial⟩
   ·have he : e < i + 1 := he
    by_cases h : e < i
    ·exact i6 e h
    ·obtain rfl : e = i := by omega
     rw [<- hn, i5 e hi]
   ·show (zD x).length - (i + 1) + 1 <= (zD x).length - i
    omega
 ·have hge : ¬ (i : Int) < ((zD x).length : Int) := by simpa [BE.den, IE.den, zQ] using hge
  have hi : i = (zD x).length := by omega
  have ht : smV g len j x = true := zKE.2 ⟨i1, i2, zNr fun e he => i6 e (by omega)⟩
  have e1 : IE.den (IE.add IntKind.i64 (IE.var (j : Int)) (IE.var ((zD x).length : Int))) = (j : Int) + (zD x).length := by
   simp only [IE.den]; rw [zE (by omega) (by omega)]
  refine ⟨?_, ht.symm, rfl, fun _ _ => rfl, trivial⟩
  rw [e1]; unfold smE; rw [if_pos ht]
theorem zau {v : Int} (h : v ≠ 0) {p : Prop} (hn : BE.den (BE.cmp BinOp.neq (IE.var v) (IE.lit 0)) = false) : p := absurd (n0f hn) h
theorem zSq : zZ P 24 (zAK [.rows 1 zz1, .plain, .plain] zQH zLL) := by
 have hs := zDi fun un => zN (un := un) zbY Tryz.func24
 refine zU9 hs ?_
 intro g len cap j x hg hj
 refine ⟨fun _ => annA SmSt (zQG (zD x).length j len cap) (smHp g cap) (zXa g len j x) (fun a => (zD x).length - a.i), ?_⟩
 rw [zVD]
 have hsm := hg.small
 have hx : xE x = x := rfl
 rw [hx]
 refine ⟨trivial, fun b hb => ⟨fun h => ?_, fun h => ?_⟩, fun b hb => ⟨fun h => ?_, fun h => zau hb h⟩⟩
 ·rw [zPY, zSh hsm (by omega) (by omega)] at h
  have h : ((len : Int) - j) < ((zD x).length : Int) := of_decide_eq_true h
  exact zVA fun ⟨_, h2, _⟩ => by omega
 ·rw [zPY, zSh hsm (by omega) (by omega)] at h
  have h : ¬ ((len : Int) - j) < ((zD x).length : Int) := of_decide_eq_false h
  exact ⟨⟨⟨b.1, b.2, 0⟩, ⟨hb.err, by omega, Nat.zero_le _, hb.len, hb.cell, fun e he => absurd he (Nat.not_lt_zero e)⟩, rfl, rfl, rfl, rfl, rfl, rfl, rfl, fun _ _ => rfl, rfl, fun _ _ => rfl, trivial⟩, zQI hg, fun _ _ h => h⟩
 ·exact zVA fun ⟨h1, _⟩ => hb h1
end Go.Proofs.YtajcmjjgnbaahaaGreat.Amd
