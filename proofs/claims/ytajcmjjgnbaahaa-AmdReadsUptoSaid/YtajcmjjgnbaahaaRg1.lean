/- A number that stands in bytes: what the reference reads. -/
import Derived.Test.YtajcmjjgnbaahaaRg0
import Derived.Test.YtajcmjjgnbaahaaBr1
import Derived.Test.YtajcmjjgnbaahaaRf3
namespace Go.Proofs.Ytajcmjjgnbaahaa.Amd
open Go Go.Proofs.Ytajcmjjgnbaahaa.Sx Go.RowKit
set_option linter.unusedVariables false
set_option linter.unusedSimpArgs false

def numEnd (g : Nat → Int) (cap : Nat) (v : Int) (ok : Bool) : SV → List SObj → Prop :=
  fun w hp => simAt 1 1 { tmps := [w], hp := hp } [(0, .tuple [.int .i64 (.var v), .bool (.var ok)])] [rdRow g cap]
theorem rnum4_nf (g : Nat → Int) (len cap : Nat) (q v : Int) (ok : Bool) : sxFunc P A0 (fun _ => 40) Try.f46 [slA 0 len cap, .int .i64 (.var q), .int .i64 (.lit 4)] [rdRow g cap] (numEnd g cap v ok) =
    ((BE.den (BE.cmp BinOp.gtr (IE.lit 4) (IE.sub IntKind.i64 (IE.var (↑len : Int)) (IE.var q))) = true → 0 = v ∧ BE.den (BE.lit false) = ok ∧ cap = cap ∧ (∀ (e : Nat), e < cap → g e = g e) ∧ True) ∧ (BE.den (BE.cmp BinOp.gtr (IE.lit 4) (IE.sub IntKind.i64 (IE.var (↑len : Int)) (IE.var q))) = false → BE.den (BE.ite (BE.var (decide (len ≤ cap ∧ 0 + cap ≤ cap))) (BE.var (decide (0 ≤ IE.den (IE.add IntKind.i64 (IE.var q) (IE.lit 0)) ∧ IE.den (IE.add IntKind.i64 (IE.var q) (IE.lit 0)) < (↑len : Int)))) (BE.lit false)) = true ∧ decide (0 + Int.toNat (IE.den (IE.add IntKind.i64 (IE.var q) (IE.lit 0))) + 1 ≤ cap) = true ∧ BE.den (BE.ite (BE.var (decide (len ≤ cap ∧ 0 + cap ≤ cap))) (BE.var (decide (0 ≤ IE.den (IE.add IntKind.i64 (IE.var q) (IE.lit 1)) ∧ IE.den (IE.add IntKind.i64 (IE.var q) (IE.lit 1)) < (↑len : Int)))) (BE.lit false)) = true ∧ decide (0 + Int.toNat (IE.den (IE.add IntKind.i64 (IE.var q) (IE.lit 1))) + 1 ≤ cap) = true ∧ BE.den (BE.ite (BE.var (decide (len ≤ cap ∧ 0 + cap ≤ cap))) (BE.var (decide (0 ≤ IE.den (IE.add IntKind.i64 (IE.var q) (IE.lit 2)) ∧ IE.den (IE.add IntKind.i64 (IE.var q) (IE.lit 2)) < (↑len : Int)))) (BE.lit false)) = true ∧ decide (0 + Int.toNat (IE.den (IE.add IntKind.i64 (IE.var q) (IE.lit 2))) + 1 ≤ cap) = true ∧ BE.den (BE.ite (BE.var (decide (len ≤ cap ∧ 0 + cap ≤ cap))) (BE.var (decide (0 ≤ IE.den (IE.add IntKind.i64 (IE.var q) (IE.lit 3)) ∧ IE.den (IE.add IntKind.i64 (IE.var q) (IE.lit 3)) < (↑len : Int)))) (BE.lit false)) = true ∧ decide (0 + Int.toNat (IE.den (IE.add IntKind.i64 (IE.var q) (IE.lit 3))) + 1 ≤ cap) = true ∧ BE.den (BE.ite (BE.var (decide (len ≤ cap ∧ 0 + cap ≤ cap))) (BE.var (decide (0 ≤ IE.den (IE.sub IntKind.i64 (IE.add IntKind.i64 (IE.var q) (IE.lit 4)) (IE.lit 1)) ∧ IE.den (IE.sub IntKind.i64 (IE.add IntKind.i64 (IE.var q) (IE.lit 4)) (IE.lit 1)) < (↑len : Int)))) (BE.lit false)) = true ∧ decide (0 + Int.toNat (IE.den (IE.sub IntKind.i64 (IE.add IntKind.i64 (IE.var q) (IE.lit 4)) (IE.lit 1))) + 1 ≤ cap) = true ∧ (BE.den (BE.cmp BinOp.geq (IE.var (g (0 + Int.toNat (IE.den (IE.sub IntKind.i64 (IE.add IntKind.i64 (IE.var q) (IE.lit 4)) (IE.lit 1)))))) (IE.lit 128)) = true → IE.den (IE.sub IntKind.i64 (IE.conv IntKind.i64 (IE.add IntKind.u64 (IE.add IntKind.u64 (IE.add IntKind.u64 (IE.add IntKind.u64 (IE.lit 0) (IE.shl IntKind.u64 (IE.conv IntKind.u64 (IE.var (g (0 + Int.toNat (IE.den (IE.add IntKind.i64 (IE.var q) (IE.lit 0))))))) (IE.lit 0))) (IE.shl IntKind.u64 (IE.conv IntKind.u64 (IE.var (g (0 + Int.toNat (IE.den (IE.add IntKind.i64 (IE.var q) (IE.lit 1))))))) (IE.lit 8))) (IE.shl IntKind.u64 (IE.conv IntKind.u64 (IE.var (g (0 + Int.toNat (IE.den (IE.add IntKind.i64 (IE.var q) (IE.lit 2))))))) (IE.lit 16))) (IE.shl IntKind.u64 (IE.conv IntKind.u64 (IE.var (g (0 + Int.toNat (IE.den (IE.add IntKind.i64 (IE.var q) (IE.lit 3))))))) (IE.lit 24)))) (IE.lit 4294967296)) = v ∧ BE.den (BE.lit true) = ok ∧ cap = cap ∧ (∀ (e : Nat), e < cap → g e = g e) ∧ True) ∧ (BE.den (BE.cmp BinOp.geq (IE.var (g (0 + Int.toNat (IE.den (IE.sub IntKind.i64 (IE.add IntKind.i64 (IE.var q) (IE.lit 4)) (IE.lit 1)))))) (IE.lit 128)) = false → IE.den (IE.conv IntKind.i64 (IE.add IntKind.u64 (IE.add IntKind.u64 (IE.add IntKind.u64 (IE.add IntKind.u64 (IE.lit 0) (IE.shl IntKind.u64 (IE.conv IntKind.u64 (IE.var (g (0 + Int.toNat (IE.den (IE.add IntKind.i64 (IE.var q) (IE.lit 0))))))) (IE.lit 0))) (IE.shl IntKind.u64 (IE.conv IntKind.u64 (IE.var (g (0 + Int.toNat (IE.den (IE.add IntKind.i64 (IE.var q) (IE.lit 1))))))) (IE.lit 8))) (IE.shl IntKind.u64 (IE.conv IntKind.u64 (IE.var (g (0 + Int.toNat (IE.den (IE.add IntKind.i64 (IE.var q) (IE.lit 2))))))) (IE.lit 16))) (IE.shl IntKind.u64 (IE.conv IntKind.u64 (IE.var (g (0 + Int.toNat (IE.den (IE.add IntKind.i64 (IE.var q) (IE.lit 3))))))) (IE.lit 24)))) = v ∧ BE.den (BE.lit true) = ok ∧ cap = cap ∧ (∀ (e : Nat), e < cap → g e = g e) ∧ True))) := by kernel_rfl
theorem rnum1_nf (g : Nat → Int) (len cap : Nat) (q v : Int) (ok : Bool) : sxFunc P A0 (fun _ => 40) Try.f46 [slA 0 len cap, .int .i64 (.var q), .int .i64 (.lit 1)] [rdRow g cap] (numEnd g cap v ok) =
    ((BE.den (BE.cmp BinOp.gtr (IE.lit 1) (IE.sub IntKind.i64 (IE.var (↑len : Int)) (IE.var q))) = true → 0 = v ∧ BE.den (BE.lit false) = ok ∧ cap = cap ∧ (∀ (e : Nat), e < cap → g e = g e) ∧ True) ∧ (BE.den (BE.cmp BinOp.gtr (IE.lit 1) (IE.sub IntKind.i64 (IE.var (↑len : Int)) (IE.var q))) = false → BE.den (BE.ite (BE.var (decide (len ≤ cap ∧ 0 + cap ≤ cap))) (BE.var (decide (0 ≤ IE.den (IE.add IntKind.i64 (IE.var q) (IE.lit 0)) ∧ IE.den (IE.add IntKind.i64 (IE.var q) (IE.lit 0)) < (↑len : Int)))) (BE.lit false)) = true ∧ decide (0 + Int.toNat (IE.den (IE.add IntKind.i64 (IE.var q) (IE.lit 0))) + 1 ≤ cap) = true ∧ BE.den (BE.ite (BE.var (decide (len ≤ cap ∧ 0 + cap ≤ cap))) (BE.var (decide (0 ≤ IE.den (IE.sub IntKind.i64 (IE.add IntKind.i64 (IE.var q) (IE.lit 1)) (IE.lit 1)) ∧ IE.den (IE.sub IntKind.i64 (IE.add IntKind.i64 (IE.var q) (IE.lit 1)) (IE.lit 1)) < (↑len : Int)))) (BE.lit false)) = true ∧ decide (0 + Int.toNat (IE.den (IE.sub IntKind.i64 (IE.add IntKind.i64 (IE.var q) (IE.lit 1)) (IE.lit 1))) + 1 ≤ cap) = true ∧ (BE.den (BE.cmp BinOp.geq (IE.var (g (0 + Int.toNat (IE.den (IE.sub IntKind.i64 (IE.add IntKind.i64 (IE.var q) (IE.lit 1)) (IE.lit 1)))))) (IE.lit 128)) = true → IE.den (IE.sub IntKind.i64 (IE.conv IntKind.i64 (IE.add IntKind.u64 (IE.lit 0) (IE.shl IntKind.u64 (IE.conv IntKind.u64 (IE.var (g (0 + Int.toNat (IE.den (IE.add IntKind.i64 (IE.var q) (IE.lit 0))))))) (IE.lit 0)))) (IE.lit 256)) = v ∧ BE.den (BE.lit true) = ok ∧ cap = cap ∧ (∀ (e : Nat), e < cap → g e = g e) ∧ True) ∧ (BE.den (BE.cmp BinOp.geq (IE.var (g (0 + Int.toNat (IE.den (IE.sub IntKind.i64 (IE.add IntKind.i64 (IE.var q) (IE.lit 1)) (IE.lit 1)))))) (IE.lit 128)) = false → IE.den (IE.conv IntKind.i64 (IE.add IntKind.u64 (IE.lit 0) (IE.shl IntKind.u64 (IE.conv IntKind.u64 (IE.var (g (0 + Int.toNat (IE.den (IE.add IntKind.i64 (IE.var q) (IE.lit 0))))))) (IE.lit 0)))) = v ∧ BE.den (BE.lit true) = ok ∧ cap = cap ∧ (∀ (e : Nat), e < cap → g e = g e) ∧ True))) := by kernel_rfl
theorem gtr_d (a b : IE) : BE.den (BE.cmp BinOp.gtr a b) = decide (b.den < a.den) := by simp only [BE.den, cmpI_gtr]
theorem geq_d (a b : IE) : BE.den (BE.cmp BinOp.geq a b) = decide (b.den ≤ a.den) := by simp only [BE.den, cmpI_geq]
/-- What is read of a number of so many bytes. -/
def numR (g : Nat → Int) (len : Nat) (q n : Int) : Int := gN g len q.toNat (decide (n = 4))
def numT (len : Nat) (q n : Int) : Bool := decide (q.toNat + numK (decide (n = 4)) ≤ len)
def numPre : Ins → List SV → Prop := fun ins pl => match ins, pl with
  | [(cs, len, cap)], [.int .i64 q, .int .i64 n] => (∃ g : Nat → Int, cs = [.int .u8 fun e => .var (g e)]) ∧ BGood (colG cs) len cap ∧ (0 ≤ q.den ∧ q.den ≤ 4611686018427387999) ∧ (n.den = 1 ∨ n.den = 4)
  | _, _ => False
def numOuts : Ins → List SV → List Out := fun ins pl => match ins, pl with
  | [(cs, len, _)], [.int .i64 q, .int .i64 n] => [.one (fun _ => .tuple [.int .i64 (.var (numR (colG cs) len q.den n.den)), .bool (.var (numT len q.den n.den))]) [] []]
  | _, _ => []
theorem numPre_of {ins : Ins} {pl : List SV} (h : numPre ins pl) : ∃ (g : Nat → Int) (len cap : Nat) (q n : IE), ins = [([.int .u8 fun e => .var (g e)], len, cap)] ∧ pl = [.int .i64 q, .int .i64 n] ∧ BGood g len cap ∧ (0 ≤ q.den ∧ q.den ≤ 4611686018427387999) ∧ (n.den = 1 ∨ n.den = 4) := by
  unfold numPre at h
  split at h
  · obtain ⟨⟨g, rfl⟩, h2, h3, h4⟩ := h
    exact ⟨g, _, _, _, _, rfl, rfl, h2, h3, h4⟩
  · exact h.elim
theorem num_spec {f : FuncId} {s : SpecFn} (hs : SpecOk P f s)
    (h : ∀ (g : Nat → Int) (len cap : Nat) (q n : Int), BGood g len cap → 0 ≤ q → q ≤ 4611686018427387999 → (n = 1 ∨ n = 4) → s [slA 0 len cap, .int .i64 (.var q), .int .i64 (.var n)] [rdRow g cap] (numEnd g cap (numR g len q n) (numT len q n))) :
    SpecOk P f (rdSpec [.rows 1 zz1, .plain, .plain] numPre numOuts) := by
  refine rd_ok hs (fun sz zs h => by simp at h; obtain ⟨rfl, rfl⟩ := h; rfl) ?_ ?_
  · intro ins pl o ho
    unfold numOuts at ho
    split at ho
    · simp only [List.mem_singleton] at ho; subst ho
      exact ⟨movable_closed (by simp [SV.wf, SV.wfL]), rfl, by simp [SV.wfL]⟩
    · simp at ho
  · intro ins pl u hi hw hp
    obtain ⟨g, len, cap, q, n, rfl, rfl, h1, h2, h3⟩ := numPre_of hp
    exact h g len cap q.den n.den h1 h2.1 h2.2 h3
theorem at_q {q : Int} (h0 : 0 ≤ q) (h1 : q ≤ 4611686018427387999) (k : Int) (hk0 : 0 ≤ k) (hk : k ≤ 8) : IE.den (IE.add IntKind.i64 (IE.var q) (IE.lit k)) = q + k := by
  simp only [IE.den]; rw [wrap_i64_in (by omega) (by omega)]
theorem at_q1 {q : Int} (h0 : 0 ≤ q) (h1 : q ≤ 4611686018427387999) (k : Int) (hk0 : 1 ≤ k) (hk : k ≤ 8) : IE.den (IE.sub IntKind.i64 (IE.add IntKind.i64 (IE.var q) (IE.lit k)) (IE.lit 1)) = q + (k - 1) := by
  simp only [IE.den]; rw [wrap_i64_in (n := q + k) (by omega) (by omega), wrap_i64_in (by omega) (by omega)]; omega
theorem sub_q {q : Int} {len : Nat} (hl : len ≤ 4611686018427387904) (h0 : 0 ≤ q) (h1 : q ≤ 4611686018427387999) : IE.den (IE.sub IntKind.i64 (IE.var (len : Int)) (IE.var q)) = len - q := by
  simp only [IE.den]; rw [wrap_i64_in (by omega) (by omega)]
theorem ask_in {len cap : Nat} {x : Int} (hr : len ≤ cap) (h0 : 0 ≤ x) (h1 : x < len) : BE.den (BE.ite (BE.var (decide (len ≤ cap ∧ 0 + cap ≤ cap))) (BE.var (decide (0 ≤ x ∧ x < (len : Int)))) (BE.lit false)) = true := by
  simp [BE.den, hr, h0, h1]
theorem shl64 {b : Int} (s : Nat) (hs : s ≤ 24) (h0 : 0 ≤ b) (h1 : b < 256) : shlI .u64 (IntKind.u64.wrap b) s = b * 2 ^ s := by
  have hle : (2 : Int) ^ s ≤ 2 ^ 24 := by exact_mod_cast Nat.pow_le_pow_right (by decide : 0 < 2) hs
  have hp : (0 : Int) < 2 ^ s := Int.pow_pos (by decide)
  have h2 : b * 2 ^ s ≤ 255 * 2 ^ 24 := Int.mul_le_mul (by omega) hle (Int.le_of_lt hp) (by decide)
  have h3 : 0 ≤ b * 2 ^ s := Int.mul_nonneg h0 (Int.le_of_lt hp)
  rw [wrap_u64_in h0 (by omega), shl_mul .u64 b s (by simp [IntKind.bits]; omega)]
  exact wrap_u64_in h3 (by omega)
theorem sum1 {a : Int} (ha : 0 ≤ a ∧ a < 256) : IE.den (IE.conv .i64 (IE.add .u64 (IE.lit 0) (IE.shl .u64 (IE.conv .u64 (IE.var a)) (IE.lit 0)))) = a := by
  simp only [IE.den]
  have e0 : shlI .u64 (IntKind.u64.wrap a) 0 = a * 2 ^ 0 := shl64 0 (by decide) ha.1 ha.2
  rw [e0, wrap_u64_in (by omega) (by omega), wrap_i64_in (by omega) (by omega)]; omega
/-- The sum of four bytes, as it is told. -/
theorem sum4 {a b c d : Int} (ha : 0 ≤ a ∧ a < 256) (hb : 0 ≤ b ∧ b < 256) (hc : 0 ≤ c ∧ c < 256) (hd : 0 ≤ d ∧ d < 256) :
    IE.den (IE.conv .i64 (IE.add .u64 (IE.add .u64 (IE.add .u64 (IE.add .u64 (IE.lit 0) (IE.shl .u64 (IE.conv .u64 (IE.var a)) (IE.lit 0))) (IE.shl .u64 (IE.conv .u64 (IE.var b)) (IE.lit 8))) (IE.shl .u64 (IE.conv .u64 (IE.var c)) (IE.lit 16))) (IE.shl .u64 (IE.conv .u64 (IE.var d)) (IE.lit 24)))) = a + b * 256 + c * 65536 + d * 16777216 := by
  simp only [IE.den]
  have e0 : shlI .u64 (IntKind.u64.wrap a) 0 = a * 2 ^ 0 := shl64 0 (by decide) ha.1 ha.2
  have e1 : shlI .u64 (IntKind.u64.wrap b) 8 = b * 2 ^ 8 := shl64 8 (by decide) hb.1 hb.2
  have e2 : shlI .u64 (IntKind.u64.wrap c) 16 = c * 2 ^ 16 := shl64 16 (by decide) hc.1 hc.2
  have e3 : shlI .u64 (IntKind.u64.wrap d) 24 = d * 2 ^ 24 := shl64 24 (by decide) hd.1 hd.2
  rw [e0, e1, e2, e3, wrap_u64_in (n := 0 + a * 2 ^ 0) (by omega) (by omega), wrap_u64_in (n := 0 + a * 2 ^ 0 + b * 2 ^ 8) (by omega) (by omega), wrap_u64_in (n := 0 + a * 2 ^ 0 + b * 2 ^ 8 + c * 2 ^ 16) (by omega) (by omega), wrap_u64_in (by omega) (by omega), wrap_i64_in (by omega) (by omega)]
  omega
theorem rnum1_ok {g : Nat → Int} {len cap : Nat} {q : Int} (hg : BGood g len cap) (h0 : 0 ≤ q) (h1 : q ≤ 4611686018427387999) : sxFunc P A0 (fun _ => 40) Try.f46 [slA 0 len cap, .int .i64 (.var q), .int .i64 (.lit 1)] [rdRow g cap] (numEnd g cap (numR g len q 1) (numT len q 1)) = True := by
  apply eq_true
  have hsm := hg.small
  have hrm := hg.room
  have hby := hg.byte
  have e0 := at_q h0 h1 0 (by decide) (by decide)
  have f1 := at_q1 h0 h1 1 (by decide) (by decide)
  rw [rnum1_nf]
  simp only [e0, f1, gtr_d, sub_q hsm h0 h1, decide_eq_true_eq, decide_eq_false_iff_not]
  obtain ⟨j, rfl⟩ := Int.eq_ofNat_of_zero_le h0
  have hk : numK (decide ((1 : Int) = 4)) = 1 := rfl
  refine ⟨fun h => ?_, fun h => ?_⟩
  · have h : ((len : Int) - (j : Int)) < 1 := h
    have hn : ¬ (Int.toNat (j : Int) + numK (decide ((1 : Int) = 4)) ≤ len) := by rw [hk]; omega
    refine ⟨?_, ?_, trivial, fun _ _ => trivial, trivial⟩
    · unfold numR gN; rw [if_neg hn]
    · unfold numT; exact (decide_eq_false hn).symm
  · have h : ¬ (((len : Int) - (j : Int)) < 1) := h
    have hy : (Int.toNat (j : Int) + numK (decide ((1 : Int) = 4)) ≤ len) := by rw [hk]; omega
    have t0 : 0 + Int.toNat ((j : Int) + 0) = j := by omega
    have t1 : 0 + Int.toNat ((j : Int) + (1 - 1)) = j := by omega
    have hv : numR g len (j : Int) 1 = s8 (g j) := by
      unfold numR gN; rw [if_pos hy]; rfl
    have ht : numT len (j : Int) 1 = true := decide_eq_true hy
    have hb := hby j (by omega)
    rw [hv, ht]
    simp only [t0, t1, geq_d, decide_eq_true_eq, decide_eq_false_iff_not]
    refine ⟨ask_in hrm (by omega) (by omega), by omega, ask_in hrm (by omega) (by omega), by omega, fun h2 => ⟨?_, rfl, trivial, fun _ _ => trivial, trivial⟩, fun h2 => ⟨?_, rfl, trivial, fun _ _ => trivial, trivial⟩⟩
    · have h2 : 128 ≤ g j := h2
      show IntKind.i64.wrap (IE.den (IE.conv .i64 (IE.add .u64 (IE.lit 0) (IE.shl .u64 (IE.conv .u64 (IE.var (g j))) (IE.lit 0)))) - 256) = _
      rw [sum1 hb, wrap_i64_in (by omega) (by omega)]
      unfold s8; rw [if_pos h2]
    · have h2 : ¬ 128 ≤ g j := h2
      rw [sum1 hb]
      unfold s8; rw [if_neg h2]
theorem rnum4_ok {g : Nat → Int} {len cap : Nat} {q : Int} (hg : BGood g len cap) (h0 : 0 ≤ q) (h1 : q ≤ 4611686018427387999) : sxFunc P A0 (fun _ => 40) Try.f46 [slA 0 len cap, .int .i64 (.var q), .int .i64 (.lit 4)] [rdRow g cap] (numEnd g cap (numR g len q 4) (numT len q 4)) = True := by
  apply eq_true
  have hsm := hg.small
  have hrm := hg.room
  have hby := hg.byte
  have e0 := at_q h0 h1 0 (by decide) (by decide)
  have e1 := at_q h0 h1 1 (by decide) (by decide)
  have e2 := at_q h0 h1 2 (by decide) (by decide)
  have e3 := at_q h0 h1 3 (by decide) (by decide)
  have f4 := at_q1 h0 h1 4 (by decide) (by decide)
  rw [rnum4_nf]
  simp only [e0, e1, e2, e3, f4, gtr_d, sub_q hsm h0 h1, decide_eq_true_eq, decide_eq_false_iff_not]
  clear e0 e1 e2 e3 f4
  obtain ⟨j, rfl⟩ := Int.eq_ofNat_of_zero_le h0
  clear h0 h1 hsm
  have hk : numK (decide ((4 : Int) = 4)) = 4 := rfl
  refine ⟨fun h => ?_, fun h => ?_⟩
  · have h : ((len : Int) - (j : Int)) < 4 := h
    have hn : ¬ (Int.toNat (j : Int) + numK (decide ((4 : Int) = 4)) ≤ len) := by rw [hk]; omega
    refine ⟨?_, ?_, trivial, fun _ _ => trivial, trivial⟩
    · unfold numR gN; rw [if_neg hn]
    · unfold numT; exact (decide_eq_false hn).symm
  · have h : ¬ (((len : Int) - (j : Int)) < 4) := h
    have hy : (Int.toNat (j : Int) + numK (decide ((4 : Int) = 4)) ≤ len) := by rw [hk]; omega
    have t0 : 0 + Int.toNat ((j : Int) + 0) = j := by omega
    have t1 : 0 + Int.toNat ((j : Int) + 1) = j + 1 := by omega
    have t2 : 0 + Int.toNat ((j : Int) + 2) = j + 2 := by omega
    have t3 : 0 + Int.toNat ((j : Int) + 3) = j + 3 := by omega
    have t4 : 0 + Int.toNat ((j : Int) + (4 - 1)) = j + 3 := by omega
    have hv : numR g len (j : Int) 4 = s32 (u4 g j) := by
      unfold numR gN; rw [if_pos hy]; rfl
    have ht : numT len (j : Int) 4 = true := decide_eq_true hy
    have hj : j + 4 ≤ len := by rw [hk] at hy; omega
    clear h hy hk
    have b0 := hby j (by omega)
    have b1 := hby (j + 1) (by omega)
    have b2 := hby (j + 2) (by omega)
    have b3 := hby (j + 3) (by omega)
    rw [hv, ht]
    simp only [t0, t1, t2, t3, t4, geq_d, decide_eq_true_eq, decide_eq_false_iff_not]
    clear t0 t1 t2 t3 t4 hv ht hby
    have A0 := ask_in (x := (j : Int) + 0) hrm (by omega) (by omega)
    have A1 := ask_in (x := (j : Int) + 1) hrm (by omega) (by omega)
    have A2 := ask_in (x := (j : Int) + 2) hrm (by omega) (by omega)
    have A3 := ask_in (x := (j : Int) + 3) hrm (by omega) (by omega)
    have A4 := ask_in (x := (j : Int) + (4 - 1)) hrm (by omega) (by omega)
    refine ⟨A0, by omega, A1, by omega, A2, by omega, A3, by omega, A4, by omega, fun h2 => ⟨?_, rfl, trivial, fun _ _ => trivial, trivial⟩, fun h2 => ⟨?_, rfl, trivial, fun _ _ => trivial, trivial⟩⟩
    · have h2 : 128 ≤ g (j + 3) := h2
      have e := sum4 b0 b1 b2 b3
      generalize (IE.conv .i64 (IE.add .u64 (IE.add .u64 (IE.add .u64 (IE.add .u64 (IE.lit 0) (IE.shl .u64 (IE.conv .u64 (IE.var (g j))) (IE.lit 0))) (IE.shl .u64 (IE.conv .u64 (IE.var (g (j + 1)))) (IE.lit 8))) (IE.shl .u64 (IE.conv .u64 (IE.var (g (j + 2)))) (IE.lit 16))) (IE.shl .u64 (IE.conv .u64 (IE.var (g (j + 3)))) (IE.lit 24)))) = X at e ⊢
      show IntKind.i64.wrap (X.den - 4294967296) = _
      rw [e, wrap_i64_in (by omega) (by omega)]
      unfold s32 u4; rw [if_pos (by omega)]
    · have h2 : ¬ 128 ≤ g (j + 3) := h2
      rw [sum4 b0 b1 b2 b3]
      unfold s32 u4; rw [if_neg (by omega)]
theorem rnumber_ok : SpecOk P 46 (rdSpec [.rows 1 zz1, .plain, .plain] numPre numOuts) := by
  have hs := func_sound (un := fun _ => 40) A0_ok Try.func46
  refine num_spec (ret_ok hs) ?_
  intro g len cap q n hg h0 h1 hn
  rcases hn with rfl | rfl
  · refine ⟨[slA 0 len cap, .int .i64 (.var q), .int .i64 (.lit 1)], fun _ => rfl, fun h => h, ?_⟩
    rw [rnum1_ok hg h0 h1]; trivial
  · refine ⟨[slA 0 len cap, .int .i64 (.var q), .int .i64 (.lit 4)], fun _ => rfl, fun h => h, ?_⟩
    rw [rnum4_ok hg h0 h1]; trivial
end Go.Proofs.Ytajcmjjgnbaahaa.Amd
