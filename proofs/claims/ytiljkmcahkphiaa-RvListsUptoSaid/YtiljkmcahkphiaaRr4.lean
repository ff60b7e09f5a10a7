/- The document's answer to layer 15: immediates out of words and into them. -/
import Derived.Test.YtiljkmcahkphiaaRr3
namespace Go.Proofs.Ytiljkmcahkphiaa.Rv
open Go Go.Proofs.Ytiljkmcahkphiaa.Sx Go.RowKit
set_option linter.unusedVariables false
set_option linter.unusedSimpArgs false

/-! lay -/
def layParts : Nat → List (Nat × Nat × Nat)
  | 1 => [(0, 20, 12)]
  | 2 => [(0, 12, 20)]
  | 3 | 4 => [(0, 6, 20)]
  | 5 => [(0, 5, 7), (5, 7, 25)]
  | 7 => [(1, 4, 8), (5, 6, 25), (11, 1, 7), (12, 1, 31)]
  | 8 => [(1, 10, 21), (11, 1, 20), (12, 8, 12), (20, 1, 31)]
  | _ => []
def layP (d : Int) (p : Nat × Nat × Nat) : IE := .var (d / 2 ^ p.1 % 2 ^ p.2.1 * 2 ^ p.2.2)
def layE (f : Nat) (d : Int) : IE :=
  match layParts f with
  | [] => .lit 0
  | p :: l => l.foldl (fun w p => orU w (layP d p)) (layP d p)
def askedB {α : Type} (b : Bool) : List α → Prop → Prop
  | [], R => R
  | _ :: l, R => BE.den (.var b) = true ∧ askedB b l R
theorem askedB_of {α : Type} {b : Bool} (hb : b = true) {R : Prop} (h : R) : ∀ l : List α, askedB b l R
  | [] => h
  | _ :: l => ⟨hb, askedB_of hb h l⟩
theorem lay_run (f : Nat) (hf : f ∈ [1, 2, 3, 4, 5, 6, 7, 8]) (d : Int) (Q : SV → Prop) : sxFunc P H1 (fun _ => 40) Try.f30 [.int .i64 (.lit (f : Nat)), .int .i64 (.var d)] [] (fun v _ => Q v) = askedB (inI64 d) (layParts f) (Q (.int .u32 (layE f d))) := by
  simp only [List.mem_cons, List.not_mem_nil, or_false] at hf
  rcases hf with rfl | rfl | rfl | rfl | rfl | rfl | rfl | rfl <;> kernel_rfl

def layW : Nat → Int → Int
  | 4, d => d % 64 * 1048576
  | f, d => immW f d

theorem lay_or (d : Int) (p : Nat × Nat × Nat) (l : List (Nat × Nat × Nat)) (hp : ∀ q ∈ p :: l, q.2.1 + q.2.2 ≤ 32)
    (hd : (l.foldl (fun (s : Bool × Nat) q => (s.1 && s.2 &&& ((2 ^ q.2.1 - 1) * 2 ^ q.2.2) == 0, s.2 ||| ((2 ^ q.2.1 - 1) * 2 ^ q.2.2))) (true, (2 ^ p.2.1 - 1) * 2 ^ p.2.2)).1 = true) :
    (l.foldl (fun w p => orU w (layP d p)) (layP d p)).den = l.foldl (fun x q => x + d / 2 ^ q.1 % 2 ^ q.2.1 * 2 ^ q.2.2) (d / 2 ^ p.1 % 2 ^ p.2.1 * 2 ^ p.2.2) := by
  have hlt : ∀ q ∈ p :: l, (2 ^ q.2.1 - 1) * 2 ^ q.2.2 < 2 ^ 32 := fun q hq => by
    have e1 : (2 ^ q.2.1 - 1) * 2 ^ q.2.2 < 2 ^ q.2.1 * 2 ^ q.2.2 := Nat.mul_lt_mul_of_pos_right (by have := Nat.two_pow_pos q.2.1; omega) (Nat.two_pow_pos _)
    rw [← Nat.pow_add] at e1
    exact Nat.lt_of_lt_of_le e1 (Nat.pow_le_pow_right (by decide) (hp q hq))
  have h := fold_or (l.map fun q => ((2 ^ q.2.1 - 1) * 2 ^ q.2.2, d / 2 ^ q.1 % 2 ^ q.2.1 * 2 ^ q.2.2, layP d q)) (layP d p) _ _ rfl (piece_sub d p.1 p.2.1 p.2.2) (hlt p (List.mem_cons_self ..)) (fun x hx => by
    obtain ⟨q, hq, rfl⟩ := List.mem_map.1 hx
    exact ⟨rfl, piece_sub d q.1 q.2.1 q.2.2, hlt q (List.mem_cons_of_mem _ hq)⟩) (by rw [List.foldl_map]; exact hd)
  rw [List.foldl_map, List.foldl_map] at h
  exact h

theorem lay_den (f : Nat) (hf : f ∈ [1, 2, 3, 4, 5, 6, 7, 8]) (d : Int) : (layE f d).den = layW f d := by
  simp only [List.mem_cons, List.not_mem_nil, or_false] at hf
  rcases hf with rfl | rfl | rfl | rfl | rfl | rfl | rfl | rfl
  · simp [layE, layParts, layP, IE.den, layW, immW]
  · simp [layE, layParts, layP, IE.den, layW, immW]
  · simp [layE, layParts, layP, IE.den, layW, immW]
  · simp [layE, layParts, layP, IE.den, layW, immW]
  · have := lay_or d (0, 5, 7) [(5, 7, 25)] (by decide) (by decide)
    simpa [layE, layParts, layW, immW] using this
  · simp [layE, layParts, layP, IE.den, layW, immW]
  · have := lay_or d (1, 4, 8) [(5, 6, 25), (11, 1, 7), (12, 1, 31)] (by decide) (by decide)
    simpa [layE, layParts, layW, immW] using this
  · have := lay_or d (1, 10, 21) [(11, 1, 20), (12, 8, 12), (20, 1, 31)] (by decide) (by decide)
    simpa [layE, layParts, layW, immW] using this

def fRLay : PureFn
  | [.int .i64 (.lit f), .int .i64 e] => if (decide (f.toNat ∈ [1, 2, 3, 4, 5, 6, 7, 8]) && decide (0 ≤ f)) = true then some (some (.var (inI64 e.den)), .int .u32 (.var (layW f.toNat e.den))) else none
  | _ => none
theorem lay_ok : PureOk P 30 fRLay := by
  refine pure_of (func_sound (un := fun _ => 40) H1_ok Try.func30) ?_
  intro args p v hF hp
  unfold fRLay at hF
  split at hF
  · rename_i f e
    split at hF
    · rename_i hc
      simp only [Bool.and_eq_true, decide_eq_true_eq] at hc
      obtain ⟨h1, h2⟩ := hc
      simp only [Option.some.injEq, Prod.mk.injEq] at hF; obtain ⟨rfl, rfl⟩ := hF
      refine ⟨[.int .i64 (.lit ((f.toNat : Nat) : Int)), .int .i64 (.var e.den)], by simp [SV.denL, SV.den, IE.den, Int.toNat_of_nonneg h2], by simp [SV.wfL, SV.wf], by simp [SV.wfL, SV.wf], by simp [SV.wf], ?_⟩
      rw [lay_run _ h1]
      refine askedB_of hp (fun ν => ?_) _
      simp only [SV.den, lay_den _ h1, IE.den]
    · simp at hF
  · simp at hF

/-! take -/
theorem or_i64 (x y : Int) : bitsI .or .i64 x y = IntKind.i64.wrap (bitsI .or .u64 x y) := by
  simp only [bitsI]
  rw [wrap_u64, Int.emod_eq_of_lt]
  · rfl
  · omega
  · have := (BitVec.ofInt 64 x ||| BitVec.ofInt 64 y).isLt
    have e : (2 : Nat) ^ 64 = 18446744073709551616 := rfl
    simp only [IntKind.bits] at *
    omega

/-- A piece of a word's immediate: from, how many, to. -/
def takeParts : Nat → List (Nat × Nat × Nat)
  | 1 => [(12, 20, 0)]
  | 2 => [(20, 12, 0)]
  | 3 => [(20, 6, 0)]
  | 4 => [(20, 5, 0)]
  | 5 => [(7, 5, 0), (25, 7, 5)]
  | 7 => [(8, 4, 1), (25, 6, 5), (7, 1, 11), (31, 1, 12)]
  | 8 => [(21, 10, 1), (20, 1, 11), (12, 8, 12), (31, 1, 20)]
  | _ => []
def orI (a b : IE) : IE := .bits .or .i64 a b
def partE (w : Int) (p : Nat × Nat × Nat) : IE :=
  match p.2.2 with
  | 0 => .var (w / 2 ^ p.1 % 2 ^ p.2.1)
  | k + 1 => .shl .i64 (.var (w / 2 ^ p.1 % 2 ^ p.2.1)) (.lit ((k + 1 : Nat) : Int))
def takeE (f : Nat) (w : Int) : IE :=
  match takeParts f with
  | [] => .lit 0
  | p :: l => l.foldl (fun v p => orI v (partE w p)) (partE w p)
def signN : Nat → Nat
  | 2 | 5 => 12
  | 7 => 13
  | 8 => 21
  | _ => 0
def takeQ (f : Nat) (w : Int) (Q : SV → Prop) : Prop :=
  match signN f with
  | 0 => Q (.int .i64 (takeE f w))
  | n + 1 => BE.den (.var (inU64 (IE.den (.conv .u64 (takeE f w))))) = true ∧ Q (.int .i64 (.var (sgnN (n + 1) (IE.den (.conv .u64 (takeE f w))))))
theorem take_run (f : Nat) (hf : f ∈ [1, 2, 3, 4, 5, 6, 7, 8]) (w : Int) (Q : SV → Prop) : sxFunc P H1 (fun _ => 40) Try.f23 [.int .i64 (.lit (f : Nat)), .int .u32 (.var w)] [] (fun v _ => Q v) = askedB (inU32 w) (takeParts f) (takeQ f w Q) := by
  simp only [List.mem_cons, List.not_mem_nil, or_false] at hf
  rcases hf with rfl | rfl | rfl | rfl | rfl | rfl | rfl | rfl <;> kernel_rfl

theorem partE_den (w : Int) (p : Nat × Nat × Nat) (h : p.2.1 + p.2.2 ≤ 32) : (partE w p).den = w / 2 ^ p.1 % 2 ^ p.2.1 * 2 ^ p.2.2 := by
  obtain ⟨lo, n, s⟩ := p
  simp only at h
  unfold partE
  cases s with
  | zero => simp [IE.den]
  | succ s =>
    have hq : (0 : Int) < 2 ^ n := Int.pow_pos (by decide)
    have b0 : 0 ≤ w / 2 ^ lo % 2 ^ n := Int.emod_nonneg _ (by omega)
    have b1 : w / 2 ^ lo % 2 ^ n < 2 ^ n := Int.emod_lt_of_pos _ hq
    have ht : (0 : Int) < 2 ^ (s + 1) := Int.pow_pos (by decide)
    have hle : (2 : Int) ^ n * 2 ^ (s + 1) ≤ 4294967296 := by rw [← Int.pow_add, ← ipow32]; exact ipow_le h
    have b2 : w / 2 ^ lo % 2 ^ n * 2 ^ (s + 1) < 4294967296 := Int.lt_of_lt_of_le (Int.mul_lt_mul_of_pos_right b1 ht) hle
    have b3 : 0 ≤ w / 2 ^ lo % 2 ^ n * 2 ^ (s + 1) := Int.mul_nonneg b0 (Int.le_of_lt ht)
    simp only [IE.den]
    rw [shl_mul .i64 _ (s + 1) (by simp [IntKind.bits]; omega), wrap_i64_in (by omega) (by omega)]

theorem fold_orI (w : Int) : ∀ (l : List (Nat × Nat × Nat)) (e : IE) (m : Nat) (x : Int), e.den = x → Sub m x → m < 2 ^ 32 → (∀ q ∈ l, q.2.1 + q.2.2 ≤ 32) →
    (l.foldl (fun (s : Bool × Nat) q => (s.1 && s.2 &&& ((2 ^ q.2.1 - 1) * 2 ^ q.2.2) == 0, s.2 ||| ((2 ^ q.2.1 - 1) * 2 ^ q.2.2))) (true, m)).1 = true →
    (l.foldl (fun v p => orI v (partE w p)) e).den = l.foldl (fun x q => x + w / 2 ^ q.1 % 2 ^ q.2.1 * 2 ^ q.2.2) x ∧ ∃ m', m' < 2 ^ 32 ∧ Sub m' (l.foldl (fun x q => x + w / 2 ^ q.1 % 2 ^ q.2.1 * 2 ^ q.2.2) x)
  | [], e, m, x, he, hs, hm, _, _ => ⟨he, m, hm, hs⟩
  | q :: l, e, m, x, he, hs, hm, hl, hd => by
    simp only [List.foldl_cons, Bool.true_and] at hd ⊢
    have hq := hl q (List.mem_cons_self ..)
    have hlt : (2 ^ q.2.1 - 1) * 2 ^ q.2.2 < 2 ^ 32 := by
      have e1 : (2 ^ q.2.1 - 1) * 2 ^ q.2.2 < 2 ^ q.2.1 * 2 ^ q.2.2 := Nat.mul_lt_mul_of_pos_right (by have := Nat.two_pow_pos q.2.1; omega) (Nat.two_pow_pos _)
      rw [← Nat.pow_add] at e1
      exact Nat.lt_of_lt_of_le e1 (Nat.pow_le_pow_right (by decide) hq)
    have hz : m &&& ((2 ^ q.2.1 - 1) * 2 ^ q.2.2) = 0 := by
      by_cases hz : m &&& ((2 ^ q.2.1 - 1) * 2 ^ q.2.2) = 0
      · exact hz
      · exfalso
        have : (m &&& ((2 ^ q.2.1 - 1) * 2 ^ q.2.2) == 0) = false := by simpa using hz
        rw [this] at hd
        have key : ∀ (l : List (Nat × Nat × Nat)) (k : Nat), (l.foldl (fun (s : Bool × Nat) q => (s.1 && s.2 &&& ((2 ^ q.2.1 - 1) * 2 ^ q.2.2) == 0, s.2 ||| ((2 ^ q.2.1 - 1) * 2 ^ q.2.2))) (false, k)).1 = false := by
          intro l
          induction l with
          | nil => intro k; rfl
          | cons a r ih => intro k; simpa using ih _
        rw [key] at hd
        cases hd
    have hsq := piece_sub w q.1 q.2.1 q.2.2
    obtain ⟨o1, o2⟩ := or64 hs hsq hz (by omega) (by omega)
    have hm2 := Nat.or_lt_two_pow hm hlt
    have e1 : (orI e (partE w q)).den = x + w / 2 ^ q.1 % 2 ^ q.2.1 * 2 ^ q.2.2 := by
      simp only [orI, IE.den, he, partE_den w q hq]
      rw [or_i64, o1]
      have := o2.lt
      exact wrap_i64_in (by omega) (by omega)
    refine fold_orI w l _ _ _ e1 o2 hm2 (fun p hp => hl p (List.mem_cons_of_mem _ hp)) ?_
    have : (m &&& ((2 ^ q.2.1 - 1) * 2 ^ q.2.2) == 0) = true := by simpa using hz
    rw [this] at hd
    exact hd

theorem take_den (f : Nat) (hf : f ∈ [1, 2, 3, 4, 5, 6, 7, 8]) (w : Int) : (takeE f w).den = immV f w := by
  have one : ∀ p : Nat × Nat × Nat, p.2.1 + p.2.2 ≤ 32 → (2 ^ p.2.1 - 1) * 2 ^ p.2.2 < 2 ^ 32 := fun q hq => by
    have e1 : (2 ^ q.2.1 - 1) * 2 ^ q.2.2 < 2 ^ q.2.1 * 2 ^ q.2.2 := Nat.mul_lt_mul_of_pos_right (by have := Nat.two_pow_pos q.2.1; omega) (Nat.two_pow_pos _)
    rw [← Nat.pow_add] at e1
    exact Nat.lt_of_lt_of_le e1 (Nat.pow_le_pow_right (by decide) hq)
  simp only [List.mem_cons, List.not_mem_nil, or_false] at hf
  rcases hf with rfl | rfl | rfl | rfl | rfl | rfl | rfl | rfl
  · simp [takeE, takeParts, partE, IE.den, immV]
  · simp [takeE, takeParts, partE, IE.den, immV]
  · simp [takeE, takeParts, partE, IE.den, immV]
  · simp [takeE, takeParts, partE, IE.den, immV]
  · have := (fold_orI w [(25, 7, 5)] (partE w (7, 5, 0)) _ _ (partE_den w _ (by decide)) (piece_sub w 7 5 0) (one (7, 5, 0) (by decide)) (by decide) (by decide)).1
    simpa [takeE, takeParts, immV] using this
  · simp [takeE, takeParts, partE, IE.den, immV]
  · have := (fold_orI w [(25, 6, 5), (7, 1, 11), (31, 1, 12)] (partE w (8, 4, 1)) _ _ (partE_den w _ (by decide)) (piece_sub w 8 4 1) (one (8, 4, 1) (by decide)) (by decide) (by decide)).1
    simpa [takeE, takeParts, immV] using this
  · have := (fold_orI w [(20, 1, 11), (12, 8, 12), (31, 1, 20)] (partE w (21, 10, 1)) _ _ (partE_den w _ (by decide)) (piece_sub w 21 10 1) (one (21, 10, 1) (by decide)) (by decide) (by decide)).1
    simpa [takeE, takeParts, immV] using this

def fRTake : PureFn
  | [.int .i64 (.lit f), .int .u32 e] => if (decide (f.toNat ∈ [1, 2, 3, 4, 5, 6, 7, 8]) && decide (0 ≤ f)) = true then some (some (.var (inU32 e.den)), .int .i64 (.var (immD f.toNat e.den))) else none
  | _ => none
theorem take_ok : PureOk P 23 fRTake := by
  refine pure_of (func_sound (un := fun _ => 40) H1_ok Try.func23) ?_
  intro args p v hF hp
  unfold fRTake at hF
  split at hF
  · rename_i f e
    split at hF
    · rename_i hc
      simp only [Bool.and_eq_true, decide_eq_true_eq] at hc
      obtain ⟨h1, h2⟩ := hc
      simp only [Option.some.injEq, Prod.mk.injEq] at hF; obtain ⟨rfl, rfl⟩ := hF
      have hw : 0 ≤ e.den ∧ e.den < 4294967296 := (inU32_iff _).1 hp
      refine ⟨[.int .i64 (.lit ((f.toNat : Nat) : Int)), .int .u32 (.var e.den)], by simp [SV.denL, SV.den, IE.den, Int.toNat_of_nonneg h2], by simp [SV.wfL, SV.wf], by simp [SV.wfL, SV.wf], by simp [SV.wf], ?_⟩
      rw [take_run _ h1]
      refine askedB_of hp ?_ _
      have hd := take_den f.toNat h1 e.den
      generalize f.toNat = g at *
      generalize e.den = w at *
      simp only [List.mem_cons, List.not_mem_nil, or_false] at h1
      have sg : ∀ (n : Nat) (x : Int), 1 ≤ n → 0 ≤ x → x < 2 ^ n → n ≤ 21 → BE.den (.var (inU64 (IntKind.u64.wrap x))) = true ∧ sgnN n (IntKind.u64.wrap x) = if x < 2 ^ (n - 1) then x else x - 2 ^ n := by
        intro n x hn h0 hx hn'
        have hle : (2 : Int) ^ n ≤ 4294967296 := by rw [← ipow32]; exact ipow_le (by omega)
        rw [wrap_u64_in h0 (by omega)]
        have e2 : (2 : Int) ^ n = 2 ^ (n - 1) * 2 := by rw [← Int.pow_succ]; congr 1; omega
        have hp : (0 : Int) < 2 ^ (n - 1) := Int.pow_pos (by decide)
        refine ⟨by simp only [BE.den, inU64]; simp; omega, ?_⟩
        simp only [sgnN]
        rw [Int.emod_eq_of_lt h0 hx]
        by_cases hlt : x < 2 ^ (n - 1)
        · rw [if_pos hlt, Int.ediv_eq_zero_of_lt h0 hlt]; simp
        · rw [if_neg hlt]
          have : x / 2 ^ (n - 1) = 1 := by
            have h3 : x = (x - 2 ^ (n - 1)) + 2 ^ (n - 1) * 1 := by omega
            rw [h3, Int.add_mul_ediv_left _ _ (by omega), Int.ediv_eq_zero_of_lt (by omega) (by omega)]; rfl
          rw [this]; simp
      rcases h1 with rfl | rfl | rfl | rfl | rfl | rfl | rfl | rfl <;> simp only [takeQ, signN]
      · intro ν; simp only [SV.den, hd, IE.den, immD]
      · have := sg 12 (immV 2 w) (by decide) (by simp only [immV]; omega) (by simp only [immV]; omega) (by decide)
        refine ⟨by simp only [IE.den, hd]; exact this.1, fun ν => ?_⟩
        simp only [SV.den, IE.den, hd, this.2, immD]; rfl
      · intro ν; simp only [SV.den, hd, IE.den, immD]
      · intro ν; simp only [SV.den, hd, IE.den, immD]
      · have := sg 12 (immV 5 w) (by decide) (by simp only [immV]; omega) (by simp only [immV]; omega) (by decide)
        refine ⟨by simp only [IE.den, hd]; exact this.1, fun ν => ?_⟩
        simp only [SV.den, IE.den, hd, this.2, immD]; rfl
      · intro ν; simp only [SV.den, hd, IE.den, immD]
      · have := sg 13 (immV 7 w) (by decide) (by simp only [immV]; omega) (by simp only [immV]; omega) (by decide)
        refine ⟨by simp only [IE.den, hd]; exact this.1, fun ν => ?_⟩
        simp only [SV.den, IE.den, hd, this.2, immD]; rfl
      · have := sg 21 (immV 8 w) (by decide) (by simp only [immV]; omega) (by simp only [immV]; omega) (by decide)
        refine ⟨by simp only [IE.den, hd]; exact this.1, fun ν => ?_⟩
        simp only [SV.den, IE.den, hd, this.2, immD]; rfl
    · simp at hF
  · simp at hF

def rrT2 : List (FuncId × Cal) := (30, .pure fRLay) :: (23, .pure fRTake) :: rrT1
theorem rrT2_ok : GammaOk P (table rrT2) := table_cons lay_ok (table_cons take_ok rrT1_ok)
noncomputable def H2 : FuncId → Option Cal := inl P (fun _ _ => 40) (table rrT2) 6
theorem H2_ok : GammaOk P H2 := inl_ok rrT2_ok 6

end Go.Proofs.Ytiljkmcahkphiaa.Rv
