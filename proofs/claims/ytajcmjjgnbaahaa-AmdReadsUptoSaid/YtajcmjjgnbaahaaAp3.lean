/- What is read is written as it was. -/
import Derived.Test.YtajcmjjgnbaahaaAp2
namespace Go.Proofs.Ytajcmjjgnbaahaa.Amd
open Go
set_option linter.unusedVariables false
set_option linter.unusedSimpArgs false

/-- What is read behind a prefix and a code is what is written. -/
def Told (g : Nat → Int) (len : Nat) (p code : Int) (j : Nat) (y : AI) (e : Nat) : Prop :=
  e ≤ len ∧ amdErr y = 0 ∧ plain y = y ∧ ∃ r, reads g j r ∧ amdBytes y = withP p (code :: r) ∧ j + r.length = e
theorem pfx_back {p : Int} (h0 : 0 ≤ p) (h1 : p < 16) (h2 : p / 2 % 2 = 0) {a b : Int} (ha : 0 ≤ a ∧ a < 8) (hb : 0 ≤ b ∧ b < 8) : pfx (hiW p) (a + hiR p) (b + hiB p) = p := by
  unfold pfx hiW hiR hiB
  by_cases h3 : p / 8 % 2 = 1 <;> by_cases h4 : p / 4 % 2 = 1 <;> by_cases h5 : p % 2 = 1 <;> simp only [h3, h4, h5, decide_true, decide_false, if_true, if_false, Bool.false_eq_true] <;> (repeat' split) <;> omega
theorem pfx_back0 {p : Int} (h0 : 0 ≤ p) (h1 : p < 16) (h2 : p / 2 % 2 = 0) (h4 : p / 4 % 2 = 0) {b : Int} (hb : 0 ≤ b ∧ b < 8) : pfx (hiW p) 0 (b + hiB p) = p := by
  unfold pfx hiW hiB
  by_cases h3 : p / 8 % 2 = 1 <;> by_cases h5 : p % 2 = 1 <;> simp only [h3, h5, decide_true, decide_false, if_true, if_false, Bool.false_eq_true] <;> (repeat' split) <;> omega
theorem pfx_back1 {p : Int} (h0 : 0 ≤ p) (h2 : p / 2 % 2 = 0) (h4 : p / 4 = 0) {b : Int} (hb : 0 ≤ b ∧ b < 8) : pfx false 0 (b + hiB p) = p := by
  unfold pfx hiB
  by_cases h5 : p % 2 = 1 <;> simp only [h5, if_true, if_false, Bool.false_eq_true] <;> (repeat' split) <;> omega
theorem hiB_or (p : Int) : hiB p = 0 ∨ hiB p = 8 := by unfold hiB; split <;> simp
theorem hiR_or (p : Int) : hiR p = 0 ∨ hiR p = 8 := by unfold hiR; split <;> simp
theorem badReg_of {r : Int} (h0 : 0 ≤ r) (h1 : r ≤ 15) : badReg r = false := by
  simp only [badReg, Bool.or_eq_false_iff, decide_eq_false_iff_not]; omega
theorem pr_good (g : Nat → Int) (i : Nat) (p : Int) : badReg (pr g i p) = false := by
  have := hiR_or p
  exact badReg_of (by unfold pr; omega) (by unfold pr; omega)
theorem pb_good (g : Nat → Int) (i : Nat) (p : Int) : badReg (pb g i p) = false := by
  have := hiB_or p
  exact badReg_of (by unfold pb; omega) (by unfold pb; omega)
theorem pair_back {g : Nat → Int} {i : Nat} {mm p q : Int} (h : g i / 64 = mm) : pairB mm (pr g i p) (pb g i q) = g i := by
  have h1 := hiR_or p
  have h2 := hiB_or q
  unfold pairB pr pb; omega
theorem pair_back1 {g : Nat → Int} {i : Nat} {mm n q : Int} (h : g i / 64 = mm) (hn : g i / 8 % 8 = n) : pairB mm n (pb g i q) = g i := by
  have h2 := hiB_or q
  unfold pairB pb; omega
theorem num_back {g : Nat → Int} {p : Nat} {long : Bool} (hb : ∀ k, p ≤ k → k < p + numK long → 0 ≤ g k ∧ g k < 256) : reads g p (numB (numV g p long) long) ∧ numOk (numV g p long) long ∧ (numB (numV g p long) long).length = numK long := by
  cases long with
  | true =>
    have b0 := hb p (by omega) (by simp [numK])
    have b1 := hb (p + 1) (by omega) (by simp [numK])
    have b2 := hb (p + 2) (by omega) (by simp [numK])
    have b3 := hb (p + 3) (by omega) (by simp [numK])
    simp only [numB, numV, numOk, if_true, le4, reads, numK]
    have hv : ∃ v, v = s32 (u4 g p) := ⟨_, rfl⟩
    obtain ⟨v, hv⟩ := hv
    rw [← hv]
    unfold s32 u4 at hv
    refine ⟨⟨?_, ?_, ?_, ?_, trivial⟩, ?_, rfl⟩
    · split at hv <;> omega
    · split at hv <;> omega
    · rw [show p + 1 + 1 = p + 2 by omega]; split at hv <;> omega
    · rw [show p + 1 + 1 + 1 = p + 3 by omega]; split at hv <;> omega
    · split at hv <;> omega
  | false =>
    have b0 := hb p (by omega) (by simp [numK])
    simp only [numB, numV, numOk, Bool.false_eq_true, if_false, reads, numK]
    unfold s8
    refine ⟨⟨?_, trivial⟩, ?_, rfl⟩ <;> split <;> omega
theorem u4_back {g : Nat → Int} {p : Nat} (hb : ∀ k, p ≤ k → k < p + 4 → 0 ≤ g k ∧ g k < 256) : reads g p (le4 (u4 g p)) ∧ 0 ≤ u4 g p ∧ u4 g p ≤ 4294967295 := by
  have b0 := hb p (by omega) (by omega)
  have b1 := hb (p + 1) (by omega) (by omega)
  have b2 := hb (p + 2) (by omega) (by omega)
  have b3 := hb (p + 3) (by omega) (by omega)
  simp only [le4, reads]
  unfold u4
  refine ⟨⟨?_, ?_, ?_, ?_, trivial⟩, ?_, ?_⟩
  · omega
  · omega
  · rw [show p + 1 + 1 = p + 2 by omega]; omega
  · rw [show p + 1 + 1 + 1 = p + 3 by omega]; omega
  · omega
  · omega
theorem mem_back {g : Nat → Int} {len j : Nat} {p : Int} (hm : memOk g len j) (hb : ∀ k, k < len → 0 ≤ g k ∧ g k < 256) :
    reads g j (memB (pr g j p) (pb g j p) (memD g j) (memL g j)) ∧ numOk (memD g j) (memL g j) ∧ j + (memB (pr g j p) (pb g j p) (memD g j) (memL g j)).length = memEnd g j := by
  obtain ⟨m1, m2, m3, m4⟩ := hm
  have he : j + 1 + sib g j + numK (memL g j) ≤ len := m4
  obtain ⟨n1, n2, n3⟩ := num_back (g := g) (p := j + 1 + sib g j) (long := memL g j) fun k h1 h2 => hb k (by omega)
  have h8 : pb g j p % 8 = g j % 8 := by have := hiB_or p; unfold pb; omega
  have hs : (if pb g j p % 8 = 4 then [(36 : Int)] else []).length = sib g j := by rw [h8]; unfold sib; split <;> rfl
  have hmm : (if memL g j = true then (2 : Int) else 1) = g j / 64 := by
    unfold memL
    rcases m2 with h | h <;> simp [h]
  refine ⟨?_, n2, ?_⟩
  · simp only [memB, reads]
    refine ⟨?_, ?_⟩
    · rw [hmm]; exact (pair_back rfl).symm
    · rw [reads_append, hs]
      refine ⟨?_, n1⟩
      rw [h8]
      split
      · rename_i h; exact ⟨(m3 h).2, trivial⟩
      · trivial
  · simp only [memB, List.length_cons, List.length_append]
    rw [hs]
    unfold memD at *
    rw [n3]; unfold memEnd; omega

section
variable {g : Nat → Int} {len j e : Nat} {p : Int} {y : AI}
theorem of_if {c : Prop} [Decidable c] {a b : AI × Nat} (h : (if c then some a else none) = some b) : c ∧ a = b := by
  split at h
  · exact ⟨by assumption, by simpa using h⟩
  · simp at h
theorem told_two {op c : Int} (hf : formOf op = some (.two c)) (h0 : 0 ≤ p) (h1 : p < 16) (h2 : p / 2 % 2 = 0) (h : dTwo g len op p j = some (y, e)) : Told g len p c j y e := by
  obtain ⟨⟨c1, c2⟩, q⟩ := of_if h
  simp only [Prod.mk.injEq] at q
  obtain ⟨rfl, rfl⟩ := q
  refine ⟨by omega, ?_, ?_, [g j], ⟨rfl, trivial⟩, ?_, rfl⟩
  · simp only [amdErr, hf, encE, pr_good, pb_good]; rfl
  · simp only [plain, hf, plainF]
  · simp only [amdBytes, hf, encL, pair_back c2]
    rw [show pfx (hiW p) (pr g j p) (pb g j p) = p from pfx_back h0 h1 h2 (by omega) (by omega)]
theorem told_imul (hc : g j = 175) (h0 : 0 ≤ p) (h1 : p < 16) (h2 : p / 2 % 2 = 0) (h : dImul g len p (j + 1) = some (y, e)) : Told g len p 15 j y e := by
  obtain ⟨⟨c1, c2⟩, q⟩ := of_if h
  simp only [Prod.mk.injEq] at q
  obtain ⟨rfl, rfl⟩ := q
  refine ⟨by omega, ?_, ?_, [g j, g (j + 1)], ⟨rfl, rfl, trivial⟩, ?_, rfl⟩
  · simp only [amdErr, show formOf 13 = some .imul from rfl, encE, pr_good, pb_good]; rfl
  · simp only [plain, show formOf 13 = some .imul from rfl, plainF]
  · simp only [amdBytes, show formOf 13 = some .imul from rfl, encL, pair_back c2]
    rw [show pfx (hiW p) (pr g (j + 1) p) (pb g (j + 1) p) = p from pfx_back h0 h1 h2 (by omega) (by omega), hc]
theorem told_load (hb : ∀ k, k < len → 0 ≤ g k ∧ g k < 256) (h0 : 0 ≤ p) (h1 : p < 16) (h2 : p / 2 % 2 = 0) (h : dLoad g len p j = some (y, e)) : Told g len p 139 j y e := by
  obtain ⟨c1, q⟩ := of_if h
  simp only [Prod.mk.injEq] at q
  obtain ⟨rfl, rfl⟩ := q
  obtain ⟨m1, m2, m3⟩ := mem_back (p := p) c1 hb
  refine ⟨c1.2.2.2, ?_, ?_, _, m1, ?_, m3⟩
  · simp only [amdErr, show formOf 3 = some .load from rfl, encE, pr_good, pb_good, m2]; rfl
  · simp only [plain, show formOf 3 = some .load from rfl, plainF]
  · simp only [amdBytes, show formOf 3 = some .load from rfl, encL]
    rw [show pfx (hiW p) (pr g j p) (pb g j p) = p from pfx_back h0 h1 h2 (by omega) (by omega)]
theorem told_store (hb : ∀ k, k < len → 0 ≤ g k ∧ g k < 256) (h0 : 0 ≤ p) (h1 : p < 16) (h2 : p / 2 % 2 = 0) (h : dStore g len p j = some (y, e)) : Told g len p 137 j y e := by
  obtain ⟨c1, q⟩ := of_if h
  simp only [Prod.mk.injEq] at q
  obtain ⟨rfl, rfl⟩ := q
  obtain ⟨m1, m2, m3⟩ := mem_back (p := p) c1 hb
  refine ⟨c1.2.2.2, ?_, ?_, _, m1, ?_, m3⟩
  · simp only [amdErr, show formOf 4 = some .store from rfl, encE, pr_good, pb_good, m2]; rfl
  · simp only [plain, show formOf 4 = some .store from rfl, plainF]
  · simp only [amdBytes, show formOf 4 = some .store from rfl, encL]
    rw [show pfx (hiW p) (pr g j p) (pb g j p) = p from pfx_back h0 h1 h2 (by omega) (by omega)]
theorem told_imm {op n c : Int} (hf : formOf op = some (.imm n)) (hc : c = 131 ∨ c = 129) (hn : ahead g len j / 8 % 8 = n) (hb : ∀ k, k < len → 0 ≤ g k ∧ g k < 256) (h0 : 0 ≤ p) (h1 : p < 16) (h2 : p / 2 % 2 = 0) (h : dImm g len op p c j = some (y, e)) : Told g len p c j y e := by
  obtain ⟨⟨c1, c2, c3, c4⟩, q⟩ := of_if h
  simp only [Prod.mk.injEq] at q
  obtain ⟨rfl, rfl⟩ := q
  obtain ⟨n1, n2, n3⟩ := num_back (g := g) (p := j + 1) (long := decide (c = 129)) fun k h1 h2 => hb k (by omega)
  unfold ahead at hn
  rw [if_pos c2] at hn
  have hcc : (if decide (c = 129) = true then (129 : Int) else 131) = c := by rcases hc with rfl | rfl <;> decide
  refine ⟨c4, ?_, ?_, g j :: numB (numV g (j + 1) (decide (c = 129))) (decide (c = 129)), ⟨rfl, n1⟩, ?_, ?_⟩
  · simp only [amdErr, hf, encE, pb_good, n2, if_true]; rfl
  · simp only [plain, hf, plainF]
  · simp only [amdBytes, hf, encL, pair_back1 c3 hn, hcc]
    rw [show pfx (hiW p) 0 (pb g j p) = p from pfx_back0 h0 h1 h2 c1 (by omega)]
  · simp only [List.length_cons, n3]; omega
theorem told_one {op n c : Int} (hf : formOf op = some (.one c n)) (hn : ahead g len j / 8 % 8 = n) (h0 : 0 ≤ p) (h1 : p < 16) (h2 : p / 2 % 2 = 0) (h : dOne g len op p j = some (y, e)) : Told g len p c j y e := by
  obtain ⟨⟨c1, c2, c3⟩, q⟩ := of_if h
  simp only [Prod.mk.injEq] at q
  obtain ⟨rfl, rfl⟩ := q
  unfold ahead at hn
  rw [if_pos c2] at hn
  refine ⟨by omega, ?_, ?_, [g j], ⟨rfl, trivial⟩, ?_, rfl⟩
  · simp only [amdErr, hf, encE, pb_good]; rfl
  · simp only [plain, hf, plainF]
  · simp only [amdBytes, hf, encL, pair_back1 c3 hn]
    rw [show pfx (hiW p) 0 (pb g j p) = p from pfx_back0 h0 h1 h2 c1 (by omega)]
theorem told_stack {op k c : Int} (hf : formOf op = some (.stack k)) (hk : c = k + c % 8) (hj : j ≤ len) (h0 : 0 ≤ p) (h2 : p / 2 % 2 = 0) (h : dStack op p c j = some (y, e)) : Told g len p c j y e := by
  obtain ⟨c1, q⟩ := of_if h
  simp only [Prod.mk.injEq] at q
  obtain ⟨rfl, rfl⟩ := q
  have hB := hiB_or p
  refine ⟨hj, ?_, ?_, [], trivial, ?_, rfl⟩
  · simp only [amdErr, hf, encE, badReg_of (show 0 ≤ c % 8 + hiB p by omega) (by omega)]; rfl
  · simp only [plain, hf, plainF]
  · simp only [amdBytes, hf, encL]
    rw [pfx_back1 h0 h2 c1 (by omega), show k + (c % 8 + hiB p) % 8 = c by omega]
theorem told_mov {c : Int} (hc : c / 8 = 23) (hb : ∀ k, k < len → 0 ≤ g k ∧ g k < 256) (h0 : 0 ≤ p) (h2 : p / 2 % 2 = 0) (h : dMov g len p c j = some (y, e)) : Told g len p c j y e := by
  obtain ⟨⟨c1, c2⟩, q⟩ := of_if h
  simp only [Prod.mk.injEq] at q
  obtain ⟨rfl, rfl⟩ := q
  have hB := hiB_or p
  obtain ⟨u1, u2, u3⟩ := u4_back (g := g) (p := j) fun k h1 h2 => hb k (by omega)
  refine ⟨c2, ?_, ?_, le4 (u4 g j), u1, ?_, rfl⟩
  · simp only [amdErr, show formOf 1 = some .movImm from rfl, encE, badReg_of (show 0 ≤ c % 8 + hiB p by omega) (by omega)]
    rw [if_neg (by simp), if_neg (by omega)]
  · simp only [plain, show formOf 1 = some .movImm from rfl, plainF]
  · simp only [amdBytes, show formOf 1 = some .movImm from rfl, encL]
    rw [pfx_back1 h0 h2 c1 (by omega), show 184 + (c % 8 + hiB p) % 8 = c by omega]
theorem told_jmp {c : Int} (hc : c = 235 ∨ c = 233) (hb : ∀ k, k < len → 0 ≤ g k ∧ g k < 256) (h : dJmp g len p c j = some (y, e)) : Told g len p c j y e := by
  obtain ⟨⟨rfl, c2⟩, q⟩ := of_if h
  simp only [Prod.mk.injEq] at q
  obtain ⟨rfl, rfl⟩ := q
  obtain ⟨n1, n2, n3⟩ := num_back (g := g) (p := j) (long := decide (c = 233)) fun k h1 h2 => hb k (by omega)
  have hcc : (if decide (c = 233) = true then (233 : Int) else 235) = c := by rcases hc with rfl | rfl <;> decide
  refine ⟨c2, ?_, ?_, _, n1, ?_, by rw [n3]⟩
  · simp only [amdErr, show formOf 25 = some .jmp from rfl, encE, n2, if_true]
  · simp only [plain, show formOf 25 = some .jmp from rfl, plainF]
  · simp only [amdBytes, show formOf 25 = some .jmp from rfl, encL, hcc]; rfl
theorem told_jcs {c : Int} (hc : c / 16 = 7) (hb : ∀ k, k < len → 0 ≤ g k ∧ g k < 256) (h : dJcc g len p (c % 16) false j = some (y, e)) : Told g len p c j y e := by
  obtain ⟨⟨rfl, c2, c3, c4⟩, q⟩ := of_if h
  simp only [Prod.mk.injEq] at q
  obtain ⟨rfl, rfl⟩ := q
  obtain ⟨n1, n2, n3⟩ := num_back (g := g) (p := j) (long := false) fun k h1 h2 => hb k (by omega)
  refine ⟨c4, ?_, ?_, _, n1, ?_, by rw [n3]⟩
  · simp only [amdErr, show formOf 26 = some .jcc from rfl, encE, n2, if_true]
    rw [if_neg (by omega)]
  · simp only [plain, show formOf 26 = some .jcc from rfl, plainF]
  · simp only [amdBytes, show formOf 26 = some .jcc from rfl, encL, Bool.false_eq_true, if_false]
    rw [show 112 + c % 16 = c by omega]; rfl
theorem told_jcl (hj : j < len) (hc : g j / 16 = 8) (hb : ∀ k, k < len → 0 ≤ g k ∧ g k < 256) (h : dJcc g len p (g j % 16) true (j + 1) = some (y, e)) : Told g len p 15 j y e := by
  obtain ⟨⟨rfl, c2, c3, c4⟩, q⟩ := of_if h
  simp only [Prod.mk.injEq] at q
  obtain ⟨rfl, rfl⟩ := q
  obtain ⟨n1, n2, n3⟩ := num_back (g := g) (p := j + 1) (long := true) fun k h1 h2 => hb k (by omega)
  refine ⟨c4, ?_, ?_, g j :: numB (numV g (j + 1) true) true, ⟨rfl, n1⟩, ?_, by simp only [List.length_cons, n3]; omega⟩
  · simp only [amdErr, show formOf 26 = some .jcc from rfl, encE, n2, if_true]
    rw [if_neg (by omega)]
  · simp only [plain, show formOf 26 = some .jcc from rfl, plainF]
  · simp only [amdBytes, show formOf 26 = some .jcc from rfl, encL, if_true]
    rw [show 128 + g j % 16 = g j by omega]; rfl
theorem told_ret (hj : j ≤ len) (h : dRet p j = some (y, e)) : Told g len p 195 j y e := by
  obtain ⟨rfl, q⟩ := of_if h
  simp only [Prod.mk.injEq] at q
  obtain ⟨rfl, rfl⟩ := q
  exact ⟨hj, rfl, rfl, [], trivial, rfl, rfl⟩

theorem on_if {α : Type} {c : Prop} [Decidable c] {a b z : α} {Q : Prop} (h : (if c then a else b) = z) (h1 : c → a = z → Q) (h2 : b = z → Q) : Q := by
  by_cases hc : c
  · rw [if_pos hc] at h; exact h1 hc h
  · rw [if_neg hc] at h; exact h2 h
theorem told_code {c : Int} (hj : j ≤ len) (hb : ∀ k, k < len → 0 ≤ g k ∧ g k < 256) (h0 : 0 ≤ p) (h1 : p < 16) (h2 : p / 2 % 2 = 0) (h : decC g len p c j = some (y, e)) : Told g len p c j y e := by
  unfold decC at h
  refine on_if h (fun hc k => ?_) fun h => ?_
  · obtain ⟨rfl, hl⟩ := hc
    refine on_if k (fun hg h => told_imul hg h0 h1 h2 h) fun h => on_if h (fun hg h => told_jcl hl hg hb h) fun h => by cases h
  refine on_if h (fun hc h => told_mov hc hb h0 h2 h) fun h => ?_
  refine on_if h (fun hc h => told_stack (k := 80) rfl (by omega) hj h0 h2 h) fun h => ?_
  refine on_if h (fun hc h => told_stack (k := 88) rfl (by omega) hj h0 h2 h) fun h => ?_
  refine on_if h (fun hc h => told_jcs hc hb h) fun h => ?_
  refine on_if h (fun hc h => told_jmp (.inl hc) hb h) fun h => ?_
  refine on_if h (fun hc h => told_jmp (.inr hc) hb h) fun h => ?_
  refine on_if h (fun hc h => by subst hc; exact told_ret hj h) fun h => ?_
  refine on_if h (fun hc h => by subst hc; exact told_load hb h0 h1 h2 h) fun h => ?_
  refine on_if h (fun hc k => ?_) fun h => ?_
  · subst hc
    exact on_if k (fun _ h => told_two rfl h0 h1 h2 h) fun h => told_store hb h0 h1 h2 h
  refine on_if h (fun hc h => by subst hc; exact told_two rfl h0 h1 h2 h) fun h => ?_
  refine on_if h (fun hc h => by subst hc; exact told_two rfl h0 h1 h2 h) fun h => ?_
  refine on_if h (fun hc h => by subst hc; exact told_two rfl h0 h1 h2 h) fun h => ?_
  refine on_if h (fun hc h => by subst hc; exact told_two rfl h0 h1 h2 h) fun h => ?_
  refine on_if h (fun hc h => by subst hc; exact told_two rfl h0 h1 h2 h) fun h => ?_
  refine on_if h (fun hc h => by subst hc; exact told_two rfl h0 h1 h2 h) fun h => ?_
  refine on_if h (fun hc h => by subst hc; exact told_two rfl h0 h1 h2 h) fun h => ?_
  refine on_if h (fun hc h => by subst hc; exact told_two rfl h0 h1 h2 h) fun h => ?_
  refine on_if h (fun hc h => ?_) fun h => ?_
  · refine on_if h (fun hn h => told_imm rfl hc hn hb h0 h1 h2 h) fun h => ?_
    refine on_if h (fun hn h => told_imm rfl hc hn hb h0 h1 h2 h) fun h => ?_
    refine on_if h (fun hn h => told_imm rfl hc hn hb h0 h1 h2 h) fun h => ?_
    exact on_if h (fun hn h => told_imm rfl hc hn hb h0 h1 h2 h) fun h => by cases h
  refine on_if h (fun hc k => ?_) fun h => ?_
  · subst hc
    refine on_if k (fun hn h => told_one rfl hn h0 h1 h2 h) fun h => ?_
    refine on_if h (fun hn h => told_one rfl hn h0 h1 h2 h) fun h => ?_
    exact on_if h (fun hn h => told_one rfl hn h0 h1 h2 h) fun h => by cases h
  refine on_if h (fun hc k => ?_) fun h => by cases h
  subst hc
  refine on_if k (fun hn h => told_one rfl hn h0 h1 h2 h) fun h => ?_
  exact on_if h (fun hn h => told_one rfl hn h0 h1 h2 h) fun h => by cases h
end

/-- What is read is written as it was. -/
theorem enc_dec {g : Nat → Int} {len i e : Nat} {y : AI} (hb : ∀ k, k < len → 0 ≤ g k ∧ g k < 256) (h : amdDec g len i = some (y, e)) :
    e ≤ len ∧ amdErr y = 0 ∧ plain y = y ∧ reads g i (amdBytes y) ∧ i + (amdBytes y).length = e := by
  unfold amdDec at h
  split at h
  · simp at h
  rename_i hi
  have hgi := hb i (by omega)
  split at h
  · rename_i h4
    split at h
    · simp at h
    · rename_i hn
      obtain ⟨t1, t2, t3, r, t4, t5, t6⟩ := told_code (by omega) hb (by omega) (by omega) (by omega) h
      rw [t5]
      unfold withP
      rw [if_neg (by omega)]
      refine ⟨t1, t2, t3, ⟨by omega, rfl, t4⟩, ?_⟩
      simp only [List.length_cons]; omega
  · obtain ⟨t1, t2, t3, r, t4, t5, t6⟩ := told_code (by omega) hb (by omega) (by omega) (by decide) h
    rw [t5]
    unfold withP
    rw [if_pos rfl]
    refine ⟨t1, t2, t3, ⟨rfl, t4⟩, ?_⟩
    simp only [List.length_cons]; omega

theorem reads_cut {g g' : Nat → Int} : ∀ {l : List Int} {i : Nat}, (∀ k, i ≤ k → k < i + l.length → g k = g' k) → reads g i l → reads g' i l
  | [], _, _, _ => trivial
  | c :: l, i, h, hr => ⟨by rw [← h i (by omega) (by simp)]; exact hr.1, reads_cut (fun k h1 h2 => h k (by omega) (by simp; omega)) hr.2⟩
theorem reads_same {g : Nat → Int} : ∀ {l l' : List Int} {i : Nat}, reads g i l → reads g i l' → l.length = l'.length → l = l'
  | [], [], _, _, _, _ => rfl
  | c :: l, c' :: l', i, h, h', e => by rw [← h.1, ← h'.1, reads_same h.2 h'.2 (by simpa using e)]
  | [], _ :: _, _, _, _, e => by simp at e
  | _ :: _, [], _, _, _, e => by simp at e
/-- Less than what is written is nothing. -/
theorem dec_less {g : Nat → Int} {len i n : Nat} {x : AI} (he : amdErr x = 0) (hb : ∀ k, k < len → 0 ≤ g k ∧ g k < 256) (hr : reads g i (amdBytes x)) (hl : i + (amdBytes x).length ≤ len) (hn : n < i + (amdBytes x).length) : amdDec g n i = none := by
  cases h : amdDec g n i with
  | none => rfl
  | some z =>
    obtain ⟨y, e⟩ := z
    exfalso
    obtain ⟨e1, e2, e3, e4, e5⟩ := enc_dec (fun k hk => hb k (by omega)) h
    have h1 := dec_enc e2 e4 (show i + (amdBytes y).length ≤ len by omega)
    rw [dec_enc he hr hl] at h1
    simp only [Option.some.injEq, Prod.mk.injEq] at h1
    omega
end Go.Proofs.Ytajcmjjgnbaahaa.Amd
