/- What Encode makes, in numbers. -/
import Derived.Test.YtiljkmcahkphiaaRv2
namespace Go.Proofs.Ytiljkmcahkphiaa.Rv
open Go Go.Proofs.Ytiljkmcahkphiaa.Sx Go.RowKit
set_option linter.unusedVariables false
set_option linter.unusedSimpArgs false

def immW : Nat → Int → Int
  | 1, d => d % 1048576 * 4096
  | 2, d => d % 4096 * 1048576
  | 3, d => d % 64 * 1048576
  | 4, d => d % 32 * 1048576
  | 5, d => d % 32 * 128 + d / 32 % 128 * 33554432
  | 7, d => d / 2 % 16 * 256 + d / 32 % 64 * 33554432 + d / 2048 % 2 * 128 + d / 4096 % 2 * 2147483648
  | 8, d => d / 2 % 1024 * 2097152 + d / 2048 % 2 * 1048576 + d / 4096 % 256 * 4096 + d / 1048576 % 2 * 2147483648
  | _, _ => 0

/-- An instruction's word. -/
def rvWord (r : RvRow) (a b c d : Int) : Int := fixedOf r + a * 128 + b * 32768 + c * 1048576 + immW r.form d

theorem regB_iff (n : Int) (named : Bool) : regB n named = true ↔ n = 0 ∨ named = true ∧ 0 < n ∧ n < 32 := by
  cases named <;> simp [regB]

theorem ipow_le {k n : Nat} (h : k ≤ n) : (2 : Int) ^ k ≤ 2 ^ n := by
  have := Nat.pow_le_pow_right (show 0 < 2 by decide) h
  exact_mod_cast this
theorem ipow32 : (2 : Int) ^ 32 = 4294967296 := by decide
theorem ipow20 : (2 : Int) ^ 20 = 1048576 := by decide
theorem subB {m : Nat} {x : Int} (h : (decide (0 ≤ x) && (x.toNat &&& m == x.toNat)) = true) : Sub m x := by
  simp only [Bool.and_eq_true, decide_eq_true_eq, beq_iff_eq] at h
  exact ⟨x.toNat, by omega, h.2⟩

theorem pieceE_den (d : Int) (lo k at_ : Nat) (hlk : lo ≤ 64) (hk : k ≤ 64) (h : k + at_ ≤ 32) (hx : d % 18446744073709551616 / 2 ^ lo % 2 ^ k = d / 2 ^ lo % 2 ^ k) :
    (pieceE d (lo, 2 ^ k - 1, at_)).den = d / 2 ^ lo % 2 ^ k * 2 ^ at_ := by
  have hpos : (0 : Int) < 2 ^ lo := Int.pow_pos (by decide)
  have hkpos : (0 : Int) < 2 ^ k := Int.pow_pos (by decide)
  have hapos : (0 : Int) < 2 ^ at_ := Int.pow_pos (by decide)
  have h0 : 0 ≤ d % 18446744073709551616 := by omega
  have h1 : 0 ≤ d % 18446744073709551616 / 2 ^ lo := Int.ediv_nonneg h0 (Int.le_of_lt hpos)
  have h2 : d % 18446744073709551616 / 2 ^ lo < 18446744073709551616 := by
    refine Int.lt_of_le_of_lt (Int.ediv_le_self _ h0) (by omega)
  have h3 : 0 ≤ d / 2 ^ lo % 2 ^ k := Int.emod_nonneg _ (by omega)
  have h4 : d / 2 ^ lo % 2 ^ k < 2 ^ k := Int.emod_lt_of_pos _ hkpos
  have h5 : d / 2 ^ lo % 2 ^ k * 2 ^ at_ < 4294967296 := by
    have e : (2 : Int) ^ k * 2 ^ at_ ≤ 4294967296 := by
      rw [← Int.pow_add, ← ipow32]
      exact ipow_le h
    exact Int.lt_of_lt_of_le (Int.mul_lt_mul_of_pos_right h4 hapos) e
  have h6 : 0 ≤ d / 2 ^ lo % 2 ^ k * 2 ^ at_ := Int.mul_nonneg h3 (Int.le_of_lt hapos)
  have h7 : d / 2 ^ lo % 2 ^ k < 4294967296 := by
    have : (2 : Int) ^ k ≤ 4294967296 := by rw [← ipow32]; exact ipow_le (by omega)
    omega
  simp only [pieceE, shU, IE.den]
  rw [wrap_u64, shr_ediv .u64 _ lo hlk, and_mask_u64 _ k hk h1 h2, hx, wrap_u32_in h3 h7, shl_mul .u32 _ at_ (by simp [IntKind.bits]; omega), wrap_u32_in h6 h5]

/-- A number's bits that are laid at a place: the mask, the value. -/
theorem piece_sub (d : Int) (lo k at_ : Nat) : Sub ((2 ^ k - 1) * 2 ^ at_) (d / 2 ^ lo % 2 ^ k * 2 ^ at_) :=
  Sub.shift _ k at_ (Int.emod_nonneg _ (by have : (0 : Int) < 2 ^ k := Int.pow_pos (by decide); omega)) (Int.emod_lt_of_pos _ (Int.pow_pos (by decide)))

/-- Pieces that lie apart are added. -/
theorem fold_or : ∀ (l : List (Nat × Int × IE)) (w : IE) (m : Nat) (x : Int), w.den = x → Sub m x → m < 2 ^ 32 → (∀ p ∈ l, p.2.2.den = p.2.1 ∧ Sub p.1 p.2.1 ∧ p.1 < 2 ^ 32) →
    (l.foldl (fun (s : Bool × Nat) p => (s.1 && s.2 &&& p.1 == 0, s.2 ||| p.1)) (true, m)).1 = true → (l.foldl (fun w p => orU w p.2.2) w).den = l.foldl (fun x p => x + p.2.1) x
  | [], w, m, x, hw, _, _, _, _ => hw
  | (m', x', e) :: r, w, m, x, hw, hs, hm, hl, hd => by
    obtain ⟨h1, h2, h3⟩ := hl (m', x', e) (List.mem_cons_self ..)
    simp only [List.foldl_cons, Bool.true_and] at hd ⊢
    have hz : m &&& m' = 0 := by
      by_cases hz : m &&& m' = 0
      · exact hz
      · exfalso
        have : (m &&& m' == 0) = false := by simpa using hz
        rw [this] at hd
        have key : ∀ (l : List (Nat × Int × IE)) (k : Nat), (l.foldl (fun (s : Bool × Nat) p => (s.1 && s.2 &&& p.1 == 0, s.2 ||| p.1)) (false, k)).1 = false := by
          intro l
          induction l with
          | nil => intro k; rfl
          | cons a r ih => intro k; simpa using ih _
        rw [key] at hd
        cases hd
    obtain ⟨o1, o2⟩ := hs.or h2 hz hm h3
    have e1 : (orU w e).den = x + x' := by simp only [orU, IE.den, hw, h1, o1]
    refine fold_or r (orU w e) (m ||| m') (x + x') e1 o2 (Nat.or_lt_two_pow hm h3) (fun p hp => hl p (List.mem_cons_of_mem _ hp)) ?_
    have : (m &&& m' == 0) = true := by simpa using hz
    rw [this] at hd
    exact hd

def fm : Nat → Nat
  | 1 | 8 => 127
  | 6 => 4261441663
  | _ => 28799

theorem fixed_sub (r : RvRow) (hr : r ∈ rvRows) : Sub (fm r.form) (fixedOf r) := by
  simp only [rvRows, List.mem_cons, List.not_mem_nil, or_false] at hr
  rcases hr with rfl | rfl | rfl | rfl | rfl | rfl | rfl | rfl | rfl | rfl | rfl | rfl | rfl | rfl | rfl | rfl | rfl | rfl | rfl | rfl | rfl | rfl | rfl | rfl | rfl | rfl | rfl | rfl | rfl | rfl | rfl | rfl | rfl | rfl <;> exact subB (by decide)
theorem form_range (r : RvRow) (hr : r ∈ rvRows) : r.form = 1 ∨ r.form = 2 ∨ r.form = 3 ∨ r.form = 4 ∨ r.form = 5 ∨ r.form = 6 ∨ r.form = 7 ∨ r.form = 8 := by
  simp only [rvRows, List.mem_cons, List.not_mem_nil, or_false] at hr
  rcases hr with rfl | rfl | rfl | rfl | rfl | rfl | rfl | rfl | rfl | rfl | rfl | rfl | rfl | rfl | rfl | rfl | rfl | rfl | rfl | rfl | rfl | rfl | rfl | rfl | rfl | rfl | rfl | rfl | rfl | rfl | rfl | rfl | rfl | rfl <;> decide

theorem reg_piece {n : Int} {named : Bool} (h : regB n named = true) (s : Nat) (hs : s ≤ 20) : (shU (.conv .u32 (.var n)) s).den = n * 2 ^ s ∧ Sub (if named then 31 * 2 ^ s else 0) (n * 2 ^ s) ∧ (if named then 31 * 2 ^ s else 0) < 2 ^ 32 := by
  rw [regB_iff] at h
  have hr : 0 ≤ n ∧ n < 32 := by omega
  have hp : (2 : Int) ^ s ≤ 1048576 := by rw [← ipow20]; exact ipow_le hs
  have hp' : (2 : Nat) ^ s ≤ 1048576 := Nat.pow_le_pow_right (by decide) hs
  have hpos : (0 : Int) < 2 ^ s := Int.pow_pos (by decide)
  have h1 : n * 2 ^ s < 4294967296 := by
    have : n * 2 ^ s ≤ 31 * 1048576 := Int.mul_le_mul (by omega) hp (Int.le_of_lt hpos) (by omega)
    omega
  refine ⟨?_, ?_, ?_⟩
  · simp only [shU, IE.den]
    rw [wrap_u32_in hr.1 (by omega), shl_mul .u32 _ s (by simp [IntKind.bits]; omega), wrap_u32_in (Int.mul_nonneg hr.1 (Int.le_of_lt hpos)) h1]
  · cases named with
    | true => exact Sub.shift n 5 s hr.1 hr.2
    | false =>
      have : n = 0 := by simpa using h
      rw [this, Int.zero_mul]; exact Sub.zero _
  · split <;> omega

theorem word_gen (fx : Int) (mf : Nat) (hf : Sub mf fx) (hmf : mf < 2 ^ 32) (a b c : Int) (na nb nc : Bool) (ha : regB a na = true) (hb : regB b nb = true) (hc : regB c nc = true)
    (l : List (Nat × Int × IE)) (hl : ∀ p ∈ l, p.2.2.den = p.2.1 ∧ Sub p.1 p.2.1 ∧ p.1 < 2 ^ 32)
    (h1 : (if na then 31 * 2 ^ 7 else 0) &&& (if nb then 31 * 2 ^ 15 else 0) = 0) (h2 : ((if na then 31 * 2 ^ 7 else 0) ||| (if nb then 31 * 2 ^ 15 else 0)) &&& (if nc then 31 * 2 ^ 20 else 0) = 0)
    (h3 : mf &&& (((if na then 31 * 2 ^ 7 else 0) ||| (if nb then 31 * 2 ^ 15 else 0)) ||| (if nc then 31 * 2 ^ 20 else 0)) = 0)
    (hd : (l.foldl (fun (s : Bool × Nat) p => (s.1 && s.2 &&& p.1 == 0, s.2 ||| p.1)) (true, mf ||| (((if na then 31 * 2 ^ 7 else 0) ||| (if nb then 31 * 2 ^ 15 else 0)) ||| (if nc then 31 * 2 ^ 20 else 0)))).1 = true) :
    (l.foldl (fun w p => orU w p.2.2) (orU (.lit fx) (regsE a b c))).den = l.foldl (fun x p => x + p.2.1) (fx + (a * 128 + b * 32768 + c * 1048576)) := by
  obtain ⟨a1, a2, a3⟩ := reg_piece ha 7 (by decide)
  obtain ⟨b1, b2, b3⟩ := reg_piece hb 15 (by decide)
  obtain ⟨c1, c2, c3⟩ := reg_piece hc 20 (by decide)
  obtain ⟨o1, o2⟩ := a2.or b2 h1 a3 b3
  obtain ⟨o3, o4⟩ := o2.or c2 h2 (Nat.or_lt_two_pow a3 b3) c3
  obtain ⟨o5, o6⟩ := hf.or o4 h3 hmf (Nat.or_lt_two_pow (Nat.or_lt_two_pow a3 b3) c3)
  have e : (orU (.lit fx) (regsE a b c)).den = fx + (a * 2 ^ 7 + b * 2 ^ 15 + c * 2 ^ 20) := by
    have e1 := a1; have e2 := b1; have e3 := c1
    simp only [orU, regsE, IE.den]
    simp only [shU] at e1 e2 e3
    simp only [shU]
    rw [show ((7 : Int)) = ((7 : Nat) : Int) from rfl, show ((15 : Int)) = ((15 : Nat) : Int) from rfl, show ((20 : Int)) = ((20 : Nat) : Int) from rfl, e1, e2, e3, o1, o3, o5]
  have := fold_or l _ _ _ e o6 (Nat.or_lt_two_pow hmf (Nat.or_lt_two_pow (Nat.or_lt_two_pow a3 b3) c3)) hl hd
  rw [this]
  simp

theorem word_1 (fx : Int) (hf : Sub (fm 1) fx) (a b c d : Int) (ha : regB a true = true) (hb : regB b false = true) (hc : regB c false = true) :
    ((pieces 1).foldl (fun w p => orU w (pieceE d p)) (orU (.lit fx) (regsE a b c))).den = fx + (a * 128 + b * 32768 + c * 1048576) + immW 1 d := by
  have h := word_gen fx (fm 1) hf (by decide) a b c true false false ha hb hc [((2 ^ 20 - 1) * 2 ^ 12, d / 2 ^ 0 % 2 ^ 20 * 2 ^ 12, pieceE d (0, 2 ^ 20 - 1, 12))] ?_ (by decide) (by decide) (by decide) (by simp only [List.foldl]; decide)
  · refine Eq.trans ?_ (h.trans ?_)
    · rfl
    · simp only [List.foldl, immW]; omega
  · intro p hp
    simp only [List.mem_cons, List.not_mem_nil, or_false] at hp
    rcases hp with rfl
    · exact ⟨pieceE_den d 0 20 12 (by decide) (by decide) (by decide) (by omega), piece_sub d 0 20 12, (show (2 ^ 20 - 1) * 2 ^ 12 < 2 ^ 32 by decide)⟩

theorem word_2 (fx : Int) (hf : Sub (fm 2) fx) (a b c d : Int) (ha : regB a true = true) (hb : regB b true = true) (hc : regB c false = true) :
    ((pieces 2).foldl (fun w p => orU w (pieceE d p)) (orU (.lit fx) (regsE a b c))).den = fx + (a * 128 + b * 32768 + c * 1048576) + immW 2 d := by
  have h := word_gen fx (fm 2) hf (by decide) a b c true true false ha hb hc [((2 ^ 12 - 1) * 2 ^ 20, d / 2 ^ 0 % 2 ^ 12 * 2 ^ 20, pieceE d (0, 2 ^ 12 - 1, 20))] ?_ (by decide) (by decide) (by decide) (by simp only [List.foldl]; decide)
  · refine Eq.trans ?_ (h.trans ?_)
    · rfl
    · simp only [List.foldl, immW]; omega
  · intro p hp
    simp only [List.mem_cons, List.not_mem_nil, or_false] at hp
    rcases hp with rfl
    · exact ⟨pieceE_den d 0 12 20 (by decide) (by decide) (by decide) (by omega), piece_sub d 0 12 20, (show (2 ^ 12 - 1) * 2 ^ 20 < 2 ^ 32 by decide)⟩

theorem word_3 (fx : Int) (hf : Sub (fm 3) fx) (a b c d : Int) (ha : regB a true = true) (hb : regB b true = true) (hc : regB c false = true) :
    ((pieces 3).foldl (fun w p => orU w (pieceE d p)) (orU (.lit fx) (regsE a b c))).den = fx + (a * 128 + b * 32768 + c * 1048576) + immW 3 d := by
  have h := word_gen fx (fm 3) hf (by decide) a b c true true false ha hb hc [((2 ^ 6 - 1) * 2 ^ 20, d / 2 ^ 0 % 2 ^ 6 * 2 ^ 20, pieceE d (0, 2 ^ 6 - 1, 20))] ?_ (by decide) (by decide) (by decide) (by simp only [List.foldl]; decide)
  · refine Eq.trans ?_ (h.trans ?_)
    · rfl
    · simp only [List.foldl, immW]; omega
  · intro p hp
    simp only [List.mem_cons, List.not_mem_nil, or_false] at hp
    rcases hp with rfl
    · exact ⟨pieceE_den d 0 6 20 (by decide) (by decide) (by decide) (by omega), piece_sub d 0 6 20, (show (2 ^ 6 - 1) * 2 ^ 20 < 2 ^ 32 by decide)⟩

theorem word_4 (fx : Int) (hf : Sub (fm 4) fx) (a b c d : Int) (ha : regB a true = true) (hb : regB b true = true) (hc : regB c false = true) :
    ((pieces 4).foldl (fun w p => orU w (pieceE d p)) (orU (.lit fx) (regsE a b c))).den = fx + (a * 128 + b * 32768 + c * 1048576) + immW 4 d := by
  have h := word_gen fx (fm 4) hf (by decide) a b c true true false ha hb hc [((2 ^ 5 - 1) * 2 ^ 20, d / 2 ^ 0 % 2 ^ 5 * 2 ^ 20, pieceE d (0, 2 ^ 5 - 1, 20))] ?_ (by decide) (by decide) (by decide) (by simp only [List.foldl]; decide)
  · refine Eq.trans ?_ (h.trans ?_)
    · rfl
    · simp only [List.foldl, immW]; omega
  · intro p hp
    simp only [List.mem_cons, List.not_mem_nil, or_false] at hp
    rcases hp with rfl
    · exact ⟨pieceE_den d 0 5 20 (by decide) (by decide) (by decide) (by omega), piece_sub d 0 5 20, (show (2 ^ 5 - 1) * 2 ^ 20 < 2 ^ 32 by decide)⟩

theorem word_5 (fx : Int) (hf : Sub (fm 5) fx) (a b c d : Int) (ha : regB a false = true) (hb : regB b true = true) (hc : regB c true = true) :
    ((pieces 5).foldl (fun w p => orU w (pieceE d p)) (orU (.lit fx) (regsE a b c))).den = fx + (a * 128 + b * 32768 + c * 1048576) + immW 5 d := by
  have h := word_gen fx (fm 5) hf (by decide) a b c false true true ha hb hc [((2 ^ 5 - 1) * 2 ^ 7, d / 2 ^ 0 % 2 ^ 5 * 2 ^ 7, pieceE d (0, 2 ^ 5 - 1, 7)), ((2 ^ 7 - 1) * 2 ^ 25, d / 2 ^ 5 % 2 ^ 7 * 2 ^ 25, pieceE d (5, 2 ^ 7 - 1, 25))] ?_ (by decide) (by decide) (by decide) (by simp only [List.foldl]; decide)
  · refine Eq.trans ?_ (h.trans ?_)
    · rfl
    · simp only [List.foldl, immW]; omega
  · intro p hp
    simp only [List.mem_cons, List.not_mem_nil, or_false] at hp
    rcases hp with rfl | rfl
    · exact ⟨pieceE_den d 0 5 7 (by decide) (by decide) (by decide) (by omega), piece_sub d 0 5 7, (show (2 ^ 5 - 1) * 2 ^ 7 < 2 ^ 32 by decide)⟩
    · exact ⟨pieceE_den d 5 7 25 (by decide) (by decide) (by decide) (by omega), piece_sub d 5 7 25, (show (2 ^ 7 - 1) * 2 ^ 25 < 2 ^ 32 by decide)⟩

theorem word_6 (fx : Int) (hf : Sub (fm 6) fx) (a b c d : Int) (ha : regB a true = true) (hb : regB b true = true) (hc : regB c true = true) :
    ((pieces 6).foldl (fun w p => orU w (pieceE d p)) (orU (.lit fx) (regsE a b c))).den = fx + (a * 128 + b * 32768 + c * 1048576) + immW 6 d := by
  have h := word_gen fx (fm 6) hf (by decide) a b c true true true ha hb hc [] ?_ (by decide) (by decide) (by decide) (by simp only [List.foldl])
  · refine Eq.trans ?_ (h.trans ?_)
    · rfl
    · simp only [List.foldl, immW]; omega
  · intro p hp
    cases hp

theorem word_7 (fx : Int) (hf : Sub (fm 7) fx) (a b c d : Int) (ha : regB a false = true) (hb : regB b true = true) (hc : regB c true = true) :
    ((pieces 7).foldl (fun w p => orU w (pieceE d p)) (orU (.lit fx) (regsE a b c))).den = fx + (a * 128 + b * 32768 + c * 1048576) + immW 7 d := by
  have h := word_gen fx (fm 7) hf (by decide) a b c false true true ha hb hc [((2 ^ 4 - 1) * 2 ^ 8, d / 2 ^ 1 % 2 ^ 4 * 2 ^ 8, pieceE d (1, 2 ^ 4 - 1, 8)), ((2 ^ 6 - 1) * 2 ^ 25, d / 2 ^ 5 % 2 ^ 6 * 2 ^ 25, pieceE d (5, 2 ^ 6 - 1, 25)), ((2 ^ 1 - 1) * 2 ^ 7, d / 2 ^ 11 % 2 ^ 1 * 2 ^ 7, pieceE d (11, 2 ^ 1 - 1, 7)), ((2 ^ 1 - 1) * 2 ^ 31, d / 2 ^ 12 % 2 ^ 1 * 2 ^ 31, pieceE d (12, 2 ^ 1 - 1, 31))] ?_ (by decide) (by decide) (by decide) (by simp only [List.foldl]; decide)
  · refine Eq.trans ?_ (h.trans ?_)
    · rfl
    · simp only [List.foldl, immW]; omega
  · intro p hp
    simp only [List.mem_cons, List.not_mem_nil, or_false] at hp
    rcases hp with rfl | rfl | rfl | rfl
    · exact ⟨pieceE_den d 1 4 8 (by decide) (by decide) (by decide) (by omega), piece_sub d 1 4 8, (show (2 ^ 4 - 1) * 2 ^ 8 < 2 ^ 32 by decide)⟩
    · exact ⟨pieceE_den d 5 6 25 (by decide) (by decide) (by decide) (by omega), piece_sub d 5 6 25, (show (2 ^ 6 - 1) * 2 ^ 25 < 2 ^ 32 by decide)⟩
    · exact ⟨pieceE_den d 11 1 7 (by decide) (by decide) (by decide) (by omega), piece_sub d 11 1 7, (show (2 ^ 1 - 1) * 2 ^ 7 < 2 ^ 32 by decide)⟩
    · exact ⟨pieceE_den d 12 1 31 (by decide) (by decide) (by decide) (by omega), piece_sub d 12 1 31, (show (2 ^ 1 - 1) * 2 ^ 31 < 2 ^ 32 by decide)⟩

theorem word_8 (fx : Int) (hf : Sub (fm 8) fx) (a b c d : Int) (ha : regB a true = true) (hb : regB b false = true) (hc : regB c false = true) :
    ((pieces 8).foldl (fun w p => orU w (pieceE d p)) (orU (.lit fx) (regsE a b c))).den = fx + (a * 128 + b * 32768 + c * 1048576) + immW 8 d := by
  have h := word_gen fx (fm 8) hf (by decide) a b c true false false ha hb hc [((2 ^ 10 - 1) * 2 ^ 21, d / 2 ^ 1 % 2 ^ 10 * 2 ^ 21, pieceE d (1, 2 ^ 10 - 1, 21)), ((2 ^ 1 - 1) * 2 ^ 20, d / 2 ^ 11 % 2 ^ 1 * 2 ^ 20, pieceE d (11, 2 ^ 1 - 1, 20)), ((2 ^ 8 - 1) * 2 ^ 12, d / 2 ^ 12 % 2 ^ 8 * 2 ^ 12, pieceE d (12, 2 ^ 8 - 1, 12)), ((2 ^ 1 - 1) * 2 ^ 31, d / 2 ^ 20 % 2 ^ 1 * 2 ^ 31, pieceE d (20, 2 ^ 1 - 1, 31))] ?_ (by decide) (by decide) (by decide) (by simp only [List.foldl]; decide)
  · refine Eq.trans ?_ (h.trans ?_)
    · rfl
    · simp only [List.foldl, immW]; omega
  · intro p hp
    simp only [List.mem_cons, List.not_mem_nil, or_false] at hp
    rcases hp with rfl | rfl | rfl | rfl
    · exact ⟨pieceE_den d 1 10 21 (by decide) (by decide) (by decide) (by omega), piece_sub d 1 10 21, (show (2 ^ 10 - 1) * 2 ^ 21 < 2 ^ 32 by decide)⟩
    · exact ⟨pieceE_den d 11 1 20 (by decide) (by decide) (by decide) (by omega), piece_sub d 11 1 20, (show (2 ^ 1 - 1) * 2 ^ 20 < 2 ^ 32 by decide)⟩
    · exact ⟨pieceE_den d 12 8 12 (by decide) (by decide) (by decide) (by omega), piece_sub d 12 8 12, (show (2 ^ 8 - 1) * 2 ^ 12 < 2 ^ 32 by decide)⟩
    · exact ⟨pieceE_den d 20 1 31 (by decide) (by decide) (by decide) (by omega), piece_sub d 20 1 31, (show (2 ^ 1 - 1) * 2 ^ 31 < 2 ^ 32 by decide)⟩

theorem word_den (r : RvRow) (hr : r ∈ rvRows) (a b c d : Int) (ha : regB a (names r.form).1 = true) (hb : regB b (names r.form).2.1 = true) (hc : regB c (names r.form).2.2 = true) :
    (wordE r a b c d).den = rvWord r a b c d := by
  have hf := fixed_sub r hr
  have e : ∀ k, r.form = k → ((pieces k).foldl (fun w p => orU w (pieceE d p)) (orU (.lit (fixedOf r)) (regsE a b c))).den = fixedOf r + (a * 128 + b * 32768 + c * 1048576) + immW k d → (wordE r a b c d).den = rvWord r a b c d := by
    intro k hk h
    unfold wordE rvWord
    rw [hk, h]; omega
  rcases form_range r hr with h | h | h | h | h | h | h | h
  · rw [h] at hf ha hb hc; exact e 1 h (word_1 _ hf a b c d ha hb hc)
  · rw [h] at hf ha hb hc; exact e 2 h (word_2 _ hf a b c d ha hb hc)
  · rw [h] at hf ha hb hc; exact e 3 h (word_3 _ hf a b c d ha hb hc)
  · rw [h] at hf ha hb hc; exact e 4 h (word_4 _ hf a b c d ha hb hc)
  · rw [h] at hf ha hb hc; exact e 5 h (word_5 _ hf a b c d ha hb hc)
  · rw [h] at hf ha hb hc; exact e 6 h (word_6 _ hf a b c d ha hb hc)
  · rw [h] at hf ha hb hc; exact e 7 h (word_7 _ hf a b c d ha hb hc)
  · rw [h] at hf ha hb hc; exact e 8 h (word_8 _ hf a b c d ha hb hc)

end Go.Proofs.Ytiljkmcahkphiaa.Rv
