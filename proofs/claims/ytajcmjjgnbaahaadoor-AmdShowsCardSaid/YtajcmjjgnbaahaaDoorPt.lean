/- What a text of an instruction tells: the fields that count. -/
import Derived.Test.YtajcmjjgnbaahaaDoorSw6
namespace Go.Proofs.YtajcmjjgnbaahaaDoor.Amd
open Go Go.Proofs.YtajcmjjgnbaahaaDoor.Sx Go.RowKit
set_option linter.unusedVariables false
set_option linter.unusedSimpArgs false

def tl (b : ByteArray) : List UInt8 := b.data.toList
theorem tl_app (a b : ByteArray) : tl (a ++ b) = tl a ++ tl b := by
  unfold tl; rw [ByteArray.data_append, Array.toList_append]
theorem tl_itoa (v : Int) : tl (itoaB v) = Lib.itoa v := rfl
/-! Numbers. -/
def dstep (a : Nat) (c : UInt8) : Nat := 10 * a + (c.toNat - 48)
def dval (l : List UInt8) : Nat := l.foldl dstep 0
theorem d_toNat {d : Nat} (h : d < 10) : (UInt8.ofNat (48 + d)).toNat = 48 + d := by
  rw [UInt8.toNat_ofNat']; omega
theorem dval_dec (u : Nat) : dval (Lib.decDigits u) = u := by
  induction u using Nat.strongRecOn with
  | _ u ih =>
    rw [Lib.decDigits]
    split
    · rename_i h
      show 10 * 0 + ((UInt8.ofNat (48 + u)).toNat - 48) = u
      rw [d_toNat h]; omega
    · unfold dval
      rw [List.foldl_append]
      show 10 * dval (Lib.decDigits (u / 10)) + ((UInt8.ofNat (48 + u % 10)).toNat - 48) = u
      rw [ih _ (by omega), d_toNat (by omega)]; omega
def dig (c : UInt8) : Prop := 48 ≤ c.toNat ∧ c.toNat ≤ 57
theorem dec_dig (u : Nat) : (∀ c ∈ Lib.decDigits u, dig c) ∧ ∃ c l, Lib.decDigits u = c :: l := by
  induction u using Nat.strongRecOn with
  | _ u ih =>
    rw [Lib.decDigits]
    split
    · rename_i h
      refine ⟨fun c hc => ?_, _, _, rfl⟩
      have hc := List.mem_singleton.1 hc
      subst hc
      unfold dig; rw [d_toNat h]; omega
    · obtain ⟨h1, c, l, h2⟩ := ih (u / 10) (by omega)
      refine ⟨fun c hc => ?_, c, l ++ [UInt8.ofNat (48 + u % 10)], by rw [h2]; rfl⟩
      rcases List.mem_append.1 hc with h | h
      · exact h1 c h
      · have h := List.mem_singleton.1 h
        subst h; unfold dig; rw [d_toNat (by omega)]; omega
theorem dig_ne {c d : UInt8} (h : dig c) (hd : d.toNat < 48 ∨ 57 < d.toNat) : c ≠ d := by
  rintro rfl; unfold dig at h; omega
def nval (l : List UInt8) : Int := match l with
  | [] => 0
  | c :: r => if c = 45 then -(dval r : Int) else if c = 43 then dval r else dval (c :: r)
theorem itoa_cases (v : Int) : (v < 0 ∧ Lib.itoa v = 45 :: Lib.decDigits v.natAbs) ∨ (0 ≤ v ∧ Lib.itoa v = Lib.decDigits v.toNat) := by
  by_cases h : v < 0
  · exact .inl ⟨h, if_pos h⟩
  · exact .inr ⟨by omega, if_neg h⟩
theorem nval_itoa (v : Int) : nval (Lib.itoa v) = v := by
  rcases itoa_cases v with ⟨h, e⟩ | ⟨h, e⟩
  · rw [e]
    show -(dval (Lib.decDigits v.natAbs) : Int) = v
    rw [dval_dec]; omega
  · obtain ⟨h1, c, l, h2⟩ := dec_dig v.toNat
    have hd := dval_dec v.toNat
    have hc := h1 c (by rw [h2]; exact List.mem_cons_self ..)
    rw [e, h2]
    rw [h2] at hd
    show (if c = 45 then -(dval l : Int) else if c = 43 then (dval l : Int) else dval (c :: l)) = v
    rw [if_neg (dig_ne hc (.inl (by decide))), if_neg (dig_ne hc (.inl (by decide))), hd]; omega
theorem sgn_cases (v : Int) : (v < 0 ∧ tl (sgnB v) = 45 :: Lib.decDigits v.natAbs) ∨ (0 ≤ v ∧ tl (sgnB v) = 43 :: Lib.decDigits v.toNat) := by
  unfold sgnB
  rcases itoa_cases v with ⟨h, e⟩ | ⟨h, e⟩
  · rw [if_pos h]; exact .inl ⟨h, e⟩
  · rw [if_neg (by omega), tl_app, tl_itoa, e]; exact .inr ⟨h, rfl⟩
theorem nval_sgn (v : Int) : nval (tl (sgnB v)) = v := by
  rcases sgn_cases v with ⟨h, e⟩ | ⟨h, e⟩ <;> rw [e]
  · show -(dval (Lib.decDigits v.natAbs) : Int) = v
    rw [dval_dec]; omega
  · show (dval (Lib.decDigits v.toNat) : Int) = v
    rw [dval_dec]; omega
theorem itoa_mem {v : Int} {c : UInt8} (h : c ∈ Lib.itoa v) : c = 45 ∨ dig c := by
  rcases itoa_cases v with ⟨_, e⟩ | ⟨_, e⟩ <;> rw [e] at h
  · rcases List.mem_cons.1 h with h | h
    · exact .inl h
    · exact .inr ((dec_dig _).1 c h)
  · exact .inr ((dec_dig _).1 c h)
theorem sgn_mem {v : Int} {c : UInt8} (h : c ∈ tl (sgnB v)) : c = 45 ∨ c = 43 ∨ dig c := by
  rcases sgn_cases v with ⟨_, e⟩ | ⟨_, e⟩ <;> rw [e] at h <;> rcases List.mem_cons.1 h with h | h
  · exact .inl h
  · exact .inr (.inr ((dec_dig _).1 c h))
  · exact .inr (.inl h)
  · exact .inr (.inr ((dec_dig _).1 c h))
/-! Registers. -/
def look {α : Type} : List (List UInt8 × α) → List UInt8 → Option α
  | [], _ => none
  | (k, v) :: r, l => if k = l then some v else look r l
def rtab : List (List UInt8 × Int × Bool) := [([114, 97, 120], 0, true), ([101, 97, 120], 0, false), ([114, 99, 120], 1, true), ([101, 99, 120], 1, false), ([114, 100, 120], 2, true), ([101, 100, 120], 2, false), ([114, 98, 120], 3, true), ([101, 98, 120], 3, false), ([114, 115, 112], 4, true), ([101, 115, 112], 4, false), ([114, 98, 112], 5, true), ([101, 98, 112], 5, false), ([114, 115, 105], 6, true), ([101, 115, 105], 6, false), ([114, 100, 105], 7, true), ([101, 100, 105], 7, false), ([114, 56], 8, true), ([114, 56, 100], 8, false), ([114, 57], 9, true), ([114, 57, 100], 9, false), ([114, 49, 48], 10, true), ([114, 49, 48, 100], 10, false), ([114, 49, 49], 11, true), ([114, 49, 49, 100], 11, false), ([114, 49, 50], 12, true), ([114, 49, 50, 100], 12, false), ([114, 49, 51], 13, true), ([114, 49, 51, 100], 13, false), ([114, 49, 52], 14, true), ([114, 49, 52, 100], 14, false), ([114, 49, 53], 15, true), ([114, 49, 53, 100], 15, false)]
theorem reg_hi {r : Int} (w : Bool) (h : 7 < r) : tl (regB r w) = if w = true then 114 :: Lib.itoa r else 114 :: (Lib.itoa r ++ [100]) := by
  unfold regB; rw [if_pos h]
  cases w <;> simp only [if_true, Bool.false_eq_true, if_false, tl_app, tl_itoa] <;> rfl
theorem it_lo {i : Nat} (h : i < 10) : Lib.itoa (i : Int) = [UInt8.ofNat (48 + i)] := by
  unfold Lib.itoa; rw [if_neg (by omega), Int.toNat_natCast, Lib.decDigits_one h]
theorem it_hi {i : Nat} (h1 : ¬ i < 10) (h2 : i < 100) : Lib.itoa (i : Int) = [UInt8.ofNat (48 + i / 10), UInt8.ofNat (48 + i % 10)] := by
  unfold Lib.itoa; rw [if_neg (by omega), Int.toNat_natCast, Lib.decDigits_two h1 h2]
/-- What a register's text is. -/
def RegL (r : Int) (w : Bool) (l : List UInt8) : Prop := look rtab l = some (r, w) ∧ l.all (fun c => Nat.ble 48 c.toNat && Nat.ble c.toNat 122) = true ∧ (l.head? = some 114 ∨ l.head? = some 101)
theorem regL_ok {r : Int} (w : Bool) (h0 : 0 ≤ r) (h1 : r ≤ 15) : RegL r w (tl (regB r w)) := by
  rcases reg_cases h0 h1 with rfl | rfl | rfl | rfl | rfl | rfl | rfl | rfl | rfl | rfl | rfl | rfl | rfl | rfl | rfl | rfl
  · cases w
    · exact ⟨by kernel_rfl, by kernel_rfl, .inr rfl⟩
    · exact ⟨by kernel_rfl, by kernel_rfl, .inl rfl⟩
  · cases w
    · exact ⟨by kernel_rfl, by kernel_rfl, .inr rfl⟩
    · exact ⟨by kernel_rfl, by kernel_rfl, .inl rfl⟩
  · cases w
    · exact ⟨by kernel_rfl, by kernel_rfl, .inr rfl⟩
    · exact ⟨by kernel_rfl, by kernel_rfl, .inl rfl⟩
  · cases w
    · exact ⟨by kernel_rfl, by kernel_rfl, .inr rfl⟩
    · exact ⟨by kernel_rfl, by kernel_rfl, .inl rfl⟩
  · cases w
    · exact ⟨by kernel_rfl, by kernel_rfl, .inr rfl⟩
    · exact ⟨by kernel_rfl, by kernel_rfl, .inl rfl⟩
  · cases w
    · exact ⟨by kernel_rfl, by kernel_rfl, .inr rfl⟩
    · exact ⟨by kernel_rfl, by kernel_rfl, .inl rfl⟩
  · cases w
    · exact ⟨by kernel_rfl, by kernel_rfl, .inr rfl⟩
    · exact ⟨by kernel_rfl, by kernel_rfl, .inl rfl⟩
  · cases w
    · exact ⟨by kernel_rfl, by kernel_rfl, .inr rfl⟩
    · exact ⟨by kernel_rfl, by kernel_rfl, .inl rfl⟩
  · rw [reg_hi w (by decide), show Lib.itoa 8 = _ from it_lo (i := 8) (by decide)]
    cases w <;> exact ⟨by kernel_rfl, by kernel_rfl, .inl rfl⟩
  · rw [reg_hi w (by decide), show Lib.itoa 9 = _ from it_lo (i := 9) (by decide)]
    cases w <;> exact ⟨by kernel_rfl, by kernel_rfl, .inl rfl⟩
  · rw [reg_hi w (by decide), show Lib.itoa 10 = _ from it_hi (i := 10) (by decide) (by decide)]
    cases w <;> exact ⟨by kernel_rfl, by kernel_rfl, .inl rfl⟩
  · rw [reg_hi w (by decide), show Lib.itoa 11 = _ from it_hi (i := 11) (by decide) (by decide)]
    cases w <;> exact ⟨by kernel_rfl, by kernel_rfl, .inl rfl⟩
  · rw [reg_hi w (by decide), show Lib.itoa 12 = _ from it_hi (i := 12) (by decide) (by decide)]
    cases w <;> exact ⟨by kernel_rfl, by kernel_rfl, .inl rfl⟩
  · rw [reg_hi w (by decide), show Lib.itoa 13 = _ from it_hi (i := 13) (by decide) (by decide)]
    cases w <;> exact ⟨by kernel_rfl, by kernel_rfl, .inl rfl⟩
  · rw [reg_hi w (by decide), show Lib.itoa 14 = _ from it_hi (i := 14) (by decide) (by decide)]
    cases w <;> exact ⟨by kernel_rfl, by kernel_rfl, .inl rfl⟩
  · rw [reg_hi w (by decide), show Lib.itoa 15 = _ from it_hi (i := 15) (by decide) (by decide)]
    cases w <;> exact ⟨by kernel_rfl, by kernel_rfl, .inl rfl⟩
theorem RegL.mem {r : Int} {w : Bool} {l : List UInt8} (h : RegL r w l) {c : UInt8} (hc : c ∈ l) : 48 ≤ c.toNat ∧ c.toNat ≤ 122 := by
  have := List.all_eq_true.1 h.2.1 c hc
  simp only [Bool.and_eq_true] at this
  exact ⟨Nat.le_of_ble_eq_true this.1, Nat.le_of_ble_eq_true this.2⟩
/-! Operands. -/
inductive Opd where
  | reg (r : Int) (w : Bool)
  | num (v : Int)
  | mem (r v : Int)
  | cl
  | no
def notSg (c : UInt8) : Bool := c != 43 && c != 45
def pOpd (l : List UInt8) : Opd := match l with
  | [] => .no
  | c :: r =>
    if c = 91 then (match look rtab (r.takeWhile notSg) with | some (d, _) => .mem d (nval ((r.dropWhile notSg).takeWhile fun c => c != 93)) | none => .no)
    else if c = 99 then .cl
    else if c = 114 ∨ c = 101 then (match look rtab (c :: r) with | some (d, w) => .reg d w | none => .no)
    else .num (nval (c :: r))
theorem p_reg {r : Int} {w : Bool} {l : List UInt8} (h : RegL r w l) : pOpd l = .reg r w := by
  obtain ⟨h1, h2, h3⟩ := h
  match l, h3 with
  | [], h3 => simp at h3
  | c :: l, h3 =>
    have hc : c = 114 ∨ c = 101 := by simpa using h3
    unfold pOpd
    dsimp only
    rw [if_neg (by rcases hc with rfl | rfl <;> decide), if_neg (by rcases hc with rfl | rfl <;> decide), if_pos hc, h1]
theorem p_digits {l : List UInt8} {c : UInt8} (hc : c = 45 ∨ c = 43 ∨ dig c) : pOpd (c :: l) = .num (nval (c :: l)) := by
  have hn : c ≠ 91 ∧ c ≠ 99 ∧ c ≠ 114 ∧ c ≠ 101 := by
    rcases hc with rfl | rfl | h
    · decide
    · decide
    · exact ⟨dig_ne h (.inr (by decide)), dig_ne h (.inr (by decide)), dig_ne h (.inr (by decide)), dig_ne h (.inr (by decide))⟩
  unfold pOpd
  dsimp only
  rw [if_neg hn.1, if_neg hn.2.1, if_neg (by rintro (h | h); exact hn.2.2.1 h; exact hn.2.2.2 h)]
theorem p_num (v : Int) : pOpd (Lib.itoa v) = .num v := by
  have hv := nval_itoa v
  have hm := fun c => itoa_mem (v := v) (c := c)
  have hne : Lib.itoa v ≠ [] := by
    rcases itoa_cases v with ⟨_, e⟩ | ⟨_, e⟩ <;> rw [e]
    · simp
    · obtain ⟨_, c, l, h⟩ := dec_dig v.toNat
      rw [h]; simp
  match h : Lib.itoa v with
  | [] => exact absurd h hne
  | c :: l =>
    rw [h] at hv hm
    rw [p_digits (by rcases hm c (List.mem_cons_self ..) with h | h; exact .inl h; exact .inr (.inr h)), hv]
theorem p_sgn (v : Int) : pOpd (tl (sgnB v)) = .num v := by
  have hv := nval_sgn v
  rcases sgn_cases v with ⟨_, e⟩ | ⟨_, e⟩ <;> rw [e] at hv ⊢
  · rw [p_digits (.inl rfl), hv]
  · rw [p_digits (.inr (.inl rfl)), hv]
theorem tw_app {p : UInt8 → Bool} : ∀ {a b : List UInt8}, (∀ c ∈ a, p c = true) → (a ++ b).takeWhile p = a ++ b.takeWhile p ∧ (a ++ b).dropWhile p = b.dropWhile p
  | [], b, _ => ⟨rfl, rfl⟩
  | c :: a, b, h => by
    have h1 := h c (List.mem_cons_self ..)
    have ⟨h2, h3⟩ := tw_app (a := a) (b := b) fun c hc => h c (List.mem_cons_of_mem _ hc)
    simp only [List.cons_append, List.takeWhile_cons, List.dropWhile_cons, h1, if_true, h2, h3, and_self]
theorem tw_stop {p : UInt8 → Bool} {a b : List UInt8} {c : UInt8} (h : ∀ c ∈ a, p c = true) (hc : p c = false) : (a ++ c :: b).takeWhile p = a ∧ (a ++ c :: b).dropWhile p = c :: b := by
  obtain ⟨h1, h2⟩ := tw_app (b := c :: b) h
  rw [h1, h2, List.takeWhile_cons, List.dropWhile_cons, hc]
  simp
theorem tw_end {p : UInt8 → Bool} {a : List UInt8} (h : ∀ c ∈ a, p c = true) : a.takeWhile p = a ∧ a.dropWhile p = [] := by
  obtain ⟨h1, h2⟩ := tw_app (b := []) h
  rw [List.append_nil] at h1 h2
  rw [h1, h2]; simp
theorem ne_of_nat {c d : UInt8} (h : c.toNat ≠ d.toNat) : (c != d) = true := by
  simp only [bne_iff_ne, ne_eq]; rintro rfl; exact h rfl
theorem sgn_ne {v : Int} {d : UInt8} (h1 : d ≠ 45) (h2 : d ≠ 43) (h3 : d.toNat < 48 ∨ 57 < d.toNat) : ∀ c ∈ tl (sgnB v), (c != d) = true := by
  intro c hc
  simp only [bne_iff_ne, ne_eq]
  rcases sgn_mem hc with rfl | rfl | h
  · exact fun h => h1 h.symm
  · exact fun h => h2 h.symm
  · exact dig_ne h h3
theorem itoa_ne {v : Int} {d : UInt8} (h1 : d ≠ 45) (h3 : d.toNat < 48 ∨ 57 < d.toNat) : ∀ c ∈ Lib.itoa v, (c != d) = true := by
  intro c hc
  simp only [bne_iff_ne, ne_eq]
  rcases itoa_mem hc with rfl | h
  · exact fun h => h1 h.symm
  · exact dig_ne h h3
theorem RegL.ne {r : Int} {w : Bool} {l : List UInt8} (h : RegL r w l) {d : UInt8} (hd : d.toNat < 48) : ∀ c ∈ l, (c != d) = true := by
  intro c hc
  have := h.mem hc
  exact ne_of_nat (by omega)
def memL' (a s : List UInt8) : List UInt8 := 91 :: (a ++ (s ++ [93]))
theorem p_mem {r : Int} {w : Bool} {a : List UInt8} (h : RegL r w a) (v : Int) : pOpd (memL' a (tl (sgnB v))) = .mem r v := by
  have hs : ∃ c l, tl (sgnB v) = c :: l ∧ notSg c = false := by
    rcases sgn_cases v with ⟨_, e⟩ | ⟨_, e⟩ <;> exact ⟨_, _, e, by decide⟩
  obtain ⟨c, l, e, hc⟩ := hs
  have ha : ∀ c ∈ a, notSg c = true := fun c hc => by
    unfold notSg; rw [h.ne (by decide) c hc, h.ne (by decide) c hc]; rfl
  have hv := nval_sgn v
  have hm := sgn_ne (v := v) (d := 93) (by decide) (by decide) (by decide)
  unfold memL' pOpd
  dsimp only
  rw [if_pos rfl]
  rw [e] at hv hm ⊢
  obtain ⟨h1, h2⟩ := tw_stop (p := notSg) (a := a) (b := l ++ [93]) ha hc
  rw [List.cons_append, h1, h2, h.1, ← List.cons_append, (tw_stop hm (by decide)).1, hv]
/-! Words, and the whole. -/
def wtab : List (List UInt8 × Int × Bool × Int) := [([109, 111, 118], 1, false, 0), ([109, 111, 118, 46, 108], 1, true, 0), ([97, 100, 100], 5, false, 0), ([97, 100, 100, 46, 108], 5, true, 0), ([111, 114], 6, false, 0), ([97, 110, 100], 7, false, 0), ([97, 110, 100, 46, 108], 7, true, 0), ([115, 117, 98], 8, false, 0), ([115, 117, 98, 46, 108], 8, true, 0), ([120, 111, 114], 9, false, 0), ([99, 109, 112], 10, false, 0), ([99, 109, 112, 46, 108], 10, true, 0), ([116, 101, 115, 116], 11, false, 0), ([120, 99, 104, 103], 12, false, 0), ([105, 109, 117, 108], 13, false, 0), ([110, 101, 103], 18, false, 0), ([110, 111, 116], 19, false, 0), ([100, 105, 118], 20, false, 0), ([115, 104, 108], 21, false, 0), ([115, 104, 114], 22, false, 0), ([112, 117, 115, 104], 23, false, 0), ([112, 111, 112], 24, false, 0), ([106, 109, 112], 25, false, 0), ([106, 109, 112, 46, 108], 25, true, 0), ([114, 101, 116], 27, false, 0), ([106, 98], 26, false, 2), ([106, 98, 46, 108], 26, true, 2), ([106, 97, 101], 26, false, 3), ([106, 97, 101, 46, 108], 26, true, 3), ([106, 101], 26, false, 4), ([106, 101, 46, 108], 26, true, 4), ([106, 110, 101], 26, false, 5), ([106, 110, 101, 46, 108], 26, true, 5), ([106, 98, 101], 26, false, 6), ([106, 98, 101, 46, 108], 26, true, 6), ([106, 97], 26, false, 7), ([106, 97, 46, 108], 26, true, 7)]
def immOp (c : Int) : Int := if c = 5 then 14 else if c = 8 then 15 else if c = 10 then 16 else 17
def untok (c : Int) (lg : Bool) (cc : Int) : Opd → Opd → AI
  | .reg d w, .num v => if c = 1 then ⟨1, false, false, d, 0, 0, v, 0⟩ else ⟨immOp c, w, lg, d, 0, 0, v, 0⟩
  | .reg d w, .reg s _ => ⟨if c = 1 then 2 else c, w, false, d, s, 0, 0, 0⟩
  | .reg d w, .mem s v => ⟨3, w, lg, d, s, v, 0, 0⟩
  | .mem d v, .reg s w => ⟨4, w, lg, d, s, v, 0, 0⟩
  | .reg d w, .cl => ⟨c, w, false, d, 0, 0, 0, 0⟩
  | .reg d w, .no => ⟨c, if 22 < c then false else w, false, d, 0, 0, 0, 0⟩
  | .num v, .no => ⟨c, false, lg, 0, 0, 0, v, cc⟩
  | _, _ => ⟨c, false, false, 0, 0, 0, 0, 0⟩
def pText (l : List UInt8) : AI :=
  match look wtab (l.takeWhile fun c => c != 32) with
  | some (c, lg, cc) => untok c lg cc (pOpd (((l.dropWhile fun c => c != 32).drop 1).takeWhile fun c => c != 44)) (pOpd ((((l.dropWhile fun c => c != 32).drop 1).dropWhile fun c => c != 44).drop 2))
  | none => ⟨0, false, false, 0, 0, 0, 0, 0⟩
/-- A word, with the blank behind it. -/
structure WordL (p : List UInt8) (c : Int) (lg : Bool) (cc : Int) (w : List UInt8) : Prop where
  eq : p = w ++ [32]
  tab : look wtab w = some (c, lg, cc)
  no : w.all (fun c => c != 32) = true
theorem pT1 {p : List UInt8} {c : Int} {lg : Bool} {cc : Int} {w : List UInt8} (h : WordL p c lg cc w) {a : List UInt8} (ha : ∀ c ∈ a, (c != 44) = true) : pText (p ++ a) = untok c lg cc (pOpd a) .no := by
  rw [h.eq, List.append_assoc]
  obtain ⟨h1, h2⟩ := tw_stop (p := fun c => c != 32) (a := w) (c := 32) (b := a) (List.all_eq_true.1 h.no) (by decide)
  obtain ⟨h3, h4⟩ := tw_end (p := fun c => c != 44) ha
  unfold pText
  rw [List.singleton_append, h1, h.tab, h2]
  simp only [List.drop_succ_cons, List.drop_zero]
  rw [h3, h4]; rfl
theorem pT2 {p : List UInt8} {c : Int} {lg : Bool} {cc : Int} {w : List UInt8} (h : WordL p c lg cc w) {a b : List UInt8} (ha : ∀ c ∈ a, (c != 44) = true) : pText (p ++ (a ++ (44 :: 32 :: b))) = untok c lg cc (pOpd a) (pOpd b) := by
  rw [h.eq, List.append_assoc]
  obtain ⟨h1, h2⟩ := tw_stop (p := fun c => c != 32) (a := w) (c := 32) (b := a ++ (44 :: 32 :: b)) (List.all_eq_true.1 h.no) (by decide)
  obtain ⟨h3, h4⟩ := tw_stop (p := fun c => c != 44) (a := a) (c := 44) (b := 32 :: b) ha (by decide)
  unfold pText
  rw [List.singleton_append, h1, h.tab, h2]
  simp only [List.drop_succ_cons, List.drop_zero]
  rw [h3, h4]; rfl
theorem t_regnum {p : ByteArray} {c : Int} {lg : Bool} {cc : Int} {w : List UInt8} (h : WordL (tl p) c lg cc w) {d : Int} (u : Bool) (n : Int) (hd : in15 d) : pText (tl (p ++ (regB d u ++ (csB ++ itoaB n)))) = untok c lg cc (.reg d u) (.num n) := by
  have hr := regL_ok u hd.1 hd.2
  rw [tl_app, tl_app, tl_app, tl_itoa]
  exact (pT2 (b := Lib.itoa n) h (hr.ne (by decide))).trans (by rw [p_reg hr, p_num])
theorem t_regreg {p : ByteArray} {c : Int} {lg : Bool} {cc : Int} {w : List UInt8} (h : WordL (tl p) c lg cc w) {d s : Int} (u v : Bool) (hd : in15 d) (hs : in15 s) : pText (tl (p ++ (regB d u ++ (csB ++ regB s v)))) = untok c lg cc (.reg d u) (.reg s v) := by
  have hr := regL_ok u hd.1 hd.2
  rw [tl_app, tl_app, tl_app]
  exact (pT2 (b := tl (regB s v)) h (hr.ne (by decide))).trans (by rw [p_reg hr, p_reg (regL_ok v hs.1 hs.2)])
theorem t_load {p : ByteArray} {c : Int} {lg : Bool} {cc : Int} {w : List UInt8} (h : WordL (tl p) c lg cc w) {d s : Int} (u : Bool) (n : Int) (hd : in15 d) (hs : in15 s) : pText (tl (p ++ (regB d u ++ (csB ++ (lbB ++ (regB s true ++ (sgnB n ++ rbB))))))) = untok c lg cc (.reg d u) (.mem s n) := by
  have hr := regL_ok u hd.1 hd.2
  simp only [tl_app]
  exact (pT2 h (hr.ne (by decide))).trans (by rw [p_reg hr]; exact congrArg _ (p_mem (regL_ok true hs.1 hs.2) n))
theorem t_store {p : ByteArray} {c : Int} {lg : Bool} {cc : Int} {w : List UInt8} (h : WordL (tl p) c lg cc w) {d s : Int} (v : Bool) (n : Int) (hd : in15 d) (hs : in15 s) : pText (tl (p ++ (lbB ++ (regB d true ++ (sgnB n ++ (rbB ++ (csB ++ regB s v))))))) = untok c lg cc (.mem d n) (.reg s v) := by
  have hr := regL_ok true hd.1 hd.2
  have hm : ∀ c ∈ memL' (tl (regB d true)) (tl (sgnB n)), (c != 44) = true := by
    intro c hc
    unfold memL' at hc
    rcases List.mem_cons.1 hc with rfl | hc
    · decide
    rcases List.mem_append.1 hc with hc | hc
    · exact hr.ne (by decide) c hc
    rcases List.mem_append.1 hc with hc | hc
    · exact sgn_ne (by decide) (by decide) (by decide) c hc
    · rw [List.mem_singleton.1 hc]; decide
  have e : tl (p ++ (lbB ++ (regB d true ++ (sgnB n ++ (rbB ++ (csB ++ regB s v)))))) = tl p ++ (memL' (tl (regB d true)) (tl (sgnB n)) ++ (44 :: 32 :: tl (regB s v))) := by
    unfold memL'
    simp only [tl_app, List.append_assoc, List.cons_append]
    rfl
  rw [e, pT2 h hm, p_mem hr, p_reg (regL_ok v hs.1 hs.2)]
theorem t_regcl {p : ByteArray} {c : Int} {lg : Bool} {cc : Int} {w : List UInt8} (h : WordL (tl p) c lg cc w) {d : Int} (u : Bool) (hd : in15 d) : pText (tl (p ++ (regB d u ++ clB))) = untok c lg cc (.reg d u) .cl := by
  have hr := regL_ok u hd.1 hd.2
  rw [tl_app, tl_app]
  exact (pT2 (b := [99, 108]) h (hr.ne (by decide))).trans (by rw [p_reg hr]; rfl)
theorem t_reg {p : ByteArray} {c : Int} {lg : Bool} {cc : Int} {w : List UInt8} (h : WordL (tl p) c lg cc w) {d : Int} (u : Bool) (hd : in15 d) : pText (tl (p ++ regB d u)) = untok c lg cc (.reg d u) .no := by
  have hr := regL_ok u hd.1 hd.2
  rw [tl_app, pT1 h (hr.ne (by decide)), p_reg hr]
theorem t_sgn {p : ByteArray} {c : Int} {lg : Bool} {cc : Int} {w : List UInt8} (h : WordL (tl p) c lg cc w) (n : Int) : pText (tl (p ++ sgnB n)) = untok c lg cc (.num n) .no := by
  rw [tl_app, pT1 h (sgn_ne (by decide) (by decide) (by decide)), p_sgn]
/-- The text of what may be written tells the fields that count. -/
theorem pshow {x : AI} (hE : amdErr x = 0) : pText (tl (showB x)) = plain x := by
  obtain ⟨op, wide, long, d, s, disp, imm, cc⟩ := x
  rcases op_cases hE with h | h | h | h | h | h | h | h | h | h | h | h | h | h | h | h | h | h | h | h | h | h | h | h | h | h | h
  · have h : op = 1 := h
    subst h
    have hS : showB ⟨1, wide, long, d, s, disp, imm, cc⟩ = showT .movImm ⟨1, wide, long, d, s, disp, imm, cc⟩ := if_pos hE
    rw [hS]
    have hr := er1 (show (if badReg d = true then 182 else _) = (0 : Int) from hE)
    exact t_regnum (p := preB 1 false) (c := 1) (lg := false) (cc := 0) (w := [109, 111, 118]) ⟨by kernel_rfl, by kernel_rfl, by kernel_rfl⟩ false imm hr
  · have h : op = 2 := h
    subst h
    have hS : showB ⟨2, wide, long, d, s, disp, imm, cc⟩ = showT (.two 137) ⟨2, wide, long, d, s, disp, imm, cc⟩ := if_pos hE
    rw [hS]
    have hr := er2 (show (if badReg s = true ∨ badReg d = true then 182 else _) = (0 : Int) from hE)
    exact t_regreg (p := preB 2 false) (c := 1) (lg := false) (cc := 0) (w := [109, 111, 118]) ⟨by kernel_rfl, by kernel_rfl, by kernel_rfl⟩ wide wide hr.2 hr.1
  · have h : op = 3 := h
    subst h
    have hS : showB ⟨3, wide, long, d, s, disp, imm, cc⟩ = showT .load ⟨3, wide, long, d, s, disp, imm, cc⟩ := if_pos hE
    rw [hS]
    have hr := er2 (show (if badReg d = true ∨ badReg s = true then 182 else _) = (0 : Int) from hE)
    cases long
    · exact t_load (p := preB 3 false) (c := 1) (lg := false) (cc := 0) (w := [109, 111, 118]) ⟨by kernel_rfl, by kernel_rfl, by kernel_rfl⟩ wide disp hr.1 hr.2
    · exact t_load (p := preB 3 true) (c := 1) (lg := true) (cc := 0) (w := [109, 111, 118, 46, 108]) ⟨by kernel_rfl, by kernel_rfl, by kernel_rfl⟩ wide disp hr.1 hr.2
  · have h : op = 4 := h
    subst h
    have hS : showB ⟨4, wide, long, d, s, disp, imm, cc⟩ = showT .store ⟨4, wide, long, d, s, disp, imm, cc⟩ := if_pos hE
    rw [hS]
    have hr := er2 (show (if badReg d = true ∨ badReg s = true then 182 else _) = (0 : Int) from hE)
    cases long
    · exact t_store (p := preB 4 false) (c := 1) (lg := false) (cc := 0) (w := [109, 111, 118]) ⟨by kernel_rfl, by kernel_rfl, by kernel_rfl⟩ wide disp hr.1 hr.2
    · exact t_store (p := preB 4 true) (c := 1) (lg := true) (cc := 0) (w := [109, 111, 118, 46, 108]) ⟨by kernel_rfl, by kernel_rfl, by kernel_rfl⟩ wide disp hr.1 hr.2
  · have h : op = 5 := h
    subst h
    have hS : showB ⟨5, wide, long, d, s, disp, imm, cc⟩ = showT (.two 1) ⟨5, wide, long, d, s, disp, imm, cc⟩ := if_pos hE
    rw [hS]
    have hr := er2 (show (if badReg s = true ∨ badReg d = true then 182 else _) = (0 : Int) from hE)
    exact t_regreg (p := preB 5 false) (c := 5) (lg := false) (cc := 0) (w := [97, 100, 100]) ⟨by kernel_rfl, by kernel_rfl, by kernel_rfl⟩ wide wide hr.2 hr.1
  · have h : op = 6 := h
    subst h
    have hS : showB ⟨6, wide, long, d, s, disp, imm, cc⟩ = showT (.two 9) ⟨6, wide, long, d, s, disp, imm, cc⟩ := if_pos hE
    rw [hS]
    have hr := er2 (show (if badReg s = true ∨ badReg d = true then 182 else _) = (0 : Int) from hE)
    exact t_regreg (p := preB 6 false) (c := 6) (lg := false) (cc := 0) (w := [111, 114]) ⟨by kernel_rfl, by kernel_rfl, by kernel_rfl⟩ wide wide hr.2 hr.1
  · have h : op = 7 := h
    subst h
    have hS : showB ⟨7, wide, long, d, s, disp, imm, cc⟩ = showT (.two 33) ⟨7, wide, long, d, s, disp, imm, cc⟩ := if_pos hE
    rw [hS]
    have hr := er2 (show (if badReg s = true ∨ badReg d = true then 182 else _) = (0 : Int) from hE)
    exact t_regreg (p := preB 7 false) (c := 7) (lg := false) (cc := 0) (w := [97, 110, 100]) ⟨by kernel_rfl, by kernel_rfl, by kernel_rfl⟩ wide wide hr.2 hr.1
  · have h : op = 8 := h
    subst h
    have hS : showB ⟨8, wide, long, d, s, disp, imm, cc⟩ = showT (.two 41) ⟨8, wide, long, d, s, disp, imm, cc⟩ := if_pos hE
    rw [hS]
    have hr := er2 (show (if badReg s = true ∨ badReg d = true then 182 else _) = (0 : Int) from hE)
    exact t_regreg (p := preB 8 false) (c := 8) (lg := false) (cc := 0) (w := [115, 117, 98]) ⟨by kernel_rfl, by kernel_rfl, by kernel_rfl⟩ wide wide hr.2 hr.1
  · have h : op = 9 := h
    subst h
    have hS : showB ⟨9, wide, long, d, s, disp, imm, cc⟩ = showT (.two 49) ⟨9, wide, long, d, s, disp, imm, cc⟩ := if_pos hE
    rw [hS]
    have hr := er2 (show (if badReg s = true ∨ badReg d = true then 182 else _) = (0 : Int) from hE)
    exact t_regreg (p := preB 9 false) (c := 9) (lg := false) (cc := 0) (w := [120, 111, 114]) ⟨by kernel_rfl, by kernel_rfl, by kernel_rfl⟩ wide wide hr.2 hr.1
  · have h : op = 10 := h
    subst h
    have hS : showB ⟨10, wide, long, d, s, disp, imm, cc⟩ = showT (.two 57) ⟨10, wide, long, d, s, disp, imm, cc⟩ := if_pos hE
    rw [hS]
    have hr := er2 (show (if badReg s = true ∨ badReg d = true then 182 else _) = (0 : Int) from hE)
    exact t_regreg (p := preB 10 false) (c := 10) (lg := false) (cc := 0) (w := [99, 109, 112]) ⟨by kernel_rfl, by kernel_rfl, by kernel_rfl⟩ wide wide hr.2 hr.1
  · have h : op = 11 := h
    subst h
    have hS : showB ⟨11, wide, long, d, s, disp, imm, cc⟩ = showT (.two 133) ⟨11, wide, long, d, s, disp, imm, cc⟩ := if_pos hE
    rw [hS]
    have hr := er2 (show (if badReg s = true ∨ badReg d = true then 182 else _) = (0 : Int) from hE)
    exact t_regreg (p := preB 11 false) (c := 11) (lg := false) (cc := 0) (w := [116, 101, 115, 116]) ⟨by kernel_rfl, by kernel_rfl, by kernel_rfl⟩ wide wide hr.2 hr.1
  · have h : op = 12 := h
    subst h
    have hS : showB ⟨12, wide, long, d, s, disp, imm, cc⟩ = showT (.two 135) ⟨12, wide, long, d, s, disp, imm, cc⟩ := if_pos hE
    rw [hS]
    have hr := er2 (show (if badReg s = true ∨ badReg d = true then 182 else _) = (0 : Int) from hE)
    exact t_regreg (p := preB 12 false) (c := 12) (lg := false) (cc := 0) (w := [120, 99, 104, 103]) ⟨by kernel_rfl, by kernel_rfl, by kernel_rfl⟩ wide wide hr.2 hr.1
  · have h : op = 13 := h
    subst h
    have hS : showB ⟨13, wide, long, d, s, disp, imm, cc⟩ = showT .imul ⟨13, wide, long, d, s, disp, imm, cc⟩ := if_pos hE
    rw [hS]
    have hr := er2 (show (if badReg s = true ∨ badReg d = true then 182 else _) = (0 : Int) from hE)
    exact t_regreg (p := preB 13 false) (c := 13) (lg := false) (cc := 0) (w := [105, 109, 117, 108]) ⟨by kernel_rfl, by kernel_rfl, by kernel_rfl⟩ wide wide hr.2 hr.1
  · have h : op = 14 := h
    subst h
    have hS : showB ⟨14, wide, long, d, s, disp, imm, cc⟩ = showT (.imm 0) ⟨14, wide, long, d, s, disp, imm, cc⟩ := if_pos hE
    rw [hS]
    have hr := er1 (show (if badReg d = true then 182 else _) = (0 : Int) from hE)
    cases long
    · exact t_regnum (p := preB 14 false) (c := 5) (lg := false) (cc := 0) (w := [97, 100, 100]) ⟨by kernel_rfl, by kernel_rfl, by kernel_rfl⟩ wide imm hr
    · exact t_regnum (p := preB 14 true) (c := 5) (lg := true) (cc := 0) (w := [97, 100, 100, 46, 108]) ⟨by kernel_rfl, by kernel_rfl, by kernel_rfl⟩ wide imm hr
  · have h : op = 15 := h
    subst h
    have hS : showB ⟨15, wide, long, d, s, disp, imm, cc⟩ = showT (.imm 5) ⟨15, wide, long, d, s, disp, imm, cc⟩ := if_pos hE
    rw [hS]
    have hr := er1 (show (if badReg d = true then 182 else _) = (0 : Int) from hE)
    cases long
    · exact t_regnum (p := preB 15 false) (c := 8) (lg := false) (cc := 0) (w := [115, 117, 98]) ⟨by kernel_rfl, by kernel_rfl, by kernel_rfl⟩ wide imm hr
    · exact t_regnum (p := preB 15 true) (c := 8) (lg := true) (cc := 0) (w := [115, 117, 98, 46, 108]) ⟨by kernel_rfl, by kernel_rfl, by kernel_rfl⟩ wide imm hr
  · have h : op = 16 := h
    subst h
    have hS : showB ⟨16, wide, long, d, s, disp, imm, cc⟩ = showT (.imm 7) ⟨16, wide, long, d, s, disp, imm, cc⟩ := if_pos hE
    rw [hS]
    have hr := er1 (show (if badReg d = true then 182 else _) = (0 : Int) from hE)
    cases long
    · exact t_regnum (p := preB 16 false) (c := 10) (lg := false) (cc := 0) (w := [99, 109, 112]) ⟨by kernel_rfl, by kernel_rfl, by kernel_rfl⟩ wide imm hr
    · exact t_regnum (p := preB 16 true) (c := 10) (lg := true) (cc := 0) (w := [99, 109, 112, 46, 108]) ⟨by kernel_rfl, by kernel_rfl, by kernel_rfl⟩ wide imm hr
  · have h : op = 17 := h
    subst h
    have hS : showB ⟨17, wide, long, d, s, disp, imm, cc⟩ = showT (.imm 4) ⟨17, wide, long, d, s, disp, imm, cc⟩ := if_pos hE
    rw [hS]
    have hr := er1 (show (if badReg d = true then 182 else _) = (0 : Int) from hE)
    cases long
    · exact t_regnum (p := preB 17 false) (c := 7) (lg := false) (cc := 0) (w := [97, 110, 100]) ⟨by kernel_rfl, by kernel_rfl, by kernel_rfl⟩ wide imm hr
    · exact t_regnum (p := preB 17 true) (c := 7) (lg := true) (cc := 0) (w := [97, 110, 100, 46, 108]) ⟨by kernel_rfl, by kernel_rfl, by kernel_rfl⟩ wide imm hr
  · have h : op = 18 := h
    subst h
    have hS : showB ⟨18, wide, long, d, s, disp, imm, cc⟩ = showT (.one 247 3) ⟨18, wide, long, d, s, disp, imm, cc⟩ := if_pos hE
    rw [hS]
    have hr := er1 (show (if badReg d = true then 182 else _) = (0 : Int) from hE)
    exact t_reg (p := preB 18 false) (c := 18) (lg := false) (cc := 0) (w := [110, 101, 103]) ⟨by kernel_rfl, by kernel_rfl, by kernel_rfl⟩ wide hr
  · have h : op = 19 := h
    subst h
    have hS : showB ⟨19, wide, long, d, s, disp, imm, cc⟩ = showT (.one 247 2) ⟨19, wide, long, d, s, disp, imm, cc⟩ := if_pos hE
    rw [hS]
    have hr := er1 (show (if badReg d = true then 182 else _) = (0 : Int) from hE)
    exact t_reg (p := preB 19 false) (c := 19) (lg := false) (cc := 0) (w := [110, 111, 116]) ⟨by kernel_rfl, by kernel_rfl, by kernel_rfl⟩ wide hr
  · have h : op = 20 := h
    subst h
    have hS : showB ⟨20, wide, long, d, s, disp, imm, cc⟩ = showT (.one 247 6) ⟨20, wide, long, d, s, disp, imm, cc⟩ := if_pos hE
    rw [hS]
    have hr := er1 (show (if badReg d = true then 182 else _) = (0 : Int) from hE)
    exact t_reg (p := preB 20 false) (c := 20) (lg := false) (cc := 0) (w := [100, 105, 118]) ⟨by kernel_rfl, by kernel_rfl, by kernel_rfl⟩ wide hr
  · have h : op = 21 := h
    subst h
    have hS : showB ⟨21, wide, long, d, s, disp, imm, cc⟩ = showT (.one 211 4) ⟨21, wide, long, d, s, disp, imm, cc⟩ := if_pos hE
    rw [hS]
    have hr := er1 (show (if badReg d = true then 182 else _) = (0 : Int) from hE)
    exact t_regcl (p := preB 21 false) (c := 21) (lg := false) (cc := 0) (w := [115, 104, 108]) ⟨by kernel_rfl, by kernel_rfl, by kernel_rfl⟩ wide hr
  · have h : op = 22 := h
    subst h
    have hS : showB ⟨22, wide, long, d, s, disp, imm, cc⟩ = showT (.one 211 5) ⟨22, wide, long, d, s, disp, imm, cc⟩ := if_pos hE
    rw [hS]
    have hr := er1 (show (if badReg d = true then 182 else _) = (0 : Int) from hE)
    exact t_regcl (p := preB 22 false) (c := 22) (lg := false) (cc := 0) (w := [115, 104, 114]) ⟨by kernel_rfl, by kernel_rfl, by kernel_rfl⟩ wide hr
  · have h : op = 23 := h
    subst h
    have hS : showB ⟨23, wide, long, d, s, disp, imm, cc⟩ = showT (.stack 80) ⟨23, wide, long, d, s, disp, imm, cc⟩ := if_pos hE
    rw [hS]
    have hr := er1 (show (if badReg d = true then 182 else _) = (0 : Int) from hE)
    exact t_reg (p := preB 23 false) (c := 23) (lg := false) (cc := 0) (w := [112, 117, 115, 104]) ⟨by kernel_rfl, by kernel_rfl, by kernel_rfl⟩ true hr
  · have h : op = 24 := h
    subst h
    have hS : showB ⟨24, wide, long, d, s, disp, imm, cc⟩ = showT (.stack 88) ⟨24, wide, long, d, s, disp, imm, cc⟩ := if_pos hE
    rw [hS]
    have hr := er1 (show (if badReg d = true then 182 else _) = (0 : Int) from hE)
    exact t_reg (p := preB 24 false) (c := 24) (lg := false) (cc := 0) (w := [112, 111, 112]) ⟨by kernel_rfl, by kernel_rfl, by kernel_rfl⟩ true hr
  · have h : op = 25 := h
    subst h
    have hS : showB ⟨25, wide, long, d, s, disp, imm, cc⟩ = showT .jmp ⟨25, wide, long, d, s, disp, imm, cc⟩ := if_pos hE
    rw [hS]
    cases long
    · exact t_sgn (p := preB 25 false) (c := 25) (lg := false) (cc := 0) (w := [106, 109, 112]) ⟨by kernel_rfl, by kernel_rfl, by kernel_rfl⟩ imm
    · exact t_sgn (p := preB 25 true) (c := 25) (lg := true) (cc := 0) (w := [106, 109, 112, 46, 108]) ⟨by kernel_rfl, by kernel_rfl, by kernel_rfl⟩ imm
  · have h : op = 26 := h
    subst h
    have hS : showB ⟨26, wide, long, d, s, disp, imm, cc⟩ = showT .jcc ⟨26, wide, long, d, s, disp, imm, cc⟩ := if_pos hE
    rw [hS]
    rcases cc_cases (cc_ok hE) with h | h | h | h | h | h
    · have h : cc = 2 := h
      subst h
      cases long
      · exact t_sgn (p := jccB 2 false) (c := 26) (lg := false) (cc := 2) (w := [106, 98]) ⟨by kernel_rfl, by kernel_rfl, by kernel_rfl⟩ imm
      · exact t_sgn (p := jccB 2 true) (c := 26) (lg := true) (cc := 2) (w := [106, 98, 46, 108]) ⟨by kernel_rfl, by kernel_rfl, by kernel_rfl⟩ imm
    · have h : cc = 3 := h
      subst h
      cases long
      · exact t_sgn (p := jccB 3 false) (c := 26) (lg := false) (cc := 3) (w := [106, 97, 101]) ⟨by kernel_rfl, by kernel_rfl, by kernel_rfl⟩ imm
      · exact t_sgn (p := jccB 3 true) (c := 26) (lg := true) (cc := 3) (w := [106, 97, 101, 46, 108]) ⟨by kernel_rfl, by kernel_rfl, by kernel_rfl⟩ imm
    · have h : cc = 4 := h
      subst h
      cases long
      · exact t_sgn (p := jccB 4 false) (c := 26) (lg := false) (cc := 4) (w := [106, 101]) ⟨by kernel_rfl, by kernel_rfl, by kernel_rfl⟩ imm
      · exact t_sgn (p := jccB 4 true) (c := 26) (lg := true) (cc := 4) (w := [106, 101, 46, 108]) ⟨by kernel_rfl, by kernel_rfl, by kernel_rfl⟩ imm
    · have h : cc = 5 := h
      subst h
      cases long
      · exact t_sgn (p := jccB 5 false) (c := 26) (lg := false) (cc := 5) (w := [106, 110, 101]) ⟨by kernel_rfl, by kernel_rfl, by kernel_rfl⟩ imm
      · exact t_sgn (p := jccB 5 true) (c := 26) (lg := true) (cc := 5) (w := [106, 110, 101, 46, 108]) ⟨by kernel_rfl, by kernel_rfl, by kernel_rfl⟩ imm
    · have h : cc = 6 := h
      subst h
      cases long
      · exact t_sgn (p := jccB 6 false) (c := 26) (lg := false) (cc := 6) (w := [106, 98, 101]) ⟨by kernel_rfl, by kernel_rfl, by kernel_rfl⟩ imm
      · exact t_sgn (p := jccB 6 true) (c := 26) (lg := true) (cc := 6) (w := [106, 98, 101, 46, 108]) ⟨by kernel_rfl, by kernel_rfl, by kernel_rfl⟩ imm
    · have h : cc = 7 := h
      subst h
      cases long
      · exact t_sgn (p := jccB 7 false) (c := 26) (lg := false) (cc := 7) (w := [106, 97]) ⟨by kernel_rfl, by kernel_rfl, by kernel_rfl⟩ imm
      · exact t_sgn (p := jccB 7 true) (c := 26) (lg := true) (cc := 7) (w := [106, 97, 46, 108]) ⟨by kernel_rfl, by kernel_rfl, by kernel_rfl⟩ imm
  · have h : op = 27 := h
    subst h
    have hS : showB ⟨27, wide, long, d, s, disp, imm, cc⟩ = showT .ret ⟨27, wide, long, d, s, disp, imm, cc⟩ := if_pos hE
    rw [hS]
    rfl
/-- A text begins with a small letter. -/
theorem show_head {x : AI} (hE : amdErr x = 0) : ∃ c l, tl (showB x) = c :: l ∧ 97 ≤ c.toNat ∧ c.toNat ≤ 122 := by
  obtain ⟨op, wide, long, d, s, disp, imm, cc⟩ := x
  have key : ∀ {p q : ByteArray}, (∃ c l, tl p = c :: l ∧ 97 ≤ c.toNat ∧ c.toNat ≤ 122) → ∃ c l, tl (p ++ q) = c :: l ∧ 97 ≤ c.toNat ∧ c.toNat ≤ 122 := by
    rintro p q ⟨c, l, h, a, b⟩
    exact ⟨c, l ++ tl q, by rw [tl_app, h]; rfl, a, b⟩
  rcases op_cases hE with h | h | h | h | h | h | h | h | h | h | h | h | h | h | h | h | h | h | h | h | h | h | h | h | h | h | h
  · have h : op = 1 := h
    subst h
    have hS : showB ⟨1, wide, long, d, s, disp, imm, cc⟩ = showT .movImm ⟨1, wide, long, d, s, disp, imm, cc⟩ := if_pos hE
    rw [hS]
    exact key ⟨_, _, rfl, by decide, by decide⟩
  · have h : op = 2 := h
    subst h
    have hS : showB ⟨2, wide, long, d, s, disp, imm, cc⟩ = showT (.two 137) ⟨2, wide, long, d, s, disp, imm, cc⟩ := if_pos hE
    rw [hS]
    exact key ⟨_, _, rfl, by decide, by decide⟩
  · have h : op = 3 := h
    subst h
    have hS : showB ⟨3, wide, long, d, s, disp, imm, cc⟩ = showT .load ⟨3, wide, long, d, s, disp, imm, cc⟩ := if_pos hE
    rw [hS]
    cases long <;> exact key ⟨_, _, rfl, by decide, by decide⟩
  · have h : op = 4 := h
    subst h
    have hS : showB ⟨4, wide, long, d, s, disp, imm, cc⟩ = showT .store ⟨4, wide, long, d, s, disp, imm, cc⟩ := if_pos hE
    rw [hS]
    cases long <;> exact key ⟨_, _, rfl, by decide, by decide⟩
  · have h : op = 5 := h
    subst h
    have hS : showB ⟨5, wide, long, d, s, disp, imm, cc⟩ = showT (.two 1) ⟨5, wide, long, d, s, disp, imm, cc⟩ := if_pos hE
    rw [hS]
    exact key ⟨_, _, rfl, by decide, by decide⟩
  · have h : op = 6 := h
    subst h
    have hS : showB ⟨6, wide, long, d, s, disp, imm, cc⟩ = showT (.two 9) ⟨6, wide, long, d, s, disp, imm, cc⟩ := if_pos hE
    rw [hS]
    exact key ⟨_, _, rfl, by decide, by decide⟩
  · have h : op = 7 := h
    subst h
    have hS : showB ⟨7, wide, long, d, s, disp, imm, cc⟩ = showT (.two 33) ⟨7, wide, long, d, s, disp, imm, cc⟩ := if_pos hE
    rw [hS]
    exact key ⟨_, _, rfl, by decide, by decide⟩
  · have h : op = 8 := h
    subst h
    have hS : showB ⟨8, wide, long, d, s, disp, imm, cc⟩ = showT (.two 41) ⟨8, wide, long, d, s, disp, imm, cc⟩ := if_pos hE
    rw [hS]
    exact key ⟨_, _, rfl, by decide, by decide⟩
  · have h : op = 9 := h
    subst h
    have hS : showB ⟨9, wide, long, d, s, disp, imm, cc⟩ = showT (.two 49) ⟨9, wide, long, d, s, disp, imm, cc⟩ := if_pos hE
    rw [hS]
    exact key ⟨_, _, rfl, by decide, by decide⟩
  · have h : op = 10 := h
    subst h
    have hS : showB ⟨10, wide, long, d, s, disp, imm, cc⟩ = showT (.two 57) ⟨10, wide, long, d, s, disp, imm, cc⟩ := if_pos hE
    rw [hS]
    exact key ⟨_, _, rfl, by decide, by decide⟩
  · have h : op = 11 := h
    subst h
    have hS : showB ⟨11, wide, long, d, s, disp, imm, cc⟩ = showT (.two 133) ⟨11, wide, long, d, s, disp, imm, cc⟩ := if_pos hE
    rw [hS]
    exact key ⟨_, _, rfl, by decide, by decide⟩
  · have h : op = 12 := h
    subst h
    have hS : showB ⟨12, wide, long, d, s, disp, imm, cc⟩ = showT (.two 135) ⟨12, wide, long, d, s, disp, imm, cc⟩ := if_pos hE
    rw [hS]
    exact key ⟨_, _, rfl, by decide, by decide⟩
  · have h : op = 13 := h
    subst h
    have hS : showB ⟨13, wide, long, d, s, disp, imm, cc⟩ = showT .imul ⟨13, wide, long, d, s, disp, imm, cc⟩ := if_pos hE
    rw [hS]
    exact key ⟨_, _, rfl, by decide, by decide⟩
  · have h : op = 14 := h
    subst h
    have hS : showB ⟨14, wide, long, d, s, disp, imm, cc⟩ = showT (.imm 0) ⟨14, wide, long, d, s, disp, imm, cc⟩ := if_pos hE
    rw [hS]
    cases long <;> exact key ⟨_, _, rfl, by decide, by decide⟩
  · have h : op = 15 := h
    subst h
    have hS : showB ⟨15, wide, long, d, s, disp, imm, cc⟩ = showT (.imm 5) ⟨15, wide, long, d, s, disp, imm, cc⟩ := if_pos hE
    rw [hS]
    cases long <;> exact key ⟨_, _, rfl, by decide, by decide⟩
  · have h : op = 16 := h
    subst h
    have hS : showB ⟨16, wide, long, d, s, disp, imm, cc⟩ = showT (.imm 7) ⟨16, wide, long, d, s, disp, imm, cc⟩ := if_pos hE
    rw [hS]
    cases long <;> exact key ⟨_, _, rfl, by decide, by decide⟩
  · have h : op = 17 := h
    subst h
    have hS : showB ⟨17, wide, long, d, s, disp, imm, cc⟩ = showT (.imm 4) ⟨17, wide, long, d, s, disp, imm, cc⟩ := if_pos hE
    rw [hS]
    cases long <;> exact key ⟨_, _, rfl, by decide, by decide⟩
  · have h : op = 18 := h
    subst h
    have hS : showB ⟨18, wide, long, d, s, disp, imm, cc⟩ = showT (.one 247 3) ⟨18, wide, long, d, s, disp, imm, cc⟩ := if_pos hE
    rw [hS]
    exact key ⟨_, _, rfl, by decide, by decide⟩
  · have h : op = 19 := h
    subst h
    have hS : showB ⟨19, wide, long, d, s, disp, imm, cc⟩ = showT (.one 247 2) ⟨19, wide, long, d, s, disp, imm, cc⟩ := if_pos hE
    rw [hS]
    exact key ⟨_, _, rfl, by decide, by decide⟩
  · have h : op = 20 := h
    subst h
    have hS : showB ⟨20, wide, long, d, s, disp, imm, cc⟩ = showT (.one 247 6) ⟨20, wide, long, d, s, disp, imm, cc⟩ := if_pos hE
    rw [hS]
    exact key ⟨_, _, rfl, by decide, by decide⟩
  · have h : op = 21 := h
    subst h
    have hS : showB ⟨21, wide, long, d, s, disp, imm, cc⟩ = showT (.one 211 4) ⟨21, wide, long, d, s, disp, imm, cc⟩ := if_pos hE
    rw [hS]
    exact key ⟨_, _, rfl, by decide, by decide⟩
  · have h : op = 22 := h
    subst h
    have hS : showB ⟨22, wide, long, d, s, disp, imm, cc⟩ = showT (.one 211 5) ⟨22, wide, long, d, s, disp, imm, cc⟩ := if_pos hE
    rw [hS]
    exact key ⟨_, _, rfl, by decide, by decide⟩
  · have h : op = 23 := h
    subst h
    have hS : showB ⟨23, wide, long, d, s, disp, imm, cc⟩ = showT (.stack 80) ⟨23, wide, long, d, s, disp, imm, cc⟩ := if_pos hE
    rw [hS]
    exact key ⟨_, _, rfl, by decide, by decide⟩
  · have h : op = 24 := h
    subst h
    have hS : showB ⟨24, wide, long, d, s, disp, imm, cc⟩ = showT (.stack 88) ⟨24, wide, long, d, s, disp, imm, cc⟩ := if_pos hE
    rw [hS]
    exact key ⟨_, _, rfl, by decide, by decide⟩
  · have h : op = 25 := h
    subst h
    have hS : showB ⟨25, wide, long, d, s, disp, imm, cc⟩ = showT .jmp ⟨25, wide, long, d, s, disp, imm, cc⟩ := if_pos hE
    rw [hS]
    cases long <;> exact key ⟨_, _, rfl, by decide, by decide⟩
  · have h : op = 26 := h
    subst h
    have hS : showB ⟨26, wide, long, d, s, disp, imm, cc⟩ = showT .jcc ⟨26, wide, long, d, s, disp, imm, cc⟩ := if_pos hE
    rw [hS]
    rcases cc_cases (cc_ok hE) with h | h | h | h | h | h
    · have h : cc = 2 := h
      subst h
      cases long <;> exact key ⟨_, _, rfl, by decide, by decide⟩
    · have h : cc = 3 := h
      subst h
      cases long <;> exact key ⟨_, _, rfl, by decide, by decide⟩
    · have h : cc = 4 := h
      subst h
      cases long <;> exact key ⟨_, _, rfl, by decide, by decide⟩
    · have h : cc = 5 := h
      subst h
      cases long <;> exact key ⟨_, _, rfl, by decide, by decide⟩
    · have h : cc = 6 := h
      subst h
      cases long <;> exact key ⟨_, _, rfl, by decide, by decide⟩
    · have h : cc = 7 := h
      subst h
      cases long <;> exact key ⟨_, _, rfl, by decide, by decide⟩
  · have h : op = 27 := h
    subst h
    have hS : showB ⟨27, wide, long, d, s, disp, imm, cc⟩ = showT .ret ⟨27, wide, long, d, s, disp, imm, cc⟩ := if_pos hE
    rw [hS]
    exact ⟨_, _, rfl, by decide, by decide⟩
theorem form_plain (x : AI) : formOf (plain x).op = formOf x.op := by
  unfold plain
  cases h : formOf x.op with
  | none => exact h
  | some f => cases f <;> exact h
theorem bytes_plain (x : AI) : amdBytes (plain x) = amdBytes x := by
  unfold amdBytes
  rw [form_plain]
  unfold plain
  cases h : formOf x.op with
  | none => rfl
  | some f => cases f <;> rfl
theorem err_plain {x : AI} (hE : amdErr x = 0) : amdErr (plain x) = 0 := by
  unfold amdErr at *
  rw [form_plain]
  unfold plain
  cases h : formOf x.op with
  | none => rw [h] at hE; exact absurd (show (181 : Int) = 0 from hE) (by decide)
  | some f => rw [h] at hE; cases f <;> exact hE
theorem show_plain {x : AI} (hE : amdErr x = 0) : showB (plain x) = showB x := by
  unfold showB
  rw [if_pos hE, if_pos (err_plain hE), form_plain]
  unfold plain
  cases h : formOf x.op with
  | none => rfl
  | some f => cases f <;> rfl
theorem plain_of_bytes {x y : AI} (hx : amdErr x = 0) (hy : amdErr y = 0) (h : amdBytes x = amdBytes y) : plain x = plain y := by
  have hr : ∀ {l : List Int} {i : Nat} {g : Nat → Int}, (∀ e, e < l.length → g (i + e) = l.getD e 0) → reads g i l := by
    intro l
    induction l with
    | nil => intro i g _; trivial
    | cons c l ih =>
      intro i g hg
      exact ⟨hg 0 (by simp), ih fun e he => by rw [Nat.add_assoc, Nat.add_comm 1 e, hg (e + 1) (by simp; omega)]; simp⟩
  have h1 := dec_enc (g := fun e => (amdBytes x).getD e 0) (len := (amdBytes x).length) (i := 0) hx (hr fun e _ => by rw [Nat.zero_add]) (by omega)
  have h2 := dec_enc (g := fun e => (amdBytes x).getD e 0) (len := (amdBytes x).length) (i := 0) hy (by rw [← h]; exact hr fun e _ => by rw [Nat.zero_add]) (by rw [h]; omega)
  rw [h1] at h2
  injection h2 with h2
  injection h2
/-- Two instructions are shown alike just when they are written alike. -/
theorem show_bytes {x y : AI} (hx : amdErr x = 0) (hy : amdErr y = 0) : showB x = showB y ↔ amdBytes x = amdBytes y := by
  constructor
  · intro h
    have := pshow hx
    rw [h, pshow hy] at this
    rw [← bytes_plain x, ← bytes_plain y, this]
  · intro h
    rw [← show_plain hx, ← show_plain hy, plain_of_bytes hx hy h]
end Go.Proofs.YtajcmjjgnbaahaaDoor.Amd
