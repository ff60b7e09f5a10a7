/- What ravelinref15.Decode comes to, in plain words: the words of instructions tell them. -/
import Derived.Test.YtajcmjjgnbaahaaGreatSr3
set_option linter.unusedVariables false
set_option linter.unusedSimpArgs false
namespace Go.Proofs.YtajcmjjgnbaahaaGreat.Rv
open Go Go.Proofs.YtajcmjjgnbaahaaGreat.Sx Go.RowKit
noncomputable def G3 : FuncId -> Option Cal := inl P (fun _ _ => 70) (fun _ => none) 5
theorem zZ3 : zO P G3 := zAh none_ok 5
def regB (n : Int) (named : Bool) : Bool := decide (n = 0) || named && decide (0 < n) && decide (n < 32)
def zC0 : Nat -> Int -> Bool
  | 1, d => decide (0 <= d) && decide (d < 1048576)
  | 2, d | 5, d => decide (-2048 <= d) && decide (d < 2048)
  | 3, d => decide (0 <= d) && decide (d < 64)
  | 4, d => decide (0 <= d) && decide (d < 32)
  | 7, d => decide (-4096 <= d) && decide (d < 4096) && decide (d % 2 = 0)
  | 8, d => decide (-1048576 <= d) && decide (d < 1048576) && decide (d % 2 = 0)
  | _, d => decide (d = 0)
theorem zXR (a : Int) : a.tmod 2 = 0 ↔ a % 2 = 0 := ⟨fun h => Int.emod_eq_zero_of_dvd (Int.dvd_of_tmod_eq_zero h), fun h => Int.tmod_eq_zero_of_dvd (Int.dvd_of_emod_eq_zero h)⟩
def zCz : List z9 -> Int -> Option z9
  | [], _ => none
  | r :: l, n => if r.op = n then some r else zCz l n
def orU (a b : IE) : IE := .bits .or .u32 a b
def shU (a : IE) (n : Int) : IE := .shl .u32 a (.lit n)
def zYD (d : Int) (p : Int × Int × Int) : IE := shU (.conv .u32 (.bits .and .u64 (.shr .u64 (.conv .u64 (.var d)) (.lit p.1)) (.lit p.2.1))) p.2.2
def zaJ (a b c : Int) : IE := orU (orU (shU (.conv .u32 (.var a)) 7) (shU (.conv .u32 (.var b)) 15)) (shU (.conv .u32 (.var c)) 20)
def zZ6 (r : z9) (a b c d : Int) : IE := (zC8 r.form).foldl (fun w p => orU w (zYD d p)) (orU (.lit (zAp r)) (zaJ a b c))
def zF1 (e : Int) : SV := .tuple [.int .u32 (.lit 0), .int .i64 (.lit e)]
def zDh (b : Bool) (A B : Prop) : Prop := (BE.den (.not (.var b)) = true -> A) /\ (BE.den (.not (.var b)) = false -> B)
def encE (r : z9) (a b c d : Int) (Q : SV -> Prop) : Prop :=
  zDh (regB a (zd r.form).1) (Q (zF1 151)) (zDh (regB b (zd r.form).2.1) (Q (zF1 151)) (zDh (regB c (zd r.form).2.2) (Q (zF1 151))
    (BE.den (.var (zHG d)) = true /\ zDh (zC0 r.form d) (Q (zF1 152)) (zNH (zC8 r.form) (Q (.tuple [.int .u32 (zZ6 r a b c d), .int .i64 (.lit 0)]))))))
def zMj (op : IE) (a b c d : Int) : List SV := [.agg [.int .i64 op, .int .i64 (.var a), .int .i64 (.var b), .int .i64 (.var c), .int .i64 (.var d)]]
def immW : Nat -> Int -> Int
  | 1, d => d % 1048576 * 4096
  | 2, d => d % 4096 * 1048576
  | 3, d => d % 64 * 1048576
  | 4, d => d % 32 * 1048576
  | 5, d => d % 32 * 128 + d / 32 % 128 * 33554432
  | 7, d => d / 2 % 16 * 256 + d / 32 % 64 * 33554432 + d / 2048 % 2 * 128 + d / 4096 % 2 * 2147483648
  | 8, d => d / 2 % 1024 * 2097152 + d / 2048 % 2 * 1048576 + d / 4096 % 256 * 4096 + d / 1048576 % 2 * 2147483648
  | _, _ => 0
def zAQ (r : z9) (a b c d : Int) : Int := zAp r + a * 128 + b * 32768 + c * 1048576 + immW r.form d
theorem zFk (n : Int) (named : Bool) : regB n named = true ↔ n = 0 ∨ named = true /\ 0 < n /\ n < 32 := by
  cases named <;> simp [regB]
theorem zYo : (2 : Int) ^ 20 = 1048576 := by decide
theorem subB {m : Nat} {x : Int} (h : (decide (0 <= x) && (x.toNat &&& m == x.toNat)) = true) : Sub m x := by
  simp only [Bool.and_eq_true, decide_eq_true_eq, beq_iff_eq] at h
  exact ⟨x.toNat, by omega, h.2⟩
theorem zAA (d : Int) (lo k at_ : Nat) : Sub ((2 ^ k - 1) * 2 ^ at_) (d / 2 ^ lo % 2 ^ k * 2 ^ at_) :=
  Sub.shift _ k at_ (Int.emod_nonneg _ (by have : (0 : Int) < 2 ^ k := Int.pow_pos (by decide); omega)) (Int.emod_lt_of_pos _ (Int.pow_pos (by decide)))
theorem zRm : ∀ (l : List (Nat × Int × IE)) (w : IE) (m : Nat) (x : Int), w.den = x -> Sub m x -> m < 2 ^ 32 -> (∀ p ∈ l, p.2.2.den = p.2.1 /\ Sub p.1 p.2.1 /\ p.1 < 2 ^ 32) ->
    (l.foldl (fun (s : Bool × Nat) p => (s.1 && s.2 &&& p.1 == 0, s.2 ||| p.1)) (true, m)).1 = true -> (l.foldl (fun w p => orU w p.2.2) w).den = l.foldl (fun x p => x + p.2.1) x
  | [], w, m, x, hw, _, _, _, _ => hw
  | (m', x', e) :: r, w, m, x, hw, hs, hm, hl, hd => by
    obtain ⟨h1, h2, h3⟩ := hl (m', x', e) (List.mem_cons_self ..)
    simp only [List.foldl_cons, Bool.true_and] at hd ⊢
    have hz : m &&& m' = 0 := by
      by_cases hz : m &&& m' = 0
      · exact hz
      · exfalso
        have : (m &&& m' == 0) = false := by simpa using hz
        rw [this] at hd
        have key : ∀ (l : List (Nat × Int × IE)) (k : Nat), (l.foldl (fun (s : Bool × Nat) p => (s.1 && s.2 &&& p.1 == 0, s.2 ||| p.1)) (false, k)).1 = false := by
          intro l
          induction l with
          | nil => intro k; rfl
          | cons a r ih => intro k; simpa using ih _
        rw [key] at hd
        cases hd
    obtain ⟨o1, o2⟩ := hs.or h2 hz hm h3
    have e1 : (orU w e).den = x + x' := by simp only [orU, IE.den, hw, h1, o1]
    refine zRm r (orU w e) (m ||| m') (x + x') e1 o2 (Nat.or_lt_two_pow hm h3) (fun p hp => hl p (List.mem_cons_of_mem _ hp)) ?_
    have : (m &&& m' == 0) = true := by simpa using hz
    rw [this] at hd
    exact hd
def fm : Nat -> Nat
  | 1 | 8 => 127
  | 6 => 4261441663
  | _ => 28799
theorem zH4 {n : Int} {named : Bool} (h : regB n named = true) (s : Nat) (hs : s <= 20) : (shU (.conv .u32 (.var n)) s).den = n * 2 ^ s /\ Sub (if named then 31 * 2 ^ s else 0) (n * 2 ^ s) /\ (if named then 31 * 2 ^ s else 0) < 2 ^ 32 := by
  rw [zFk] at h
  have hr : 0 <= n /\ n < 32 := by omega
  have hp : (2 : Int) ^ s <= 1048576 := by rw [<- zYo]; exact ipow_le hs
  have hp' : (2 : Nat) ^ s <= 1048576 := Nat.pow_le_pow_right (by decide) hs
  have hpos : (0 : Int) < 2 ^ s := Int.pow_pos (by decide)
  have h1 : n * 2 ^ s < 4294967296 := by
    have : n * 2 ^ s <= 31 * 1048576 := Int.mul_le_mul (by omega) hp (Int.le_of_lt hpos) (by omega)
    omega
  refine ⟨?_, ?_, ?_⟩
  · simp only [shU, IE.den]
    rw [z8 hr.1 (by omega), zCN .u32 _ s (by simp [IntKind.bits]; omega), z8 (Int.mul_nonneg hr.1 (Int.le_of_lt hpos)) h1]
  · cases named with
    | true => exact Sub.shift n 5 s hr.1 hr.2
    | false =>
      have : n = 0 := by simpa using h
      rw [this, Int.zero_mul]; exact Sub.zero _
  · split <;> omega
def zHD (op a b c d : Int) : Int × Int :=
  match zCz zf op with
  | none => (0, 153)
  | some r =>
    if regB a (zd r.form).1 && regB b (zd r.form).2.1 && regB c (zd r.form).2.2 then (if zC0 r.form d then (zAQ r a b c d, 0) else (0, 152)) else (0, 151)
def zIA (p : Int × Int) : Value := .tuple #[.int .u32 p.1, .int .i64 p.2]
theorem zEh : ∀ {l : List z9} {n : Int} {r : z9}, zCz l n = some r -> r ∈ l /\ r.op = n
  | [], _, _, h => by simp [zCz] at h
  | x :: l, n, r, h => by
    unfold zCz at h
    split at h
    · rename_i e; simp only [Option.some.injEq] at h; subst h; exact ⟨List.mem_cons_self .., e⟩
    · obtain ⟨h1, h2⟩ := zEh h; exact ⟨List.mem_cons_of_mem _ h1, h2⟩
theorem zEb {b : Bool} {A B : Prop} (h1 : b = false -> A) (h2 : b = true -> B) : zDh b A B := by
  refine ⟨fun h => h1 ?_, fun h => h2 ?_⟩ <;> simpa [BE.den] using h
def fEnc : zBN
  | [.agg [.int .i64 op, .int .i64 a, .int .i64 b, .int .i64 c, .int .i64 d]] =>
    some (some (.var (zHG d.den)), .tuple [.int .u32 (.var (zHD op.den a.den b.den c.den d.den).1), .int .i64 (.var (zHD op.den a.den b.den c.den d.den).2)])
  | _ => none
def zWc (code : Int) : Bool := !(code == 55 || code == 111)
def zWb (code : Int) : Bool := code == 51 || code == 59
def keyR (r : z9) : Int × Int × Int := (r.code, if zWc r.code then r.f3 else 0, if zWb r.code then r.f7 else 0)
def keyW (w : Int) : Int × Int × Int := (w % 128, if zWc (w % 128) then w / 4096 % 8 else 0, if zWb (w % 128) then w / 33554432 else 0)
theorem zWP : ∀ r ∈ zf, ∀ r' ∈ zf, keyR r = keyR r' -> r = r' := by
  have h : (zf.all fun r => zf.all fun r' => !(keyR r == keyR r') || (r.op == r'.op)) = true := by decide +kernel
  have h2 : ∀ r ∈ zf, zCz zf r.op = some r := by
    intro r hr
    simp only [zf, List.mem_cons, List.not_mem_nil, or_false] at hr
    rcases hr with rfl | rfl | rfl | rfl | rfl | rfl | rfl | rfl | rfl | rfl | rfl | rfl | rfl | rfl | rfl | rfl | rfl | rfl | rfl | rfl | rfl | rfl | rfl | rfl | rfl | rfl | rfl | rfl | rfl | rfl | rfl | rfl | rfl | rfl <;> rfl
  intro r hr r' hr' e
  have := List.all_eq_true.1 (List.all_eq_true.1 h r hr) r' hr'
  simp only [Bool.or_eq_true, Bool.not_eq_true', beq_eq_false_iff_ne, beq_iff_eq] at this
  have ho : r.op = r'.op := by
    rcases this with h | h
    · exact absurd e h
    · exact h
  have e1 := h2 r hr
  rw [ho, h2 r' hr'] at e1
  exact (Option.some.inj e1).symm
structure RvOk (r : z9) (a b c d : Int) : Prop where
  ra : regB a (zd r.form).1 = true
  rb : regB b (zd r.form).2.1 = true
  rc : regB c (zd r.form).2.2 = true
  fit : zC0 r.form d = true
theorem zYm {w : Int} {r : z9} (e1 : w % 128 = r.code) (e2 : zWc r.code = true -> w / 4096 % 8 = r.f3) (e3 : zWb r.code = true -> w / 33554432 = r.f7) : keyW w = keyR r := by
  unfold keyW keyR
  rw [e1]
  refine Prod.ext rfl (Prod.ext ?_ ?_)
  · show (if _ then _ else _) = (if _ then _ else _)
    split
    · exact e2 ‹_›
    · rfl
  · show (if _ then _ else _) = (if _ then _ else _)
    split
    · exact e3 ‹_›
    · rfl
theorem zNO (r : z9) (hr : r ∈ zf) (a b c d : Int) (h : RvOk r a b c d) : keyW (zAQ r a b c d) = keyR r := by
  obtain ⟨ha, hb, hc, hd⟩ := h
  rw [zFk] at ha hb hc
  simp only [zf, List.mem_cons, List.not_mem_nil, or_false] at hr
  rcases hr with rfl | rfl | rfl | rfl | rfl | rfl | rfl | rfl | rfl | rfl | rfl | rfl | rfl | rfl | rfl | rfl | rfl | rfl | rfl | rfl | rfl | rfl | rfl | rfl | rfl | rfl | rfl | rfl | rfl | rfl | rfl | rfl | rfl | rfl <;>
    (simp only [zd, Bool.false_eq_true, false_and, or_false, true_and] at ha hb hc
     refine zYm ?_ ?_ ?_
     · simp only [zAQ, zAp, immW, reduceCtorEq, if_false, if_true, true_or, or_true, or_self, Nat.reduceEqDiff]; omega
     · intro h; first | exact absurd h (by decide) | (clear h; simp only [zAQ, zAp, immW, reduceCtorEq, if_false, if_true, true_or, or_true, or_self, Nat.reduceEqDiff]; omega) | (
          simp only [zAQ, zAp, immW, reduceCtorEq, if_false, if_true, true_or, or_true, or_self, Nat.reduceEqDiff]
          have q1 : 0 <= d / 2 % 16 /\ d / 2 % 16 < 16 := by omega
          have q2 : 0 <= d / 32 % 64 /\ d / 32 % 64 < 64 := by omega
          have q3 : 0 <= d / 2048 % 2 /\ d / 2048 % 2 < 2 := by omega
          have q4 : 0 <= d / 4096 % 2 /\ d / 4096 % 2 < 2 := by omega
          generalize d / 2 % 16 = p1 at q1 ⊢
          generalize d / 32 % 64 = p2 at q2 ⊢
          generalize d / 2048 % 2 = p3 at q3 ⊢
          generalize d / 4096 % 2 = p4 at q4 ⊢
          clear hd
          omega)
     · intro h; first | exact absurd h (by decide) | (clear h; simp only [zAQ, zAp, immW, reduceCtorEq, if_false, if_true, true_or, or_true, or_self, Nat.reduceEqDiff]; omega) | (
          simp only [zAQ, zAp, immW, reduceCtorEq, if_false, if_true, true_or, or_true, or_self, Nat.reduceEqDiff]
          have q1 : 0 <= d / 2 % 16 /\ d / 2 % 16 < 16 := by omega
          have q2 : 0 <= d / 32 % 64 /\ d / 32 % 64 < 64 := by omega
          have q3 : 0 <= d / 2048 % 2 /\ d / 2048 % 2 < 2 := by omega
          have q4 : 0 <= d / 4096 % 2 /\ d / 4096 % 2 < 2 := by omega
          generalize d / 2 % 16 = p1 at q1 ⊢
          generalize d / 32 % 64 = p2 at q2 ⊢
          generalize d / 2048 % 2 = p3 at q3 ⊢
          generalize d / 4096 % 2 = p4 at q4 ⊢
          clear hd
          omega))
theorem zQZ {x y : Int} {n : Bool} (hx : regB x n = true) : 0 <= x /\ x < 32 /\ (n = false -> x = 0) := by
  rw [zFk] at hx
  rcases hx with rfl | ⟨rfl, h⟩
  · exact ⟨by omega, by omega, fun _ => rfl⟩
  · exact ⟨by omega, by omega, fun h => by cases h⟩
theorem zSI {d : Int} (h0 : -4096 <= d) (h1 : d < 4096) (h2 : d % 2 = 0) : d = d / 2 % 16 * 2 + d / 32 % 64 * 32 + d / 2048 % 2 * 2048 - d / 4096 % 2 * 4096 := by
  have e1 : d / 32 = d / 2 / 16 := by omega
  have e2 : d / 2048 = d / 2 / 16 / 64 := by omega
  have e3 : d / 4096 = d / 2 / 16 / 64 / 2 := by omega
  rw [e1, e2, e3]; omega
theorem zRX {d : Int} (h0 : -1048576 <= d) (h1 : d < 1048576) (h2 : d % 2 = 0) : d = d / 2 % 1024 * 2 + d / 2048 % 2 * 2048 + d / 4096 % 256 * 4096 - d / 1048576 % 2 * 1048576 := by
  have e2 : d / 2048 = d / 2 / 1024 := by omega
  have e3 : d / 4096 = d / 2 / 1024 / 2 := by omega
  have e4 : d / 1048576 = d / 2 / 1024 / 2 / 256 := by omega
  rw [e2, e3, e4]; omega
theorem zKa {m x y x' y' : Int} (h0 : 0 <= x) (h1 : x < m) (h0' : 0 <= x') (h1' : x' < m) (e : x + m * y = x' + m * y') : x = x' /\ y = y' := by
  have hm : m ≠ 0 := by omega
  have ex : x = x' := by
    have := congrArg (· % m) e
    simpa [Int.add_mul_emod_self_left, Int.emod_eq_of_lt h0 h1, Int.emod_eq_of_lt h0' h1'] using this
  subst ex
  exact ⟨rfl, Int.eq_of_mul_eq_mul_left hm (by omega)⟩
set_option maxHeartbeats 4000000 in
theorem zMQ (r : z9) (hr : r ∈ zf) (a b c d a' b' c' d' : Int) (h : RvOk r a b c d) (h' : RvOk r a' b' c' d') (e : zAQ r a b c d = zAQ r a' b' c' d') : a = a' /\ b = b' /\ c = c' /\ d = d' := by
  obtain ⟨ha, hb, hc, hd⟩ := h
  obtain ⟨ha', hb', hc', hd'⟩ := h'
  rw [zFk] at ha hb hc ha' hb' hc'
  unfold zAQ at e
  rcases zBK r hr with h | h | h | h | h | h | h | h
  · rw [h] at ha hb hc hd ha' hb' hc' hd' e
    simp only [zd, Bool.false_eq_true, false_and, or_false, true_and] at ha hb hc ha' hb' hc'
    simp only [zC0, Bool.and_eq_true, decide_eq_true_eq] at hd hd'
    simp only [immW] at e
    refine ⟨?_, ?_, ?_, ?_⟩ <;> omega
  · rw [h] at ha hb hc hd ha' hb' hc' hd' e
    simp only [zd, Bool.false_eq_true, false_and, or_false, true_and] at ha hb hc ha' hb' hc'
    simp only [zC0, Bool.and_eq_true, decide_eq_true_eq] at hd hd'
    simp only [immW] at e
    refine ⟨?_, ?_, ?_, ?_⟩ <;> omega
  · rw [h] at ha hb hc hd ha' hb' hc' hd' e
    simp only [zd, Bool.false_eq_true, false_and, or_false, true_and] at ha hb hc ha' hb' hc'
    simp only [zC0, Bool.and_eq_true, decide_eq_true_eq] at hd hd'
    simp only [immW] at e
    refine ⟨?_, ?_, ?_, ?_⟩ <;> omega
  · rw [h] at ha hb hc hd ha' hb' hc' hd' e
    simp only [zd, Bool.false_eq_true, false_and, or_false, true_and] at ha hb hc ha' hb' hc'
    simp only [zC0, Bool.and_eq_true, decide_eq_true_eq] at hd hd'
    simp only [immW] at e
    refine ⟨?_, ?_, ?_, ?_⟩ <;> omega
  · rw [h] at ha hb hc hd ha' hb' hc' hd' e
    simp only [zd, Bool.false_eq_true, false_and, or_false, true_and] at ha hb hc ha' hb' hc'
    simp only [zC0, Bool.and_eq_true, decide_eq_true_eq] at hd hd'
    simp only [immW] at e
    refine ⟨?_, ?_, ?_, ?_⟩ <;> omega
  · rw [h] at ha hb hc hd ha' hb' hc' hd' e
    simp only [zd, Bool.false_eq_true, false_and, or_false, true_and] at ha hb hc ha' hb' hc'
    simp only [zC0, Bool.and_eq_true, decide_eq_true_eq] at hd hd'
    simp only [immW] at e
    refine ⟨?_, ?_, ?_, ?_⟩ <;> omega
  · rw [h] at ha hb hc hd ha' hb' hc' hd' e
    simp only [zd, Bool.false_eq_true, false_and, or_false, true_and] at ha hb hc ha' hb' hc'
    simp only [zC0, Bool.and_eq_true, decide_eq_true_eq] at hd hd'
    simp only [immW] at e
    have q1 : 0 <= d / 2 % 16 /\ d / 2 % 16 < 16 := by omega
    have q2 : 0 <= d / 32 % 64 /\ d / 32 % 64 < 64 := by omega
    have q3 : 0 <= d / 2048 % 2 /\ d / 2048 % 2 < 2 := by omega
    have q4 : 0 <= d / 4096 % 2 /\ d / 4096 % 2 < 2 := by omega
    have q5 := zSI hd.1.1 hd.1.2 hd.2
    have q1' : 0 <= d' / 2 % 16 /\ d' / 2 % 16 < 16 := by omega
    have q2' : 0 <= d' / 32 % 64 /\ d' / 32 % 64 < 64 := by omega
    have q3' : 0 <= d' / 2048 % 2 /\ d' / 2048 % 2 < 2 := by omega
    have q4' : 0 <= d' / 4096 % 2 /\ d' / 4096 % 2 < 2 := by omega
    have q5' := zSI hd'.1.1 hd'.1.2 hd'.2
    generalize d / 2 % 16 = p1 at q1 q5 e
    generalize d / 32 % 64 = p2 at q2 q5 e
    generalize d / 2048 % 2 = p3 at q3 q5 e
    generalize d / 4096 % 2 = p4 at q4 q5 e
    generalize d' / 2 % 16 = p1' at q1' q5' e
    generalize d' / 32 % 64 = p2' at q2' q5' e
    generalize d' / 2048 % 2 = p3' at q3' q5' e
    generalize d' / 4096 % 2 = p4' at q4' q5' e
    clear hd hd'
    have z : a = a' /\ b = b' /\ c = c' /\ p1 = p1' /\ p2 = p2' /\ p3 = p3' /\ p4 = p4' := by
      have e0 : p3 + 2 * (p1 + 128 * (b + 32 * (c + 32 * (p2 + 64 * p4)))) = p3' + 2 * (p1' + 128 * (b' + 32 * (c' + 32 * (p2' + 64 * p4')))) := by omega
      obtain ⟨z1, e0⟩ := zKa (by omega) (by omega) (by omega) (by omega) e0
      obtain ⟨z2, e0⟩ := zKa (by omega) (by omega) (by omega) (by omega) e0
      obtain ⟨z3, e0⟩ := zKa (by omega) (by omega) (by omega) (by omega) e0
      obtain ⟨z4, e0⟩ := zKa (by omega) (by omega) (by omega) (by omega) e0
      obtain ⟨z5, e0⟩ := zKa (by omega) (by omega) (by omega) (by omega) e0
      exact ⟨by omega, z3, z4, z2, z5, z1, e0⟩
    obtain ⟨z1, z2, z3, rfl, rfl, rfl, rfl⟩ := z
    exact ⟨z1, z2, z3, by omega⟩
  · rw [h] at ha hb hc hd ha' hb' hc' hd' e
    simp only [zd, Bool.false_eq_true, false_and, or_false, true_and] at ha hb hc ha' hb' hc'
    simp only [zC0, Bool.and_eq_true, decide_eq_true_eq] at hd hd'
    simp only [immW] at e
    have q1 : 0 <= d / 2 % 1024 /\ d / 2 % 1024 < 1024 := by omega
    have q2 : 0 <= d / 2048 % 2 /\ d / 2048 % 2 < 2 := by omega
    have q3 : 0 <= d / 4096 % 256 /\ d / 4096 % 256 < 256 := by omega
    have q4 : 0 <= d / 1048576 % 2 /\ d / 1048576 % 2 < 2 := by omega
    have q5 := zRX hd.1.1 hd.1.2 hd.2
    have q1' : 0 <= d' / 2 % 1024 /\ d' / 2 % 1024 < 1024 := by omega
    have q2' : 0 <= d' / 2048 % 2 /\ d' / 2048 % 2 < 2 := by omega
    have q3' : 0 <= d' / 4096 % 256 /\ d' / 4096 % 256 < 256 := by omega
    have q4' : 0 <= d' / 1048576 % 2 /\ d' / 1048576 % 2 < 2 := by omega
    have q5' := zRX hd'.1.1 hd'.1.2 hd'.2
    generalize d / 2 % 1024 = p1 at q1 q5 e
    generalize d / 2048 % 2 = p2 at q2 q5 e
    generalize d / 4096 % 256 = p3 at q3 q5 e
    generalize d / 1048576 % 2 = p4 at q4 q5 e
    generalize d' / 2 % 1024 = p1' at q1' q5' e
    generalize d' / 2048 % 2 = p2' at q2' q5' e
    generalize d' / 4096 % 256 = p3' at q3' q5' e
    generalize d' / 1048576 % 2 = p4' at q4' q5' e
    clear hd hd'
    have z : a = a' /\ b = b' /\ c = c' /\ p1 = p1' /\ p2 = p2' /\ p3 = p3' /\ p4 = p4' := by
      have e0 : a + 32 * (p3 + 256 * (p2 + 2 * (p1 + 1024 * p4))) = a' + 32 * (p3' + 256 * (p2' + 2 * (p1' + 1024 * p4'))) := by omega
      obtain ⟨z1, e0⟩ := zKa (by omega) (by omega) (by omega) (by omega) e0
      obtain ⟨z2, e0⟩ := zKa (by omega) (by omega) (by omega) (by omega) e0
      obtain ⟨z3, e0⟩ := zKa (by omega) (by omega) (by omega) (by omega) e0
      obtain ⟨z4, e0⟩ := zKa (by omega) (by omega) (by omega) (by omega) e0
      exact ⟨z1, by omega, by omega, z4, z3, z2, e0⟩
    obtain ⟨z1, z2, z3, rfl, rfl, rfl, rfl⟩ := z
    exact ⟨z1, z2, z3, by omega⟩
theorem zSS (r r' : z9) (hr : r ∈ zf) (hr' : r' ∈ zf) (a b c d a' b' c' d' : Int) (h : RvOk r a b c d) (h' : RvOk r' a' b' c' d') (e : zAQ r a b c d = zAQ r' a' b' c' d') :
    r = r' /\ a = a' /\ b = b' /\ c = c' /\ d = d' := by
  have k := zNO r hr a b c d h
  rw [e, zNO r' hr' a' b' c' d' h'] at k
  have er := zWP r hr r' hr' k.symm
  subst er
  exact ⟨rfl, zMQ r hr a b c d a' b' c' d' h h' e⟩
theorem zG {P : Program} {f : FuncId} {c : Cal} {l : List (FuncId × Cal)} (h : zNN P f c) (hl : zO P (zx l)) : zO P (zx ((f, c) :: l)) := by
  intro g c' hg
  unfold zx at hg
  split at hg
  · rename_i e; subst e
    obtain rfl := Option.some.inj hg
    exact h
  · exact hl g c' hg
theorem zUV (r : z9) (hr : r ∈ zf) (w : Int) (h0 : 0 <= w) (h1 : w < 4294967296) (h : Hit r w) :
    RvOk r (zBY r w).rd (zBY r w).r1 (zBY r w).r2 (zBY r w).imm /\ zAQ r (zBY r w).rd (zBY r w).r1 (zBY r w).r2 (zBY r w).imm = w := by
  obtain ⟨c0, c1, c2, c3, c4, c5, c6, c7⟩ := zMl r hr
  unfold Hit at h
  have reg : ∀ (n : Bool) (m : Int), regB (regD n w m) n = true := by
    intro n m
    rw [zFk]
    unfold regD
    cases n with
    | false => exact .inl rfl
    | true =>
      simp only [if_true]
      generalize w / m = q
      by_cases hq : q % 32 = 0
      · exact .inl hq
      · exact .inr ⟨trivial, by omega, by omega⟩
  have dg : w = w % 128 + w / 128 % 32 * 128 + w / 4096 % 8 * 4096 + w / 32768 % 32 * 32768 + w / 1048576 % 32 * 1048576 + w / 33554432 * 33554432 := by
    have e1 : w / 4096 = w / 128 / 32 := by omega
    have e2 : w / 32768 = w / 128 / 32 / 8 := by omega
    have e3 : w / 1048576 = w / 128 / 32 / 8 / 32 := by omega
    have e4 : w / 33554432 = w / 128 / 32 / 8 / 32 / 32 := by omega
    rw [e1, e2, e3, e4]; omega
  have d5 : ∀ {x : Int}, (if w / 128 % 32 + w / 33554432 % 128 * 32 < 2048 then w / 128 % 32 + w / 33554432 % 128 * 32 else w / 128 % 32 + w / 33554432 % 128 * 32 - 4096) = x ->
      -2048 <= x /\ x < 2048 /\ x % 32 = w / 128 % 32 /\ x / 32 % 128 = w / 33554432 := by
    intro x hx
    have q1 : w / 33554432 % 128 = w / 33554432 := by omega
    rw [q1] at hx
    have q2 : 0 <= w / 33554432 /\ w / 33554432 < 128 := by omega
    have q3 : 0 <= w / 128 % 32 /\ w / 128 % 32 < 32 := by omega
    generalize w / 33554432 = p2 at *
    generalize w / 128 % 32 = p1 at *
    split at hx <;> omega
  have d7 : ∀ {x : Int}, (if w / 256 % 16 * 2 + w / 33554432 % 64 * 32 + w / 128 % 2 * 2048 + w / 2147483648 % 2 * 4096 < 4096 then w / 256 % 16 * 2 + w / 33554432 % 64 * 32 + w / 128 % 2 * 2048 + w / 2147483648 % 2 * 4096 else w / 256 % 16 * 2 + w / 33554432 % 64 * 32 + w / 128 % 2 * 2048 + w / 2147483648 % 2 * 4096 - 8192) = x ->
      -4096 <= x /\ x < 4096 /\ x % 2 = 0 /\ x / 2 % 16 * 256 + x / 32 % 64 * 33554432 + x / 2048 % 2 * 128 + x / 4096 % 2 * 2147483648 = w / 128 % 32 * 128 + w / 33554432 * 33554432 := by
    intro x hx
    have e1 : w / 128 % 32 = w / 128 % 2 + 2 * (w / 256 % 16) := by omega
    have e2 : w / 33554432 = w / 33554432 % 64 + 64 * (w / 2147483648 % 2) := by omega
    rw [e1, e2]
    have q1 : 0 <= w / 256 % 16 /\ w / 256 % 16 < 16 := by omega
    have q2 : 0 <= w / 33554432 % 64 /\ w / 33554432 % 64 < 64 := by omega
    have q3 : 0 <= w / 128 % 2 /\ w / 128 % 2 < 2 := by omega
    have q4 : 0 <= w / 2147483648 % 2 /\ w / 2147483648 % 2 < 2 := by omega
    clear e1 e2 dg d5 h0 h1 h
    generalize w / 256 % 16 = p1 at *
    generalize w / 33554432 % 64 = p2 at *
    generalize w / 128 % 2 = p3 at *
    generalize w / 2147483648 % 2 = p4 at *
    have hb : x = p1 * 2 + p2 * 32 + p3 * 2048 + p4 * 4096 - p4 * 8192 := by split at hx <;> omega
    have b0 : -4096 <= x /\ x < 4096 /\ x % 2 = 0 := by omega
    have f1 : x / 2 % 16 = p1 := by omega
    have f2 : x / 32 % 64 = p2 := by omega
    have f3 : x / 2048 % 2 = p3 := by omega
    have f4 : x / 4096 % 2 = p4 := by omega
    rw [f1, f2, f3, f4]
    exact ⟨b0.1, b0.2.1, b0.2.2, by omega⟩
  have d8 : ∀ {x : Int}, (if w / 2097152 % 1024 * 2 + w / 1048576 % 2 * 2048 + w / 4096 % 256 * 4096 + w / 2147483648 % 2 * 1048576 < 1048576 then w / 2097152 % 1024 * 2 + w / 1048576 % 2 * 2048 + w / 4096 % 256 * 4096 + w / 2147483648 % 2 * 1048576 else w / 2097152 % 1024 * 2 + w / 1048576 % 2 * 2048 + w / 4096 % 256 * 4096 + w / 2147483648 % 2 * 1048576 - 2097152) = x ->
      -1048576 <= x /\ x < 1048576 /\ x % 2 = 0 /\ x / 2 % 1024 * 2097152 + x / 2048 % 2 * 1048576 + x / 4096 % 256 * 4096 + x / 1048576 % 2 * 2147483648 = w / 4096 * 4096 := by
    intro x hx
    have e2 : w / 4096 = w / 4096 % 256 + 256 * (w / 1048576 % 2) + 512 * (w / 2097152 % 1024) + 524288 * (w / 2147483648 % 2) := by
      have e3 : w / 1048576 = w / 4096 / 256 := by omega
      have e4 : w / 2097152 = w / 4096 / 256 / 2 := by omega
      have e5 : w / 2147483648 = w / 4096 / 256 / 2 / 1024 := by omega
      have e6 : w / 4096 / 256 / 2 / 1024 < 2 := by omega
      rw [e3, e4, e5]; omega
    rw [e2]
    have q1 : 0 <= w / 2097152 % 1024 /\ w / 2097152 % 1024 < 1024 := by omega
    have q2 : 0 <= w / 1048576 % 2 /\ w / 1048576 % 2 < 2 := by omega
    have q3 : 0 <= w / 4096 % 256 /\ w / 4096 % 256 < 256 := by omega
    have q4 : 0 <= w / 2147483648 % 2 /\ w / 2147483648 % 2 < 2 := by omega
    clear e2 dg d5 d7 h0 h1 h
    generalize w / 2097152 % 1024 = p1 at *
    generalize w / 1048576 % 2 = p2 at *
    generalize w / 4096 % 256 = p3 at *
    generalize w / 2147483648 % 2 = p4 at *
    have hb : x = p1 * 2 + p2 * 2048 + p3 * 4096 + p4 * 1048576 - p4 * 2097152 := by split at hx <;> omega
    have b0 : -1048576 <= x /\ x < 1048576 /\ x % 2 = 0 := by omega
    have f1 : x / 2 % 1024 = p1 := by omega
    have f2 : x / 2048 % 2 = p2 := by omega
    have f3 : x / 4096 % 256 = p3 := by omega
    have f4 : x / 1048576 % 2 = p4 := by omega
    rw [f1, f2, f3, f4]
    exact ⟨b0.1, b0.2.1, b0.2.2, by omega⟩
  refine ⟨⟨reg _ _, reg _ _, reg _ _, ?_⟩, ?_⟩
  · show zC0 r.form (immD r.form w) = true
    rcases zBK r hr with hf | hf | hf | hf | hf | hf | hf | hf <;> rw [hf] <;> simp only [zC0, immD, immV, Bool.and_eq_true, decide_eq_true_eq]
    · omega
    · split <;> omega
    · omega
    · omega
    · have k := d5 (x := _) rfl; exact ⟨k.1, k.2.1⟩
    · have k := d7 (x := _) rfl; exact ⟨⟨k.1, k.2.1⟩, k.2.2.1⟩
    · have k := d8 (x := _) rfl; exact ⟨⟨k.1, k.2.1⟩, k.2.2.1⟩
  · show zAQ r (regD (zd r.form).1 w 128) (regD (zd r.form).2.1 w 32768) (regD (zd r.form).2.2 w 1048576) (immD r.form w) = w
    rcases zBK r hr with hf | hf | hf | hf | hf | hf | hf | hf <;> simp only [hf, reduceCtorEq, if_false, if_true, true_or, or_true, or_self, Nat.reduceEqDiff, ne_eq, not_false_eq_true, not_true_eq_false, forall_const, false_or, false_implies, true_implies, and_true, true_and] at h c6 c7 <;>
      simp only [zAQ, zAp, hf, zd, regD, Bool.false_eq_true, if_false, if_true, reduceCtorEq, true_or, or_true, or_self, Nat.reduceEqDiff]
    · simp only [immD, immV, immW]; omega
    · simp only [immD, immV, immW]; split <;> omega
    · simp only [immD, immV, immW]; omega
    · simp only [immD, immV, immW]; omega
    · have k := d5 (x := immD 5 w) rfl
      simp only [immW]; omega
    · simp only [immD, immV, immW]; omega
    · have k := (d7 (x := immD 7 w) rfl).2.2.2
      simp only [immW]; omega
    · have k := (d8 (x := immD 8 w) rfl).2.2.2
      simp only [immW]; omega
theorem zKM : ∀ r ∈ zf, zCz zf r.op = some r := by
  intro r hr
  simp only [zf, List.mem_cons, List.not_mem_nil, or_false] at hr
  rcases hr with rfl | rfl | rfl | rfl | rfl | rfl | rfl | rfl | rfl | rfl | rfl | rfl | rfl | rfl | rfl | rfl | rfl | rfl | rfl | rfl | rfl | rfl | rfl | rfl | rfl | rfl | rfl | rfl | rfl | rfl | rfl | rfl | rfl | rfl <;> rfl
theorem zEq (w : Int) : ∀ l : List z9, (∃ r ∈ l, Hit r w /\ decL w l = zBY r w) ∨ (decL w l = ⟨0, 0, 0, 0, 0, 5⟩ /\ ∀ r ∈ l, ¬ Hit r w)
  | [] => .inr ⟨rfl, fun r h => by cases h⟩
  | r :: l => by
    by_cases h : Hit r w
    · exact .inl ⟨r, List.mem_cons_self .., h, by simp [decL, h]⟩
    · rcases zEq w l with ⟨r', h1, h2, h3⟩ | ⟨h1, h2⟩
      · exact .inl ⟨r', List.mem_cons_of_mem _ h1, h2, by simp [decL, h, h3]⟩
      · refine .inr ⟨by simp [decL, h, h1], fun r' hr' => ?_⟩
        rcases List.mem_cons.1 hr' with rfl | h'
        · exact h
        · exact h2 r' h'
theorem zGe (w : Int) (h0 : 0 <= w) (h1 : w < 4294967296) (he : (rvDec w).err = 0) : zHD (rvDec w).op (rvDec w).rd (rvDec w).r1 (rvDec w).r2 (rvDec w).imm = (w, 0) := by
  rcases zEq w zf with ⟨r, hr, hh, e⟩ | ⟨e, _⟩
  · have hd : rvDec w = zBY r w := e
    obtain ⟨k1, k2⟩ := zUV r hr w h0 h1 hh
    rw [hd]
    have hop : (zBY r w).op = r.op := rfl
    rw [hop]
    unfold zHD
    rw [zKM r hr]
    simp only [k1.ra, k1.rb, k1.rc, k1.fit, k2, Bool.and_self, if_true]
  · have hd : rvDec w = ⟨0, 0, 0, 0, 0, 5⟩ := e
    rw [hd] at he
    exact absurd he (by decide)
theorem zOt (r : z9) (hr : r ∈ zf) (a b c d : Int) (h : RvOk r a b c d) : 0 <= zAQ r a b c d /\ zAQ r a b c d < 4294967296 /\ Hit r (zAQ r a b c d) := by
  obtain ⟨c0, c1, c2, c3, c4, c5, c6, c7⟩ := zMl r hr
  obtain ⟨ha, hb, hc, hd⟩ := h
  have ra := zQZ (y := 0) ha
  have rb := zQZ (y := 0) hb
  have rc := zQZ (y := 0) hc
  clear ha hb hc hd
  unfold zAQ zAp Hit
  rcases zBK r hr with hf | hf | hf | hf | hf | hf | hf | hf <;>
    (rw [hf] at ra rb rc c6 c7
     simp only [hf, zd, immW, reduceCtorEq, if_false, if_true, true_or, or_true, or_self, Nat.reduceEqDiff, ne_eq, not_false_eq_true, not_true_eq_false, forall_const, false_or, false_implies, true_implies, and_true, true_and] at ra rb rc c6 c7 ⊢)
  · refine ⟨?_, ?_, ?_⟩ <;> omega
  · refine ⟨?_, ?_, ?_, ?_⟩ <;> omega
  · refine ⟨?_, ?_, ?_, ?_, ?_⟩ <;> omega
  · refine ⟨?_, ?_, ?_, ?_, ?_⟩ <;> omega
  · have q1 : 0 <= d / 32 % 128 /\ d / 32 % 128 < 128 := by omega
    have q2 : 0 <= d % 32 /\ d % 32 < 32 := by omega
    generalize d / 32 % 128 = p1 at *
    generalize d % 32 = p2 at *
    refine ⟨?_, ?_, ?_, ?_⟩ <;> omega
  · refine ⟨?_, ?_, ?_, ?_, ?_⟩ <;> omega
  · have q1 : 0 <= d / 2 % 16 /\ d / 2 % 16 < 16 := by omega
    have q2 : 0 <= d / 32 % 64 /\ d / 32 % 64 < 64 := by omega
    have q3 : 0 <= d / 2048 % 2 /\ d / 2048 % 2 < 2 := by omega
    have q4 : 0 <= d / 4096 % 2 /\ d / 4096 % 2 < 2 := by omega
    generalize d / 2 % 16 = p1 at *
    generalize d / 32 % 64 = p2 at *
    generalize d / 2048 % 2 = p3 at *
    generalize d / 4096 % 2 = p4 at *
    refine ⟨?_, ?_, ?_, ?_⟩ <;> omega
  · have q1 : 0 <= d / 2 % 1024 /\ d / 2 % 1024 < 1024 := by omega
    have q2 : 0 <= d / 2048 % 2 /\ d / 2048 % 2 < 2 := by omega
    have q3 : 0 <= d / 4096 % 256 /\ d / 4096 % 256 < 256 := by omega
    have q4 : 0 <= d / 1048576 % 2 /\ d / 1048576 % 2 < 2 := by omega
    generalize d / 2 % 1024 = p1 at *
    generalize d / 2048 % 2 = p2 at *
    generalize d / 4096 % 256 = p3 at *
    generalize d / 1048576 % 2 = p4 at *
    refine ⟨?_, ?_, ?_⟩ <;> omega
theorem zKy (r : z9) (hr : r ∈ zf) (a b c d : Int) (h : RvOk r a b c d) : rvDec (zAQ r a b c d) = ⟨r.op, a, b, c, d, 0⟩ := by
  obtain ⟨h0, h1, hh⟩ := zOt r hr a b c d h
  rcases zEq (zAQ r a b c d) zf with ⟨r', hr', hh', e⟩ | ⟨_, e⟩
  · obtain ⟨k1, k2⟩ := zUV r' hr' _ h0 h1 hh'
    obtain ⟨e0, e1, e2, e3, e4⟩ := zSS r' r hr' hr _ _ _ _ _ _ _ _ k1 h k2
    have hd : rvDec (zAQ r a b c d) = zBY r' (zAQ r a b c d) := e
    rw [hd]
    clear hd e k2 hh hh' h0 h1
    generalize zAQ r a b c d = W at *
    show RvIns.mk r'.op (zBY r' W).rd (zBY r' W).r1 (zBY r' W).r2 (zBY r' W).imm 0 = _
    rw [e1, e2, e3, e4, e0]
  · exact absurd hh (e r hr)
end Go.Proofs.YtajcmjjgnbaahaaGreat.Rv
