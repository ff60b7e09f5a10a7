/- What Decode makes, in numbers. -/
import Derived.Test.YtajcmjjgnbaahaaGreatSr2
set_option linter.unusedVariables false
set_option linter.unusedSimpArgs false
namespace Go.Proofs.YtajcmjjgnbaahaaGreat.Rv
open Go Go.Proofs.YtajcmjjgnbaahaaGreat.Sx Go.RowKit
theorem zBK (r : z9) (hr : r ∈ zf) : r.form = 1 ∨ r.form = 2 ∨ r.form = 3 ∨ r.form = 4 ∨ r.form = 5 ∨ r.form = 6 ∨ r.form = 7 ∨ r.form = 8 := by
  simp only [zf, List.mem_cons, List.not_mem_nil, or_false] at hr
  rcases hr with rfl | rfl | rfl | rfl | rfl | rfl | rfl | rfl | rfl | rfl | rfl | rfl | rfl | rfl | rfl | rfl | rfl | rfl | rfl | rfl | rfl | rfl | rfl | rfl | rfl | rfl | rfl | rfl | rfl | rfl | rfl | rfl | rfl | rfl <;> decide
theorem ipow_le {k n : Nat} (h : k <= n) : (2 : Int) ^ k <= 2 ^ n := by
  have := Nat.pow_le_pow_right (show 0 < 2 by decide) h
  exact_mod_cast this
theorem zIQ : (2 : Int) ^ 32 = 4294967296 := by decide
theorem zOp {α : Type} {R : Prop} (h : R) : ∀ l : List α, zNH l R
  | [] => h
  | _ :: l => ⟨rfl, zOp h l⟩
theorem zEt (n k s : Nat) : n &&& ((2 ^ k - 1) * 2 ^ s) = n / 2 ^ s % 2 ^ k * 2 ^ s := by
  have e : ((n >>> s) &&& (2 ^ k - 1)) <<< s = n &&& ((2 ^ k - 1) <<< s) := by
    apply Nat.eq_of_testBit_eq
    intro i
    simp only [Nat.testBit_shiftLeft, Nat.testBit_and, Nat.testBit_shiftRight]
    by_cases h : s <= i
    · have e : s + (i - s) = i := by omega
      simp [h, e]
    · simp [h]
  rw [Nat.and_two_pow_sub_one_eq_mod, Nat.shiftRight_eq_div_pow, Nat.shiftLeft_eq, Nat.shiftLeft_eq] at e
  exact e.symm
theorem zNJ (n m m' : Nat) (h : m &&& m' = 0) : n &&& (m ||| m') = (n &&& m) + (n &&& m') := by
  rw [Nat.and_or_distrib_left, zEI]
  have : (n &&& m) &&& (n &&& m') = (n &&& n) &&& (m &&& m') := by
    rw [Nat.and_assoc, <- Nat.and_assoc m n m', Nat.and_comm m n, Nat.and_assoc n m m', <- Nat.and_assoc]
  rw [this, h]; simp
theorem zYc (n : Nat) : n &&& 127 = n % 128 := by
  have := zEt n 7 0
  simpa using this
theorem zV8 (n : Nat) : n &&& 28799 = n % 128 + n / 4096 % 8 * 4096 := by
  have h1 := zEt n 3 12
  rw [show (28799 : Nat) = 127 ||| (2 ^ 3 - 1) * 2 ^ 12 from by decide, zNJ _ _ _ (by decide), zYc, h1]
theorem zax (n : Nat) : n &&& 4227887231 = n % 128 + n / 4096 % 8 * 4096 + n / 67108864 % 64 * 67108864 := by
  have h1 := zEt n 6 26
  rw [show (4227887231 : Nat) = 28799 ||| (2 ^ 6 - 1) * 2 ^ 26 from by decide, zNJ _ _ _ (by decide), zV8, h1]
theorem zaw (n : Nat) : n &&& 4261441663 = n % 128 + n / 4096 % 8 * 4096 + n / 33554432 % 128 * 33554432 := by
  have h1 := zEt n 7 25
  rw [show (4261441663 : Nat) = 28799 ||| (2 ^ 7 - 1) * 2 ^ 25 from by decide, zNJ _ _ _ (by decide), zV8, h1]
theorem zMl (r : z9) (hr : r ∈ zf) : 0 <= r.code /\ r.code < 128 /\ 0 <= r.f3 /\ r.f3 < 8 /\ 0 <= r.f7 /\ r.f7 < 128 /\ (r.form ≠ 6 -> r.f7 = 0) /\ (r.form = 1 ∨ r.form = 8 -> r.f3 = 0) := by
  simp only [zf, List.mem_cons, List.not_mem_nil, or_false] at hr
  rcases hr with rfl | rfl | rfl | rfl | rfl | rfl | rfl | rfl | rfl | rfl | rfl | rfl | rfl | rfl | rfl | rfl | rfl | rfl | rfl | rfl | rfl | rfl | rfl | rfl | rfl | rfl | rfl | rfl | rfl | rfl | rfl | rfl | rfl | rfl <;> decide
def Hit (r : z9) (w : Int) : Prop :=
  w % 128 = r.code /\ (r.form = 1 ∨ r.form = 8 ∨ w / 4096 % 8 = r.f3) /\ (r.form = 6 -> w / 33554432 = r.f7) /\ (r.form = 3 -> w / 67108864 = 0) /\ (r.form = 4 -> w / 33554432 = 0)
instance (r : z9) (w : Int) : Decidable (Hit r w) := by unfold Hit; infer_instance
theorem zWY (r : z9) (hr : r ∈ zf) (w : Int) (h0 : 0 <= w) (h1 : w < 4294967296) : zAy .and .u32 w (zOA r.form) = zAp r ↔ Hit r w := by
  obtain ⟨n, rfl⟩ := Int.eq_ofNat_of_zero_le h0
  have hn : n < 2 ^ 32 := by omega
  obtain ⟨c0, c1, c2, c3, c4, c5, c6, c7⟩ := zMl r hr
  have key : ∀ (m : Nat) (v : Nat), m < 2 ^ 32 -> n &&& m = v -> zOA r.form = (m : Int) -> zAy .and .u32 (n : Int) (zOA r.form) = (v : Int) := by
    intro m v hm hv e
    rw [e, zSJ n m hn hm, hv]
  unfold Hit
  rcases zBK r hr with h | h | h | h | h | h | h | h <;>
    (rw [h] at c6 c7
     first
     | rw [key 127 _ (by decide) (zYc n) (by rw [h]; rfl)]
     | rw [key 28799 _ (by decide) (zV8 n) (by rw [h]; rfl)]
     | rw [key 4227887231 _ (by decide) (zax n) (by rw [h]; rfl)]
     | rw [key 4261441663 _ (by decide) (zaw n) (by rw [h]; rfl)]
     unfold zAp
     simp only [h, reduceCtorEq, if_false, if_true, true_or, or_true, or_self, Nat.reduceEqDiff, ne_eq, not_false_eq_true, not_true_eq_false, forall_const, false_or, false_implies, true_implies, and_true, true_and] at c6 c7 ⊢
     omega)
theorem or64 {m m' : Nat} {x y : Int} (hx : Sub m x) (hy : Sub m' y) (hd : m &&& m' = 0) (hm : m < 2 ^ 64) (hm' : m' < 2 ^ 64) : zAy .or .u64 x y = x + y /\ Sub (m ||| m') (x + y) := by
  have l1 := hx.lt
  have l2 := hy.lt
  obtain ⟨a, rfl, ha⟩ := hx
  obtain ⟨b, rfl, hb⟩ := hy
  have hz : a &&& b = 0 := by
    rw [<- ha, <- hb]
    have : (a &&& m) &&& (b &&& m') = (a &&& b) &&& (m &&& m') := by
      rw [Nat.and_assoc, <- Nat.and_assoc m b m', Nat.and_comm m b, Nat.and_assoc b m m', <- Nat.and_assoc]
    rw [this, hd]; simp
  have hab := zEI a b hz
  rw [zYI a b (by omega) (by omega), hab]
  refine ⟨by simp, a + b, by simp, ?_⟩
  rw [<- hab, Nat.and_or_distrib_right]
  have e1 : a &&& (m ||| m') = a := by rw [Nat.and_or_distrib_left, ha, <- ha, Nat.and_assoc, hd]; simp
  have e2 : b &&& (m ||| m') = b := by rw [Nat.and_or_distrib_left, hb, <- hb, Nat.and_assoc, Nat.and_comm m' m, hd]; simp
  rw [e1, e2]
theorem zPI (w : Int) (h0 : 0 <= w) (h1 : w < 4294967296) (lo k at_ : Nat) (ha : at_ <= 32) (h : k + lo <= 32) : (zLb w (lo, 2 ^ k - 1, at_)).den = w / 2 ^ at_ % 2 ^ k * 2 ^ lo := by
  have hpos : (0 : Int) < 2 ^ at_ := Int.pow_pos (by decide)
  have hkpos : (0 : Int) < 2 ^ k := Int.pow_pos (by decide)
  have hapos : (0 : Int) < 2 ^ lo := Int.pow_pos (by decide)
  have q0 : 0 <= w / 2 ^ at_ := Int.ediv_nonneg h0 (Int.le_of_lt hpos)
  have q1 : w / 2 ^ at_ < 18446744073709551616 := Int.lt_of_le_of_lt (Int.ediv_le_self _ h0) (by omega)
  have h3 : 0 <= w / 2 ^ at_ % 2 ^ k := Int.emod_nonneg _ (by omega)
  have h4 : w / 2 ^ at_ % 2 ^ k < 2 ^ k := Int.emod_lt_of_pos _ hkpos
  have h5 : w / 2 ^ at_ % 2 ^ k * 2 ^ lo < 4294967296 := by
    have e : (2 : Int) ^ k * 2 ^ lo <= 4294967296 := by
      rw [<- Int.pow_add, <- zIQ]
      exact ipow_le h
    exact Int.lt_of_lt_of_le (Int.mul_lt_mul_of_pos_right h4 hapos) e
  have h6 : 0 <= w / 2 ^ at_ % 2 ^ k * 2 ^ lo := Int.mul_nonneg h3 (Int.le_of_lt hapos)
  simp only [zLb, IE.den]
  rw [zAE h0 (by omega), zCU .u64 _ at_ (by simp [IntKind.bits]; omega), zDB _ k (by omega) q0 q1, zCN .u64 _ lo (by simp [IntKind.bits]; omega), zAE h6 (by omega)]
theorem zUZ : ∀ (l : List (Nat × Int × IE)) (w : IE) (m : Nat) (x : Int), w.den = x -> Sub m x -> m < 2 ^ 64 -> (∀ p ∈ l, p.2.2.den = p.2.1 /\ Sub p.1 p.2.1 /\ p.1 < 2 ^ 64) ->
    (l.foldl (fun (s : Bool × Nat) p => (s.1 && s.2 &&& p.1 == 0, s.2 ||| p.1)) (true, m)).1 = true -> (l.foldl (fun w p => IE.bits .or .u64 w p.2.2) w).den = l.foldl (fun x p => x + p.2.1) x
  | [], w, m, x, hw, _, _, _, _ => hw
  | (m', x', e) :: r, w, m, x, hw, hs, hm, hl, hd => by
    obtain ⟨h1, h2, h3⟩ := hl (m', x', e) (List.mem_cons_self ..)
    simp only [List.foldl_cons, Bool.true_and] at hd ⊢
    have hz : m &&& m' = 0 := by
      by_cases hz : m &&& m' = 0
      · exact hz
      · exfalso
        have : (m &&& m' == 0) = false := by simpa using hz
        rw [this] at hd
        have key : ∀ (l : List (Nat × Int × IE)) (k : Nat), (l.foldl (fun (s : Bool × Nat) p => (s.1 && s.2 &&& p.1 == 0, s.2 ||| p.1)) (false, k)).1 = false := by
          intro l
          induction l with
          | nil => intro k; rfl
          | cons a r ih => intro k; simpa using ih _
        rw [key] at hd
        cases hd
    obtain ⟨o1, o2⟩ := or64 hs h2 hz hm h3
    have e1 : (IE.bits .or .u64 w e).den = x + x' := by simp only [IE.den, hw, h1, o1]
    refine zUZ r _ (m ||| m') (x + x') e1 o2 (Nat.or_lt_two_pow hm h3) (fun p hp => hl p (List.mem_cons_of_mem _ hp)) ?_
    have : (m &&& m' == 0) = true := by simpa using hz
    rw [this] at hd
    exact hd
theorem zTJ (w : Int) (lo k at_ : Nat) : Sub ((2 ^ k - 1) * 2 ^ lo) (w / 2 ^ at_ % 2 ^ k * 2 ^ lo) :=
  Sub.shift _ k lo (Int.emod_nonneg _ (by have : (0 : Int) < 2 ^ k := Int.pow_pos (by decide); omega)) (Int.emod_lt_of_pos _ (Int.pow_pos (by decide)))
theorem zDg (w : Int) (h0 : 0 <= w) (h1 : w < 4294967296) (l : List (Nat × Nat × Nat)) (hl : ∀ p ∈ l, p.2.2 <= 32 /\ p.2.1 + p.1 <= 32)
    (hd : (l.foldl (fun (s : Bool × Nat) p => (s.1 && s.2 &&& ((2 ^ p.2.1 - 1) * 2 ^ p.1) == 0, s.2 ||| ((2 ^ p.2.1 - 1) * 2 ^ p.1))) (true, 0)).1 = true) :
    ((l.map fun p => ((2 ^ p.2.1 - 1) * 2 ^ p.1, (w / 2 ^ p.2.2 % 2 ^ p.2.1 * 2 ^ p.1 : Int), zLb w (p.1, 2 ^ p.2.1 - 1, p.2.2))).foldl (fun w p => IE.bits .or .u64 w p.2.2) (.lit 0)).den =
      (l.map fun p => ((2 ^ p.2.1 - 1) * 2 ^ p.1, (w / 2 ^ p.2.2 % 2 ^ p.2.1 * 2 ^ p.1 : Int), zLb w (p.1, 2 ^ p.2.1 - 1, p.2.2))).foldl (fun x p => x + p.2.1) 0 := by
  refine zUZ _ (.lit 0) 0 0 rfl (Sub.zero 0) (by decide) ?_ (by rw [List.foldl_map]; exact hd)
  intro p hp
  obtain ⟨q, hq, rfl⟩ := List.mem_map.1 hp
  obtain ⟨a1, a2⟩ := hl q hq
  refine ⟨zPI w h0 h1 _ _ _ a1 a2, zTJ w _ _ _, ?_⟩
  have e1 : (2 ^ q.2.1 - 1) * 2 ^ q.1 < 2 ^ q.2.1 * 2 ^ q.1 := Nat.mul_lt_mul_of_pos_right (by have := Nat.two_pow_pos q.2.1; omega) (Nat.two_pow_pos _)
  rw [<- Nat.pow_add] at e1
  exact Nat.lt_of_lt_of_le e1 (Nat.pow_le_pow_right (by decide) (by omega))
def immV : Nat -> Int -> Int
  | 1, w => w / 4096 % 1048576
  | 2, w => w / 1048576 % 4096
  | 3, w => w / 1048576 % 64
  | 4, w => w / 1048576 % 32
  | 5, w => w / 128 % 32 + w / 33554432 % 128 * 32
  | 7, w => w / 256 % 16 * 2 + w / 33554432 % 64 * 32 + w / 128 % 2 * 2048 + w / 2147483648 % 2 * 4096
  | 8, w => w / 2097152 % 1024 * 2 + w / 1048576 % 2 * 2048 + w / 4096 % 256 * 4096 + w / 2147483648 % 2 * 1048576
  | _, _ => 0
theorem zPt (r : z9) (hr : r ∈ zf) (w : Int) (h0 : 0 <= w) (h1 : w < 4294967296) : (zNU r.form w).den = immV r.form w := by
  unfold zNU
  rcases zBK r hr with h | h | h | h | h | h | h | h <;> rw [h]
  · have := zDg w h0 h1 [(0, 20, 12)] (by decide) (by decide); simpa [zC8, immV] using this
  · have := zDg w h0 h1 [(0, 12, 20)] (by decide) (by decide); simpa [zC8, immV] using this
  · have := zDg w h0 h1 [(0, 6, 20)] (by decide) (by decide); simpa [zC8, immV] using this
  · have := zDg w h0 h1 [(0, 5, 20)] (by decide) (by decide); simpa [zC8, immV] using this
  · have := zDg w h0 h1 [(0, 5, 7), (5, 7, 25)] (by decide) (by decide); simpa [zC8, immV] using this
  · rfl
  · have := zDg w h0 h1 [(1, 4, 8), (5, 6, 25), (11, 1, 7), (12, 1, 31)] (by decide) (by decide); simpa [zC8, immV] using this
  · have := zDg w h0 h1 [(1, 10, 21), (11, 1, 20), (12, 8, 12), (20, 1, 31)] (by decide) (by decide); simpa [zC8, immV] using this
def immD (form : Nat) (w : Int) : Int :=
  match form with
  | 2 | 5 => if immV form w < 2048 then immV form w else immV form w - 4096
  | 7 => if immV form w < 4096 then immV form w else immV form w - 8192
  | 8 => if immV form w < 1048576 then immV form w else immV form w - 2097152
  | _ => immV form w
theorem zXd {v : Int} (h0 : 0 <= v) (h1 : v < 4096) : shrI .i64 (IntKind.i64.wrap (shlI .u64 v 52)) 52 = if v < 2048 then v else v - 4096 := by
  rw [show (52 : Int) = ((52 : Nat) : Int) from rfl, zCN .u64 _ 52 (by decide), zCU .i64 _ 52 (by decide), zFW, zBe]
  split <;> split <;> omega
theorem zaC {v : Int} (h0 : 0 <= v) (h1 : v < 8192) : shrI .i64 (IntKind.i64.wrap (shlI .u64 v 51)) 51 = if v < 4096 then v else v - 8192 := by
  rw [show (51 : Int) = ((51 : Nat) : Int) from rfl, zCN .u64 _ 51 (by decide), zCU .i64 _ 51 (by decide), zFW, zBe]
  split <;> split <;> omega
theorem zaB {v : Int} (h0 : 0 <= v) (h1 : v < 2097152) : shrI .i64 (IntKind.i64.wrap (shlI .u64 v 43)) 43 = if v < 1048576 then v else v - 2097152 := by
  rw [show (43 : Int) = ((43 : Nat) : Int) from rfl, zCN .u64 _ 43 (by decide), zCU .i64 _ 43 (by decide), zFW, zBe]
  split <;> split <;> omega
theorem zWX (r : z9) (hr : r ∈ zf) (w : Int) (h0 : 0 <= w) (h1 : w < 4294967296) : (immE r.form w).den = immD r.form w := by
  have hv := zPt r hr w h0 h1
  rcases zBK r hr with h | h | h | h | h | h | h | h <;> rw [h] at hv ⊢
  · simp only [immE, immD, IE.den, hv, immV]; exact zE (by omega) (by omega)
  · simp only [immE, immD, zEf, IE.den, hv, immV]; exact zXd (by omega) (by omega)
  · simp only [immE, immD, IE.den, hv, immV]; exact zE (by omega) (by omega)
  · simp only [immE, immD, IE.den, hv, immV]; exact zE (by omega) (by omega)
  · simp only [immE, immD, zEf, IE.den, hv, immV]; exact zXd (by omega) (by omega)
  · rfl
  · simp only [immE, immD, zEf, IE.den, hv, immV]; exact zaC (by omega) (by omega)
  · simp only [immE, immD, zEf, IE.den, hv, immV]; exact zaB (by omega) (by omega)
def regD (named : Bool) (w : Int) (m : Int) : Int := if named then w / m % 32 else 0
theorem zIa (w : Int) (h0 : 0 <= w) (h1 : w < 4294967296) (named : Bool) (s : Nat) (hs : s <= 32) : (zG6 w named s).den = regD named w (2 ^ s) := by
  cases named with
  | false => rfl
  | true =>
    have hpos : (0 : Int) < 2 ^ s := Int.pow_pos (by decide)
    have q0 : 0 <= w / 2 ^ s := Int.ediv_nonneg h0 (Int.le_of_lt hpos)
    have q1 : w / 2 ^ s < 4294967296 := Int.lt_of_le_of_lt (Int.ediv_le_self _ h0) (by omega)
    simp only [zG6, IE.den, regD, if_true]
    rw [zCU .u32 _ s (by simp [IntKind.bits]; omega), show (31 : Int) = 2 ^ 5 - 1 from rfl, zMN _ 5 (by decide) q0 q1]
    exact zE (by omega) (by omega)
structure RvIns where
  op : Int
  rd : Int
  r1 : Int
  r2 : Int
  imm : Int
  err : Int
def zBY (r : z9) (w : Int) : RvIns := ⟨r.op, regD (zd r.form).1 w 128, regD (zd r.form).2.1 w 32768, regD (zd r.form).2.2 w 1048576, immD r.form w, 0⟩
def decL (w : Int) : List z9 -> RvIns
  | [] => ⟨0, 0, 0, 0, 0, 5⟩
  | r :: l => if Hit r w then zBY r w else decL w l
def rvDec (w : Int) : RvIns := decL w zf
def insV (x : RvIns) : Value := .tuple #[.agg #[.int .i64 x.op, .int .i64 x.rd, .int .i64 x.r1, .int .i64 x.r2, .int .i64 x.imm], .int .i64 x.err]
def decE (w : Int) (Q : SV -> Prop) : List z9 -> Prop
  | [] => Q zPQ
  | r :: l => (BE.den (zLm r w) = true -> decE w Q l) /\ (BE.den (zLm r w) = false -> zNH (zC8 r.form) (Q (zOb r w)))
theorem zR6 (w : Int) (h0 : 0 <= w) (h1 : w < 4294967296) : ∀ (l : List z9), (∀ r ∈ l, r ∈ zf) -> decE w (fun v => ∀ ν, v.den ν = insV (decL w l)) l
  | [], _ => fun ν => by simp [zPQ, SV.den, SV.denL, IE.den, insV, decL]
  | r :: l, hl => by
    have hr := hl r (List.mem_cons_self ..)
    have hh := zWY r hr w h0 h1
    refine ⟨fun h => ?_, fun h => zOp ?_ _⟩
    · have hn : ¬ Hit r w := by
        rw [<- hh]
        simpa [zLm, BE.den, IE.den, cmpI] using h
      have e : decL w (r :: l) = decL w l := by simp [decL, hn]
      rw [e]
      exact zR6 w h0 h1 l fun r hr => hl r (List.mem_cons_of_mem _ hr)
    · have hy : Hit r w := by
        rw [<- hh]
        simpa [zLm, BE.den, IE.den, cmpI] using h
      have e : decL w (r :: l) = zBY r w := by simp [decL, hy]
      rw [e]
      intro ν
      have f1 := zIa w h0 h1 (zd r.form).1 7 (by decide)
      have f2 := zIa w h0 h1 (zd r.form).2.1 15 (by decide)
      have f3 := zIa w h0 h1 (zd r.form).2.2 20 (by decide)
      have f4 := zWX r hr w h0 h1
      have g1 : (zG6 w (zd r.form).1 7).den = regD (zd r.form).1 w 128 := f1
      have g2 : (zG6 w (zd r.form).2.1 15).den = regD (zd r.form).2.1 w 32768 := f2
      have g3 : (zG6 w (zd r.form).2.2 20).den = regD (zd r.form).2.2 w 1048576 := f3
      simp [zOb, SV.den, SV.denL, IE.den, insV, zBY, f4, g1, g2, g3]
theorem zRw (u : Nat -> Value) {R : Prop} (h : R) : ∀ l, eqU u l R
  | [] => h
  | _ :: l => ⟨rfl, zRw u h l⟩
theorem zRv (w : Int) {R : Prop} (h : R) : ∀ n, eqW w n R
  | 0 => h
  | n + 1 => ⟨rfl, zRv w h n⟩
theorem zHP (form : Nat) (w : Int) (u : Nat -> Value) : zQN form w u := zRw u (zRv w (zRw u (zRv w trivial _) _) _) _
theorem zTW {form : Nat} {w : Int} {u : Nat -> Value} {R : Prop} (h : zNH (zC8 form) R) : zYj form w u R :=
  ⟨h, ⟨⟨zHP form w u, zHP form w u⟩, zHP form w u⟩, zHP form w u⟩
theorem zR1 (w : Int) (u : Nat -> Value) (Q : SV -> Prop) (R : St -> Prop) : ∀ k, k < 34 -> (BE.den (zLm (zf.getD k ⟨0, 0, 0, 0, 0, []⟩) w) = true -> ∀ u, R (zHJ w (k + 1 : Nat) u)) ->
    (BE.den (zLm (zf.getD k ⟨0, 0, 0, 0, 0, []⟩) w) = false -> zNH (zC8 (zf.getD k ⟨0, 0, 0, 0, 0, []⟩).form) (Q (zOb (zf.getD k ⟨0, 0, 0, 0, 0, []⟩) w))) ->
    zK0 (zHJ w (k : Nat) u) (zFZ (fun σ => zEx 0 zFS σ R) (decK Q)) := by
  intro k hk h1 h2
  have e : zL w u Q R k := by
    clear h1 h2
    match k, hk with
    | 0, _ => exact zbD w u Q R
    | 1, _ => exact zbC w u Q R
    | 2, _ => exact zbB w u Q R
    | 3, _ => exact zbA w u Q R
    | 4, _ => exact za9 w u Q R
    | 5, _ => exact za8 w u Q R
    | 6, _ => exact za7 w u Q R
    | 7, _ => exact za6 w u Q R
    | 8, _ => exact za5 w u Q R
    | 9, _ => exact za4 w u Q R
    | 10, _ => exact zZW w u Q R
    | 11, _ => exact zZV w u Q R
    | 12, _ => exact zZU w u Q R
    | 13, _ => exact zZT w u Q R
    | 14, _ => exact zZS w u Q R
    | 15, _ => exact zZR w u Q R
    | 16, _ => exact zZQ w u Q R
    | 17, _ => exact zZP w u Q R
    | 18, _ => exact zZO w u Q R
    | 19, _ => exact zZN w u Q R
    | 20, _ => exact zZM w u Q R
    | 21, _ => exact zZL w u Q R
    | 22, _ => exact zZK w u Q R
    | 23, _ => exact zZJ w u Q R
    | 24, _ => exact zZI w u Q R
    | 25, _ => exact zZH w u Q R
    | 26, _ => exact zZG w u Q R
    | 27, _ => exact zZF w u Q R
    | 28, _ => exact zZE w u Q R
    | 29, _ => exact zZD w u Q R
    | 30, _ => exact zZC w u Q R
    | 31, _ => exact zZB w u Q R
    | 32, _ => exact zZA w u Q R
    | 33, _ => exact zY9 w u Q R
    | n + 34, h => exact absurd h (by omega)
  unfold zL at e
  rw [e]
  exact ⟨h1, fun h => zTW (h2 h)⟩
def zR4 (σ : St) : Nat :=
  match (σ.tmps[19]? : Option SV) with
  | some (SV.int _ (IE.lit k)) => (34 - k).toNat
  | _ => 0
set_option maxRecDepth 100000 in
theorem zOl (w : Int) (k : Nat) (u : Nat -> Value) : zR4 (zHJ w k u) = 34 - k := by
  have e : (zHJ w k u).tmps[19]? = some (.int .i64 (.lit k)) := by rfl
  unfold zR4
  rw [e]
  show ((34 : Int) - (k : Int)).toNat = 34 - k
  omega
set_option maxRecDepth 100000 in
theorem zY5 (w : Int) (Q : SV -> Prop) (h : decE w Q zf) : zH P G2 (fun n => if n = 0 then 0 else 10) Tryz.f64 [.int .u32 (.var w)] [] (fun v _ => Q v) := by
  rw [zR0]
  have hlen : zf.length = 34 := by rfl
  refine ⟨zFS, fun σ => ∃ (k : Nat) (u : Nat -> Value), k <= 34 /\ σ = zHJ w k u /\ decE w Q (zf.drop k), zR4, ?_, ?_⟩
  · have key : ∀ R : St -> Prop, (∀ u, R (zHJ w 0 u)) -> zEx 0 zFS { tmps := zS (zKz 0) 0 (.int .u32 (.var w)), hp := [.cells [.int .u32 (.var w)] 33, .cells [.int .i64 (.lit 0), .int .i64 (.lit 0), .int .i64 (.lit 0), .int .i64 (.lit 0), .int .i64 (.lit 0)] 60, .cells zHQ 133] } R := by
      intro R hR
      have e : zEx 0 zFS { tmps := zS (zKz 0) 0 (.int .u32 (.var w)), hp := [.cells [.int .u32 (.var w)] 33, .cells [.int .i64 (.lit 0), .int .i64 (.lit 0), .int .i64 (.lit 0), .int .i64 (.lit 0), .int .i64 (.lit 0)] 60, .cells zHQ 133] } R = ∀ u, R (zHJ w 0 u) := by kernel_rfl
      rw [e]; exact hR
    exact key _ fun u => ⟨0, u, by omega, rfl, h⟩
  · rintro σ' ⟨k, u, hk, rfl, hd⟩
    by_cases h34 : k = 34
    · subst h34
      have := zY8 w u Q (fun σ3 => (∃ (k : Nat) (u : Nat -> Value), k <= 34 /\ σ3 = zHJ w k u /\ decE w Q (zf.drop k)) /\ zR4 σ3 < zR4 (zHJ w (34 : Nat) u))
      refine this.mpr ?_
      exact hd
    · have hk' : k < 34 := by omega
      have hdrop : zf.drop k = zf.getD k ⟨0, 0, 0, 0, 0, []⟩ :: zf.drop (k + 1) := by
        rw [List.drop_eq_getElem_cons (by omega)]
        simp [List.getD, List.getElem?_eq_getElem (show k < zf.length by omega)]
      rw [hdrop] at hd
      refine zR1 w u Q _ k hk' (fun hc u' => ⟨⟨k + 1, u', by omega, rfl, hd.1 hc⟩, ?_⟩) hd.2
      rw [zOl, zOl]; omega
set_option maxRecDepth 100000 in
theorem zR2 (w : Int) (h0 : 0 <= w) (h1 : w < 4294967296) (W : World) : Calls P 64 #[.int .u32 w] W fun e w' => e = .returned (insV (rvDec w)) /\ Below W.heap.size W w' := by
  have hs := zN (un := fun n => if n = 0 then 0 else 10) zbm Tryz.func64
  have hc := zIn hs (args := [.int .u32 (.var w)]) (by simp [SV.wfL, SV.wf]) (V := insV (rvDec w)) (zY5 w _ (zR6 w h0 h1 zf fun r h => h)) W
  simpa [SV.denL, SV.den, IE.den] using hc
def inU32 (n : Int) : Bool := decide (0 <= n) && decide (n < 4294967296)
def zRZ (x : RvIns) : SV := .tuple [.agg [.int .i64 (.var x.op), .int .i64 (.var x.rd), .int .i64 (.var x.r1), .int .i64 (.var x.r2), .int .i64 (.var x.imm)], .int .i64 (.var x.err)]
def fDec : zBN
  | [.int .u32 w] => some (some (.var (inU32 w.den)), zRZ (rvDec w.den))
  | _ => none
theorem fdec_ok : zAr P 64 fDec := by
  intro args p v hF hp
  unfold fDec at hF
  split at hF
  · rename_i w
    simp only [Option.some.injEq, Prod.mk.injEq] at hF; obtain ⟨rfl, rfl⟩ := hF
    have hw : inU32 w.den = true := hp
    simp only [inU32, Bool.and_eq_true, decide_eq_true_eq] at hw
    refine ⟨by simp [SV.wfL, SV.wf], by simp [zRZ, SV.wfL, SV.wf], fun W => ?_⟩
    have := zR2 w.den hw.1 hw.2 W
    simpa [SV.denL, SV.den, IE.den, zRZ, insV] using this
  · simp at hF
end Go.Proofs.YtajcmjjgnbaahaaGreat.Rv
