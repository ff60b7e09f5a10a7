/- Bytes of lists: its contract. -/
import Derived.Test.YtiljkmcahkphiaaLi5
namespace Go.Proofs.Ytiljkmcahkphiaa.Rv
open Go Go.Proofs.Ytiljkmcahkphiaa.Sx Go.RowKit
set_option linter.unusedVariables false
set_option linter.unusedSimpArgs false

theorem bOuts_good : ∀ ins pl, ∀ o ∈ bOuts ins pl, o.good := by
  intro ins pl o ho
  unfold bOuts at ho
  split at ho
  · simp only [List.mem_cons, List.not_mem_nil, or_false] at ho
    rcases ho with rfl | rfl
    · intro c
      refine ⟨⟨fun n m ν ν' h => ?_, fun n p h => ?_⟩, rfl, trivial⟩
      · have := h 0 (by simp)
        simp only [Nat.add_zero] at this
        simp [SV.den, SV.denL, this]
      · exact ⟨h 0 (by simp), trivial, trivial, trivial⟩
    · intro c
      exact ⟨⟨fun n m ν ν' h => rfl, fun n p h => ⟨trivial, trivial, trivial, trivial⟩⟩, rfl, trivial⟩
  · simp at ho
theorem bPre_of {ins : Ins} {pl : List SV} (h : bPre ins pl) : ∃ (g : Nat → Nat → Int) (len cap : Nat), ins = [(cols5 g, len, cap)] ∧ pl = [] ∧ len ≤ cap ∧ len ≤ 2097152 ∧ ∀ i, i < len → inI64 (g i 4) = true := by
  unfold bPre at h
  split at h
  · obtain ⟨h1, h2, h3, ⟨g, rfl⟩, h4⟩ := h
    exact ⟨g, _, _, rfl, h1, h2, h3, h4⟩
  · exact h.elim
def bO (g : Nat → Nat → Int) (len : Nat) : Nat × (Nat → Int) → Prop := fun c => 4 * len ≤ c.1 ∧ c.1 ≤ 9223372036854775807 ∧ (∀ i, i < len → (encC (cols5 g) i).2 = 0) ∧ ∀ e, e < 4 * len → c.2 e = bytesF (cols5 g) e
def bB (g : Nat → Nat → Int) (len : Nat) : Nat → Prop := fun i => i < len ∧ (encC (cols5 g) i).2 ≠ 0 ∧ ∀ j, j < i → (encC (cols5 g) j).2 = 0
def bE (g : Nat → Nat → Int) : Nat → Int := fun i => (encC (cols5 g) i).2
theorem bK (g : Nat → Nat → Int) (len cap : Nat) : (fun (v : SV) (hp : List SObj) => outsE (bOuts [(cols5 g, len, cap)] []) fun o => o.some 1 fun val new _ => simAt 1 1 { tmps := [v], hp := hp } [(0, val)] (formalHp [(cols5 g, len, cap)] ++ new)) = qB (bO g len) (bB g len) (4 * len) (bE g) (.row false true (cols5 g) (.var cap)) := rfl
def z5 : List Col := [.int .i64 fun _ => .var 0, .int .i64 fun _ => .var 0, .int .i64 fun _ => .var 0, .int .i64 fun _ => .var 0, .int .i64 fun _ => .var 0]

/-- What has been written, and four bytes more. -/
def newB (k : Nat) (w : Int) (h : Nat → Int) (e : Nat) : Int := if e = 4 * k + 3 then byteI w 3 else if e = 4 * k + 2 then byteI w 2 else if e = 4 * k + 1 then byteI w 1 else if e = 4 * k then byteI w 0 else h e
theorem beq_nat (a b : Nat) : Nat.beq a b = decide (a = b) := by
  cases h : Nat.beq a b with
  | true => simp [Nat.eq_of_beq_eq_true h]
  | false => simp [Nat.ne_of_beq_eq_false h]
theorem col_put {k e : Nat} {w : Int} {h : Nat → Int} {n0 n1 n2 n3 : Nat} {X0 X1 X2 X3 Y : IE} (h3 : n3 = 4 * k + 3) (h2 : n2 = 4 * k + 2) (h1 : n1 = 4 * k + 1) (h0 : n0 = 4 * k)
    (x3 : X3.den = byteI w 3) (x2 : X2.den = byteI w 2) (x1 : X1.den = byteI w 1) (x0 : X0.den = byteI w 0) (y : Y.den = h e) :
    IE.den (Bool.rec (motive := fun _ => IE) (bif Nat.beq e n2 then X2 else bif Nat.beq e n1 then X1 else bif Nat.beq e n0 then X0 else Y) X3 (Nat.beq e n3)) = newB k w h e := by
  subst h3 h2 h1 h0
  simp only [beq_nat]
  unfold newB
  by_cases c3 : e = 4 * k + 3
  · simp [c3, x3]
  · by_cases c2 : e = 4 * k + 2
    · subst c2; simp [x2]
    · by_cases c1 : e = 4 * k + 1
      · subst c1; simp [x1]
      · by_cases c0 : e = 4 * k
        · subst c0; simp [x0]
        · simp [c0, c1, c2, c3, y]
theorem newB_old {k : Nat} {w : Int} {h : Nat → Int} {e : Nat} (he : e < 4 * k) : newB k w h e = h e := by
  unfold newB; rw [if_neg (by omega), if_neg (by omega), if_neg (by omega), if_neg (by omega)]
theorem newB_new {k : Nat} {w : Int} {h : Nat → Int} {j : Nat} (hj : j < 4) : newB k w h (4 * k + j) = byteI w j := by
  unfold newB
  match j, hj with
  | 0, _ => simp
  | 1, _ => simp
  | 2, _ => simp
  | 3, _ => simp
theorem byteE {w : Int} (h0 : 0 ≤ w) (h1 : w < 4294967296) (j : Nat) (hj : j < 4) : IE.den (.conv .u8 (.shr .u64 (.conv .u64 (.var w)) (.lit ((8 * j : Nat) : Int)))) = byteI w j := by
  simp only [IE.den]
  rw [wrap_u64_in h0 (by omega), shr_ediv .u64 w (8 * j) (by simp [IntKind.bits]; omega), wrap_u8]
  rfl
/-- What stands at the head. -/
def bInv (g : Nat → Nat → Int) (len : Nat) (a : BSt) : Prop := a.1 ≤ len ∧ (∀ i, i < a.1 → (encC (cols5 g) i).2 = 0) ∧ ∀ e, e < 4 * a.1 → a.2 e = bytesF (cols5 g) e
theorem bInv_step {g : Nat → Nat → Int} {len k : Nat} {h : Nat → Int} (hk : k < len) (i2 : ∀ i, i < k → (encC (cols5 g) i).2 = 0) (i3 : ∀ e, e < 4 * k → h e = bytesF (cols5 g) e) (he : (encC (cols5 g) k).2 = 0) :
    bInv g len (k + 1, newB k (encC (cols5 g) k).1 h) := by
  refine ⟨hk, fun i hi => ?_, fun e h' => ?_⟩
  · by_cases hik : i < k
    · exact i2 i hik
    · obtain rfl : i = k := by omega
      exact he
  · have h' : e < 4 * (k + 1) := h'
    by_cases hek : e < 4 * k
    · exact (newB_old hek).trans (i3 e hek)
    · obtain ⟨j, hj, rfl⟩ : ∃ j, j < 4 ∧ e = 4 * k + j := ⟨e - 4 * k, by omega, by omega⟩
      refine (newB_new hj).trans ?_
      unfold bytesF
      rw [show (4 * k + j) / 4 = k by omega, show (4 * k + j) % 4 = j by omega]
theorem enc_word {g : Nat → Nat → Int} {k : Nat} (he : (encC (cols5 g) k).2 = 0) : 0 ≤ (encC (cols5 g) k).1 ∧ (encC (cols5 g) k).1 < 4294967296 := by
  have h := enc_range (op := g k 0) (a := g k 1) (b := g k 2) (c := g k 3) (d := g k 4) (w := (encC (cols5 g) k).1) (by rw [← he]; rfl)
  exact ⟨h.1, h.2.1⟩
theorem mulE {k : Nat} (hk : k ≤ 2097152) : IE.den (.mul .i64 (.lit 4) (.var (k : Int))) = ((4 * k : Nat) : Int) := by
  simp only [IE.den]
  rw [wrap_i64_in (by omega) (by omega)]; omega
theorem mulAdd {k : Nat} (hk : k ≤ 2097152) (j : Nat) (hj : j < 4) : IE.den (.add .i64 (.mul .i64 (.lit 4) (.var (k : Int))) (.lit (j : Int))) = ((4 * k + j : Nat) : Int) := by
  show IntKind.i64.wrap (IE.den (.mul .i64 (.lit 4) (.var (k : Int))) + (j : Int)) = _
  rw [mulE hk, wrap_i64_in (by omega) (by omega)]; omega
theorem mulIx {k : Nat} (hk : k ≤ 2097152) (j : Nat) (hj : j < 4) : 0 + NE.den (IE.nat (.add .i64 (.mul .i64 (.lit 4) (.var (k : Int))) (.lit (j : Int)))) = 4 * k + j := by
  show 0 + (IE.den (.add .i64 (.mul .i64 (.lit 4) (.var (k : Int))) (.lit (j : Int)))).toNat = 4 * k + j
  rw [mulAdd hk j hj]; omega
theorem not_leq {x y : IE} {a b : Int} (hx : x.den = a) (hy : y.den = b) (hab : a ≤ b) : BE.den (.not (.cmp .leq x y)) = false := by
  simp [BE.den, cmpI_leq, hx, hy, hab]

set_option maxRecDepth 100000 in
theorem bytes_ok : SpecOk P 13 (rdSpec [.rows 5 z5] bPre bOuts) := by
  refine rd_ok (some_un fun un => func_sound (un := un) GI_ok Try.func13) (fun sz zs h => by simp at h; obtain ⟨rfl, rfl⟩ := h; rfl) bOuts_good ?_
  intro ins pl u hins hpl hpre
  obtain ⟨g, len, cap, rfl, rfl, hlc, hl, hb⟩ := bPre_of hpre
  show ∃ un, sxFunc P GI un Try.f13 [sl5 len cap] [.row false true (cols5 g) (.var cap)] (fun (v : SV) (hp : List SObj) => outsE (bOuts [(cols5 g, len, cap)] []) fun o => o.some 1 fun val new _ => simAt 1 1 { tmps := [v], hp := hp } [(0, val)] (formalHp [(cols5 g, len, cap)] ++ new))
  rw [bK]
  refine ⟨fun _ => ann BSt (bSlots len cap) (bHp (cols5 g) len cap) (bInv g len) (fun a => len - a.1), ?_⟩
  rw [bytes_nf g len cap (bInv g len) (fun a => len - a.1) (bO g len) (bB g len) (4 * len) (bE g)]
  clear hpre hins hpl
  have hm := mulE hl
  have hmn : Int.toNat (IE.den (.mul .i64 (.lit 4) (.var (len : Int)))) = 4 * len := by rw [hm]; omega
  refine ⟨by rw [hm]; simp; omega, ⟨(0, fun _ => 0), ⟨by simp, fun i hi => absurd hi (by simp), fun e he => absurd he (by simp)⟩, rfl, rfl, hmn, hmn, rfl, rfl, rfl, rfl, rfl, fun _ _ => rfl, fun _ _ => rfl, fun _ _ => rfl, fun _ _ => rfl, fun _ _ => rfl, hmn, fun _ _ => rfl, trivial⟩, ?_, fun _ _ h => h⟩
  rintro _ ⟨k, h⟩ ⟨i1, i2, i3⟩
  dsimp only at i1 i2 i3 ⊢
  have hkt : 0 + Int.toNat (k : Int) = k := by simp
  have hE : rvEnc (g (0 + Int.toNat (k : Int)) 0) (g (0 + Int.toNat (k : Int)) 1) (g (0 + Int.toNat (k : Int)) 2) (g (0 + Int.toNat (k : Int)) 3) (g (0 + Int.toNat (k : Int)) 4) = encC (cols5 g) k := by rw [hkt]; rfl
  refine ⟨fun hlt => ?_, fun hge => ?_⟩
  · have hlt := lss_true hlt
    have hk : k < len := by omega
    refine ⟨ask_ix (by simp; omega) (by simp; omega), by simp; omega, by rw [hkt]; exact hb k hk, fun he => ?_, fun he => ?_⟩
    · have he' : (encC (cols5 g) k).2 ≠ 0 := fun h => neq_true he ((congrArg Prod.snd hE).trans h)
      right
      exact ⟨k, ⟨hk, he', i2⟩, congrArg Prod.snd hE, rfl, rfl, fun _ _ => rfl, fun _ _ => rfl, fun _ _ => rfl, fun _ _ => rfl, fun _ _ => rfl, trivial⟩
    · have he' : (encC (cols5 g) k).2 = 0 := (congrArg Prod.snd hE).symm.trans (neq_false he)
      obtain ⟨w0, w1⟩ := enc_word he'
      have hmk := mulE (k := k) (by omega)
      refine ⟨fun _ => ⟨fun _ => ⟨fun h3 => ?_, fun _ => ?_⟩, fun h2 => ?_⟩, fun h1 => ?_⟩
      · exfalso
        have := not_leq (x := .lit 4) (y := .sub .i64 (.var ((4 * len : Nat) : Int)) (.mul .i64 (.lit 4) (.var (k : Int)))) (a := 4) (b := ((4 * len : Nat) : Int) - ((4 * k : Nat) : Int)) rfl (by
          show IntKind.i64.wrap (((4 * len : Nat) : Int) - IE.den (.mul .i64 (.lit 4) (.var (k : Int)))) = _
          rw [hmk]; exact wrap_i64_in (by omega) (by omega)) (by omega)
        rw [this] at h3; cases h3
      · have a0 : IE.den (.add .i64 (.mul .i64 (.lit 4) (.var (k : Int))) (.lit 0)) = ((4 * k + 0 : Nat) : Int) := mulAdd (by omega) 0 (by omega)
        have a1 : IE.den (.add .i64 (.mul .i64 (.lit 4) (.var (k : Int))) (.lit 1)) = ((4 * k + 1 : Nat) : Int) := mulAdd (by omega) 1 (by omega)
        have a2 : IE.den (.add .i64 (.mul .i64 (.lit 4) (.var (k : Int))) (.lit 2)) = ((4 * k + 2 : Nat) : Int) := mulAdd (by omega) 2 (by omega)
        have a3 : IE.den (.add .i64 (.mul .i64 (.lit 4) (.var (k : Int))) (.lit 3)) = ((4 * k + 3 : Nat) : Int) := mulAdd (by omega) 3 (by omega)
        have hX : ∀ j : Nat, j < 4 → IE.den (.conv .u8 (.shr .u64 (.conv .u64 (.var (Prod.fst (rvEnc (g (0 + Int.toNat (k : Int)) 0) (g (0 + Int.toNat (k : Int)) 1) (g (0 + Int.toNat (k : Int)) 2) (g (0 + Int.toNat (k : Int)) 3) (g (0 + Int.toNat (k : Int)) 4))))) (.lit ((8 * j : Nat) : Int)))) = byteI (encC (cols5 g) k).1 j := fun j hj => by
          rw [hE]; exact byteE w0 w1 j hj
        refine ⟨by rw [a0]; exact decide_eq_true (by omega), by rw [a0]; exact decide_eq_true (by omega), by rw [a1]; exact decide_eq_true (by omega), by rw [a1]; exact decide_eq_true (by omega), by rw [a2]; exact decide_eq_true (by omega), by rw [a2]; exact decide_eq_true (by omega), by rw [a3]; exact decide_eq_true (by omega), by rw [a3]; exact decide_eq_true (by omega), ?_⟩
        refine ⟨(k + 1, newB k (encC (cols5 g) k).1 h), bInv_step hk i2 i3 he', ?_, rfl, rfl, rfl, rfl, rfl, rfl, rfl, ?_, rfl, fun _ _ => rfl, fun _ _ => rfl, fun _ _ => rfl, fun _ _ => rfl, fun _ _ => rfl, rfl, fun e _ => ?_, trivial⟩
        · show len - (k + 1) < len - k
          omega
        · show IntKind.i64.wrap ((k : Int) + 1) = ((k + 1 : Nat) : Int)
          rw [wrap_i64_in (by omega) (by omega)]; omega
        · exact col_put (mulIx (by omega) 3 (by omega)) (mulIx (by omega) 2 (by omega)) (mulIx (by omega) 1 (by omega)) (mulIx (by omega) 0 (by omega)) (hX 3 (by omega)) (hX 2 (by omega)) (hX 1 (by omega)) (hX 0 (by omega)) rfl
      · exfalso
        simp only [BE.den, cmpI_leq, hmk] at h2
        simp [IE.den] at h2; omega
      · exfalso
        simp only [BE.den, cmpI_geq, hmk] at h1
        exact absurd (show (0 : Int) ≤ ((4 * k : Nat) : Int) by omega) (of_decide_eq_false h1)
  · have hge := lss_false hge
    obtain rfl : k = len := by omega
    left
    exact ⟨(4 * k, h), ⟨Nat.le_refl _, by dsimp only; omega, i2, i3⟩, rfl, rfl, rfl, fun _ _ => rfl, fun _ _ => rfl, fun _ _ => rfl, fun _ _ => rfl, fun _ _ => rfl, rfl, fun _ _ => rfl, trivial⟩
end Go.Proofs.Ytiljkmcahkphiaa.Rv
