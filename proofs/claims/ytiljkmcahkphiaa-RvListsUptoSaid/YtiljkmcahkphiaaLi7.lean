/- The document's Bytes of lists: its contract. -/
import Derived.Test.YtiljkmcahkphiaaLi6
namespace Go.Proofs.Ytiljkmcahkphiaa.Rv
open Go Go.Proofs.Ytiljkmcahkphiaa.Sx Go.RowKit
set_option linter.unusedVariables false
set_option linter.unusedSimpArgs false

theorem byteR {w : Int} (h0 : 0 ≤ w) (h1 : w < 4294967296) (j : Nat) (hj : j < 4) : IE.den (.conv .u8 (.shr .u32 (.var w) (.lit ((8 * j : Nat) : Int)))) = byteI w j := by
  simp only [IE.den]
  rw [shr_ediv .u32 w (8 * j) (by simp [IntKind.bits]; omega), wrap_u8]
  rfl
theorem byteR0 {w : Int} (h0 : 0 ≤ w) (h1 : w < 4294967296) : IE.den (.conv .u8 (.var w)) = byteI w 0 := by
  simp only [IE.den]
  rw [wrap_u8]; simp [byteI]
/-- What has been written, and four bytes more, and what is not known. -/
def newC (k : Nat) (w : Int) (h : Nat → Int) (U : Unk) (e : Nat) : Int := if e < 4 * k then h e else if e < 4 * k + 4 then byteI w (e - 4 * k) else U.i 0 e
theorem col_four {k e n : Nat} {w : Int} {h : Nat → Int} {U : Unk} {X0 X1 X2 X3 : IE} (hn : n = 4 * k + 4) (x3 : X3.den = byteI w 3) (x2 : X2.den = byteI w 2) (x1 : X1.den = byteI w 1) (x0 : X0.den = byteI w 0) :
    IE.den (Bool.rec (motive := fun _ => IE) (bif Nat.blt e n then (match [SV.int IntKind.u8 X0, SV.int IntKind.u8 X1, SV.int IntKind.u8 X2, SV.int IntKind.u8 X3][(0 / 1 + (e - 4 * k)) * 1 + 0]? with | some (SV.int k a) => a | x => IE.lit 0) else IE.var (Unk.i U 0 e)) (IE.var (h e)) (Nat.blt e (4 * k))) = newC k w h U e := by
  subst hn
  unfold newC
  by_cases h1 : e < 4 * k
  · rw [blt_t h1, if_pos h1]; rfl
  · have hb : Nat.blt e (4 * k) = false := blt_f (by omega)
    rw [hb, if_neg h1]
    by_cases h2 : e < 4 * k + 4
    · rw [blt_t h2, if_pos h2]
      have hj : ∃ j, j < 4 ∧ e - 4 * k = j := ⟨e - 4 * k, by omega, rfl⟩
      obtain ⟨j, hj, hje⟩ := hj
      rw [hje]
      match j, hj with
      | 0, _ => exact x0
      | 1, _ => exact x1
      | 2, _ => exact x2
      | 3, _ => exact x3
    · rw [blt_f (show 4 * k + 4 ≤ e by omega), if_neg h2]; rfl
def cInv (g : Nat → Nat → Int) (len : Nat) (a : CSt) : Prop := a.1 ≤ len ∧ 4 * a.1 ≤ a.2.1 ∧ a.2.1 ≤ 9223372036854775807 ∧ (∀ i, i < a.1 → (encC (cols5 g) i).2 = 0) ∧ ∀ e, e < 4 * a.1 → a.2.2 e = bytesF (cols5 g) e
theorem cInv_step {g : Nat → Nat → Int} {len k cap' : Nat} {h : Nat → Int} {U : Unk} (hk : k < len) (i2 : ∀ i, i < k → (encC (cols5 g) i).2 = 0) (i3 : ∀ e, e < 4 * k → h e = bytesF (cols5 g) e) (he : (encC (cols5 g) k).2 = 0) (hc1 : 4 * k + 4 ≤ cap') (hc2 : cap' ≤ 9223372036854775807) :
    cInv g len (k + 1, cap', newC k (encC (cols5 g) k).1 h U) := by
  refine ⟨hk, by dsimp only; omega, hc2, fun i hi => ?_, fun e h' => ?_⟩
  · by_cases hik : i < k
    · exact i2 i hik
    · obtain rfl : i = k := by omega
      exact he
  · have h' : e < 4 * (k + 1) := h'
    show newC k (encC (cols5 g) k).1 h U e = _
    unfold newC
    by_cases hek : e < 4 * k
    · rw [if_pos hek]; exact i3 e hek
    · rw [if_neg hek, if_pos (by omega)]
      unfold bytesF
      rw [show e / 4 = k by omega, show e % 4 = e - 4 * k by omega]

set_option maxRecDepth 100000 in
theorem cbytes_ok : SpecOk P 14 (rdSpec [.rows 5 z5] bPre bOuts) := by
  refine rd_ok (some_un fun un => func_sound (un := un) GI_ok Try.func14) (fun sz zs h => by simp at h; obtain ⟨rfl, rfl⟩ := h; rfl) bOuts_good ?_
  intro ins pl u hins hpl hpre
  obtain ⟨g, len, cap, rfl, rfl, hlc, hl, hb⟩ := bPre_of hpre
  show ∃ un, sxFunc P GI un Try.f14 [sl5 len cap] [.row false true (cols5 g) (.var cap)] (fun (v : SV) (hp : List SObj) => outsE (bOuts [(cols5 g, len, cap)] []) fun o => o.some 1 fun val new _ => simAt 1 1 { tmps := [v], hp := hp } [(0, val)] (formalHp [(cols5 g, len, cap)] ++ new))
  rw [bK]
  refine ⟨fun _ => ann CSt (cSlots len cap) (cHp (cols5 g) cap) (cInv g len) (fun a => len - a.1), ?_⟩
  rw [cbytes_nf g len cap (cInv g len) (fun a => len - a.1) (bO g len) (bB g len) (4 * len) (bE g)]
  clear hpre hins hpl
  refine ⟨⟨(0, 0, fun _ => 0), ⟨by simp, by simp, by simp, fun i hi => absurd hi (by simp), fun e he => absurd he (by simp)⟩, rfl, rfl, rfl, rfl, rfl, rfl, fun _ _ => rfl, fun _ _ => rfl, fun _ _ => rfl, fun _ _ => rfl, fun _ _ => rfl, rfl, trivial⟩, ?_, fun _ _ h => h⟩
  rintro _ ⟨k, c, h⟩ ⟨i1, i4, i5, i2, i3⟩
  dsimp only at i1 i2 i3 i4 i5 ⊢
  have hkt : 0 + Int.toNat (k : Int) = k := by simp
  have hE : rvEnc (g (0 + Int.toNat (k : Int)) 0) (g (0 + Int.toNat (k : Int)) 1) (g (0 + Int.toNat (k : Int)) 2) (g (0 + Int.toNat (k : Int)) 3) (g (0 + Int.toNat (k : Int)) 4) = encC (cols5 g) k := by rw [hkt]; rfl
  refine ⟨fun hlt => ?_, fun hge => ?_⟩
  · have hlt := lss_true hlt
    have hk : k < len := by omega
    refine ⟨ask_ix (by simp; omega) (by simp; omega), by simp; omega, by rw [hkt]; exact hb k hk, fun he => ?_, fun he => ?_⟩
    · have he' : (encC (cols5 g) k).2 ≠ 0 := fun h => neq_true he ((congrArg Prod.snd hE).trans h)
      right
      exact ⟨k, ⟨hk, he', i2⟩, congrArg Prod.snd hE, rfl, rfl, fun _ _ => rfl, fun _ _ => rfl, fun _ _ => rfl, fun _ _ => rfl, fun _ _ => rfl, trivial⟩
    · have he' : (encC (cols5 g) k).2 = 0 := (congrArg Prod.snd hE).symm.trans (neq_false he)
      obtain ⟨w0, w1⟩ := enc_word he'
      have hX : ∀ j : Nat, j < 4 → 0 < j → IE.den (.conv .u8 (.shr .u32 (.var (Prod.fst (rvEnc (g (0 + Int.toNat (k : Int)) 0) (g (0 + Int.toNat (k : Int)) 1) (g (0 + Int.toNat (k : Int)) 2) (g (0 + Int.toNat (k : Int)) 3) (g (0 + Int.toNat (k : Int)) 4)))) (.lit ((8 * j : Nat) : Int)))) = byteI (encC (cols5 g) k).1 j := fun j hj _ => by
        rw [hE]; exact byteR w0 w1 j hj
      have hX0 : IE.den (.conv .u8 (.var (Prod.fst (rvEnc (g (0 + Int.toNat (k : Int)) 0) (g (0 + Int.toNat (k : Int)) 1) (g (0 + Int.toNat (k : Int)) 2) (g (0 + Int.toNat (k : Int)) 3) (g (0 + Int.toNat (k : Int)) 4))))) = byteI (encC (cols5 g) k).1 0 := by
        rw [hE]; exact byteR0 w0 w1
      refine ⟨decide_eq_true (by omega), decide_eq_true (by omega), decide_eq_true (by omega), ?_, fun U cap' hc1 hc2 => ?_⟩
      · show (4 * k + 4) * 1 ≤ 140737488355328
        omega
      · have hc1' : 4 * k + 4 ≤ cap' := hc1
        refine ⟨(k + 1, cap', newC k (encC (cols5 g) k).1 h U), cInv_step hk i2 i3 he' hc1' hc2, ?_, rfl, rfl, rfl, rfl, ?_, rfl, fun _ _ => rfl, fun _ _ => rfl, fun _ _ => rfl, fun _ _ => rfl, fun _ _ => rfl, rfl, fun e _ => ?_, trivial⟩
        · show len - (k + 1) < len - k
          omega
        · show IntKind.i64.wrap ((k : Int) + 1) = ((k + 1 : Nat) : Int)
          rw [wrap_i64_in (by omega) (by omega)]; omega
        · exact col_four rfl (hX 3 (by omega) (by omega)) (hX 2 (by omega) (by omega)) (hX 1 (by omega) (by omega)) hX0
  · have hge := lss_false hge
    obtain rfl : k = len := by omega
    left
    exact ⟨(c, h), ⟨i4, i5, i2, i3⟩, rfl, rfl, rfl, fun _ _ => rfl, fun _ _ => rfl, fun _ _ => rfl, fun _ _ => rfl, fun _ _ => rfl, rfl, fun _ _ => rfl, trivial⟩
end Go.Proofs.Ytiljkmcahkphiaa.Rv
