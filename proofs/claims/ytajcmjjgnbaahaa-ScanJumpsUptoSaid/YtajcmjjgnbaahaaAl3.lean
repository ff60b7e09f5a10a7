/- AmdBack answers true. -/
import Derived.Test.YtajcmjjgnbaahaaAl2
namespace Go.Proofs.Ytajcmjjgnbaahaa.Amd
open Go Go.Proofs.Ytajcmjjgnbaahaa.Sx Go.RowKit
set_option linter.unusedVariables false
set_option linter.unusedSimpArgs false

def yes : SV → Prop := fun v => ∀ ν, v.den ν = .bool true
theorem blt_t {i k : Nat} (h : i < k) : Nat.blt i k = true := by simp [Nat.blt, Nat.ble_eq]; omega
theorem blt_f {i k : Nat} (h : k ≤ i) : Nat.blt i k = false := by
  cases hb : Nat.blt i k with
  | false => rfl
  | true => simp [Nat.blt, Nat.ble_eq] at hb; omega
theorem reads_of {g : Nat → Int} : ∀ {l : List Int} {i : Nat}, (∀ e, e < l.length → g (i + e) = l.getD e 0) → reads g i l
  | [], _, _ => trivial
  | c :: l, i, h => ⟨by have := h 0 (by simp); simpa using this, reads_of fun e he => by
      have := h (e + 1) (by simp; omega)
      rw [show i + 1 + e = i + (e + 1) by omega, this]; rfl⟩
theorem reads_get {g : Nat → Int} : ∀ {l : List Int} {i : Nat}, reads g i l → ∀ e, e < l.length → g (i + e) = l.getD e 0
  | [], _, _, e, he => by simp at he
  | c :: l, i, h, 0, _ => by simpa using h.1
  | c :: l, i, h, e + 1, he => by
    have := reads_get h.2 e (by simpa using he)
    rw [show i + (e + 1) = i + 1 + e by omega, this]; rfl
/-! Bytes are bytes. -/
def AllB (l : List Int) : Prop := ∀ c ∈ l, 0 ≤ c ∧ c < 256
theorem allB_nil : AllB [] := fun c h => by simp at h
theorem allB_cons {c : Int} {l : List Int} (h : 0 ≤ c ∧ c < 256) (hl : AllB l) : AllB (c :: l) := fun d hd => by
  rcases List.mem_cons.1 hd with rfl | hd
  · exact h
  · exact hl d hd
theorem allB_append {l r : List Int} (hl : AllB l) (hr : AllB r) : AllB (l ++ r) := fun d hd => by
  rcases List.mem_append.1 hd with h | h
  · exact hl d h
  · exact hr d h
theorem allB_pfx {w : Bool} {r b : Int} {l : List Int} (hl : AllB l) : AllB (withP (pfx w r b) l) := by
  have := pfx_in w r b
  unfold withP
  split
  · exact hl
  · exact allB_cons (by omega) hl
theorem allB_le4 (v : Int) : AllB (le4 v) := allB_cons (by omega) <| allB_cons (by omega) <| allB_cons (by omega) <| allB_cons (by omega) allB_nil
theorem allB_num (v : Int) (long : Bool) : AllB (numB v long) := by
  unfold numB
  split
  · exact allB_le4 v
  · exact allB_cons (by omega) allB_nil
theorem allB_pair {mm r b : Int} (h : 0 ≤ mm ∧ mm < 4) {l : List Int} (hl : AllB l) : AllB (pairB mm r b :: l) := allB_cons (by unfold pairB; omega) hl
theorem allB_mem (r b disp : Int) (long : Bool) : AllB (memB r b disp long) := by
  unfold memB
  refine allB_pair (by split <;> omega) (allB_append ?_ (allB_num _ _))
  split
  · exact allB_cons (by omega) allB_nil
  · exact allB_nil
theorem bytes_byte {x : AI} (he : amdErr x = 0) : AllB (amdBytes x) := by
  unfold amdErr at he
  unfold amdBytes
  cases hf : formOf x.op with
  | none => exact allB_nil
  | some f =>
    have ho := form_of hf
    rw [hf] at he
    cases f with
    | movImm => exact allB_pfx (allB_cons (by omega) (allB_le4 _))
    | two c =>
      simp only [ofForm] at ho
      exact allB_pfx (allB_cons (by omega) (allB_pair (by omega) allB_nil))
    | load => exact allB_pfx (allB_cons (by omega) (allB_mem _ _ _ _))
    | store => exact allB_pfx (allB_cons (by omega) (allB_mem _ _ _ _))
    | imul => exact allB_pfx (allB_cons (by omega) (allB_cons (by omega) (allB_pair (by omega) allB_nil)))
    | imm n => exact allB_pfx (allB_cons (by split <;> omega) (allB_pair (by omega) (allB_num _ _)))
    | one c n =>
      simp only [ofForm] at ho
      exact allB_pfx (allB_cons (by omega) (allB_pair (by omega) allB_nil))
    | stack c =>
      simp only [ofForm] at ho
      exact allB_pfx (allB_cons (by omega) allB_nil)
    | jmp => exact allB_cons (by split <;> omega) (allB_num _ _)
    | jcc =>
      simp only [encE] at he
      obtain ⟨h1, _⟩ := if_zero (by decide) he
      simp only [encL]
      split
      · exact allB_cons (by omega) (allB_cons (by omega) (allB_num _ _))
      · exact allB_cons (by omega) (allB_num _ _)
    | ret => exact allB_cons (by omega) allB_nil
theorem allB_get {l : List Int} (h : AllB l) {e : Nat} (he : e < l.length) : 0 ≤ l.getD e 0 ∧ l.getD e 0 < 256 := by
  rw [List.getD_eq_getElem?_getD, List.getElem?_eq_getElem he]
  exact h _ (List.getElem_mem he)

theorem same_self (y : AI) : BE.den (BE.not (sameB y y)) = false := by
  simp [sameB, BE.den, IE.den, cmpI_eql]
theorem decOut_at (g : Nat → Int) (m : Nat) : decOut g m 0 = decOf (amdDec g m 0) := by
  unfold decOut; rw [if_neg (by omega)]; rfl
theorem n_neq {x y : Int} (h : x = y) {p : Prop} (hn : BE.den (BE.cmp BinOp.neq (IE.var x) (IE.var y)) = true) : p := by
  simp [BE.den, IE.den, cmpI_neq, h] at hn
theorem n_neqL {x y : Int} (h : x = y) {p : Prop} (hn : BE.den (BE.cmp BinOp.neq (IE.var x) (IE.lit y)) = true) : p := by
  simp [BE.den, IE.den, cmpI_neq, h] at hn
theorem n_gtr {x y : Int} (h : x ≤ y) {p : Prop} (hn : BE.den (BE.cmp BinOp.gtr (IE.var x) (IE.var y)) = true) : p := by
  simp [BE.den, IE.den, cmpI_gtr] at hn; omega
theorem n_gtrL {x y : Int} (h : x ≤ y) {p : Prop} (hn : BE.den (BE.cmp BinOp.gtr (IE.var x) (IE.lit y)) = true) : p := by
  simp [BE.den, IE.den, cmpI_gtr] at hn; omega
theorem n_lssL {x y : Int} (h : y ≤ x) {p : Prop} (hn : BE.den (BE.cmp BinOp.lss (IE.var x) (IE.lit y)) = true) : p := by
  simp [BE.den, IE.den, cmpI_lss] at hn; omega
theorem n_same {y : AI} {p : Prop} (hn : BE.den (BE.not (sameB y y)) = true) : p := by rw [same_self] at hn; cases hn
theorem n_str {A B : ByteArray} (h : A = B) {p : Prop} (hn : (!ByteArray.toList A == ByteArray.toList B) = true) : p := by
  subst h; simp at hn

/-- What is read has just the bytes that are written of it. -/
theorem tail_yes {h : Nat → Int} {m mc : Nat} (hb : BGood h m mc) : tailB h m mc yes := by
  unfold tailB
  refine ⟨ask2 hb.room, ?_⟩
  intro cs' hcs
  have hc : colG cs' = h := by rw [hcs]; rfl
  have hpre : ∃ (g : Nat → Int), cs' = [Col.int IntKind.u8 fun e ↦ IE.var (g e)] := by rw [hcs]; exact ⟨h, rfl⟩
  rw [hc, decOut_at]
  refine ⟨⟨hpre, hb⟩, fun he => ?_, fun _ ν => rfl⟩
  cases hz : amdDec h m 0 with
  | none => rw [hz] at he; simp [decOf, BE.den, IE.den, cmpI_eql] at he
  | some z =>
    obtain ⟨y, e⟩ := z
    obtain ⟨e1, e2, e3, e4, e5⟩ := enc_dec hb.byte hz
    have hr := hb.room
    simp only [decOf]
    refine ⟨trivial, fun b hx => ⟨fun hn => n_neq (by omega) hn, fun _ => ⟨fun hn => n_gtr (by omega) hn, fun _ => ⟨?_, ?_, ?_, fun hn => n_str ?_ hn, fun _ => ⟨fun hn => ?_, fun _ ν => rfl⟩⟩⟩⟩, fun _ hne => absurd e2 hne⟩
    · have := hx.len
      exact decide_eq_true (by omega)
    · exact ask_ix (by simp; omega) (by simp; omega)
    · exact decide_eq_true (by omega)
    · refine rowStr_eq (by omega) fun i hi => ?_
      rw [hx.cell i hi, ← reads_get e4 i hi, Nat.zero_add]
    · rw [e3] at hn; exact n_same hn

def wInv (x : AI) (a : WSt) : Prop := a.k ≤ (amdBytes x).length ∧ EncO x (a.c, a.w)
theorem loop_yes {x : AI} {b : Nat × (Nat → Int)} (hx : EncO x b) (g : Nat → Int) (cap : Nat) {h : Nat → Int} {m mc : Nat} (hb : BGood h m mc) :
    loopB x b g cap h m mc (amdBytes x).length (wInv x) (fun a => (amdBytes x).length - a.k) yes := by
  have hl := bytes_len hx.err
  have hB := bytes_byte hx.err
  unfold loopB
  refine ⟨⟨⟨0, b.1, b.2⟩, ⟨Nat.zero_le _, hx⟩, rfl, rfl, rfl, rfl, rfl, rfl, fun _ _ => rfl, rfl, fun _ _ => rfl, rfl, fun _ _ => rfl, trivial⟩, ?_, fun _ _ h => h⟩
  rintro _ ⟨k, c, w⟩ ⟨i1, i2⟩
  dsimp only at i1 i2 ⊢
  have i3 := i2.len
  have i4 := i2.cell
  dsimp only at i3 i4
  refine ⟨fun hk => ?_, fun _ => tail_yes hb⟩
  have hk : (k : Int) < ((amdBytes x).length : Int) := by simpa [BE.den, IE.den, cmpI_lss] using hk
  have hk : k < (amdBytes x).length := by omega
  have hw : ∀ i, i < (amdBytes x).length → 0 ≤ w i ∧ w i < 256 := fun i hi => by rw [i4 i hi]; exact allB_get hB hi
  refine ⟨decide_eq_true (by omega), ask_ix (by simp) (by simp; omega), ?_⟩
  intro cs' hcs
  have hc : colG cs' = w := by rw [hcs]; rfl
  have hpre : ∃ (g : Nat → Int), cs' = [Col.int IntKind.u8 fun e ↦ IE.var (g e)] := by rw [hcs]; exact ⟨w, rfl⟩
  have hkt : Int.toNat (k : Int) = k := by simp
  rw [hc, hkt, decOut_at]
  have hd : amdDec w k 0 = none := dec_less (len := (amdBytes x).length) i2.err hw (reads_of fun e he => by rw [Nat.zero_add]; exact i4 e he) (by omega) (by omega)
  rw [hd]
  refine ⟨⟨hpre, by omega, by omega, fun i hi => hw i (by omega)⟩, fun hn => n_neqL rfl hn, fun _ => ?_⟩
  refine ⟨⟨k + 1, c, w⟩, ⟨hk, i2⟩, ?_, rfl, rfl, rfl, rfl, ?_, rfl, fun _ _ => rfl, rfl, fun _ _ => rfl, rfl, fun _ _ => rfl, trivial⟩
  · show (amdBytes x).length - (k + 1) < (amdBytes x).length - k
    omega
  · show IntKind.i64.wrap ((k : Int) + 1) = ((k + 1 : Nat) : Int)
    rw [wrap_i64_in (by omega) (by omega)]; omega

theorem back_sx (x : AI) {g : Nat → Int} {len cap : Nat} (hg : BGood g len cap) (hl2 : len ≤ 1048576) {h : Nat → Int} {m mc : Nat} (hb : BGood h m mc) :
    sxFunc P LB (fun _ => annA WSt (wSlots (amdBytes x).length m mc) (wHp g cap h mc) (wInv x) (fun a => (amdBytes x).length - a.k)) Try.f3 [xIn x, slA 0 len cap, slA 1 m mc] [rdRow g cap, rdRow h mc] (fun v _ => yes v) := by
  rw [back_nf]
  refine ⟨trivial, fun b hx => ?_, fun _ hne => ⟨fun he => absurd (by simpa [BE.den, IE.den, cmpI_eql] using he) hne, fun _ => tail_yes hb⟩⟩
  have he := hx.err
  have hl := bytes_len he
  have hB := bytes_byte he
  have hM := hx.len
  have hr := hg.room
  refine ⟨decide_eq_true (by omega), ?_, fun U cap1 hc1 hc1' => ⟨decide_eq_true (by omega), ?_, decide_eq_true (Nat.le_refl _), decide_eq_true hc1', ?_, fun U1 cap2 hc2 hc2' => ?_⟩⟩
  · show (0 + (amdBytes x).length) * 1 ≤ 140737488355328
    omega
  · have hc1 : 0 + (amdBytes x).length ≤ cap1 := hc1
    exact decide_eq_true (by omega)
  · show (0 + (amdBytes x).length + len) * 1 ≤ 140737488355328
    omega
  have hc2 : 0 + (amdBytes x).length + len ≤ cap2 := hc2
  refine ⟨ask_ix (by simp) (by simpa using hc2), fun cs' hcs => ?_⟩
  have hpre : ∃ (g : Nat → Int), cs' = [Col.int IntKind.u8 fun e ↦ IE.var (g e)] := by rw [hcs]; exact ⟨_, rfl⟩
  have h1 : ∀ e, e < (amdBytes x).length → colG cs' e = (amdBytes x).getD e 0 := fun e h => by
    rw [hcs]
    show IE.den (bif Nat.blt e (0 + (amdBytes x).length) then bif Nat.blt e 0 then IE.lit 0 else bif Nat.blt e (0 + (amdBytes x).length) then IE.var (Prod.snd b (0 + (e - 0))) else IE.var (Unk.i U 0 e) else _) = _
    rw [blt_t (show e < 0 + (amdBytes x).length by omega), blt_f (Nat.zero_le e)]
    show b.2 (0 + (e - 0)) = _
    rw [Nat.zero_add, Nat.sub_zero, hx.cell e h]
  have h2 : ∀ e, (amdBytes x).length ≤ e → e < (amdBytes x).length + len → 0 ≤ colG cs' e ∧ colG cs' e < 256 := fun e h h' => by
    have e1 : colG cs' e = g (0 + (e - (0 + (amdBytes x).length))) := by
      rw [hcs]
      show IE.den (bif Nat.blt e (0 + (amdBytes x).length) then _ else bif Nat.blt e (0 + (amdBytes x).length + len) then IE.var (g (0 + (e - (0 + (amdBytes x).length)))) else IE.var (Unk.i U1 0 e)) = _
      rw [blt_f (show 0 + (amdBytes x).length ≤ e by omega), blt_t (show e < 0 + (amdBytes x).length + len by omega)]; rfl
    rw [e1]; exact hg.byte _ (by omega)
  have hG : BGood (colG cs') (0 + (amdBytes x).length + len) cap2 := ⟨hc2, by omega, fun i hi => by
    by_cases h : i < (amdBytes x).length
    · rw [h1 i h]; exact allB_get hB h
    · exact h2 i (by omega) (by omega)⟩
  have hd : decOut (colG cs') (0 + (amdBytes x).length + len) 0 = (plain x, ((amdBytes x).length : Int), 0) := by
    rw [decOut_at, dec_enc he (reads_of fun e h => by rw [Nat.zero_add]; exact h1 e h) (by omega), Nat.zero_add]; rfl
  rw [hd]
  refine ⟨⟨hpre, hG⟩, fun hn => n_neqL rfl hn, fun _ => ⟨fun hn => n_same hn, fun _ => ⟨fun hn => n_neq rfl hn, fun _ => ⟨fun hn => n_lssL (by omega) hn, fun _ => ⟨fun hn => n_gtrL (by omega) hn, fun _ => loop_yes hx g cap hb⟩⟩⟩⟩⟩
end Go.Proofs.Ytajcmjjgnbaahaa.Amd
