/- AmdShows answers true. -/
import Derived.Test.YtajcmjjgnbaahaaDoorAs1
import Derived.Test.YtajcmjjgnbaahaaDoorPt
namespace Go.Proofs.YtajcmjjgnbaahaaDoor.Amd
open Go Go.Proofs.YtajcmjjgnbaahaaDoor.Sx Go.RowKit
set_option linter.unusedVariables false
set_option linter.unusedSimpArgs false

theorem tl_eq {A B : ByteArray} (h : tl A = tl B) : A = B := by
  obtain ⟨a⟩ := A; obtain ⟨b⟩ := B
  exact congrArg ByteArray.mk (Array.toList_inj.1 h)
theorem beq_tl (A B : ByteArray) : (ByteArray.toList A == ByteArray.toList B) = decide (A = B) := by
  rw [ByteArray.toList_eq, ByteArray.toList_eq]
  by_cases h : A = B
  · subst h; simp
  · rw [decide_eq_false h]
    exact beq_eq_false_iff_ne.2 fun h2 => h (tl_eq h2)
theorem of_u8 {a c : Int} (ha : 0 ≤ a ∧ a < 256) (hc : 0 ≤ c ∧ c < 256) (h : UInt8.ofNat a.toNat = UInt8.ofNat c.toNat) : a = c := by
  have := congrArg UInt8.toNat h
  rw [UInt8.toNat_ofNat', UInt8.toNat_ofNat'] at this
  omega
theorem row_bytes {x y : AI} {b b' : Nat × (Nat → Int)} (hb : EncO x b) (hb' : EncO y b') :
    rowStr (fun e => .var (b.2 e)) 0 (encLen x) = rowStr (fun e => .var (b'.2 e)) 0 (encLen y) ↔ amdBytes x = amdBytes y := by
  have e1 : encLen x = (amdBytes x).length := if_pos hb.err
  have e2 : encLen y = (amdBytes y).length := if_pos hb'.err
  rw [e1, e2]
  constructor
  · intro h
    have h1 : (List.range (amdBytes x).length).map (fun i => UInt8.ofNat (b.2 (0 + i)).toNat) = (List.range (amdBytes y).length).map (fun i => UInt8.ofNat (b'.2 (0 + i)).toNat) := congrArg tl h
    have hl : (amdBytes x).length = (amdBytes y).length := by simpa using congrArg List.length h1
    refine List.ext_getElem hl fun i hi hi' => ?_
    have h2 := congrArg (fun l => l[i]?) h1
    simp only [List.getElem?_map, List.getElem?_range hi, List.getElem?_range hi', Option.map_some, Option.some.injEq, Nat.zero_add] at h2
    have a1 := allB_get (bytes_byte hb.err) hi
    have a2 := allB_get (bytes_byte hb'.err) hi'
    rw [hb.cell i hi, hb'.cell i hi'] at h2
    have h3 := of_u8 a1 a2 h2
    rw [List.getD_eq_getElem?_getD, List.getD_eq_getElem?_getD, List.getElem?_eq_getElem hi, List.getElem?_eq_getElem hi'] at h3
    exact h3
  · intro h
    refine rowStr_eq (by rw [h]) fun e he => ?_
    rw [hb.cell e he, hb'.cell e (by rw [← h]; exact he), h]
theorem head_at {x : AI} (hE : amdErr x = 0) : 0 < (showB x).size ∧ 97 ≤ byteAt (showB x) (Int.toNat 0) ∧ byteAt (showB x) (Int.toNat 0) ≤ 122 := by
  obtain ⟨c, l, h, h1, h2⟩ := show_head hE
  have hs : ∀ S : ByteArray, S.size = (tl S).length := fun S => rfl
  have hb : byteAt (showB x) (Int.toNat 0) = (c.toNat : Int) := by
    have : (showB x).data[0]? = some c := by
      rw [← Array.getElem?_toList]
      show (tl (showB x))[0]? = some c
      rw [h]; rfl
    unfold byteAt
    rw [show Int.toNat 0 = 0 from rfl, this]; rfl
  rw [hs (showB x), h, hb]
  exact ⟨by simp, by omega, by omega⟩
/-- There is a text just where there is no error. -/
theorem said_or (x : AI) {p : Prop} (h : BE.den (BE.not (BE.eq (BE.cmp BinOp.eql (IE.var (amdErr x)) (IE.lit 0)) (BE.var !ByteArray.toList (showB x) == ByteArray.toList { data := #[] }))) = true) : p := by
  exfalso
  simp only [BE.den, IE.den, cmpI_eql, beq_tl] at h
  by_cases hE : amdErr x = 0
  · have := (head_at hE).1
    have hne : showB x ≠ ⟨#[]⟩ := fun h => by rw [h] at this; exact absurd this (by decide)
    rw [decide_eq_true hE, decide_eq_false hne] at h
    simp at h
  · have he : showB x = ⟨#[]⟩ := if_neg hE
    rw [decide_eq_false hE, decide_eq_true he] at h
    simp at h
theorem nn64 {v : Int} (h0 : -9223372036854775808 ≤ v) (h1 : v ≤ 9223372036854775807) : Int.NonNeg (v - -9223372036854775808) ∧ Int.NonNeg (9223372036854775807 - v) := ⟨h0, h1⟩
theorem nn4 {x : AI} (h : in64 x.disp ∧ in64 x.imm) : (Int.NonNeg (x.disp - -9223372036854775808) ∧ Int.NonNeg (9223372036854775807 - x.disp)) ∧ Int.NonNeg (x.imm - -9223372036854775808) ∧ Int.NonNeg (9223372036854775807 - x.imm) :=
  ⟨nn64 h.1.1 h.1.2, nn64 h.2.1 h.2.2⟩
theorem shows_sx {x y : AI} (hx : in64 x.disp ∧ in64 x.imm) (hy : in64 y.disp ∧ in64 y.imm) : sxFunc P (AQ av0) (fun _ => .plain 40) Tryd.f3 [xIn x, xIn y] hpT (fun v _ => yes v) := by
  rw [shows_nf]
  refine ⟨trivial, fun b hb => ⟨trivial, fun b1 hb1 => ⟨nn4 hx, nn4 hy, fun h => said_or x h, fun _ => ⟨fun h => said_or y h, fun _ => ⟨fun _ ν => rfl, fun hE => ⟨fun _ ν => rfl, fun hF => ?_⟩⟩⟩⟩⟩⟩
  have hE : amdErr x = 0 := by simpa [BE.den, IE.den, cmpI_neq, av0] using hE
  have hF : amdErr y = 0 := by simpa [BE.den, IE.den, cmpI_neq, av0] using hF
  have hb : EncN x b := hb
  have hb1 : EncN y b1 := hb1
  have hb := hb.ok hE
  have hb1 := hb1.ok hF
  obtain ⟨s0, s1, s2⟩ := head_at hE
  have q : decide ((0 : Int) ≤ 0 ∧ 0 < (↑(ByteArray.size (showB x)) : Int)) = true := decide_eq_true ⟨Int.le_refl _, by omega⟩
  have e1 : encLen x = (amdBytes x).length := if_pos hE
  have e2 : encLen y = (amdBytes y).length := if_pos hF
  have l1 := hb.len
  have l2 := hb1.len
  refine ⟨q, fun h => n_lssL s1 h, fun _ => ⟨q, fun h => n_gtrL s2 h, fun _ => ⟨decide_eq_true (show 0 + encLen x ≤ b.1 by omega), decide_eq_true (show 0 + encLen y ≤ b1.1 by omega), fun ν => ?_⟩⟩⟩
  show Value.bool (BE.den (BE.eq (BE.var (ByteArray.toList (showB x) == ByteArray.toList (showB y))) (BE.var (ByteArray.toList (rowStr (fun e ↦ IE.var (b.2 e)) 0 (encLen x)) == ByteArray.toList (rowStr (fun e ↦ IE.var (b1.2 e)) 0 (encLen y)))))) = Value.bool true
  rw [beq_tl, beq_tl]
  have key := (show_bytes hE hF).trans (row_bytes hb hb1).symm
  congr 1
  by_cases h : showB x = showB y
  · rw [decide_eq_true h, decide_eq_true (key.1 h)]; rfl
  · rw [decide_eq_false h, decide_eq_false fun h' => h (key.2 h')]; rfl
end Go.Proofs.YtajcmjjgnbaahaaDoor.Amd
