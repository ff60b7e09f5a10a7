/- Texts of words: what Show tells, as a text of the numbers; both sides' asks are met. -/
import Derived.Test.YtiljkmcahkphiaaDoorWs3
import Derived.Lib.ItoaLen
import Derived.Laws.Strings
namespace Go.Proofs.YtiljkmcahkphiaaDoor.Rv
open Go Go.Proofs.YtiljkmcahkphiaaDoor.Sx Go.RowKit
set_option linter.unusedVariables false
set_option linter.unusedSimpArgs false

def showB (r : RvRow) (a b c d : Int) : ByteArray :=
  match r.form with
  | 1 => preB r ++ xB a ++ comma ++ itoaB d
  | 2 => preB r ++ xB a ++ comma ++ xB b ++ comma ++ itoaB d
  | 3 => preB r ++ xB a ++ comma ++ xB b ++ comma ++ itoaB d
  | 4 => preB r ++ xB a ++ comma ++ xB b ++ comma ++ itoaB d
  | 5 => preB r ++ xB c ++ comma ++ xB b ++ comma ++ itoaB d
  | 6 => preB r ++ xB a ++ comma ++ xB b ++ comma ++ xB c
  | 7 => preB r ++ xB b ++ comma ++ xB c ++ comma ++ itoaB d
  | _ => preB r ++ xB a ++ comma ++ itoaB d
def showV (n a b c d : Int) : ByteArray :=
  match rowOf rvRows n with
  | some r => showB r a b c d
  | none => ⟨#[63]⟩

theorem nDigits_pos (u : Nat) : 1 ≤ Lib.nDigits u := by
  rw [Lib.nDigits]
  split <;> omega
theorem itoaB_size (n : Int) (h : Sx.inI64 n) : 1 ≤ (itoaB n).size ∧ (itoaB n).size ≤ 21 := by
  have e : (itoaB n).size = (Lib.itoa n).length := by simp [itoaB, ByteArray.size]
  rw [e]
  refine ⟨?_, Lib.itoa_length_le n h.1 h.2⟩
  unfold Lib.itoa
  split
  · simp
  · rw [Lib.decDigits_length]; exact nDigits_pos _
theorem xB_size (n : Int) (h : Sx.inI64 n) : 1 ≤ (xB n).size ∧ (xB n).size ≤ 22 := by
  have := itoaB_size n h
  have e : chX.size = 1 := rfl
  simp only [xB, ByteArray.size_append, e]
  omega
theorem preB_size : ∀ r ∈ rvRows, (preB r).size ≤ 16 := by
  intro r hr
  have h : ∀ r ∈ rvRows, r.name.length ≤ 8 := by decide
  have := h r hr
  have e : (preB r).size = r.name.length + 1 := by simp [preB, ByteArray.size]
  omega
theorem comma_size : comma.size = 1 := rfl

theorem askCat_of {x y : ByteArray} {K : Prop} (h : x.size + y.size ≤ 9223372036854775807) (hk : K) : askCat x y K := ⟨by simp [BE.den, h], hk⟩
theorem forkNE_of {s : ByteArray} {A C : Prop} (h : 1 ≤ s.size) (hA : A) : forkNE s A C := by
  refine ⟨fun _ => hA, fun hf => ?_⟩
  rw [ByteArray.toList_eq, ByteArray.toList_eq] at hf
  have h1 : s.data.toList = [] := by simpa using hf
  have : s.size = 0 := by
    show s.data.size = 0
    rw [← Array.length_toList, h1]; rfl
  omega
theorem cat2_of {p s1 s2 : ByteArray} {K : Prop} (hp : p.size ≤ 16) (h1 : s1.size ≤ 22) (h2 : s2.size ≤ 22) (hk : K) : cat2 p s1 s2 K := by
  refine askCat_of (by omega) (askCat_of ?_ (askCat_of ?_ hk))
  · simp only [ByteArray.size_append, comma_size]; omega
  · simp only [ByteArray.size_append, comma_size]; omega
theorem show2_of {p s1 s2 : ByteArray} {Q : SV → Prop} (hp : p.size ≤ 16) (h1 : s1.size ≤ 22) (h2 : s2.size ≤ 22) (hk : Q (.strE (p ++ s1 ++ comma ++ s2))) : show2 p s1 s2 Q := cat2_of hp h1 h2 hk
theorem show3_of {p s1 s2 s3 : ByteArray} {Q : SV → Prop} (hp : p.size ≤ 16) (h1 : s1.size ≤ 22) (h2 : s2.size ≤ 22) (h3 : 1 ≤ s3.size ∧ s3.size ≤ 22) (hk : Q (.strE (p ++ s1 ++ comma ++ s2 ++ comma ++ s3))) : show3 p s1 s2 s3 Q := by
  refine cat2_of hp h1 h2 (forkNE_of h3.1 (askCat_of ?_ (askCat_of ?_ ?_)))
  · rw [comma_size]; omega
  · simp only [ByteArray.size_append, comma_size]; omega
  · rw [← ByteArray.append_assoc]; exact hk
theorem ref2_of {p s1 s2 : ByteArray} {Q : SV → Prop} (hp : p.size ≤ 16) (h1 : s1.size ≤ 22) (h2 : s2.size ≤ 22) (hk : Q (.strE (p ++ s1 ++ comma ++ s2))) : ref2 p s1 s2 Q := cat2_of hp h1 h2 hk
theorem ref3_of {p s1 s2 s3 : ByteArray} {Q : SV → Prop} (hp : p.size ≤ 16) (h1 : s1.size ≤ 22) (h2 : s2.size ≤ 22) (h3 : 1 ≤ s3.size ∧ s3.size ≤ 22) (hk : Q (.strE (p ++ s1 ++ comma ++ s2 ++ comma ++ s3))) : ref3 p s1 s2 s3 Q := by
  refine cat2_of hp h1 h2 (askCat_of ?_ (askCat_of ?_ hk))
  · simp only [ByteArray.size_append, comma_size]; omega
  · simp only [ByteArray.size_append, comma_size]; omega

theorem shown_of (r : RvRow) (hr : r ∈ rvRows) (a b c d : Int) (ha : Sx.inI64 a) (hb : Sx.inI64 b) (hc : Sx.inI64 c) (hd : Sx.inI64 d) {Q : SV → Prop} (hQ : Q (.strE (showB r a b c d))) :
    shown r.form (preB r) a b c d Q ∧ refBy r.form (preB r) a b c d Q := by
  have hp := preB_size r hr
  have xa := xB_size a ha
  have xb := xB_size b hb
  have xc := xB_size c hc
  have id := itoaB_size d hd
  have id' : 1 ≤ (itoaB d).size ∧ (itoaB d).size ≤ 22 := ⟨id.1, by omega⟩
  have hf : r.form = 1 ∨ r.form = 2 ∨ r.form = 3 ∨ r.form = 4 ∨ r.form = 5 ∨ r.form = 6 ∨ r.form = 7 ∨ r.form = 8 := by
    have h : ∀ r ∈ rvRows, r.form = 1 ∨ r.form = 2 ∨ r.form = 3 ∨ r.form = 4 ∨ r.form = 5 ∨ r.form = 6 ∨ r.form = 7 ∨ r.form = 8 := by decide
    exact h r hr
  unfold showB at hQ
  rcases hf with e | e | e | e | e | e | e | e <;> rw [e] at hQ <;> rw [e]
  · exact ⟨show2_of hp xa.2 id'.2 hQ, ref2_of hp xa.2 id'.2 hQ⟩
  · exact ⟨show3_of hp xa.2 xb.2 id' hQ, ref3_of hp xa.2 xb.2 id' hQ⟩
  · exact ⟨show3_of hp xa.2 xb.2 id' hQ, ref3_of hp xa.2 xb.2 id' hQ⟩
  · exact ⟨show3_of hp xa.2 xb.2 id' hQ, ref3_of hp xa.2 xb.2 id' hQ⟩
  · exact ⟨show3_of hp xc.2 xb.2 id' hQ, ref3_of hp xc.2 xb.2 id' hQ⟩
  · exact ⟨show3_of hp xa.2 xb.2 xc hQ, ref3_of hp xa.2 xb.2 xc hQ⟩
  · exact ⟨show3_of hp xb.2 xc.2 id' hQ, ref3_of hp xb.2 xc.2 id' hQ⟩
  · exact ⟨show2_of hp xa.2 id'.2 hQ, ref2_of hp xa.2 id'.2 hQ⟩

theorem xsize (n : Int) (h : Sx.inI64 n) : chX.size + (itoaB n).size ≤ 9223372036854775807 := by
  have := itoaB_size n h
  have e : chX.size = 1 := rfl
  omega
theorem rvShowR_of (r : RvRow) (hr : r ∈ rvRows) (a b c d : Int) (ha : Sx.inI64 a) (hb : Sx.inI64 b) (hc : Sx.inI64 c) (hd : Sx.inI64 d) {Q : SV → Prop} (hQ : Q (.strE (showB r a b c d))) : rvShowR r a b c d Q :=
  ⟨ha, askCat_of (xsize a ha) ⟨rfl, rfl, rfl, rfl, hb, askCat_of (xsize b hb) ⟨rfl, rfl, rfl, rfl, hc, askCat_of (xsize c hc) ⟨rfl, rfl, rfl, rfl, hd, ⟨rfl, rfl, rfl, rfl, rfl, rfl, rfl, rfl, (shown_of r hr a b c d ha hb hc hd hQ).1⟩⟩⟩⟩⟩
theorem refShowR_of (r : RvRow) (hr : r ∈ rvRows) (a b c d : Int) (ha : Sx.inI64 a) (hb : Sx.inI64 b) (hc : Sx.inI64 c) (hd : Sx.inI64 d) {Q : SV → Prop} (hQ : Q (.strE (showB r a b c d))) : refShowR r a b c d Q :=
  ⟨ha, askCat_of (xsize a ha) ⟨hb, askCat_of (xsize b hb) ⟨hc, askCat_of (xsize c hc) ⟨hd, (shown_of r hr a b c d ha hb hc hd hQ).2⟩⟩⟩⟩
end Go.Proofs.YtiljkmcahkphiaaDoor.Rv
