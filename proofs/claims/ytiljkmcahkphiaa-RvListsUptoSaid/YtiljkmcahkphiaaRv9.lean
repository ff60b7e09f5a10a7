/- Decode as a function of its arguments alone; there and back. -/
import Derived.Test.YtiljkmcahkphiaaRv6
import Derived.Test.YtiljkmcahkphiaaRv8
namespace Go.Proofs.Ytiljkmcahkphiaa.Rv
open Go Go.Proofs.Ytiljkmcahkphiaa.Sx Go.RowKit
set_option linter.unusedVariables false
set_option linter.unusedSimpArgs false

def inU32 (n : Int) : Bool := decide (0 ≤ n) && decide (n < 4294967296)
def insSV (x : RvIns) : SV := .tuple [.agg [.int .i64 (.var x.op), .int .i64 (.var x.rd), .int .i64 (.var x.r1), .int .i64 (.var x.r2), .int .i64 (.var x.imm)], .int .i64 (.var x.err)]
def fDec : PureFn
  | [.int .u32 w] => some (some (.var (inU32 w.den)), insSV (rvDec w.den))
  | _ => none

theorem fdec_ok : PureOk P 8 fDec := by
  intro args p v hF hp
  unfold fDec at hF
  split at hF
  · rename_i w
    simp only [Option.some.injEq, Prod.mk.injEq] at hF; obtain ⟨rfl, rfl⟩ := hF
    have hw : inU32 w.den = true := hp
    simp only [inU32, Bool.and_eq_true, decide_eq_true_eq] at hw
    refine ⟨by simp [SV.wfL, SV.wf], by simp [insSV, SV.wfL, SV.wf], fun W => ?_⟩
    have := dec_calls w.den hw.1 hw.2 W
    simpa [SV.denL, SV.den, IE.den, insSV, insV] using this
  · simp at hF

/-- What a word's instruction is made of again is the word. -/
theorem hit_ok (r : RvRow) (hr : r ∈ rvRows) (w : Int) (h0 : 0 ≤ w) (h1 : w < 4294967296) (h : Hit r w) :
    RvOk r (insOf r w).rd (insOf r w).r1 (insOf r w).r2 (insOf r w).imm ∧ rvWord r (insOf r w).rd (insOf r w).r1 (insOf r w).r2 (insOf r w).imm = w := by
  obtain ⟨c0, c1, c2, c3, c4, c5, c6, c7⟩ := rows_ok r hr
  unfold Hit at h
  have reg : ∀ (n : Bool) (m : Int), regB (regD n w m) n = true := by
    intro n m
    rw [regB_iff]
    unfold regD
    cases n with
    | false => exact .inl rfl
    | true =>
      simp only [if_true]
      generalize w / m = q
      by_cases hq : q % 32 = 0
      · exact .inl hq
      · exact .inr ⟨trivial, by omega, by omega⟩
  have dg : w = w % 128 + w / 128 % 32 * 128 + w / 4096 % 8 * 4096 + w / 32768 % 32 * 32768 + w / 1048576 % 32 * 1048576 + w / 33554432 * 33554432 := by
    have e1 : w / 4096 = w / 128 / 32 := by omega
    have e2 : w / 32768 = w / 128 / 32 / 8 := by omega
    have e3 : w / 1048576 = w / 128 / 32 / 8 / 32 := by omega
    have e4 : w / 33554432 = w / 128 / 32 / 8 / 32 / 32 := by omega
    rw [e1, e2, e3, e4]; omega
  have d5 : ∀ {x : Int}, (if w / 128 % 32 + w / 33554432 % 128 * 32 < 2048 then w / 128 % 32 + w / 33554432 % 128 * 32 else w / 128 % 32 + w / 33554432 % 128 * 32 - 4096) = x →
      -2048 ≤ x ∧ x < 2048 ∧ x % 32 = w / 128 % 32 ∧ x / 32 % 128 = w / 33554432 := by
    intro x hx
    have q1 : w / 33554432 % 128 = w / 33554432 := by omega
    rw [q1] at hx
    have q2 : 0 ≤ w / 33554432 ∧ w / 33554432 < 128 := by omega
    have q3 : 0 ≤ w / 128 % 32 ∧ w / 128 % 32 < 32 := by omega
    generalize w / 33554432 = p2 at *
    generalize w / 128 % 32 = p1 at *
    split at hx <;> omega
  have d7 : ∀ {x : Int}, (if w / 256 % 16 * 2 + w / 33554432 % 64 * 32 + w / 128 % 2 * 2048 + w / 2147483648 % 2 * 4096 < 4096 then w / 256 % 16 * 2 + w / 33554432 % 64 * 32 + w / 128 % 2 * 2048 + w / 2147483648 % 2 * 4096 else w / 256 % 16 * 2 + w / 33554432 % 64 * 32 + w / 128 % 2 * 2048 + w / 2147483648 % 2 * 4096 - 8192) = x →
      -4096 ≤ x ∧ x < 4096 ∧ x % 2 = 0 ∧ x / 2 % 16 * 256 + x / 32 % 64 * 33554432 + x / 2048 % 2 * 128 + x / 4096 % 2 * 2147483648 = w / 128 % 32 * 128 + w / 33554432 * 33554432 := by
    intro x hx
    have e1 : w / 128 % 32 = w / 128 % 2 + 2 * (w / 256 % 16) := by omega
    have e2 : w / 33554432 = w / 33554432 % 64 + 64 * (w / 2147483648 % 2) := by omega
    rw [e1, e2]
    have q1 : 0 ≤ w / 256 % 16 ∧ w / 256 % 16 < 16 := by omega
    have q2 : 0 ≤ w / 33554432 % 64 ∧ w / 33554432 % 64 < 64 := by omega
    have q3 : 0 ≤ w / 128 % 2 ∧ w / 128 % 2 < 2 := by omega
    have q4 : 0 ≤ w / 2147483648 % 2 ∧ w / 2147483648 % 2 < 2 := by omega
    clear e1 e2 dg d5 h0 h1 h
    generalize w / 256 % 16 = p1 at *
    generalize w / 33554432 % 64 = p2 at *
    generalize w / 128 % 2 = p3 at *
    generalize w / 2147483648 % 2 = p4 at *
    have hb : x = p1 * 2 + p2 * 32 + p3 * 2048 + p4 * 4096 - p4 * 8192 := by split at hx <;> omega
    have b0 : -4096 ≤ x ∧ x < 4096 ∧ x % 2 = 0 := by omega
    have f1 : x / 2 % 16 = p1 := by omega
    have f2 : x / 32 % 64 = p2 := by omega
    have f3 : x / 2048 % 2 = p3 := by omega
    have f4 : x / 4096 % 2 = p4 := by omega
    rw [f1, f2, f3, f4]
    exact ⟨b0.1, b0.2.1, b0.2.2, by omega⟩
  have d8 : ∀ {x : Int}, (if w / 2097152 % 1024 * 2 + w / 1048576 % 2 * 2048 + w / 4096 % 256 * 4096 + w / 2147483648 % 2 * 1048576 < 1048576 then w / 2097152 % 1024 * 2 + w / 1048576 % 2 * 2048 + w / 4096 % 256 * 4096 + w / 2147483648 % 2 * 1048576 else w / 2097152 % 1024 * 2 + w / 1048576 % 2 * 2048 + w / 4096 % 256 * 4096 + w / 2147483648 % 2 * 1048576 - 2097152) = x →
      -1048576 ≤ x ∧ x < 1048576 ∧ x % 2 = 0 ∧ x / 2 % 1024 * 2097152 + x / 2048 % 2 * 1048576 + x / 4096 % 256 * 4096 + x / 1048576 % 2 * 2147483648 = w / 4096 * 4096 := by
    intro x hx
    have e2 : w / 4096 = w / 4096 % 256 + 256 * (w / 1048576 % 2) + 512 * (w / 2097152 % 1024) + 524288 * (w / 2147483648 % 2) := by
      have e3 : w / 1048576 = w / 4096 / 256 := by omega
      have e4 : w / 2097152 = w / 4096 / 256 / 2 := by omega
      have e5 : w / 2147483648 = w / 4096 / 256 / 2 / 1024 := by omega
      have e6 : w / 4096 / 256 / 2 / 1024 < 2 := by omega
      rw [e3, e4, e5]; omega
    rw [e2]
    have q1 : 0 ≤ w / 2097152 % 1024 ∧ w / 2097152 % 1024 < 1024 := by omega
    have q2 : 0 ≤ w / 1048576 % 2 ∧ w / 1048576 % 2 < 2 := by omega
    have q3 : 0 ≤ w / 4096 % 256 ∧ w / 4096 % 256 < 256 := by omega
    have q4 : 0 ≤ w / 2147483648 % 2 ∧ w / 2147483648 % 2 < 2 := by omega
    clear e2 dg d5 d7 h0 h1 h
    generalize w / 2097152 % 1024 = p1 at *
    generalize w / 1048576 % 2 = p2 at *
    generalize w / 4096 % 256 = p3 at *
    generalize w / 2147483648 % 2 = p4 at *
    have hb : x = p1 * 2 + p2 * 2048 + p3 * 4096 + p4 * 1048576 - p4 * 2097152 := by split at hx <;> omega
    have b0 : -1048576 ≤ x ∧ x < 1048576 ∧ x % 2 = 0 := by omega
    have f1 : x / 2 % 1024 = p1 := by omega
    have f2 : x / 2048 % 2 = p2 := by omega
    have f3 : x / 4096 % 256 = p3 := by omega
    have f4 : x / 1048576 % 2 = p4 := by omega
    rw [f1, f2, f3, f4]
    exact ⟨b0.1, b0.2.1, b0.2.2, by omega⟩
  refine ⟨⟨reg _ _, reg _ _, reg _ _, ?_⟩, ?_⟩
  · show fitsB r.form (immD r.form w) = true
    rcases form_range r hr with hf | hf | hf | hf | hf | hf | hf | hf <;> rw [hf] <;> simp only [fitsB, immD, immV, Bool.and_eq_true, decide_eq_true_eq]
    · omega
    · split <;> omega
    · omega
    · omega
    · have k := d5 (x := _) rfl; exact ⟨k.1, k.2.1⟩
    · have k := d7 (x := _) rfl; exact ⟨⟨k.1, k.2.1⟩, k.2.2.1⟩
    · have k := d8 (x := _) rfl; exact ⟨⟨k.1, k.2.1⟩, k.2.2.1⟩
  · show rvWord r (regD (names r.form).1 w 128) (regD (names r.form).2.1 w 32768) (regD (names r.form).2.2 w 1048576) (immD r.form w) = w
    rcases form_range r hr with hf | hf | hf | hf | hf | hf | hf | hf <;> simp only [hf, reduceCtorEq, if_false, if_true, true_or, or_true, or_self, Nat.reduceEqDiff, ne_eq, not_false_eq_true, not_true_eq_false, forall_const, false_or, false_implies, true_implies, and_true, true_and] at h c6 c7 <;>
      simp only [rvWord, fixedOf, hf, names, regD, Bool.false_eq_true, if_false, if_true, reduceCtorEq, true_or, or_true, or_self, Nat.reduceEqDiff]
    · simp only [immD, immV, immW]; omega
    · simp only [immD, immV, immW]; split <;> omega
    · simp only [immD, immV, immW]; omega
    · simp only [immD, immV, immW]; omega
    · have k := d5 (x := immD 5 w) rfl
      simp only [immW]; omega
    · simp only [immD, immV, immW]; omega
    · have k := (d7 (x := immD 7 w) rfl).2.2.2
      simp only [immW]; omega
    · have k := (d8 (x := immD 8 w) rfl).2.2.2
      simp only [immW]; omega

theorem row_self : ∀ r ∈ rvRows, rowOf rvRows r.op = some r := by
  intro r hr
  simp only [rvRows, List.mem_cons, List.not_mem_nil, or_false] at hr
  rcases hr with rfl | rfl | rfl | rfl | rfl | rfl | rfl | rfl | rfl | rfl | rfl | rfl | rfl | rfl | rfl | rfl | rfl | rfl | rfl | rfl | rfl | rfl | rfl | rfl | rfl | rfl | rfl | rfl | rfl | rfl | rfl | rfl | rfl | rfl <;> rfl

theorem decL_found (w : Int) : ∀ l : List RvRow, (∃ r ∈ l, Hit r w ∧ decL w l = insOf r w) ∨ (decL w l = ⟨0, 0, 0, 0, 0, 5⟩ ∧ ∀ r ∈ l, ¬ Hit r w)
  | [] => .inr ⟨rfl, fun r h => by cases h⟩
  | r :: l => by
    by_cases h : Hit r w
    · exact .inl ⟨r, List.mem_cons_self .., h, by simp [decL, h]⟩
    · rcases decL_found w l with ⟨r', h1, h2, h3⟩ | ⟨h1, h2⟩
      · exact .inl ⟨r', List.mem_cons_of_mem _ h1, h2, by simp [decL, h, h3]⟩
      · refine .inr ⟨by simp [decL, h, h1], fun r' hr' => ?_⟩
        rcases List.mem_cons.1 hr' with rfl | h'
        · exact h
        · exact h2 r' h'

/-- What is read is written as the same word. -/
theorem enc_dec (w : Int) (h0 : 0 ≤ w) (h1 : w < 4294967296) (he : (rvDec w).err = 0) : rvEnc (rvDec w).op (rvDec w).rd (rvDec w).r1 (rvDec w).r2 (rvDec w).imm = (w, 0) := by
  rcases decL_found w rvRows with ⟨r, hr, hh, e⟩ | ⟨e, _⟩
  · have hd : rvDec w = insOf r w := e
    obtain ⟨k1, k2⟩ := hit_ok r hr w h0 h1 hh
    rw [hd]
    have hop : (insOf r w).op = r.op := rfl
    rw [hop]
    unfold rvEnc
    rw [row_self r hr]
    simp only [k1.ra, k1.rb, k1.rc, k1.fit, k2, Bool.and_self, if_true]
  · have hd : rvDec w = ⟨0, 0, 0, 0, 0, 5⟩ := e
    rw [hd] at he
    exact absurd he (by decide)

theorem word_range (r : RvRow) (hr : r ∈ rvRows) (a b c d : Int) (h : RvOk r a b c d) : 0 ≤ rvWord r a b c d ∧ rvWord r a b c d < 4294967296 ∧ Hit r (rvWord r a b c d) := by
  obtain ⟨c0, c1, c2, c3, c4, c5, c6, c7⟩ := rows_ok r hr
  obtain ⟨ha, hb, hc, hd⟩ := h
  have ra := reg_eq (y := 0) ha
  have rb := reg_eq (y := 0) hb
  have rc := reg_eq (y := 0) hc
  clear ha hb hc hd
  unfold rvWord fixedOf Hit
  rcases form_range r hr with hf | hf | hf | hf | hf | hf | hf | hf <;>
    (rw [hf] at ra rb rc c6 c7
     simp only [hf, names, immW, reduceCtorEq, if_false, if_true, true_or, or_true, or_self, Nat.reduceEqDiff, ne_eq, not_false_eq_true, not_true_eq_false, forall_const, false_or, false_implies, true_implies, and_true, true_and] at ra rb rc c6 c7 ⊢)
  · refine ⟨?_, ?_, ?_⟩ <;> omega
  · refine ⟨?_, ?_, ?_, ?_⟩ <;> omega
  · refine ⟨?_, ?_, ?_, ?_, ?_⟩ <;> omega
  · refine ⟨?_, ?_, ?_, ?_, ?_⟩ <;> omega
  · have q1 : 0 ≤ d / 32 % 128 ∧ d / 32 % 128 < 128 := by omega
    have q2 : 0 ≤ d % 32 ∧ d % 32 < 32 := by omega
    generalize d / 32 % 128 = p1 at *
    generalize d % 32 = p2 at *
    refine ⟨?_, ?_, ?_, ?_⟩ <;> omega
  · refine ⟨?_, ?_, ?_, ?_, ?_⟩ <;> omega
  · have q1 : 0 ≤ d / 2 % 16 ∧ d / 2 % 16 < 16 := by omega
    have q2 : 0 ≤ d / 32 % 64 ∧ d / 32 % 64 < 64 := by omega
    have q3 : 0 ≤ d / 2048 % 2 ∧ d / 2048 % 2 < 2 := by omega
    have q4 : 0 ≤ d / 4096 % 2 ∧ d / 4096 % 2 < 2 := by omega
    generalize d / 2 % 16 = p1 at *
    generalize d / 32 % 64 = p2 at *
    generalize d / 2048 % 2 = p3 at *
    generalize d / 4096 % 2 = p4 at *
    refine ⟨?_, ?_, ?_, ?_⟩ <;> omega
  · have q1 : 0 ≤ d / 2 % 1024 ∧ d / 2 % 1024 < 1024 := by omega
    have q2 : 0 ≤ d / 2048 % 2 ∧ d / 2048 % 2 < 2 := by omega
    have q3 : 0 ≤ d / 4096 % 256 ∧ d / 4096 % 256 < 256 := by omega
    have q4 : 0 ≤ d / 1048576 % 2 ∧ d / 1048576 % 2 < 2 := by omega
    generalize d / 2 % 1024 = p1 at *
    generalize d / 2048 % 2 = p2 at *
    generalize d / 4096 % 256 = p3 at *
    generalize d / 1048576 % 2 = p4 at *
    refine ⟨?_, ?_, ?_⟩ <;> omega

/-- What is written is read as the same instruction. -/
theorem dec_enc (r : RvRow) (hr : r ∈ rvRows) (a b c d : Int) (h : RvOk r a b c d) : rvDec (rvWord r a b c d) = ⟨r.op, a, b, c, d, 0⟩ := by
  obtain ⟨h0, h1, hh⟩ := word_range r hr a b c d h
  rcases decL_found (rvWord r a b c d) rvRows with ⟨r', hr', hh', e⟩ | ⟨_, e⟩
  · obtain ⟨k1, k2⟩ := hit_ok r' hr' _ h0 h1 hh'
    obtain ⟨e0, e1, e2, e3, e4⟩ := word_inj r' r hr' hr _ _ _ _ _ _ _ _ k1 h k2
    have hd : rvDec (rvWord r a b c d) = insOf r' (rvWord r a b c d) := e
    rw [hd]
    clear hd e k2 hh hh' h0 h1
    generalize rvWord r a b c d = W at *
    show RvIns.mk r'.op (insOf r' W).rd (insOf r' W).r1 (insOf r' W).r2 (insOf r' W).imm 0 = _
    rw [e1, e2, e3, e4, e0]
  · exact absurd hh (e r hr)

end Go.Proofs.Ytiljkmcahkphiaa.Rv
