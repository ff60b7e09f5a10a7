/- The reference's wrong, fits and reg as pure functions; the tables of Encode's runs. -/
import Derived.Test.YtajcmjjgnbaahaaDoorRf3
namespace Go.Proofs.YtajcmjjgnbaahaaDoor.Amd
open Go Go.Proofs.YtajcmjjgnbaahaaDoor.Sx Go.RowKit
set_option linter.unusedVariables false
set_option linter.unusedSimpArgs false
def fitF : PureFn := fun args => match args with
  | [.int .i64 v, .bool l] => some (none, .bool (.var (decide (numOk v.den l.den))))
  | _ => none
def rgF : PureFn := fun args => match args with
  | [.int .i64 r] => some (none, .bool (.var (!badReg r.den)))
  | _ => none
theorem refits_nf (v : Int) (l : Bool) (Q : SV -> Prop) : sxFunc P A0 (fun _ => 40) Tryd.f38 [.int .i64 (.var v), .bool (.var l)] [] (fun v _ => Q v) =
    ((l = true -> (BE.den (.cmp .geq (.var v) (.lit (-2147483648))) = true -> Q (SV.bool (.cmp .leq (.var v) (.lit 2147483647)))) /\ (BE.den (.cmp .geq (.var v) (.lit (-2147483648))) = false -> Q (SV.bool (.lit false)))) /\ (l = false -> (BE.den (.cmp .geq (.var v) (.lit (-128))) = true -> Q (SV.bool (.cmp .leq (.var v) (.lit 127)))) /\ (BE.den (.cmp .geq (.var v) (.lit (-128))) = false -> Q (SV.bool (.lit false))))) := by kernel_rfl
theorem rereg_nf (r : Int) (Q : SV -> Prop) : sxFunc P A0 (fun _ => 40) Tryd.f37 [.int .i64 (.var r)] [] (fun v _ => Q v) =
    ((BE.den (.cmp .geq (.var r) (.lit 0)) = true -> Q (SV.bool (.cmp .leq (.var r) (.lit 15)))) /\ (BE.den (.cmp .geq (.var r) (.lit 0)) = false -> Q (SV.bool (.lit false)))) := by kernel_rfl
theorem c_geq (x n : Int) : BE.den (.cmp .geq (.var x) (.lit n)) = decide (n <= x) := by simp only [BE.den, IE.den, cmpI_geq]
theorem c_leq (x n : Int) : BE.den (.cmp .leq (.var x) (.lit n)) = decide (x <= n) := by simp only [BE.den, IE.den, cmpI_leq]
theorem refits_ok : PureOk P 38 fitF := by
  have hs := func_sound (un := fun _ => 40) A0_ok Tryd.func38
  refine pure_of hs ?_
  intro args p v hF hp
  unfold fitF at hF
  split at hF
  · rename_i v l
    simp only [Option.some.injEq, Prod.mk.injEq] at hF
    obtain ⟨rfl, rfl⟩ := hF
    refine ⟨[.int .i64 (.var v.den), .bool (.var l.den)], rfl, ⟨trivial, trivial, trivial⟩, ⟨trivial, trivial, trivial⟩, trivial, ?_⟩
    rw [refits_nf]
    generalize v.den = v
    generalize l.den = l
    have e : ∀ b : BE, b.den = decide (numOk v l) -> ∀ ν, SV.den ν (.bool b) = SV.den ν (.bool (.var (decide (numOk v l)))) := fun b hb ν => by
      show Value.bool b.den = Value.bool (decide (numOk v l)); rw [hb]
    refine ⟨fun h => ?_, fun h => ?_⟩ <;> subst h <;> simp only [c_geq, decide_eq_true_eq, decide_eq_false_iff_not] <;> refine ⟨fun h1 => e _ ?_, fun h1 => e _ ?_⟩
    · rw [c_leq]; unfold numOk; simp [h1]
    · unfold numOk; simp [BE.den, h1]
    · rw [c_leq]; unfold numOk; simp [h1]
    · unfold numOk; simp [BE.den, h1]
  · simp at hF
theorem rereg_ok : PureOk P 37 rgF := by
  have hs := func_sound (un := fun _ => 40) A0_ok Tryd.func37
  refine pure_of hs ?_
  intro args p v hF hp
  unfold rgF at hF
  split at hF
  · rename_i v
    simp only [Option.some.injEq, Prod.mk.injEq] at hF
    obtain ⟨rfl, rfl⟩ := hF
    refine ⟨[.int .i64 (.var v.den)], rfl, ⟨trivial, trivial⟩, ⟨trivial, trivial⟩, trivial, ?_⟩
    rw [rereg_nf]
    generalize v.den = v
    have e : ∀ b : BE, b.den = !badReg v -> ∀ ν, SV.den ν (.bool b) = SV.den ν (.bool (.var (!badReg v))) := fun b hb ν => by
      show Value.bool b.den = Value.bool (!badReg v); rw [hb]
    simp only [c_geq, decide_eq_true_eq, decide_eq_false_iff_not]
    refine ⟨fun h1 => e _ ?_, fun h1 => e _ ?_⟩
    · rw [c_leq]; unfold badReg; rw [Bool.eq_iff_iff]; simp; omega
    · unfold badReg; simp [BE.den]; omega
  · simp at hF
def wrT : List (FuncId × Cal) := [(38, .pure fitF), (37, .pure rgF)]
theorem wrT_ok : GammaOk P (table wrT) := table_cons refits_ok (table_cons rereg_ok fun g s h => by simp [table] at h)
noncomputable def WR : FuncId -> Option Cal := inl P (fun _ _ => 40) (table wrT) 4
theorem WR_ok : GammaOk P WR := inl_ok wrT_ok 4
def fmI (k : Int) (c n : Int) (w : ByteArray) (ch : Bool) : SV := .agg [.int .i64 (.lit k), .int .u8 (.var c), .int .u8 (.var n), .strE w, .bool (.lit ch)]
theorem rewr_0 (x : AI) (c n : Int) (w : ByteArray) (ch : Bool) (Q : SV -> Prop) : sxFunc P WR (fun _ => 40) Tryd.f22 [xIn x, fmI 0 c n w ch] [] (fun v _ => Q v) =
    (Q (SV.int .i64 (.lit 181))) := by kernel_rfl
theorem rewr_1 (x : AI) (c n : Int) (w : ByteArray) (ch : Bool) (Q : SV -> Prop) : sxFunc P WR (fun _ => 40) Tryd.f22 [xIn x, fmI 1 c n w ch] [] (fun v _ => Q v) =
    ((BE.den (.not (.var !badReg (AI.d x))) = true -> Q (SV.int .i64 (.lit 182))) /\ (BE.den (.not (.var !badReg (AI.d x))) = false -> (BE.den (.cmp .lss (.var (AI.imm x)) (.lit 0)) = true -> Q (SV.int .i64 (.lit 183))) /\ (BE.den (.cmp .lss (.var (AI.imm x)) (.lit 0)) = false -> (BE.den (.cmp .gtr (.var (AI.imm x)) (.lit 4294967295)) = true -> Q (SV.int .i64 (.lit 183))) /\ (BE.den (.cmp .gtr (.var (AI.imm x)) (.lit 4294967295)) = false -> Q (SV.int .i64 (.lit 0)))))) := by kernel_rfl
theorem rewr_2 (x : AI) (c n : Int) (w : ByteArray) (ch : Bool) (Q : SV -> Prop) : sxFunc P WR (fun _ => 40) Tryd.f22 [xIn x, fmI 2 c n w ch] [] (fun v _ => Q v) =
    ((BE.den (.not (.var !badReg (AI.d x))) = true -> Q (SV.int .i64 (.lit 182))) /\ (BE.den (.not (.var !badReg (AI.d x))) = false -> (BE.den (.not (.var !badReg (AI.s x))) = true -> Q (SV.int .i64 (.lit 182))) /\ (BE.den (.not (.var !badReg (AI.s x))) = false -> Q (SV.int .i64 (.lit 0))))) := by kernel_rfl
theorem rewr_3 (x : AI) (c n : Int) (w : ByteArray) (ch : Bool) (Q : SV -> Prop) : sxFunc P WR (fun _ => 40) Tryd.f22 [xIn x, fmI 3 c n w ch] [] (fun v _ => Q v) =
    ((BE.den (.not (.var !badReg (AI.d x))) = true -> Q (SV.int .i64 (.lit 182))) /\ (BE.den (.not (.var !badReg (AI.d x))) = false -> (BE.den (.not (.var !badReg (AI.s x))) = true -> Q (SV.int .i64 (.lit 182))) /\ (BE.den (.not (.var !badReg (AI.s x))) = false -> (BE.den (.not (.var (decide (numOk (AI.disp x) (AI.long x))))) = true -> Q (SV.int .i64 (.lit 183))) /\ (BE.den (.not (.var (decide (numOk (AI.disp x) (AI.long x))))) = false -> Q (SV.int .i64 (.lit 0)))))) := by kernel_rfl
theorem rewr_4 (x : AI) (c n : Int) (w : ByteArray) (ch : Bool) (Q : SV -> Prop) : sxFunc P WR (fun _ => 40) Tryd.f22 [xIn x, fmI 4 c n w ch] [] (fun v _ => Q v) =
    ((BE.den (.not (.var !badReg (AI.d x))) = true -> Q (SV.int .i64 (.lit 182))) /\ (BE.den (.not (.var !badReg (AI.d x))) = false -> (BE.den (.not (.var !badReg (AI.s x))) = true -> Q (SV.int .i64 (.lit 182))) /\ (BE.den (.not (.var !badReg (AI.s x))) = false -> (BE.den (.not (.var (decide (numOk (AI.disp x) (AI.long x))))) = true -> Q (SV.int .i64 (.lit 183))) /\ (BE.den (.not (.var (decide (numOk (AI.disp x) (AI.long x))))) = false -> Q (SV.int .i64 (.lit 0)))))) := by kernel_rfl
theorem rewr_5 (x : AI) (c n : Int) (w : ByteArray) (ch : Bool) (Q : SV -> Prop) : sxFunc P WR (fun _ => 40) Tryd.f22 [xIn x, fmI 5 c n w ch] [] (fun v _ => Q v) =
    ((BE.den (.not (.var !badReg (AI.d x))) = true -> Q (SV.int .i64 (.lit 182))) /\ (BE.den (.not (.var !badReg (AI.d x))) = false -> (BE.den (.not (.var !badReg (AI.s x))) = true -> Q (SV.int .i64 (.lit 182))) /\ (BE.den (.not (.var !badReg (AI.s x))) = false -> Q (SV.int .i64 (.lit 0))))) := by kernel_rfl
theorem rewr_6 (x : AI) (c n : Int) (w : ByteArray) (ch : Bool) (Q : SV -> Prop) : sxFunc P WR (fun _ => 40) Tryd.f22 [xIn x, fmI 6 c n w ch] [] (fun v _ => Q v) =
    ((BE.den (.not (.var !badReg (AI.d x))) = true -> Q (SV.int .i64 (.lit 182))) /\ (BE.den (.not (.var !badReg (AI.d x))) = false -> (BE.den (.not (.var (decide (numOk (AI.imm x) (AI.long x))))) = true -> Q (SV.int .i64 (.lit 183))) /\ (BE.den (.not (.var (decide (numOk (AI.imm x) (AI.long x))))) = false -> Q (SV.int .i64 (.lit 0))))) := by kernel_rfl
theorem rewr_7 (x : AI) (c n : Int) (w : ByteArray) (ch : Bool) (Q : SV -> Prop) : sxFunc P WR (fun _ => 40) Tryd.f22 [xIn x, fmI 7 c n w ch] [] (fun v _ => Q v) =
    ((BE.den (.not (.var !badReg (AI.d x))) = true -> Q (SV.int .i64 (.lit 182))) /\ (BE.den (.not (.var !badReg (AI.d x))) = false -> Q (SV.int .i64 (.lit 0)))) := by kernel_rfl
theorem rewr_8 (x : AI) (c n : Int) (w : ByteArray) (ch : Bool) (Q : SV -> Prop) : sxFunc P WR (fun _ => 40) Tryd.f22 [xIn x, fmI 8 c n w ch] [] (fun v _ => Q v) =
    ((BE.den (.not (.var !badReg (AI.d x))) = true -> Q (SV.int .i64 (.lit 182))) /\ (BE.den (.not (.var !badReg (AI.d x))) = false -> Q (SV.int .i64 (.lit 0)))) := by kernel_rfl
theorem rewr_9 (x : AI) (c n : Int) (w : ByteArray) (ch : Bool) (Q : SV -> Prop) : sxFunc P WR (fun _ => 40) Tryd.f22 [xIn x, fmI 9 c n w ch] [] (fun v _ => Q v) =
    ((BE.den (.not (.var (decide (numOk (AI.imm x) (AI.long x))))) = true -> Q (SV.int .i64 (.lit 183))) /\ (BE.den (.not (.var (decide (numOk (AI.imm x) (AI.long x))))) = false -> Q (SV.int .i64 (.lit 0)))) := by kernel_rfl
theorem rewr_10 (x : AI) (c n : Int) (w : ByteArray) (ch : Bool) (Q : SV -> Prop) : sxFunc P WR (fun _ => 40) Tryd.f22 [xIn x, fmI 10 c n w ch] [] (fun v _ => Q v) =
    ((BE.den (.cmp .lss (.var (AI.cc x)) (.lit 2)) = true -> Q (SV.int .i64 (.lit 181))) /\ (BE.den (.cmp .lss (.var (AI.cc x)) (.lit 2)) = false -> (BE.den (.cmp .gtr (.var (AI.cc x)) (.lit 7)) = true -> Q (SV.int .i64 (.lit 181))) /\ (BE.den (.cmp .gtr (.var (AI.cc x)) (.lit 7)) = false -> (BE.den (.not (.var (decide (numOk (AI.imm x) (AI.long x))))) = true -> Q (SV.int .i64 (.lit 183))) /\ (BE.den (.not (.var (decide (numOk (AI.imm x) (AI.long x))))) = false -> Q (SV.int .i64 (.lit 0)))))) := by kernel_rfl
theorem rewr_11 (x : AI) (c n : Int) (w : ByteArray) (ch : Bool) (Q : SV -> Prop) : sxFunc P WR (fun _ => 40) Tryd.f22 [xIn x, fmI 11 c n w ch] [] (fun v _ => Q v) =
    (Q (SV.int .i64 (.lit 0))) := by kernel_rfl
def wrgK (k : Int) (x : AI) : Option Int :=
  if k = 0 then some 181 else if k = 1 then some (encE .movImm x) else if k = 2 then some (encE (.two 0) x) else if k = 3 then some (encE .load x)
  else if k = 4 then some (encE .store x) else if k = 5 then some (encE .imul x) else if k = 6 then some (encE (.imm 0) x) else if k = 7 then some (encE (.one 0 0) x)
  else if k = 8 then some (encE (.stack 0) x) else if k = 9 then some (encE .jmp x) else if k = 10 then some (encE .jcc x) else if k = 11 then some 0 else none
def wrF : PureFn := fun args => match args with
  | [.agg [.int .i64 op, .bool w, .bool l, .int .i64 d, .int .i64 s, .int .i64 dp, .int .i64 im, .int .i64 cc], .agg [.int .i64 (.lit k), .int .u8 c, .int .u8 n, .strE st, .bool (.lit ch)]] =>
    (wrgK k ⟨op.den, w.den, l.den, d.den, s.den, dp.den, im.den, cc.den⟩).map fun v => (none, .int .i64 (.var v))
  | _ => none
theorem den_lit {n v : Int} (h : n = v) (ν : Nat -> Pl) : SV.den ν (.int .i64 (.lit n)) = SV.den ν (.int .i64 (.var v)) := by subst h; rfl
theorem wr_run0 (x : AI) (c n : Int) (w : ByteArray) (ch : Bool) : sxFunc P WR (fun _ => 40) Tryd.f22 [xIn x, fmI 0 c n w ch] [] (fun v' _ => ∀ ν, v'.den ν = SV.den ν (.int .i64 (.var (181)))) = True := by
  apply eq_true
  rw [rewr_0]; exact den_lit rfl
theorem wr_run1 (x : AI) (c n : Int) (w : ByteArray) (ch : Bool) : sxFunc P WR (fun _ => 40) Tryd.f22 [xIn x, fmI 1 c n w ch] [] (fun v' _ => ∀ ν, v'.den ν = SV.den ν (.int .i64 (.var (encE .movImm x)))) = True := by
  apply eq_true
  rw [rewr_1]
  simp only [BE.den, IE.den, cmpI_eql, cmpI_lss, cmpI_leq, cmpI_gtr, cmpI_geq, encE, Bool.not_not, Bool.not_eq_true', Bool.not_eq_false', decide_eq_true_eq, decide_eq_false_iff_not]
  grind [den_lit]
theorem wr_run2 (x : AI) (c n : Int) (w : ByteArray) (ch : Bool) : sxFunc P WR (fun _ => 40) Tryd.f22 [xIn x, fmI 2 c n w ch] [] (fun v' _ => ∀ ν, v'.den ν = SV.den ν (.int .i64 (.var (encE (.two 0) x)))) = True := by
  apply eq_true
  rw [rewr_2]
  simp only [BE.den, IE.den, cmpI_eql, cmpI_lss, cmpI_leq, cmpI_gtr, cmpI_geq, encE, Bool.not_not, Bool.not_eq_true', Bool.not_eq_false', decide_eq_true_eq, decide_eq_false_iff_not]
  grind [den_lit]
theorem wr_run3 (x : AI) (c n : Int) (w : ByteArray) (ch : Bool) : sxFunc P WR (fun _ => 40) Tryd.f22 [xIn x, fmI 3 c n w ch] [] (fun v' _ => ∀ ν, v'.den ν = SV.den ν (.int .i64 (.var (encE .load x)))) = True := by
  apply eq_true
  rw [rewr_3]
  simp only [BE.den, IE.den, cmpI_eql, cmpI_lss, cmpI_leq, cmpI_gtr, cmpI_geq, encE, Bool.not_not, Bool.not_eq_true', Bool.not_eq_false', decide_eq_true_eq, decide_eq_false_iff_not]
  grind [den_lit]
theorem wr_run4 (x : AI) (c n : Int) (w : ByteArray) (ch : Bool) : sxFunc P WR (fun _ => 40) Tryd.f22 [xIn x, fmI 4 c n w ch] [] (fun v' _ => ∀ ν, v'.den ν = SV.den ν (.int .i64 (.var (encE .store x)))) = True := by
  apply eq_true
  rw [rewr_4]
  simp only [BE.den, IE.den, cmpI_eql, cmpI_lss, cmpI_leq, cmpI_gtr, cmpI_geq, encE, Bool.not_not, Bool.not_eq_true', Bool.not_eq_false', decide_eq_true_eq, decide_eq_false_iff_not]
  grind [den_lit]
theorem wr_run5 (x : AI) (c n : Int) (w : ByteArray) (ch : Bool) : sxFunc P WR (fun _ => 40) Tryd.f22 [xIn x, fmI 5 c n w ch] [] (fun v' _ => ∀ ν, v'.den ν = SV.den ν (.int .i64 (.var (encE .imul x)))) = True := by
  apply eq_true
  rw [rewr_5]
  simp only [BE.den, IE.den, cmpI_eql, cmpI_lss, cmpI_leq, cmpI_gtr, cmpI_geq, encE, Bool.not_not, Bool.not_eq_true', Bool.not_eq_false', decide_eq_true_eq, decide_eq_false_iff_not]
  grind [den_lit]
theorem wr_run6 (x : AI) (c n : Int) (w : ByteArray) (ch : Bool) : sxFunc P WR (fun _ => 40) Tryd.f22 [xIn x, fmI 6 c n w ch] [] (fun v' _ => ∀ ν, v'.den ν = SV.den ν (.int .i64 (.var (encE (.imm 0) x)))) = True := by
  apply eq_true
  rw [rewr_6]
  simp only [BE.den, IE.den, cmpI_eql, cmpI_lss, cmpI_leq, cmpI_gtr, cmpI_geq, encE, Bool.not_not, Bool.not_eq_true', Bool.not_eq_false', decide_eq_true_eq, decide_eq_false_iff_not]
  grind [den_lit]
theorem wr_run7 (x : AI) (c n : Int) (w : ByteArray) (ch : Bool) : sxFunc P WR (fun _ => 40) Tryd.f22 [xIn x, fmI 7 c n w ch] [] (fun v' _ => ∀ ν, v'.den ν = SV.den ν (.int .i64 (.var (encE (.one 0 0) x)))) = True := by
  apply eq_true
  rw [rewr_7]
  simp only [BE.den, IE.den, cmpI_eql, cmpI_lss, cmpI_leq, cmpI_gtr, cmpI_geq, encE, Bool.not_not, Bool.not_eq_true', Bool.not_eq_false', decide_eq_true_eq, decide_eq_false_iff_not]
  grind [den_lit]
theorem wr_run8 (x : AI) (c n : Int) (w : ByteArray) (ch : Bool) : sxFunc P WR (fun _ => 40) Tryd.f22 [xIn x, fmI 8 c n w ch] [] (fun v' _ => ∀ ν, v'.den ν = SV.den ν (.int .i64 (.var (encE (.stack 0) x)))) = True := by
  apply eq_true
  rw [rewr_8]
  simp only [BE.den, IE.den, cmpI_eql, cmpI_lss, cmpI_leq, cmpI_gtr, cmpI_geq, encE, Bool.not_not, Bool.not_eq_true', Bool.not_eq_false', decide_eq_true_eq, decide_eq_false_iff_not]
  grind [den_lit]
theorem wr_run9 (x : AI) (c n : Int) (w : ByteArray) (ch : Bool) : sxFunc P WR (fun _ => 40) Tryd.f22 [xIn x, fmI 9 c n w ch] [] (fun v' _ => ∀ ν, v'.den ν = SV.den ν (.int .i64 (.var (encE .jmp x)))) = True := by
  apply eq_true
  rw [rewr_9]
  simp only [BE.den, IE.den, cmpI_eql, cmpI_lss, cmpI_leq, cmpI_gtr, cmpI_geq, encE, Bool.not_not, Bool.not_eq_true', Bool.not_eq_false', decide_eq_true_eq, decide_eq_false_iff_not]
  grind [den_lit]
theorem wr_run10 (x : AI) (c n : Int) (w : ByteArray) (ch : Bool) : sxFunc P WR (fun _ => 40) Tryd.f22 [xIn x, fmI 10 c n w ch] [] (fun v' _ => ∀ ν, v'.den ν = SV.den ν (.int .i64 (.var (encE .jcc x)))) = True := by
  apply eq_true
  rw [rewr_10]
  simp only [BE.den, IE.den, cmpI_eql, cmpI_lss, cmpI_leq, cmpI_gtr, cmpI_geq, encE, Bool.not_not, Bool.not_eq_true', Bool.not_eq_false', decide_eq_true_eq, decide_eq_false_iff_not]
  grind [den_lit]
theorem wr_run11 (x : AI) (c n : Int) (w : ByteArray) (ch : Bool) : sxFunc P WR (fun _ => 40) Tryd.f22 [xIn x, fmI 11 c n w ch] [] (fun v' _ => ∀ ν, v'.den ν = SV.den ν (.int .i64 (.var (0)))) = True := by
  apply eq_true
  rw [rewr_11]; exact den_lit rfl
theorem wr_run {k v : Int} {x : AI} (c n : Int) (w : ByteArray) (ch : Bool) (h : wrgK k x = some v) :
    sxFunc P WR (fun _ => 40) Tryd.f22 [xIn x, fmI k c n w ch] [] (fun v' _ => ∀ ν, v'.den ν = SV.den ν (.int .i64 (.var v))) := by
  unfold wrgK at h
  by_cases h0 : k = 0
  · rw [if_pos h0] at h; subst h0; obtain rfl := Option.some.inj h; rw [wr_run0]; trivial
  rw [if_neg h0] at h
  by_cases h1 : k = 1
  · rw [if_pos h1] at h; subst h1; obtain rfl := Option.some.inj h; rw [wr_run1]; trivial
  rw [if_neg h1] at h
  by_cases h2 : k = 2
  · rw [if_pos h2] at h; subst h2; obtain rfl := Option.some.inj h; rw [wr_run2]; trivial
  rw [if_neg h2] at h
  by_cases h3 : k = 3
  · rw [if_pos h3] at h; subst h3; obtain rfl := Option.some.inj h; rw [wr_run3]; trivial
  rw [if_neg h3] at h
  by_cases h4 : k = 4
  · rw [if_pos h4] at h; subst h4; obtain rfl := Option.some.inj h; rw [wr_run4]; trivial
  rw [if_neg h4] at h
  by_cases h5 : k = 5
  · rw [if_pos h5] at h; subst h5; obtain rfl := Option.some.inj h; rw [wr_run5]; trivial
  rw [if_neg h5] at h
  by_cases h6 : k = 6
  · rw [if_pos h6] at h; subst h6; obtain rfl := Option.some.inj h; rw [wr_run6]; trivial
  rw [if_neg h6] at h
  by_cases h7 : k = 7
  · rw [if_pos h7] at h; subst h7; obtain rfl := Option.some.inj h; rw [wr_run7]; trivial
  rw [if_neg h7] at h
  by_cases h8 : k = 8
  · rw [if_pos h8] at h; subst h8; obtain rfl := Option.some.inj h; rw [wr_run8]; trivial
  rw [if_neg h8] at h
  by_cases h9 : k = 9
  · rw [if_pos h9] at h; subst h9; obtain rfl := Option.some.inj h; rw [wr_run9]; trivial
  rw [if_neg h9] at h
  by_cases h10 : k = 10
  · rw [if_pos h10] at h; subst h10; obtain rfl := Option.some.inj h; rw [wr_run10]; trivial
  rw [if_neg h10] at h
  by_cases h11 : k = 11
  · rw [if_pos h11] at h; subst h11; obtain rfl := Option.some.inj h; rw [wr_run11]; trivial
  rw [if_neg h11] at h
  cases h
theorem wr_ok : PureOk P 22 wrF := by
  have hs := func_sound (un := fun _ => 40) WR_ok Tryd.func22
  refine pure_of hs ?_
  intro args p v hF hp
  unfold wrF at hF
  split at hF
  · rename_i op w l d s dp im cc k c n st ch
    rw [Option.map_eq_some_iff] at hF
    obtain ⟨v', hv, e⟩ := hF
    simp only [Prod.mk.injEq] at e
    obtain ⟨rfl, rfl⟩ := e
    refine ⟨[xIn ⟨op.den, w.den, l.den, d.den, s.den, dp.den, im.den, cc.den⟩, fmI k c.den n.den st ch], rfl, ?_, ?_, trivial, wr_run c.den n.den st ch hv⟩
    · exact ⟨⟨trivial, trivial, trivial, trivial, trivial, trivial, trivial, trivial, trivial⟩, ⟨trivial, trivial, trivial, trivial, trivial, trivial⟩, trivial⟩
    · exact ⟨⟨trivial, trivial, trivial, trivial, trivial, trivial, trivial, trivial, trivial⟩, ⟨trivial, trivial, trivial, trivial, trivial, trivial⟩, trivial⟩
  · simp at hF
def kOf : Option Form -> Nat
  | none => 0
  | some .movImm => 1
  | some (.two _) => 2
  | some .load => 3
  | some .store => 4
  | some .imul => 5
  | some (.imm _) => 6
  | some (.one _ _) => 7
  | some (.stack _) => 8
  | some .jmp => 9
  | some .jcc => 10
  | some .ret => 11
def fmO (op : Int) : Nat -> Out
  | 0 => fmOut 0 false (fun _ => formOf op = none) (fun _ => .lit 0) fun _ => .lit 0
  | 1 => fmOut 1 false (fun _ => formOf op = some .movImm) (fun _ => .lit 184) fun _ => .lit 0
  | 2 => fmOut 2 false (fun x => formOf op = some (.two x.c)) (fun x => .var (FmP.c x)) fun _ => .lit 0
  | 3 => fmOut 3 true (fun _ => formOf op = some .load) (fun _ => .lit 139) fun _ => .lit 0
  | 4 => fmOut 4 true (fun _ => formOf op = some .store) (fun _ => .lit 137) fun _ => .lit 0
  | 5 => fmOut 5 false (fun _ => formOf op = some .imul) (fun _ => .lit 175) fun _ => .lit 0
  | 6 => fmOut 6 true (fun x => formOf op = some (.imm x.n)) (fun _ => .lit 131) fun x => .var (FmP.n x)
  | 7 => fmOut 7 false (fun x => formOf op = some (.one x.c x.n)) (fun x => .var (FmP.c x)) fun x => .var (FmP.n x)
  | 8 => fmOut 8 false (fun x => formOf op = some (.stack x.c)) (fun x => .var (FmP.c x)) fun _ => .lit 0
  | 9 => fmOut 9 true (fun _ => formOf op = some .jmp) (fun _ => .lit 235) fun _ => .lit 0
  | 10 => fmOut 10 true (fun _ => formOf op = some .jcc) (fun _ => .lit 112) fun _ => .lit 0
  | _ => fmOut 11 false (fun _ => formOf op = some .ret) (fun _ => .lit 195) fun _ => .lit 0
def fmPre1 (k : Nat) : Ins -> List SV -> Prop := fun ins pl => match ins, pl with
  | [], [.int .i64 op] => kOf (formOf op.den) = k
  | _, _ => False
def fmOuts1 (k : Nat) : Ins -> List SV -> List Out := fun ins pl => match ins, pl with
  | [], [.int .i64 op] => [fmO op.den k]
  | _, _ => []
abbrev fmS1 (k : Nat) : SpecFn := rdSpec [.plain] (fmPre1 k) (fmOuts1 k)
abbrev fmG1 (k : Nat) : Guess := rdGuess [.plain] (fmOuts1 k)
theorem outsK_of : ∀ {l : List Out} {f : Out -> Prop}, (∀ o ∈ l, f o) -> outsK l f
  | [], f, h => trivial
  | [o], f, h => h o (by simp)
  | o :: p :: r, f, h => ⟨h o (by simp), outsK_of fun q hq => h q (by simp [hq])⟩
theorem fm1_all {op : Int} {k n : Nat} {f : SV -> List SObj -> List SV -> Prop} (hk : kOf (formOf op) = k) (h : (fmO op k).all n f) : outsK (fmOuts op) fun o => o.all n f := by
  refine outsK_of fun o ho => ?_
  unfold fmOuts at ho
  simp only [List.mem_cons, List.not_mem_nil, or_false] at ho
  subst hk
  rcases ho with rfl | rfl | rfl | rfl | rfl | rfl | rfl | rfl | rfl | rfl | rfl | rfl <;>
    exact fun x hx => by
      have hx' := hx
      rw [hx'] at h
      exact h x hx
theorem fm1_ok (k : Nat) : SpecOk P 21 (fmS1 k) := by
  intro B ν hp w args K h1 h2 h3 hx
  refine form_ok B ν hp w args K h1 h2 h3 ?_
  match args with
  | [] => exact hx
  | _ :: _ :: _ => exact hx
  | [x] =>
    simp only [rdSpec, viewArgs, asksP, withIns] at hx ⊢
    split at hx
    · rename_i ho
      rw [if_pos ho]
      obtain ⟨hp1, hp2⟩ := hx
      unfold fmPre1 at hp1
      split at hp1
      · rename_i op he
        simp only [List.cons.injEq, and_true] at he
        subst he
        exact ⟨trivial, fm1_all hp1 hp2⟩
      · exact hp1.elim
    · rename_i ho
      rw [if_neg ho]; exact hx
def forceC (d : Nat) (b : Bool) : Code -> Code
  | .seq a c => .seq (forceC d b a) (forceC d b c)
  | .cond c x y => if tmpOf c = d then (if b then forceC d b x else forceC d b y) else .cond c (forceC d b x) (forceC d b y)
  | .block i c => .block i (forceC d b c)
  | .loop c => .loop (forceC d b c)
  | c => c
noncomputable def A0p : FuncId -> Option Cal := inl P (fun _ _ => .plain 40) (fun _ => none) 6
def sibT (b : Bool) : List (FuncId × Cal) := [(sureId 19 b, .pure fun _ => none)]
noncomputable def MB (b : Bool) : FuncId -> Option Cal := inl P (fun _ _ => .plain 40) (table (sibT b)) 4
theorem MB_ok (b : Bool) : GammaOk P (MB b) := inl_ok (table_cons none_cal fun g s h => by simp [table] at h) 4
noncomputable def memC (b : Bool) : Cal := .spec (sxFunc P (MB b) (fun _ => .plain 40) Tryd.f26)
  (vxFunc P A0p { Tryd.f26 with body := (Tryd.f26).body.map (forceC 19 b) })
theorem memC_ok (b : Bool) : CalOk P 26 (memC b) := func_sound (un := fun _ => .plain 40) (MB_ok b) Tryd.func26
noncomputable def feK (k : Nat) : List (FuncId × Cal) := [(21, .spec (fmS1 k) (fmG1 k)), (22, .pure wrF)]
theorem feK_ok (k : Nat) : GammaOk P (table (feK k)) := table_cons (spec_cal (fm1_ok k)) (table_cons wr_ok fun g s h => by simp [table] at h)
noncomputable def FEK (k : Nat) : FuncId -> Option Cal := inl P (fun _ _ => .plain 40) (table (feK k)) 6
theorem FEK_ok (k : Nat) : GammaOk P (FEK k) := inl_ok (feK_ok k) 6
noncomputable def FEM (k : Nat) (b : Bool) : FuncId -> Option Cal := inl P (fun _ _ => .plain 40) (table ((26, memC b) :: feK k)) 6
theorem FEM_ok (k : Nat) (b : Bool) : GammaOk P (FEM k b) := inl_ok (table_cons (memC_ok b) (feK_ok k)) 6
end Go.Proofs.YtajcmjjgnbaahaaDoor.Amd
