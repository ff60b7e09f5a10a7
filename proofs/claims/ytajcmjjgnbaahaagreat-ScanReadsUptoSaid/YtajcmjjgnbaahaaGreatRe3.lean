/- The reference's wrong, fits and reg as pure functions; the tables of Encode's runs. -/
import Derived.Test.YtajcmjjgnbaahaaGreatRf3
set_option linter.unusedVariables false
set_option linter.unusedSimpArgs false
namespace Go.Proofs.YtajcmjjgnbaahaaGreat.Amd
open Go Go.Proofs.YtajcmjjgnbaahaaGreat.Sx Go.RowKit
def fitF : zBN := fun args => match args with
 | [.int .i64 v, .bool l] => some (none, .bool (.var (decide (zAs v.den l.den))))
 | _ => none
def rgF : zBN := fun args => match args with
 | [.int .i64 r] => some (none, .bool (.var (!zV r.den)))
 | _ => none
theorem zQb (v : Int) (l : Bool) (Q : SV -> Prop) : zH P A0 (fun _ => 40) Tryz.f45 [.int .i64 (.var v), .bool (.var l)] [] (fun v _ => Q v) =
  ((l = true -> (BE.den (.cmp .geq (.var v) (.lit (-2147483648))) = true -> Q (SV.bool (.cmp .leq (.var v) (.lit 2147483647)))) /\ (BE.den (.cmp .geq (.var v) (.lit (-2147483648))) = false -> Q (SV.bool (.lit false)))) /\ (l = false -> (BE.den (.cmp .geq (.var v) (.lit (-128))) = true -> Q (SV.bool (.cmp .leq (.var v) (.lit 127)))) /\ (BE.den (.cmp .geq (.var v) (.lit (-128))) = false -> Q (SV.bool (.lit false))))) := by kernel_rfl
theorem zS1 (r : Int) (Q : SV -> Prop) : zH P A0 (fun _ => 40) Tryz.f44 [.int .i64 (.var r)] [] (fun v _ => Q v) =
  ((BE.den (.cmp .geq (.var r) (.lit 0)) = true -> Q (SV.bool (.cmp .leq (.var r) (.lit 15)))) /\ (BE.den (.cmp .geq (.var r) (.lit 0)) = false -> Q (SV.bool (.lit false)))) := by kernel_rfl
theorem zTv (x n : Int) : BE.den (.cmp .geq (.var x) (.lit n)) = decide (n <= x) := by simp only [BE.den, IE.den, zAG]
theorem zNG (x n : Int) : BE.den (.cmp .leq (.var x) (.lit n)) = decide (x <= n) := by simp only [BE.den, IE.den, zAo]
theorem zQa : zAr P 45 fitF := by
 have hs := zN (un := fun _ => 40) zK7 Tryz.func45
 refine zBO hs ?_
 intro args p v hF hp
 unfold fitF at hF
 split at hF
 ·rename_i v l
  simp only [Option.some.injEq, Prod.mk.injEq] at hF
  obtain ⟨rfl, rfl⟩ := hF
  refine ⟨[.int .i64 (.var v.den), .bool (.var l.den)], rfl, ⟨trivial, trivial, trivial⟩, ⟨trivial, trivial, trivial⟩, trivial, ?_⟩
  rw [zQb]
  generalize v.den = v
  generalize l.den = l
  have e : ∀ b : BE, b.den = decide (zAs v l) -> ∀ ν, SV.den ν (.bool b) = SV.den ν (.bool (.var (decide (zAs v l)))) := fun b hb ν => by
   show Value.bool b.den = Value.bool (decide (zAs v l)); rw [hb]
  refine ⟨fun h => ?_, fun h => ?_⟩ <;> subst h <;> simp only [zTv, decide_eq_true_eq, decide_eq_false_iff_not] <;> refine ⟨fun h1 => e _ ?_, fun h1 => e _ ?_⟩
  ·rw [zNG]; unfold zAs; simp [h1]
  ·unfold zAs; simp [BE.den, h1]
  ·rw [zNG]; unfold zAs; simp [h1]
  ·unfold zAs; simp [BE.den, h1]
 ·simp at hF
theorem zS0 : zAr P 44 rgF := by
 have hs := zN (un := fun _ => 40) zK7 Tryz.func44
 refine zBO hs ?_
 intro args p v hF hp
 unfold rgF at hF
 split at hF
 ·rename_i v
  simp only [Option.some.injEq, Prod.mk.injEq] at hF
  obtain ⟨rfl, rfl⟩ := hF
  refine ⟨[.int .i64 (.var v.den)], rfl, ⟨trivial, trivial⟩, ⟨trivial, trivial⟩, trivial, ?_⟩
  rw [zS1]
  generalize v.den = v
  have e : ∀ b : BE, b.den = !zV v -> ∀ ν, SV.den ν (.bool b) = SV.den ν (.bool (.var (!zV v))) := fun b hb ν => by
   show Value.bool b.den = Value.bool (!zV v); rw [hb]
  simp only [zTv, decide_eq_true_eq, decide_eq_false_iff_not]
  refine ⟨fun h1 => e _ ?_, fun h1 => e _ ?_⟩
  ·rw [zNG]; unfold zV; rw [Bool.eq_iff_iff]; simp; omega
  ·unfold zV; simp [BE.den]; omega
 ·simp at hF
def wrT : List (FuncId × Cal) := [(45, .pure fitF), (44, .pure rgF)]
theorem zXH : zO P (zx wrT) := zG zQa (zG zS0 fun g s h => by simp [zx] at h)
noncomputable def WR : FuncId -> Option Cal := inl P (fun _ _ => 40) (zx wrT) 4
theorem zbW : zO P WR := zAh zXH 4
def fmI (k : Int) (c n : Int) (w : ByteArray) (ch : Bool) : SV := .agg [.int .i64 (.lit k), .int .u8 (.var c), .int .u8 (.var n), .strE w, .bool (.lit ch)]
theorem zXt (x : AI) (c n : Int) (w : ByteArray) (ch : Bool) (Q : SV -> Prop) : zH P WR (fun _ => 40) Tryz.f38 [xIn x, fmI 0 c n w ch] [] (fun v _ => Q v) =
  (Q (SV.int .i64 (.lit 181))) := by kernel_rfl
theorem zXs (x : AI) (c n : Int) (w : ByteArray) (ch : Bool) (Q : SV -> Prop) : zH P WR (fun _ => 40) Tryz.f38 [xIn x, fmI 1 c n w ch] [] (fun v _ => Q v) =
  ((BE.den (.not (.var !zV (AI.d x))) = true -> Q (SV.int .i64 (.lit 182))) /\ (BE.den (.not (.var !zV (AI.d x))) = false -> (BE.den (.cmp .lss (.var (AI.imm x)) (.lit 0)) = true -> Q (SV.int .i64 (.lit 183))) /\ (BE.den (.cmp .lss (.var (AI.imm x)) (.lit 0)) = false -> (BE.den (.cmp .gtr (.var (AI.imm x)) (.lit 4294967295)) = true -> Q (SV.int .i64 (.lit 183))) /\ (BE.den (.cmp .gtr (.var (AI.imm x)) (.lit 4294967295)) = false -> Q (SV.int .i64 (.lit 0)))))) := by kernel_rfl
theorem zXr (x : AI) (c n : Int) (w : ByteArray) (ch : Bool) (Q : SV -> Prop) : zH P WR (fun _ => 40) Tryz.f38 [xIn x, fmI 2 c n w ch] [] (fun v _ => Q v) =
  ((BE.den (.not (.var !zV (AI.d x))) = true -> Q (SV.int .i64 (.lit 182))) /\ (BE.den (.not (.var !zV (AI.d x))) = false -> (BE.den (.not (.var !zV (AI.s x))) = true -> Q (SV.int .i64 (.lit 182))) /\ (BE.den (.not (.var !zV (AI.s x))) = false -> Q (SV.int .i64 (.lit 0))))) := by kernel_rfl
theorem zXq (x : AI) (c n : Int) (w : ByteArray) (ch : Bool) (Q : SV -> Prop) : zH P WR (fun _ => 40) Tryz.f38 [xIn x, fmI 3 c n w ch] [] (fun v _ => Q v) =
  ((BE.den (.not (.var !zV (AI.d x))) = true -> Q (SV.int .i64 (.lit 182))) /\ (BE.den (.not (.var !zV (AI.d x))) = false -> (BE.den (.not (.var !zV (AI.s x))) = true -> Q (SV.int .i64 (.lit 182))) /\ (BE.den (.not (.var !zV (AI.s x))) = false -> (BE.den (.not (.var (decide (zAs (AI.disp x) (AI.long x))))) = true -> Q (SV.int .i64 (.lit 183))) /\ (BE.den (.not (.var (decide (zAs (AI.disp x) (AI.long x))))) = false -> Q (SV.int .i64 (.lit 0)))))) := by kernel_rfl
theorem zXp (x : AI) (c n : Int) (w : ByteArray) (ch : Bool) (Q : SV -> Prop) : zH P WR (fun _ => 40) Tryz.f38 [xIn x, fmI 4 c n w ch] [] (fun v _ => Q v) =
  ((BE.den (.not (.var !zV (AI.d x))) = true -> Q (SV.int .i64 (.lit 182))) /\ (BE.den (.not (.var !zV (AI.d x))) = false -> (BE.den (.not (.var !zV (AI.s x))) = true -> Q (SV.int .i64 (.lit 182))) /\ (BE.den (.not (.var !zV (AI.s x))) = false -> (BE.den (.not (.var (decide (zAs (AI.disp x) (AI.long x))))) = true -> Q (SV.int .i64 (.lit 183))) /\ (BE.den (.not (.var (decide (zAs (AI.disp x) (AI.long x))))) = false -> Q (SV.int .i64 (.lit 0)))))) := by kernel_rfl
theorem zXo (x : AI) (c n : Int) (w : ByteArray) (ch : Bool) (Q : SV -> Prop) : zH P WR (fun _ => 40) Tryz.f38 [xIn x, fmI 5 c n w ch] [] (fun v _ => Q v) =
  ((BE.den (.not (.var !zV (AI.d x))) = true -> Q (SV.int .i64 (.lit 182))) /\ (BE.den (.not (.var !zV (AI.d x))) = false -> (BE.den (.not (.var !zV (AI.s x))) = true -> Q (SV.int .i64 (.lit 182))) /\ (BE.den (.not (.var !zV (AI.s x))) = false -> Q (SV.int .i64 (.lit 0))))) := by kernel_rfl
theorem zXn (x : AI) (c n : Int) (w : ByteArray) (ch : Bool) (Q : SV -> Prop) : zH P WR (fun _ => 40) Tryz.f38 [xIn x, fmI 6 c n w ch] [] (fun v _ => Q v) =
  ((BE.den (.not (.var !zV (AI.d x))) = true -> Q (SV.int .i64 (.lit 182))) /\ (BE.den (.not (.var !zV (AI.d x))) = false -> (BE.den (.not (.var (decide (zAs (AI.imm x) (AI.long x))))) = true -> Q (SV.int .i64 (.lit 183))) /\ (BE.den (.not (.var (decide (zAs (AI.imm x) (AI.long x))))) = false -> Q (SV.int .i64 (.lit 0))))) := by kernel_rfl
theorem zXm (x : AI) (c n : Int) (w : ByteArray) (ch : Bool) (Q : SV -> Prop) : zH P WR (fun _ => 40) Tryz.f38 [xIn x, fmI 7 c n w ch] [] (fun v _ => Q v) =
  ((BE.den (.not (.var !zV (AI.d x))) = true -> Q (SV.int .i64 (.lit 182))) /\ (BE.den (.not (.var !zV (AI.d x))) = false -> Q (SV.int .i64 (.lit 0)))) := by kernel_rfl
theorem zXl (x : AI) (c n : Int) (w : ByteArray) (ch : Bool) (Q : SV -> Prop) : zH P WR (fun _ => 40) Tryz.f38 [xIn x, fmI 8 c n w ch] [] (fun v _ => Q v) =
  ((BE.den (.not (.var !zV (AI.d x))) = true -> Q (SV.int .i64 (.lit 182))) /\ (BE.den (.not (.var !zV (AI.d x))) = false -> Q (SV.int .i64 (.lit 0)))) := by kernel_rfl
theorem zXk (x : AI) (c n : Int) (w : ByteArray) (ch : Bool) (Q : SV -> Prop) : zH P WR (fun _ => 40) Tryz.f38 [xIn x, fmI 9 c n w ch] [] (fun v _ => Q v) =
  ((BE.den (.not (.var (decide (zAs (AI.imm x) (AI.long x))))) = true -> Q (SV.int .i64 (.lit 183))) /\ (BE.den (.not (.var (decide (zAs (AI.imm x) (AI.long x))))) = false -> Q (SV.int .i64 (.lit 0)))) := by kernel_rfl
theorem zVN (x : AI) (c n : Int) (w : ByteArray) (ch : Bool) (Q : SV -> Prop) : zH P WR (fun _ => 40) Tryz.f38 [xIn x, fmI 10 c n w ch] [] (fun v _ => Q v) =
  ((BE.den (.cmp .lss (.var (AI.cc x)) (.lit 2)) = true -> Q (SV.int .i64 (.lit 181))) /\ (BE.den (.cmp .lss (.var (AI.cc x)) (.lit 2)) = false -> (BE.den (.cmp .gtr (.var (AI.cc x)) (.lit 7)) = true -> Q (SV.int .i64 (.lit 181))) /\ (BE.den (.cmp .gtr (.var (AI.cc x)) (.lit 7)) = false -> (BE.den (.not (.var (decide (zAs (AI.imm x) (AI.long x))))) = true -> Q (SV.int .i64 (.lit 183))) /\ (BE.den (.not (.var (decide (zAs (AI.imm x) (AI.long x))))) = false -> Q (SV.int .i64 (.lit 0)))))) := by kernel_rfl
theorem zVM (x : AI) (c n : Int) (w : ByteArray) (ch : Bool) (Q : SV -> Prop) : zH P WR (fun _ => 40) Tryz.f38 [xIn x, fmI 11 c n w ch] [] (fun v _ => Q v) =
  (Q (SV.int .i64 (.lit 0))) := by kernel_rfl
def wrgK (k : Int) (x : AI) : Option Int :=
 if k = 0 then some 181 else if k = 1 then some (encE .movImm x) else if k = 2 then some (encE (.two 0) x) else if k = 3 then some (encE .load x)
 else if k = 4 then some (encE .store x) else if k = 5 then some (encE .imul x) else if k = 6 then some (encE (.imm 0) x) else if k = 7 then some (encE (.one 0 0) x)
 else if k = 8 then some (encE (.stack 0) x) else if k = 9 then some (encE .jmp x) else if k = 10 then some (encE .jcc x) else if k = 11 then some 0 else none
def wrF : zBN := fun args => match args with
 | [.agg [.int .i64 op, .bool w, .bool l, .int .i64 d, .int .i64 s, .int .i64 dp, .int .i64 im, .int .i64 cc], .agg [.int .i64 (.lit k), .int .u8 c, .int .u8 n, .strE st, .bool (.lit ch)]] =>
  (wrgK k ⟨op.den, w.den, l.den, d.den, s.den, dp.den, im.den, cc.den⟩).map fun v => (none, .int .i64 (.var v))
 | _ => none
theorem zBx {n v : Int} (h : n = v) (ν : Nat -> Pl) : SV.den ν (.int .i64 (.lit n)) = SV.den ν (.int .i64 (.var v)) := by subst h; rfl
theorem zUu (x : AI) (c n : Int) (w : ByteArray) (ch : Bool) : zH P WR (fun _ => 40) Tryz.f38 [xIn x, fmI 0 c n w ch] [] (fun v' _ => ∀ ν, v'.den ν = SV.den ν (.int .i64 (.var (181)))) = True := by
 apply eq_true
 rw [zXt]; exact zBx rfl
theorem zUt (x : AI) (c n : Int) (w : ByteArray) (ch : Bool) : zH P WR (fun _ => 40) Tryz.f38 [xIn x, fmI 1 c n w ch] [] (fun v' _ => ∀ ν, v'.den ν = SV.den ν (.int .i64 (.var (encE .movImm x)))) = True := by
 apply eq_true
 rw [zXs]
 simp only [BE.den, IE.den, za, zQ, zAo, zAS, zAG, encE, Bool.not_not, Bool.not_eq_true', Bool.not_eq_false', decide_eq_true_eq, decide_eq_false_iff_not]
 grind [zBx]
theorem zUs (x : AI) (c n : Int) (w : ByteArray) (ch : Bool) : zH P WR (fun _ => 40) Tryz.f38 [xIn x, fmI 2 c n w ch] [] (fun v' _ => ∀ ν, v'.den ν = SV.den ν (.int .i64 (.var (encE (.two 0) x)))) = True := by
 apply eq_true
 rw [zXr]
 simp only [BE.den, IE.den, za, zQ, zAo, zAS, zAG, encE, Bool.not_not, Bool.not_eq_true', Bool.not_eq_false', decide_eq_true_eq, decide_eq_false_iff_not]
 grind [zBx]
theorem zUr (x : AI) (c n : Int) (w : ByteArray) (ch : Bool) : zH P WR (fun _ => 40) Tryz.f38 [xIn x, fmI 3 c n w ch] [] (fun v' _ => ∀ ν, v'.den ν = SV.den ν (.int .i64 (.var (encE .load x)))) = True := by
 apply eq_true
 rw [zXq]
 simp only [BE.den, IE.den, za, zQ, zAo, zAS, zAG, encE, Bool.not_not, Bool.not_eq_true', Bool.not_eq_false', decide_eq_true_eq, decide_eq_false_iff_not]
 grind [zBx]
theorem zUq (x : AI) (c n : Int) (w : ByteArray) (ch : Bool) : zH P WR (fun _ => 40) Tryz.f38 [xIn x, fmI 4 c n w ch] [] (fun v' _ => ∀ ν, v'.den ν = SV.den ν (.int .i64 (.var (encE .store x)))) = True := by
 apply eq_true
 rw [zXp]
 simp only [BE.den, IE.den, za, zQ, zAo, zAS, zAG, encE, Bool.not_not, Bool.not_eq_true', Bool.not_eq_false', decide_eq_true_eq, decide_eq_false_iff_not]
 grind [zBx]
theorem zUp (x : AI) (c n : Int) (w : ByteArray) (ch : Bool) : zH P WR (fun _ => 40) Tryz.f38 [xIn x, fmI 5 c n w ch] [] (fun v' _ => ∀ ν, v'.den ν = SV.den ν (.int .i64 (.var (encE .imul x)))) = True := by
 apply eq_true
 rw [zXo]
 simp only [BE.den, IE.den, za, zQ, zAo, zAS, zAG, encE, Bool.not_not, Bool.not_eq_true', Bool.not_eq_false', decide_eq_true_eq, decide_eq_false_iff_not]
 grind [zBx]
theorem zUo (x : AI) (c n : Int) (w : ByteArray) (ch : Bool) : zH P WR (fun _ => 40) Tryz.f38 [xIn x, fmI 6 c n w ch] [] (fun v' _ => ∀ ν, v'.den ν = SV.den ν (.int .i64 (.var (encE (.imm 0) x)))) = True := by
 apply eq_true
 rw [zXn]
 simp only [BE.den, IE.den, za, zQ, zAo, zAS, zAG, encE, Bool.not_not, Bool.not_eq_true', Bool.not_eq_false', decide_eq_true_eq, decide_eq_false_iff_not]
 grind [zBx]
theorem zUn (x : AI) (c n : Int) (w : ByteArray) (ch : Bool) : zH P WR (fun _ => 40) Tryz.f38 [xIn x, fmI 7 c n w ch] [] (fun v' _ => ∀ ν, v'.den ν = SV.den ν (.int .i64 (.var (encE (.one 0 0) x)))) = True := by
 apply eq_true
 rw [zXm]
 simp only [BE.den, IE.den, za, zQ, zAo, zAS, zAG, encE, Bool.not_not, Bool.not_eq_true', Bool.not_eq_false', decide_eq_true_eq, decide_eq_false_iff_not]
 grind [zBx]
theorem zUm (x : AI) (c n : Int) (w : ByteArray) (ch : Bool) : zH P WR (fun _ => 40) Tryz.f38 [xIn x, fmI 8 c n w ch] [] (fun v' _ => ∀ ν, v'.den ν = SV.den ν (.int .i64 (.var (encE (.stack 0) x)))) = True := by
 apply eq_true
 rw [zXl]
 simp only [BE.den, IE.den, za, zQ, zAo, zAS, zAG, encE, Bool.not_not, Bool.not_eq_true', Bool.not_eq_false', decide_eq_true_eq, decide_eq_false_iff_not]
 grind [zBx]
theorem zUl (x : AI) (c n : Int) (w : ByteArray) (ch : Bool) : zH P WR (fun _ => 40) Tryz.f38 [xIn x, fmI 9 c n w ch] [] (fun v' _ => ∀ ν, v'.den ν = SV.den ν (.int .i64 (.var (encE .jmp x)))) = True := by
 apply eq_true
 rw [zXk]
 simp only [BE.den, IE.den, za, zQ, zAo, zAS, zAG, encE, Bool.not_not, Bool.not_eq_true', Bool.not_eq_false', decide_eq_true_eq, decide_eq_false_iff_not]
 grind [zBx]
theorem zSR (x : AI) (c n : Int) (w : ByteArray) (ch : Bool) : zH P WR (fun _ => 40) Tryz.f38 [xIn x, fmI 10 c n w ch] [] (fun v' _ => ∀ ν, v'.den ν = SV.den ν (.int .i64 (.var (encE .jcc x)))) = True := by
 apply eq_true
 rw [zVN]
 simp only [BE.den, IE.den, za, zQ, zAo, zAS, zAG, encE, Bool.not_not, Bool.not_eq_true', Bool.not_eq_false', decide_eq_true_eq, decide_eq_false_iff_not]
 grind [zBx]
theorem zSQ (x : AI) (c n : Int) (w : ByteArray) (ch : Bool) : zH P WR (fun _ => 40) Tryz.f38 [xIn x, fmI 11 c n w ch] [] (fun v' _ => ∀ ν, v'.den ν = SV.den ν (.int .i64 (.var (0)))) = True := by
 apply eq_true
 rw [zVM]; exact zBx rfl
theorem zXG {k v : Int} {x : AI} (c n : Int) (w : ByteArray) (ch : Bool) (h : wrgK k x = some v) :
  zH P WR (fun _ => 40) Tryz.f38 [xIn x, fmI k c n w ch] [] (fun v' _ => ∀ ν, v'.den ν = SV.den ν (.int .i64 (.var v))) := by
 unfold wrgK at h
 by_cases h0 : k = 0
 ·rw [if_pos h0] at h; subst h0; obtain rfl := Option.some.inj h; rw [zUu]; trivial
 rw [if_neg h0] at h
 by_cases h1 : k = 1
 ·rw [if_pos h1] at h; subst h1; obtain rfl := Option.some.inj h; rw [zUt]; trivial
 rw [if_neg h1] at h
 by_cases h2 : k = 2
 ·rw [if_pos h2] at h; subst h2; obtain rfl := Option.some.inj h; rw [zUs]; trivial
 rw [if_neg h2] at h
 by_cases h3 : k = 3
 ·rw [if_pos h3] at h; subst h3; obtain rfl := Option.some.inj h; rw [zUr]; trivial
 rw [if_neg h3] at h
 by_cases h4 : k = 4
 ·rw [if_pos h4] at h; subst h4; obtain rfl := Option.some.inj h; rw [zUq]; trivial
 rw [if_neg h4] at h
 by_cases h5 : k = 5
 ·rw [if_pos h5] at h; subst h5; obtain rfl := Option.some.inj h; rw [zUp]; trivial
 rw [if_neg h5] at h
 by_cases h6 : k = 6
 ·rw [if_pos h6] at h; subst h6; obtain rfl := Option.some.inj h; rw [zUo]; trivial
 rw [if_neg h6] at h
 by_cases h7 : k = 7
 ·rw [if_pos h7] at h; subst h7; obtain rfl := Option.some.inj h; rw [zUn]; trivial
 rw [if_neg h7] at h
 by_cases h8 : k = 8
 ·rw [if_pos h8] at h; subst h8; obtain rfl := Option.some.inj h; rw [zUm]; trivial
 rw [if_neg h8] at h
 by_cases h9 : k = 9
 ·rw [if_pos h9] at h; subst h9; obtain rfl := Option.some.inj h; rw [zUl]; trivial
 rw [if_neg h9] at h
 by_cases h10 : k = 10
 ·rw [if_pos h10] at h; subst h10; obtain rfl := Option.some.inj h; rw [zSR]; trivial
 rw [if_neg h10] at h
 by_cases h11 : k = 11
 ·rw [if_pos h11] at h; subst h11; obtain rfl := Option.some.inj h; rw [zSQ]; trivial
 rw [if_neg h11] at h
 cases h
theorem zZ5 : zAr P 38 wrF := by
 have hs := zN (un := fun _ => 40) zbW Tryz.func38
 refine zBO hs ?_
 intro args p v hF hp
 unfold wrF at hF
 split at hF
 ·rename_i op w l d s dp im cc k c n st ch
  rw [Option.map_eq_some_iff] at hF
  obtain ⟨v', hv, e⟩ := hF
  simp only [Prod.mk.injEq] at e
  obtain ⟨rfl, rfl⟩ := e
  refine ⟨[xIn ⟨op.den, w.den, l.den, d.den, s.den, dp.den, im.den, cc.den⟩, fmI k c.den n.den st ch], rfl, ?_, ?_, trivial, zXG c.den n.den st ch hv⟩
  ·exact ⟨⟨trivial, trivial, trivial, trivial, trivial, trivial, trivial, trivial, trivial⟩, ⟨trivial, trivial, trivial, trivial, trivial, trivial⟩, trivial⟩
  ·exact ⟨⟨trivial, trivial, trivial, trivial, trivial, trivial, trivial, trivial, trivial⟩, ⟨trivial, trivial, trivial, trivial, trivial, trivial⟩, trivial⟩
 ·simp at hF
def kOf : Option Form -> Nat
 | none => 0
 | some .movImm => 1
 | some (.two _) => 2
 | some .load => 3
 | some .store => 4
 | some .imul => 5
 | some (.imm _) => 6
 | some (.one _ _) => 7
 | some (.stack _) => 8
 | some .jmp => 9
 | some .jcc => 10
 | some .ret => 11
def fmO (op : Int) : Nat -> Out
 | 0 => zAY 0 false (fun _ => zA op = none) (fun _ => .lit 0) fun _ => .lit 0
 | 1 => zAY 1 false (fun _ => zA op = some .movImm) (fun _ => .lit 184) fun _ => .lit 0
 | 2 => zAY 2 false (fun x => zA op = some (.two x.c)) (fun x => .var (FmP.c x)) fun _ => .lit 0
 | 3 => zAY 3 true (fun _ => zA op = some .load) (fun _ => .lit 139) fun _ => .lit 0
 | 4 => zAY 4 true (fun _ => zA op = some .store) (fun _ => .lit 137) fun _ => .lit 0
 | 5 => zAY 5 false (fun _ => zA op = some .imul) (fun _ => .lit 175) fun _ => .lit 0
 | 6 => zAY 6 true (fun x => zA op = some (.imm x.n)) (fun _ => .lit 131) fun x => .var (FmP.n x)
 | 7 => zAY 7 false (fun x => zA op = some (.one x.c x.n)) (fun x => .var (FmP.c x)) fun x => .var (FmP.n x)
 | 8 => zAY 8 false (fun x => zA op = some (.stack x.c)) (fun x => .var (FmP.c x)) fun _ => .lit 0
 | 9 => zAY 9 true (fun _ => zA op = some .jmp) (fun _ => .lit 235) fun _ => .lit 0
 | 10 => zAY 10 true (fun _ => zA op = some .jcc) (fun _ => .lit 112) fun _ => .lit 0
 | _ => zAY 11 false (fun _ => zA op = some .ret) (fun _ => .lit 195) fun _ => .lit 0
def zUa (k : Nat) : Ins -> List SV -> Prop := fun ins pl => match ins, pl with
 | [], [.int .i64 op] => kOf (zA op.den) = k
 | _, _ => False
def zRp (k : Nat) : Ins -> List SV -> List Out := fun ins pl => match ins, pl with
 | [], [.int .i64 op] => [fmO op.den k]
 | _, _ => []
abbrev fmS1 (k : Nat) : zl := zAK [.plain] (zUa k) (zRp k)
abbrev fmG1 (k : Nat) : zEz := zBn [.plain] (zRp k)
theorem zNx : ∀ {l : List Out} {f : Out -> Prop}, (∀ o ∈ l, f o) -> zPK l f
 | [], f, h => trivial
 | [o], f, h => h o (by simp)
 | o :: p :: r, f, h => ⟨h o (by simp), zNx fun q hq => h q (by simp [hq])⟩
theorem zWt {op : Int} {k n : Nat} {f : SV -> List SObj -> List SV -> Prop} (hk : kOf (zA op) = k) (h : (fmO op k).all n f) : zPK (zBz op) fun o => o.all n f := by
 refine zNx fun o ho => ?_
 unfold zBz at ho
 simp only [List.mem_cons, List.not_mem_nil, or_false] at ho
 subst hk
 rcases ho with rfl | rfl | rfl | rfl | rfl | rfl | rfl | rfl | rfl | rfl | rfl | rfl <;>
  exact fun x hx => by
   have hx' := hx
   rw [hx'] at h
   exact h x hx
theorem zUb (k : Nat) : zZ P 31 (fmS1 k) := by
 intro B ν hp w args K h1 h2 h3 hx
 refine zWp B ν hp w args K h1 h2 h3 ?_
 match args with
 | [] => exact hx
 | _ :: _ :: _ => exact hx
 | [x] =>
  simp only [zAK, zAX, zPk, zJq] at hx ⊢
  split at hx
  ·rename_i ho
   rw [if_pos ho]
   obtain ⟨hp1, hp2⟩ := hx
   unfold zUa at hp1
   split at hp1
   ·rename_i op he
    simp only [List.cons.injEq, and_true] at he
    subst he
    exact ⟨trivial, zWt hp1 hp2⟩
   ·exact hp1.elim
  ·rename_i ho
   rw [if_neg ho]; exact hx
def zFz (d : Nat) (b : Bool) : Code -> Code
 | .seq a c => .seq (zFz d b a) (zFz d b c)
 | .cond c x y => if zXQ c = d then (if b then zFz d b x else zFz d b y) else .cond c (zFz d b x) (zFz d b y)
 | .block i c => .block i (zFz d b c)
 | .loop c => .loop (zFz d b c)
 | c => c
noncomputable def A0p : FuncId -> Option Cal := inl P (fun _ _ => .plain 40) (fun _ => none) 6
def sibT (b : Bool) : List (FuncId × Cal) := [(zFe 19 b, .pure fun _ => none)]
noncomputable def MB (b : Bool) : FuncId -> Option Cal := inl P (fun _ _ => .plain 40) (zx (sibT b)) 4
theorem zbg (b : Bool) : zO P (MB b) := zAh (zG zCA fun g s h => by simp [zx] at h) 4
noncomputable def memC (b : Bool) : Cal := .spec (zH P (MB b) (fun _ => .plain 40) Tryz.f42)
 (zUF P A0p { Tryz.f42 with body := (Tryz.f42).body.map (zFz 19 b) })
theorem zV7 (b : Bool) : zNN P 42 (memC b) := zN (un := fun _ => .plain 40) (zbg b) Tryz.func42
noncomputable def feK (k : Nat) : List (FuncId × Cal) := [(31, .spec (fmS1 k) (fmG1 k)), (38, .pure wrF)]
theorem zUc (k : Nat) : zO P (zx (feK k)) := zG (zAn (zUb k)) (zG zZ5 fun g s h => by simp [zx] at h)
noncomputable def FEK (k : Nat) : FuncId -> Option Cal := inl P (fun _ _ => .plain 40) (zx (feK k)) 6
theorem zDd (k : Nat) : zO P (FEK k) := zAh (zUc k) 6
noncomputable def FEM (k : Nat) (b : Bool) : FuncId -> Option Cal := inl P (fun _ _ => .plain 40) (zx ((42, memC b) :: feK k)) 6
theorem zG9 (k : Nat) (b : Bool) : zO P (FEM k b) := zAh (zG (zV7 b) (zUc k)) 6
end Go.Proofs.YtajcmjjgnbaahaaGreat.Amd
