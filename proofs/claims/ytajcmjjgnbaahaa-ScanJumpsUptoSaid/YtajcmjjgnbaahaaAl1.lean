/- What the law's own question comes to, and the fields that count. -/
import Derived.Test.YtajcmjjgnbaahaaAm5
import Derived.Test.YtajcmjjgnbaahaaAd7
namespace Go.Proofs.Ytajcmjjgnbaahaa.Amd
open Go Go.Proofs.Ytajcmjjgnbaahaa.Sx Go.RowKit
set_option linter.unusedVariables false
set_option linter.unusedSimpArgs false

theorem spec_cal {f : FuncId} {s : SpecFn} {g : Guess} (h : SpecOk P f s) : CalOk P f (.spec s g) := h
abbrev decM : SpecFn := rdSpec [.rows 1 zz1, .plain] decPre decOuts
abbrev decG : Guess := rdGuess [.rows 1 zz1, .plain] decOuts
def eT : List (FuncId × Cal) := [(10, .spec encM encG), (11, .spec decM decG)]
theorem eT_ok : GammaOk P (table eT) := table_cons (spec_cal encode_ok) (table_cons (spec_cal decode_ok) fun g s h => by simp [table] at h)
noncomputable def E1 : FuncId → Option Cal := inl P (fun _ _ => 40) (table eT) 4
theorem E1_ok : GammaOk P E1 := inl_ok eT_ok 4
theorem lives_nf (Q : SV → Prop) : sxFunc P E1 (fun _ => 40) Try.f9 [] [] (fun v _ => Q v) =
    (True ∧ (∀ (b : Nat × (Nat → Int)), EncO { op := 15, wide := BE.den (BE.lit true), long := BE.den (BE.lit false), d := 4, s := Int.ofNat 0, disp := Int.ofNat 0, imm := 24, cc := Int.ofNat 0 } b → decide (0 + List.length (amdBytes { op := 15, wide := BE.den (BE.lit true), long := BE.den (BE.lit false), d := 4, s := 0, disp := 0, imm := 24, cc := 0 }) ≤ Prod.fst b) = true ∧ Q (SV.bool (BE.var (ByteArray.toList (rowStr (fun e ↦ IE.var (Prod.snd b e)) 0 (List.length (amdBytes { op := 15, wide := BE.den (BE.lit true), long := BE.den (BE.lit false), d := 4, s := 0, disp := 0, imm := 24, cc := 0 }))) == ByteArray.toList { data := #[72, 131, 236, 24] })))) ∧ ∀ (b : Unit), amdErr { op := 15, wide := BE.den (BE.lit true), long := BE.den (BE.lit false), d := 4, s := Int.ofNat 0, disp := Int.ofNat 0, imm := 24, cc := Int.ofNat 0 } ≠ 0 → (BE.den (BE.cmp BinOp.eql (IE.var (amdErr { op := 15, wide := BE.den (BE.lit true), long := BE.den (BE.lit false), d := 4, s := 0, disp := 0, imm := 24, cc := 0 })) (IE.lit 0)) = true → Q (SV.bool (BE.lit false))) ∧ (BE.den (BE.cmp BinOp.eql (IE.var (amdErr { op := 15, wide := BE.den (BE.lit true), long := BE.den (BE.lit false), d := 4, s := 0, disp := 0, imm := 24, cc := 0 })) (IE.lit 0)) = false → Q (SV.bool (BE.lit false)))) := by kernel_rfl
theorem plain_nf (x : AI) (Q : SV → Prop) : sxFunc P A0 (fun _ => 40) Try.f12 [xIn x] [] (fun v _ => Q v) =
    ((BE.den (BE.cmp BinOp.eql (IE.var (AI.op x)) (IE.lit 1)) = true → Q (SV.agg [SV.int IntKind.i64 (IE.var (AI.op x)), SV.bool (BE.lit false), SV.bool (BE.lit false), SV.int IntKind.i64 (IE.var (AI.d x)), SV.int IntKind.i64 (IE.lit 0), SV.int IntKind.i64 (IE.lit 0), SV.int IntKind.i64 (IE.var (AI.imm x)), SV.int IntKind.i64 (IE.lit 0)])) ∧ (BE.den (BE.cmp BinOp.eql (IE.var (AI.op x)) (IE.lit 1)) = false → (BE.den (BE.cmp BinOp.eql (IE.var (AI.op x)) (IE.lit 2)) = true → Q (SV.agg [SV.int IntKind.i64 (IE.var (AI.op x)), SV.bool (BE.var (AI.wide x)), SV.bool (BE.lit false), SV.int IntKind.i64 (IE.var (AI.d x)), SV.int IntKind.i64 (IE.var (AI.s x)), SV.int IntKind.i64 (IE.lit 0), SV.int IntKind.i64 (IE.lit 0), SV.int IntKind.i64 (IE.lit 0)])) ∧ (BE.den (BE.cmp BinOp.eql (IE.var (AI.op x)) (IE.lit 2)) = false → (BE.den (BE.cmp BinOp.eql (IE.var (AI.op x)) (IE.lit 3)) = true → Q (SV.agg [SV.int IntKind.i64 (IE.var (AI.op x)), SV.bool (BE.var (AI.wide x)), SV.bool (BE.var (AI.long x)), SV.int IntKind.i64 (IE.var (AI.d x)), SV.int IntKind.i64 (IE.var (AI.s x)), SV.int IntKind.i64 (IE.var (AI.disp x)), SV.int IntKind.i64 (IE.lit 0), SV.int IntKind.i64 (IE.lit 0)])) ∧ (BE.den (BE.cmp BinOp.eql (IE.var (AI.op x)) (IE.lit 3)) = false → (BE.den (BE.cmp BinOp.eql (IE.var (AI.op x)) (IE.lit 4)) = true → Q (SV.agg [SV.int IntKind.i64 (IE.var (AI.op x)), SV.bool (BE.var (AI.wide x)), SV.bool (BE.var (AI.long x)), SV.int IntKind.i64 (IE.var (AI.d x)), SV.int IntKind.i64 (IE.var (AI.s x)), SV.int IntKind.i64 (IE.var (AI.disp x)), SV.int IntKind.i64 (IE.lit 0), SV.int IntKind.i64 (IE.lit 0)])) ∧ (BE.den (BE.cmp BinOp.eql (IE.var (AI.op x)) (IE.lit 4)) = false → (BE.den (BE.cmp BinOp.eql (IE.var (AI.op x)) (IE.lit 5)) = true → Q (SV.agg [SV.int IntKind.i64 (IE.var (AI.op x)), SV.bool (BE.var (AI.wide x)), SV.bool (BE.lit false), SV.int IntKind.i64 (IE.var (AI.d x)), SV.int IntKind.i64 (IE.var (AI.s x)), SV.int IntKind.i64 (IE.lit 0), SV.int IntKind.i64 (IE.lit 0), SV.int IntKind.i64 (IE.lit 0)])) ∧ (BE.den (BE.cmp BinOp.eql (IE.var (AI.op x)) (IE.lit 5)) = false → (BE.den (BE.cmp BinOp.eql (IE.var (AI.op x)) (IE.lit 6)) = true → Q (SV.agg [SV.int IntKind.i64 (IE.var (AI.op x)), SV.bool (BE.var (AI.wide x)), SV.bool (BE.lit false), SV.int IntKind.i64 (IE.var (AI.d x)), SV.int IntKind.i64 (IE.var (AI.s x)), SV.int IntKind.i64 (IE.lit 0), SV.int IntKind.i64 (IE.lit 0), SV.int IntKind.i64 (IE.lit 0)])) ∧ (BE.den (BE.cmp BinOp.eql (IE.var (AI.op x)) (IE.lit 6)) = false → (BE.den (BE.cmp BinOp.eql (IE.var (AI.op x)) (IE.lit 7)) = true → Q (SV.agg [SV.int IntKind.i64 (IE.var (AI.op x)), SV.bool (BE.var (AI.wide x)), SV.bool (BE.lit false), SV.int IntKind.i64 (IE.var (AI.d x)), SV.int IntKind.i64 (IE.var (AI.s x)), SV.int IntKind.i64 (IE.lit 0), SV.int IntKind.i64 (IE.lit 0), SV.int IntKind.i64 (IE.lit 0)])) ∧ (BE.den (BE.cmp BinOp.eql (IE.var (AI.op x)) (IE.lit 7)) = false → (BE.den (BE.cmp BinOp.eql (IE.var (AI.op x)) (IE.lit 8)) = true → Q (SV.agg [SV.int IntKind.i64 (IE.var (AI.op x)), SV.bool (BE.var (AI.wide x)), SV.bool (BE.lit false), SV.int IntKind.i64 (IE.var (AI.d x)), SV.int IntKind.i64 (IE.var (AI.s x)), SV.int IntKind.i64 (IE.lit 0), SV.int IntKind.i64 (IE.lit 0), SV.int IntKind.i64 (IE.lit 0)])) ∧ (BE.den (BE.cmp BinOp.eql (IE.var (AI.op x)) (IE.lit 8)) = false → (BE.den (BE.cmp BinOp.eql (IE.var (AI.op x)) (IE.lit 9)) = true → Q (SV.agg [SV.int IntKind.i64 (IE.var (AI.op x)), SV.bool (BE.var (AI.wide x)), SV.bool (BE.lit false), SV.int IntKind.i64 (IE.var (AI.d x)), SV.int IntKind.i64 (IE.var (AI.s x)), SV.int IntKind.i64 (IE.lit 0), SV.int IntKind.i64 (IE.lit 0), SV.int IntKind.i64 (IE.lit 0)])) ∧ (BE.den (BE.cmp BinOp.eql (IE.var (AI.op x)) (IE.lit 9)) = false → (BE.den (BE.cmp BinOp.eql (IE.var (AI.op x)) (IE.lit 10)) = true → Q (SV.agg [SV.int IntKind.i64 (IE.var (AI.op x)), SV.bool (BE.var (AI.wide x)), SV.bool (BE.lit false), SV.int IntKind.i64 (IE.var (AI.d x)), SV.int IntKind.i64 (IE.var (AI.s x)), SV.int IntKind.i64 (IE.lit 0), SV.int IntKind.i64 (IE.lit 0), SV.int IntKind.i64 (IE.lit 0)])) ∧ (BE.den (BE.cmp BinOp.eql (IE.var (AI.op x)) (IE.lit 10)) = false → (BE.den (BE.cmp BinOp.eql (IE.var (AI.op x)) (IE.lit 11)) = true → Q (SV.agg [SV.int IntKind.i64 (IE.var (AI.op x)), SV.bool (BE.var (AI.wide x)), SV.bool (BE.lit false), SV.int IntKind.i64 (IE.var (AI.d x)), SV.int IntKind.i64 (IE.var (AI.s x)), SV.int IntKind.i64 (IE.lit 0), SV.int IntKind.i64 (IE.lit 0), SV.int IntKind.i64 (IE.lit 0)])) ∧ (BE.den (BE.cmp BinOp.eql (IE.var (AI.op x)) (IE.lit 11)) = false → (BE.den (BE.cmp BinOp.eql (IE.var (AI.op x)) (IE.lit 12)) = true → Q (SV.agg [SV.int IntKind.i64 (IE.var (AI.op x)), SV.bool (BE.var (AI.wide x)), SV.bool (BE.lit false), SV.int IntKind.i64 (IE.var (AI.d x)), SV.int IntKind.i64 (IE.var (AI.s x)), SV.int IntKind.i64 (IE.lit 0), SV.int IntKind.i64 (IE.lit 0), SV.int IntKind.i64 (IE.lit 0)])) ∧ (BE.den (BE.cmp BinOp.eql (IE.var (AI.op x)) (IE.lit 12)) = false → (BE.den (BE.cmp BinOp.eql (IE.var (AI.op x)) (IE.lit 13)) = true → Q (SV.agg [SV.int IntKind.i64 (IE.var (AI.op x)), SV.bool (BE.var (AI.wide x)), SV.bool (BE.lit false), SV.int IntKind.i64 (IE.var (AI.d x)), SV.int IntKind.i64 (IE.var (AI.s x)), SV.int IntKind.i64 (IE.lit 0), SV.int IntKind.i64 (IE.lit 0), SV.int IntKind.i64 (IE.lit 0)])) ∧ (BE.den (BE.cmp BinOp.eql (IE.var (AI.op x)) (IE.lit 13)) = false → (BE.den (BE.cmp BinOp.eql (IE.var (AI.op x)) (IE.lit 14)) = true → Q (SV.agg [SV.int IntKind.i64 (IE.var (AI.op x)), SV.bool (BE.var (AI.wide x)), SV.bool (BE.var (AI.long x)), SV.int IntKind.i64 (IE.var (AI.d x)), SV.int IntKind.i64 (IE.lit 0), SV.int IntKind.i64 (IE.lit 0), SV.int IntKind.i64 (IE.var (AI.imm x)), SV.int IntKind.i64 (IE.lit 0)])) ∧ (BE.den (BE.cmp BinOp.eql (IE.var (AI.op x)) (IE.lit 14)) = false → (BE.den (BE.cmp BinOp.eql (IE.var (AI.op x)) (IE.lit 15)) = true → Q (SV.agg [SV.int IntKind.i64 (IE.var (AI.op x)), SV.bool (BE.var (AI.wide x)), SV.bool (BE.var (AI.long x)), SV.int IntKind.i64 (IE.var (AI.d x)), SV.int IntKind.i64 (IE.lit 0), SV.int IntKind.i64 (IE.lit 0), SV.int IntKind.i64 (IE.var (AI.imm x)), SV.int IntKind.i64 (IE.lit 0)])) ∧ (BE.den (BE.cmp BinOp.eql (IE.var (AI.op x)) (IE.lit 15)) = false → (BE.den (BE.cmp BinOp.eql (IE.var (AI.op x)) (IE.lit 16)) = true → Q (SV.agg [SV.int IntKind.i64 (IE.var (AI.op x)), SV.bool (BE.var (AI.wide x)), SV.bool (BE.var (AI.long x)), SV.int IntKind.i64 (IE.var (AI.d x)), SV.int IntKind.i64 (IE.lit 0), SV.int IntKind.i64 (IE.lit 0), SV.int IntKind.i64 (IE.var (AI.imm x)), SV.int IntKind.i64 (IE.lit 0)])) ∧ (BE.den (BE.cmp BinOp.eql (IE.var (AI.op x)) (IE.lit 16)) = false → (BE.den (BE.cmp BinOp.eql (IE.var (AI.op x)) (IE.lit 17)) = true → Q (SV.agg [SV.int IntKind.i64 (IE.var (AI.op x)), SV.bool (BE.var (AI.wide x)), SV.bool (BE.var (AI.long x)), SV.int IntKind.i64 (IE.var (AI.d x)), SV.int IntKind.i64 (IE.lit 0), SV.int IntKind.i64 (IE.lit 0), SV.int IntKind.i64 (IE.var (AI.imm x)), SV.int IntKind.i64 (IE.lit 0)])) ∧ (BE.den (BE.cmp BinOp.eql (IE.var (AI.op x)) (IE.lit 17)) = false → (BE.den (BE.cmp BinOp.eql (IE.var (AI.op x)) (IE.lit 18)) = true → Q (SV.agg [SV.int IntKind.i64 (IE.var (AI.op x)), SV.bool (BE.var (AI.wide x)), SV.bool (BE.lit false), SV.int IntKind.i64 (IE.var (AI.d x)), SV.int IntKind.i64 (IE.lit 0), SV.int IntKind.i64 (IE.lit 0), SV.int IntKind.i64 (IE.lit 0), SV.int IntKind.i64 (IE.lit 0)])) ∧ (BE.den (BE.cmp BinOp.eql (IE.var (AI.op x)) (IE.lit 18)) = false → (BE.den (BE.cmp BinOp.eql (IE.var (AI.op x)) (IE.lit 19)) = true → Q (SV.agg [SV.int IntKind.i64 (IE.var (AI.op x)), SV.bool (BE.var (AI.wide x)), SV.bool (BE.lit false), SV.int IntKind.i64 (IE.var (AI.d x)), SV.int IntKind.i64 (IE.lit 0), SV.int IntKind.i64 (IE.lit 0), SV.int IntKind.i64 (IE.lit 0), SV.int IntKind.i64 (IE.lit 0)])) ∧ (BE.den (BE.cmp BinOp.eql (IE.var (AI.op x)) (IE.lit 19)) = false → (BE.den (BE.cmp BinOp.eql (IE.var (AI.op x)) (IE.lit 20)) = true → Q (SV.agg [SV.int IntKind.i64 (IE.var (AI.op x)), SV.bool (BE.var (AI.wide x)), SV.bool (BE.lit false), SV.int IntKind.i64 (IE.var (AI.d x)), SV.int IntKind.i64 (IE.lit 0), SV.int IntKind.i64 (IE.lit 0), SV.int IntKind.i64 (IE.lit 0), SV.int IntKind.i64 (IE.lit 0)])) ∧ (BE.den (BE.cmp BinOp.eql (IE.var (AI.op x)) (IE.lit 20)) = false → (BE.den (BE.cmp BinOp.eql (IE.var (AI.op x)) (IE.lit 21)) = true → Q (SV.agg [SV.int IntKind.i64 (IE.var (AI.op x)), SV.bool (BE.var (AI.wide x)), SV.bool (BE.lit false), SV.int IntKind.i64 (IE.var (AI.d x)), SV.int IntKind.i64 (IE.lit 0), SV.int IntKind.i64 (IE.lit 0), SV.int IntKind.i64 (IE.lit 0), SV.int IntKind.i64 (IE.lit 0)])) ∧ (BE.den (BE.cmp BinOp.eql (IE.var (AI.op x)) (IE.lit 21)) = false → (BE.den (BE.cmp BinOp.eql (IE.var (AI.op x)) (IE.lit 22)) = true → Q (SV.agg [SV.int IntKind.i64 (IE.var (AI.op x)), SV.bool (BE.var (AI.wide x)), SV.bool (BE.lit false), SV.int IntKind.i64 (IE.var (AI.d x)), SV.int IntKind.i64 (IE.lit 0), SV.int IntKind.i64 (IE.lit 0), SV.int IntKind.i64 (IE.lit 0), SV.int IntKind.i64 (IE.lit 0)])) ∧ (BE.den (BE.cmp BinOp.eql (IE.var (AI.op x)) (IE.lit 22)) = false → (BE.den (BE.cmp BinOp.eql (IE.var (AI.op x)) (IE.lit 23)) = true → Q (SV.agg [SV.int IntKind.i64 (IE.var (AI.op x)), SV.bool (BE.lit false), SV.bool (BE.lit false), SV.int IntKind.i64 (IE.var (AI.d x)), SV.int IntKind.i64 (IE.lit 0), SV.int IntKind.i64 (IE.lit 0), SV.int IntKind.i64 (IE.lit 0), SV.int IntKind.i64 (IE.lit 0)])) ∧ (BE.den (BE.cmp BinOp.eql (IE.var (AI.op x)) (IE.lit 23)) = false → (BE.den (BE.cmp BinOp.eql (IE.var (AI.op x)) (IE.lit 24)) = true → Q (SV.agg [SV.int IntKind.i64 (IE.var (AI.op x)), SV.bool (BE.lit false), SV.bool (BE.lit false), SV.int IntKind.i64 (IE.var (AI.d x)), SV.int IntKind.i64 (IE.lit 0), SV.int IntKind.i64 (IE.lit 0), SV.int IntKind.i64 (IE.lit 0), SV.int IntKind.i64 (IE.lit 0)])) ∧ (BE.den (BE.cmp BinOp.eql (IE.var (AI.op x)) (IE.lit 24)) = false → (BE.den (BE.cmp BinOp.eql (IE.var (AI.op x)) (IE.lit 25)) = true → Q (SV.agg [SV.int IntKind.i64 (IE.var (AI.op x)), SV.bool (BE.lit false), SV.bool (BE.var (AI.long x)), SV.int IntKind.i64 (IE.lit 0), SV.int IntKind.i64 (IE.lit 0), SV.int IntKind.i64 (IE.lit 0), SV.int IntKind.i64 (IE.var (AI.imm x)), SV.int IntKind.i64 (IE.lit 0)])) ∧ (BE.den (BE.cmp BinOp.eql (IE.var (AI.op x)) (IE.lit 25)) = false → (BE.den (BE.cmp BinOp.eql (IE.var (AI.op x)) (IE.lit 26)) = true → Q (SV.agg [SV.int IntKind.i64 (IE.var (AI.op x)), SV.bool (BE.lit false), SV.bool (BE.var (AI.long x)), SV.int IntKind.i64 (IE.lit 0), SV.int IntKind.i64 (IE.lit 0), SV.int IntKind.i64 (IE.lit 0), SV.int IntKind.i64 (IE.var (AI.imm x)), SV.int IntKind.i64 (IE.var (AI.cc x))])) ∧ (BE.den (BE.cmp BinOp.eql (IE.var (AI.op x)) (IE.lit 26)) = false → (BE.den (BE.cmp BinOp.eql (IE.var (AI.op x)) (IE.lit 27)) = true → Q (SV.agg [SV.int IntKind.i64 (IE.var (AI.op x)), SV.bool (BE.lit false), SV.bool (BE.lit false), SV.int IntKind.i64 (IE.lit 0), SV.int IntKind.i64 (IE.lit 0), SV.int IntKind.i64 (IE.lit 0), SV.int IntKind.i64 (IE.lit 0), SV.int IntKind.i64 (IE.lit 0)])) ∧ (BE.den (BE.cmp BinOp.eql (IE.var (AI.op x)) (IE.lit 27)) = false → Q (SV.agg [SV.int IntKind.i64 (IE.var (AI.op x)), SV.bool (BE.lit false), SV.bool (BE.lit false), SV.int IntKind.i64 (IE.lit 0), SV.int IntKind.i64 (IE.lit 0), SV.int IntKind.i64 (IE.lit 0), SV.int IntKind.i64 (IE.lit 0), SV.int IntKind.i64 (IE.lit 0)]))))))))))))))))))))))))))))) := by kernel_rfl

def livF : PureFn := fun args => match args with
  | [] => some (none, .bool (.lit true))
  | _ => none
theorem rowStr_eq {f f' : Nat → Int} {n n' : Nat} (hn : n = n') (h : ∀ e, e < n → f e = f' e) : rowStr (fun e => .var (f e)) 0 n = rowStr (fun e => .var (f' e)) 0 n' := by
  subst hn
  unfold rowStr
  congr 2
  apply List.map_congr_left
  intro i hi
  have hi : i < n := by simpa using hi
  simp [IE.den, h i hi]
theorem lives_ok : PureOk P 9 livF := by
  have hs := func_sound (un := fun _ => 40) E1_ok Try.func9
  refine pure_of hs ?_
  intro args p v hF hp
  unfold livF at hF
  split at hF
  · simp only [Option.some.injEq, Prod.mk.injEq] at hF
    obtain ⟨rfl, rfl⟩ := hF
    refine ⟨[], rfl, trivial, trivial, trivial, ?_⟩
    rw [lives_nf]
    have hE : amdErr ⟨15, true, false, 4, 0, 0, 24, 0⟩ = 0 := by decide
    have hB : amdBytes ⟨15, true, false, 4, 0, 0, 24, 0⟩ = [72, 131, 236, 24] := by decide
    refine ⟨trivial, fun b hb => ⟨?_, fun ν => ?_⟩, fun b h => absurd hE h⟩
    · have := hb.len
      exact decide_eq_true (by rw [Nat.zero_add]; exact this)
    · have hc := hb.cell
      have e : rowStr (fun e => IE.var (Prod.snd b e)) 0 (amdBytes ⟨15, true, false, 4, 0, 0, 24, 0⟩).length = rowStr (fun e => IE.var (([72, 131, 236, 24] : List Int).getD e 0)) 0 4 := by
        refine rowStr_eq (by rw [hB]; rfl) fun e he => ?_
        have := hc e he
        rw [this]
        show (amdBytes ⟨15, true, false, 4, 0, 0, 24, 0⟩).getD e 0 = _
        rw [hB]
      show Value.bool (BE.den (.var _)) = .bool true
      have e' : ByteArray.toList (rowStr (fun e => IE.var (Prod.snd b e)) 0 (amdBytes ⟨15, true, false, 4, 0, 0, 24, 0⟩).length) = ByteArray.toList { data := #[72, 131, 236, 24] } := by
        rw [e]; decide +kernel
      show Value.bool (ByteArray.toList (rowStr (fun e => IE.var (Prod.snd b e)) 0 (amdBytes ⟨15, true, false, 4, 0, 0, 24, 0⟩).length) == ByteArray.toList { data := #[72, 131, 236, 24] }) = .bool true
      rw [e', beq_self_eq_true]
  · simp at hF

def plF : PureFn := fun args => match args with
  | [.agg [.int .i64 op, .bool w, .bool l, .int .i64 d, .int .i64 s, .int .i64 dp, .int .i64 im, .int .i64 cc]] => some (none, ySV (plain ⟨op.den, w.den, l.den, d.den, s.den, dp.den, im.den, cc.den⟩))
  | _ => none
theorem plain_ok : PureOk P 12 plF := by
  have hs := func_sound (un := fun _ => 40) A0_ok Try.func12
  refine pure_of hs ?_
  intro args p v hF hp
  unfold plF at hF
  split at hF
  · rename_i op w l d s dp im cc
    simp only [Option.some.injEq, Prod.mk.injEq] at hF
    obtain ⟨rfl, rfl⟩ := hF
    refine ⟨[xIn ⟨op.den, w.den, l.den, d.den, s.den, dp.den, im.den, cc.den⟩], rfl, ⟨⟨trivial, trivial, trivial, trivial, trivial, trivial, trivial, trivial, trivial⟩, trivial⟩, xArg_wf _ _ _ _ _ _ _ _ _, ⟨trivial, trivial, trivial, trivial, trivial, trivial, trivial, trivial, trivial⟩, ?_⟩
    rw [plain_nf]
    generalize (⟨op.den, w.den, l.den, d.den, s.den, dp.den, im.den, cc.den⟩ : AI) = x
    simp only [d_eql, decide_eq_true_eq, decide_eq_false_iff_not]
    refine ⟨fun h ν => ?_, fun n1 => ?_⟩
    · rw [show plain x = plainF .movImm x by unfold plain; rw [h]; rfl]; rfl
    refine ⟨fun h ν => ?_, fun n2 => ?_⟩
    · rw [show plain x = plainF (.two 137) x by unfold plain; rw [h]; rfl]; rfl
    refine ⟨fun h ν => ?_, fun n3 => ?_⟩
    · rw [show plain x = plainF .load x by unfold plain; rw [h]; rfl]; rfl
    refine ⟨fun h ν => ?_, fun n4 => ?_⟩
    · rw [show plain x = plainF .store x by unfold plain; rw [h]; rfl]; rfl
    refine ⟨fun h ν => ?_, fun n5 => ?_⟩
    · rw [show plain x = plainF (.two 1) x by unfold plain; rw [h]; rfl]; rfl
    refine ⟨fun h ν => ?_, fun n6 => ?_⟩
    · rw [show plain x = plainF (.two 9) x by unfold plain; rw [h]; rfl]; rfl
    refine ⟨fun h ν => ?_, fun n7 => ?_⟩
    · rw [show plain x = plainF (.two 33) x by unfold plain; rw [h]; rfl]; rfl
    refine ⟨fun h ν => ?_, fun n8 => ?_⟩
    · rw [show plain x = plainF (.two 41) x by unfold plain; rw [h]; rfl]; rfl
    refine ⟨fun h ν => ?_, fun n9 => ?_⟩
    · rw [show plain x = plainF (.two 49) x by unfold plain; rw [h]; rfl]; rfl
    refine ⟨fun h ν => ?_, fun n10 => ?_⟩
    · rw [show plain x = plainF (.two 57) x by unfold plain; rw [h]; rfl]; rfl
    refine ⟨fun h ν => ?_, fun n11 => ?_⟩
    · rw [show plain x = plainF (.two 133) x by unfold plain; rw [h]; rfl]; rfl
    refine ⟨fun h ν => ?_, fun n12 => ?_⟩
    · rw [show plain x = plainF (.two 135) x by unfold plain; rw [h]; rfl]; rfl
    refine ⟨fun h ν => ?_, fun n13 => ?_⟩
    · rw [show plain x = plainF .imul x by unfold plain; rw [h]; rfl]; rfl
    refine ⟨fun h ν => ?_, fun n14 => ?_⟩
    · rw [show plain x = plainF (.imm 0) x by unfold plain; rw [h]; rfl]; rfl
    refine ⟨fun h ν => ?_, fun n15 => ?_⟩
    · rw [show plain x = plainF (.imm 5) x by unfold plain; rw [h]; rfl]; rfl
    refine ⟨fun h ν => ?_, fun n16 => ?_⟩
    · rw [show plain x = plainF (.imm 7) x by unfold plain; rw [h]; rfl]; rfl
    refine ⟨fun h ν => ?_, fun n17 => ?_⟩
    · rw [show plain x = plainF (.imm 4) x by unfold plain; rw [h]; rfl]; rfl
    refine ⟨fun h ν => ?_, fun n18 => ?_⟩
    · rw [show plain x = plainF (.one 247 3) x by unfold plain; rw [h]; rfl]; rfl
    refine ⟨fun h ν => ?_, fun n19 => ?_⟩
    · rw [show plain x = plainF (.one 247 2) x by unfold plain; rw [h]; rfl]; rfl
    refine ⟨fun h ν => ?_, fun n20 => ?_⟩
    · rw [show plain x = plainF (.one 247 6) x by unfold plain; rw [h]; rfl]; rfl
    refine ⟨fun h ν => ?_, fun n21 => ?_⟩
    · rw [show plain x = plainF (.one 211 4) x by unfold plain; rw [h]; rfl]; rfl
    refine ⟨fun h ν => ?_, fun n22 => ?_⟩
    · rw [show plain x = plainF (.one 211 5) x by unfold plain; rw [h]; rfl]; rfl
    refine ⟨fun h ν => ?_, fun n23 => ?_⟩
    · rw [show plain x = plainF (.stack 80) x by unfold plain; rw [h]; rfl]; rfl
    refine ⟨fun h ν => ?_, fun n24 => ?_⟩
    · rw [show plain x = plainF (.stack 88) x by unfold plain; rw [h]; rfl]; rfl
    refine ⟨fun h ν => ?_, fun n25 => ?_⟩
    · rw [show plain x = plainF .jmp x by unfold plain; rw [h]; rfl]; rfl
    refine ⟨fun h ν => ?_, fun n26 => ?_⟩
    · rw [show plain x = plainF .jcc x by unfold plain; rw [h]; rfl]; rfl
    refine ⟨fun h ν => ?_, fun n27 => ?_⟩
    · rw [show plain x = plainF .ret x by unfold plain; rw [h]; rfl]; rfl
    · intro ν
      rw [show plain x = ⟨x.op, false, false, 0, 0, 0, 0, 0⟩ by unfold plain; rw [formOf_none (by omega)]]; rfl
  · simp at hF
end Go.Proofs.Ytajcmjjgnbaahaa.Amd
