/- What the law's own question comes to; are two lists the same? -/
import Derived.Test.YtajcmjjgnbaahaaRg13
namespace Go.Proofs.Ytajcmjjgnbaahaa.Amd
open Go Go.Proofs.Ytajcmjjgnbaahaa.Sx Go.RowKit
set_option linter.unusedVariables false
set_option linter.unusedSimpArgs false

noncomputable def G0 : FuncId → Option Cal := inl P (fun _ _ => .plain 60) (fun _ => none) 12
theorem G0_ok : GammaOk P G0 := inl_ok Sx.none_ok 12
theorem lives18_nf (Q : SV → Prop) : sxFunc P G0 (fun _ => .plain 60) Try.f9 [] [] (fun v _ => Q v) = (Q (.bool (.lit true)) ∧ True) := by kernel_rfl
theorem lives18_ok : PureOk P 9 livF := by
  have hs := func_sound (un := fun _ => .plain 60) G0_ok Try.func9
  refine pure_of hs ?_
  intro args p v hF hp
  unfold livF at hF
  split at hF
  · simp only [Option.some.injEq, Prod.mk.injEq] at hF
    obtain ⟨rfl, rfl⟩ := hF
    refine ⟨[], rfl, trivial, trivial, trivial, ?_⟩
    rw [lives18_nf]
    simp [SV.den, BE.den]
  · simp at hF
structure SaSt where
  i : Nat
def slN (o n c : Nat) : SV := .sliceE true o 8 (.lit 0) (.var n) (.var c)
def saSlots (n c m d : Nat) (a : SaSt) : List (Nat × SV) := [(0, slN 0 n c), (1, slN 1 m d), (5, .int .i64 (.var (SaSt.i a)))]
def saRow (X : Nat → AI) (c : Nat) : SObj := .row false true (cols8 X) (.var c)
def saHp (X Y : Nat → AI) (c d : Nat) (a : SaSt) : List SObj := [saRow X c, saRow Y d]
def saQ (X Y : Nat → AI) (c d : Nat) (O : Bool → Prop) : SV → List SObj → Prop :=
  fun v hp => outsE [Out.any Bool O (fun b _ => .bool (.var b)) (fun _ => []) (fun _ => [])] fun o => o.some 2 fun val new _ => simAt 2 1 { tmps := [v], hp := hp } [(0, val)] ([saRow X c, saRow Y d] ++ new)
theorem rsame_nf (X Y : Nat → AI) (n c m d : Nat) (I : SaSt → Prop) (M : SaSt → Nat) (O : Bool → Prop) : sxFunc P A0 (fun _ => annA SaSt (saSlots n c m d) (saHp X Y c d) I M) Try.f17 [slN 0 n c, slN 1 m d] [saRow X c, saRow Y d] (saQ X Y c d O) =
    ((BE.den (BE.cmp BinOp.neq (IE.var (↑n : Int)) (IE.var (↑m : Int))) = true → ∃ b, O b ∧ BE.den (BE.lit false) = b ∧ d = d ∧ (∀ (e : Nat), e < d → AI.op (Y e) = AI.op (Y e)) ∧ (∀ (e : Nat), e < d → AI.wide (Y e) = AI.wide (Y e)) ∧ (∀ (e : Nat), e < d → AI.long (Y e) = AI.long (Y e)) ∧ (∀ (e : Nat), e < d → AI.d (Y e) = AI.d (Y e)) ∧ (∀ (e : Nat), e < d → AI.s (Y e) = AI.s (Y e)) ∧ (∀ (e : Nat), e < d → AI.disp (Y e) = AI.disp (Y e)) ∧ (∀ (e : Nat), e < d → AI.imm (Y e) = AI.imm (Y e)) ∧ (∀ (e : Nat), e < d → AI.cc (Y e) = AI.cc (Y e)) ∧ c = c ∧ (∀ (e : Nat), e < c → AI.op (X e) = AI.op (X e)) ∧ (∀ (e : Nat), e < c → AI.wide (X e) = AI.wide (X e)) ∧ (∀ (e : Nat), e < c → AI.long (X e) = AI.long (X e)) ∧ (∀ (e : Nat), e < c → AI.d (X e) = AI.d (X e)) ∧ (∀ (e : Nat), e < c → AI.s (X e) = AI.s (X e)) ∧ (∀ (e : Nat), e < c → AI.disp (X e) = AI.disp (X e)) ∧ (∀ (e : Nat), e < c → AI.imm (X e) = AI.imm (X e)) ∧ (∀ (e : Nat), e < c → AI.cc (X e) = AI.cc (X e)) ∧ True) ∧ (BE.den (BE.cmp BinOp.neq (IE.var (↑n : Int)) (IE.var (↑m : Int))) = false → (∃ a, I a ∧ n = n ∧ c = c ∧ m = m ∧ d = d ∧ 0 = (↑(SaSt.i a) : Int) ∧ d = d ∧ (∀ (e : Nat), e < d → AI.op (Y e) = AI.op (Y e)) ∧ (∀ (e : Nat), e < d → AI.wide (Y e) = AI.wide (Y e)) ∧ (∀ (e : Nat), e < d → AI.long (Y e) = AI.long (Y e)) ∧ (∀ (e : Nat), e < d → AI.d (Y e) = AI.d (Y e)) ∧ (∀ (e : Nat), e < d → AI.s (Y e) = AI.s (Y e)) ∧ (∀ (e : Nat), e < d → AI.disp (Y e) = AI.disp (Y e)) ∧ (∀ (e : Nat), e < d → AI.imm (Y e) = AI.imm (Y e)) ∧ (∀ (e : Nat), e < d → AI.cc (Y e) = AI.cc (Y e)) ∧ c = c ∧ (∀ (e : Nat), e < c → AI.op (X e) = AI.op (X e)) ∧ (∀ (e : Nat), e < c → AI.wide (X e) = AI.wide (X e)) ∧ (∀ (e : Nat), e < c → AI.long (X e) = AI.long (X e)) ∧ (∀ (e : Nat), e < c → AI.d (X e) = AI.d (X e)) ∧ (∀ (e : Nat), e < c → AI.s (X e) = AI.s (X e)) ∧ (∀ (e : Nat), e < c → AI.disp (X e) = AI.disp (X e)) ∧ (∀ (e : Nat), e < c → AI.imm (X e) = AI.imm (X e)) ∧ (∀ (e : Nat), e < c → AI.cc (X e) = AI.cc (X e)) ∧ True) ∧ (∀ (u : Nat → Value) (a : SaSt), I a → (BE.den (BE.cmp BinOp.lss (IE.var (↑(SaSt.i a) : Int)) (IE.var (↑n : Int))) = true → BE.den (BE.ite (BE.var (decide (n ≤ c ∧ 0 + c ≤ c))) (BE.var (decide (0 ≤ (↑(SaSt.i a) : Int) ∧ (↑(SaSt.i a) : Int) < (↑n : Int)))) (BE.lit false)) = true ∧ decide (0 + Int.toNat (↑(SaSt.i a) : Int) + 1 ≤ c) = true ∧ BE.den (BE.ite (BE.var (decide (m ≤ d ∧ 0 + d ≤ d))) (BE.var (decide (0 ≤ (↑(SaSt.i a) : Int) ∧ (↑(SaSt.i a) : Int) < (↑m : Int)))) (BE.lit false)) = true ∧ decide (0 + Int.toNat (↑(SaSt.i a) : Int) + 1 ≤ d) = true ∧ (BE.den (BE.not (BE.ite (BE.cmp BinOp.eql (IE.var (AI.op (X (0 + Int.toNat (↑(SaSt.i a) : Int))))) (IE.var (AI.op (Y (0 + Int.toNat (↑(SaSt.i a) : Int)))))) (BE.ite (BE.eq (BE.var (AI.wide (X (0 + Int.toNat (↑(SaSt.i a) : Int))))) (BE.var (AI.wide (Y (0 + Int.toNat (↑(SaSt.i a) : Int)))))) (BE.ite (BE.eq (BE.var (AI.long (X (0 + Int.toNat (↑(SaSt.i a) : Int))))) (BE.var (AI.long (Y (0 + Int.toNat (↑(SaSt.i a) : Int)))))) (BE.ite (BE.cmp BinOp.eql (IE.var (AI.d (X (0 + Int.toNat (↑(SaSt.i a) : Int))))) (IE.var (AI.d (Y (0 + Int.toNat (↑(SaSt.i a) : Int)))))) (BE.ite (BE.cmp BinOp.eql (IE.var (AI.s (X (0 + Int.toNat (↑(SaSt.i a) : Int))))) (IE.var (AI.s (Y (0 + Int.toNat (↑(SaSt.i a) : Int)))))) (BE.ite (BE.cmp BinOp.eql (IE.var (AI.disp (X (0 + Int.toNat (↑(SaSt.i a) : Int))))) (IE.var (AI.disp (Y (0 + Int.toNat (↑(SaSt.i a) : Int)))))) (BE.ite (BE.cmp BinOp.eql (IE.var (AI.imm (X (0 + Int.toNat (↑(SaSt.i a) : Int))))) (IE.var (AI.imm (Y (0 + Int.toNat (↑(SaSt.i a) : Int)))))) (BE.ite (BE.cmp BinOp.eql (IE.var (AI.cc (X (0 + Int.toNat (↑(SaSt.i a) : Int))))) (IE.var (AI.cc (Y (0 + Int.toNat (↑(SaSt.i a) : Int)))))) (BE.lit true) (BE.lit false)) (BE.lit false)) (BE.lit false)) (BE.lit false)) (BE.lit false)) (BE.lit false)) (BE.lit false)) (BE.lit false))) = true → ∃ b, O b ∧ BE.den (BE.lit false) = b ∧ d = d ∧ (∀ (e : Nat), e < d → AI.op (Y e) = AI.op (Y e)) ∧ (∀ (e : Nat), e < d → AI.wide (Y e) = AI.wide (Y e)) ∧ (∀ (e : Nat), e < d → AI.long (Y e) = AI.long (Y e)) ∧ (∀ (e : Nat), e < d → AI.d (Y e) = AI.d (Y e)) ∧ (∀ (e : Nat), e < d → AI.s (Y e) = AI.s (Y e)) ∧ (∀ (e : Nat), e < d → AI.disp (Y e) = AI.disp (Y e)) ∧ (∀ (e : Nat), e < d → AI.imm (Y e) = AI.imm (Y e)) ∧ (∀ (e : Nat), e < d → AI.cc (Y e) = AI.cc (Y e)) ∧ c = c ∧ (∀ (e : Nat), e < c → AI.op (X e) = AI.op (X e)) ∧ (∀ (e : Nat), e < c → AI.wide (X e) = AI.wide (X e)) ∧ (∀ (e : Nat), e < c → AI.long (X e) = AI.long (X e)) ∧ (∀ (e : Nat), e < c → AI.d (X e) = AI.d (X e)) ∧ (∀ (e : Nat), e < c → AI.s (X e) = AI.s (X e)) ∧ (∀ (e : Nat), e < c → AI.disp (X e) = AI.disp (X e)) ∧ (∀ (e : Nat), e < c → AI.imm (X e) = AI.imm (X e)) ∧ (∀ (e : Nat), e < c → AI.cc (X e) = AI.cc (X e)) ∧ True) ∧ (BE.den (BE.not (BE.ite (BE.cmp BinOp.eql (IE.var (AI.op (X (0 + Int.toNat (↑(SaSt.i a) : Int))))) (IE.var (AI.op (Y (0 + Int.toNat (↑(SaSt.i a) : Int)))))) (BE.ite (BE.eq (BE.var (AI.wide (X (0 + Int.toNat (↑(SaSt.i a) : Int))))) (BE.var (AI.wide (Y (0 + Int.toNat (↑(SaSt.i a) : Int)))))) (BE.ite (BE.eq (BE.var (AI.long (X (0 + Int.toNat (↑(SaSt.i a) : Int))))) (BE.var (AI.long (Y (0 + Int.toNat (↑(SaSt.i a) : Int)))))) (BE.ite (BE.cmp BinOp.eql (IE.var (AI.d (X (0 + Int.toNat (↑(SaSt.i a) : Int))))) (IE.var (AI.d (Y (0 + Int.toNat (↑(SaSt.i a) : Int)))))) (BE.ite (BE.cmp BinOp.eql (IE.var (AI.s (X (0 + Int.toNat (↑(SaSt.i a) : Int))))) (IE.var (AI.s (Y (0 + Int.toNat (↑(SaSt.i a) : Int)))))) (BE.ite (BE.cmp BinOp.eql (IE.var (AI.disp (X (0 + Int.toNat (↑(SaSt.i a) : Int))))) (IE.var (AI.disp (Y (0 + Int.toNat (↑(SaSt.i a) : Int)))))) (BE.ite (BE.cmp BinOp.eql (IE.var (AI.imm (X (0 + Int.toNat (↑(SaSt.i a) : Int))))) (IE.var (AI.imm (Y (0 + Int.toNat (↑(SaSt.i a) : Int)))))) (BE.ite (BE.cmp BinOp.eql (IE.var (AI.cc (X (0 + Int.toNat (↑(SaSt.i a) : Int))))) (IE.var (AI.cc (Y (0 + Int.toNat (↑(SaSt.i a) : Int)))))) (BE.lit true) (BE.lit false)) (BE.lit false)) (BE.lit false)) (BE.lit false)) (BE.lit false)) (BE.lit false)) (BE.lit false)) (BE.lit false))) = false → ∃ a', I a' ∧ Nat.le (Nat.succ (M a')) (M a) ∧ n = n ∧ c = c ∧ m = m ∧ d = d ∧ IE.den (IE.add IntKind.i64 (IE.var (↑(SaSt.i a) : Int)) (IE.lit 1)) = (↑(SaSt.i a') : Int) ∧ d = d ∧ (∀ (e : Nat), e < d → AI.op (Y e) = AI.op (Y e)) ∧ (∀ (e : Nat), e < d → AI.wide (Y e) = AI.wide (Y e)) ∧ (∀ (e : Nat), e < d → AI.long (Y e) = AI.long (Y e)) ∧ (∀ (e : Nat), e < d → AI.d (Y e) = AI.d (Y e)) ∧ (∀ (e : Nat), e < d → AI.s (Y e) = AI.s (Y e)) ∧ (∀ (e : Nat), e < d → AI.disp (Y e) = AI.disp (Y e)) ∧ (∀ (e : Nat), e < d → AI.imm (Y e) = AI.imm (Y e)) ∧ (∀ (e : Nat), e < d → AI.cc (Y e) = AI.cc (Y e)) ∧ c = c ∧ (∀ (e : Nat), e < c → AI.op (X e) = AI.op (X e)) ∧ (∀ (e : Nat), e < c → AI.wide (X e) = AI.wide (X e)) ∧ (∀ (e : Nat), e < c → AI.long (X e) = AI.long (X e)) ∧ (∀ (e : Nat), e < c → AI.d (X e) = AI.d (X e)) ∧ (∀ (e : Nat), e < c → AI.s (X e) = AI.s (X e)) ∧ (∀ (e : Nat), e < c → AI.disp (X e) = AI.disp (X e)) ∧ (∀ (e : Nat), e < c → AI.imm (X e) = AI.imm (X e)) ∧ (∀ (e : Nat), e < c → AI.cc (X e) = AI.cc (X e)) ∧ True)) ∧ (BE.den (BE.cmp BinOp.lss (IE.var (↑(SaSt.i a) : Int)) (IE.var (↑n : Int))) = false → ∃ b, O b ∧ BE.den (BE.lit true) = b ∧ d = d ∧ (∀ (e : Nat), e < d → AI.op (Y e) = AI.op (Y e)) ∧ (∀ (e : Nat), e < d → AI.wide (Y e) = AI.wide (Y e)) ∧ (∀ (e : Nat), e < d → AI.long (Y e) = AI.long (Y e)) ∧ (∀ (e : Nat), e < d → AI.d (Y e) = AI.d (Y e)) ∧ (∀ (e : Nat), e < d → AI.s (Y e) = AI.s (Y e)) ∧ (∀ (e : Nat), e < d → AI.disp (Y e) = AI.disp (Y e)) ∧ (∀ (e : Nat), e < d → AI.imm (Y e) = AI.imm (Y e)) ∧ (∀ (e : Nat), e < d → AI.cc (Y e) = AI.cc (Y e)) ∧ c = c ∧ (∀ (e : Nat), e < c → AI.op (X e) = AI.op (X e)) ∧ (∀ (e : Nat), e < c → AI.wide (X e) = AI.wide (X e)) ∧ (∀ (e : Nat), e < c → AI.long (X e) = AI.long (X e)) ∧ (∀ (e : Nat), e < c → AI.d (X e) = AI.d (X e)) ∧ (∀ (e : Nat), e < c → AI.s (X e) = AI.s (X e)) ∧ (∀ (e : Nat), e < c → AI.disp (X e) = AI.disp (X e)) ∧ (∀ (e : Nat), e < c → AI.imm (X e) = AI.imm (X e)) ∧ (∀ (e : Nat), e < c → AI.cc (X e) = AI.cc (X e)) ∧ True)) ∧ ∀ (u : Nat → Value) (b : Unit), False → False)) := by kernel_rfl
def zzA : List Col := cols8 fun _ => zI
def saPre : Ins → List SV → Prop := fun ins pl => match ins, pl with
  | [(cs, n, c), (ds, m, d)], [] => ((∃ X : Nat → AI, cs = cols8 X) ∧ ∃ Y : Nat → AI, ds = cols8 Y) ∧ (Nat.le n c ∧ Nat.le m d ∧ Nat.le c 9223372036854775807) ∧ n = m ∧ ∀ e, e < n → XG cs e = XG ds e
  | _, _ => False
def saOuts : Ins → List SV → List Out := fun ins pl => match ins, pl with
  | [_, _], [] => [.one (fun _ => .bool (.var true)) [] []]
  | _, _ => []
theorem saPre_of {ins : Ins} {pl : List SV} (h : saPre ins pl) : ∃ (X Y : Nat → AI) (n c d : Nat), ins = [(cols8 X, n, c), (cols8 Y, n, d)] ∧ pl = [] ∧ n ≤ c ∧ n ≤ d ∧ c ≤ 9223372036854775807 ∧ ∀ e, e < n → X e = Y e := by
  unfold saPre at h
  split at h
  · obtain ⟨⟨⟨X, rfl⟩, Y, rfl⟩, ⟨h1, h2, h3⟩, rfl, h4⟩ := h
    exact ⟨X, Y, _, _, _, rfl, rfl, h1, h2, h3, h4⟩
  · exact h.elim
theorem sa_spec {f : FuncId} {s : SpecFn} (hs : SpecOk P f s)
    (h : ∀ (X Y : Nat → AI) (n c d : Nat), n ≤ c → n ≤ d → c ≤ 9223372036854775807 → (∀ e, e < n → X e = Y e) → s [slN 0 n c, slN 1 n d] [saRow X c, saRow Y d] (fun v hp => simAt 2 1 { tmps := [v], hp := hp } [(0, .bool (.var true))] [saRow X c, saRow Y d])) :
    SpecOk P f (rdSpec [.rows 8 zzA, .rows 8 zzA] saPre saOuts) := by
  refine rd_ok hs (fun sz zs h => by simp at h; obtain ⟨rfl, rfl⟩ := h; rfl) ?_ ?_
  · intro ins pl o ho
    unfold saOuts at ho
    split at ho
    · simp only [List.mem_singleton] at ho; subst ho
      exact ⟨movable_closed (by simp [SV.wf]), rfl, by simp [SV.wfL]⟩
    · simp at ho
  · intro ins pl u hi hw hp
    obtain ⟨X, Y, n, c, d, rfl, rfl, h1, h2, h3, h4⟩ := saPre_of hp
    exact h X Y n c d h1 h2 h3 h4
theorem rsameL_ok : SpecOk P 17 (rdSpec [.rows 8 zzA, .rows 8 zzA] saPre saOuts) := by
  have hs := some_un fun un => func_sound (un := un) A0_ok Try.func17
  refine sa_spec (mono_ok hs) ?_
  intro X Y n c d hc hd hm he
  refine ⟨saQ X Y c d (fun b => b = true), fun v hp h => ?_, fun _ => annA SaSt (saSlots n c n d) (saHp X Y c d) (fun a => a.i ≤ n) (fun a => n - a.i), ?_⟩
  · obtain ⟨b, rfl, h⟩ := h
    exact h
  rw [rsame_nf]
  refine ⟨fun h => ?_, fun _ => ⟨⟨⟨0⟩, Nat.zero_le _, rfl, rfl, rfl, rfl, rfl, rfl, fun _ _ => rfl, fun _ _ => rfl, fun _ _ => rfl, fun _ _ => rfl, fun _ _ => rfl, fun _ _ => rfl, fun _ _ => rfl, fun _ _ => rfl, rfl, fun _ _ => rfl, fun _ _ => rfl, fun _ _ => rfl, fun _ _ => rfl, fun _ _ => rfl, fun _ _ => rfl, fun _ _ => rfl, fun _ _ => rfl, trivial⟩, ?_, fun _ _ h => h⟩⟩
  · exact n_neq rfl h
  rintro _ ⟨i⟩ hi
  dsimp only at hi ⊢
  refine ⟨fun hlt => ?_, fun hge => ?_⟩
  · have hlt : (i : Int) < (n : Int) := by simpa [BE.den, IE.den, cmpI_lss] using hlt
    have t2 : 0 + Int.toNat (i : Int) = i := by omega
    rw [t2]
    have e2 : IE.den (IE.add IntKind.i64 (IE.var (i : Int)) (IE.lit 1)) = ((i + 1 : Nat) : Int) := by
      simp only [IE.den]; rw [wrap_i64_in (by omega) (by omega)]; omega
    refine ⟨ask_in hc (by omega) hlt, decide_eq_true (by omega), ask_in hd (by omega) hlt, decide_eq_true (by omega), fun hn => ?_, fun hn => ?_⟩
    · rw [he i (by omega)] at hn
      exact n_same hn
    · exact ⟨⟨i + 1⟩, by dsimp only; omega, by show n - (i + 1) + 1 ≤ n - i; omega, rfl, rfl, rfl, rfl, e2, rfl, fun _ _ => rfl, fun _ _ => rfl, fun _ _ => rfl, fun _ _ => rfl, fun _ _ => rfl, fun _ _ => rfl, fun _ _ => rfl, fun _ _ => rfl, rfl, fun _ _ => rfl, fun _ _ => rfl, fun _ _ => rfl, fun _ _ => rfl, fun _ _ => rfl, fun _ _ => rfl, fun _ _ => rfl, fun _ _ => rfl, trivial⟩
  · exact ⟨true, rfl, rfl, rfl, fun _ _ => rfl, fun _ _ => rfl, fun _ _ => rfl, fun _ _ => rfl, fun _ _ => rfl, fun _ _ => rfl, fun _ _ => rfl, fun _ _ => rfl, rfl, fun _ _ => rfl, fun _ _ => rfl, fun _ _ => rfl, fun _ _ => rfl, fun _ _ => rfl, fun _ _ => rfl, fun _ _ => rfl, fun _ _ => rfl, trivial⟩
end Go.Proofs.Ytajcmjjgnbaahaa.Amd
