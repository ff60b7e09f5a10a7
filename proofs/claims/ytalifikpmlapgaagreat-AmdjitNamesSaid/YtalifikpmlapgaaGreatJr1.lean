/- The machine register of a home, as a function of its number alone. -/
import Derived.Test.YtalifikpmlapgaaGreatJn3
namespace Go.Proofs.YtalifikpmlapgaaGreat.jitNames
open Go Go.RowKit Go.Proofs.YtalifikpmlapgaaGreat.Sx
set_option linter.unusedVariables false
set_option linter.unusedSimpArgs false
theorem sure_ok {f : FuncId} : CalOk P f (.pure fun _ => none) := fun args p v h => by simp at h
noncomputable def GA : FuncId → Option Cal := inl P (fun _ _ => .plain 60) (table [(1000017, .pure fun _ => none)]) 4
noncomputable def GB : FuncId → Option Cal := inl P (fun _ _ => .plain 60) (table [(1000016, .pure fun _ => none), (1000023, .pure fun _ => none)]) 4
theorem GA_ok : GammaOk P GA := inl_ok (table_ok fun p hp => by
  simp only [List.mem_singleton] at hp; subst hp; exact sure_ok) 4
theorem GB_ok : GammaOk P GB := inl_ok (table_ok fun p hp => by
  simp only [List.mem_cons, List.not_mem_nil, or_false] at hp
  rcases hp with rfl | rfl <;> exact sure_ok) 4
theorem regA (n : Int) (Q : SV → Prop) : sxFunc P GA (fun _ => .plain 60) Tryz.f24 [.int .i64 (.var n)] [] (fun v _ => Q v) =
    (BE.den (.cmp .lss (.var n) (.lit 0)) = true ∧ Q (.tuple [.int .i64 (.lit 0), .bool (.lit false)])) := by kernel_rfl
theorem regB (n : Int) (Q : SV → Prop) : sxFunc P GB (fun _ => .plain 60) Tryz.f24 [.int .i64 (.var n)] [] (fun v _ => Q v) =
    (BE.den (.cmp .lss (.var n) (.lit 0)) = false ∧ BE.den (.cmp .geq (.var n) (.lit 7)) = true ∧ Q (.tuple [.int .i64 (.lit 0), .bool (.lit false)])) := by kernel_rfl
def regsL : List Int := [6, 8, 9, 10, 11, 3, 5]
theorem regC0 (Q : SV → Prop) : sxFunc P R0 (fun _ => .plain 60) Tryz.f24 [.int .i64 (.lit ((0 : Nat) : Int))] [] (fun v _ => Q v) = Q (.tuple [.int .i64 (.lit (regsL.getD 0 0)), .bool (.lit true)]) := by kernel_rfl
theorem regC1 (Q : SV → Prop) : sxFunc P R0 (fun _ => .plain 60) Tryz.f24 [.int .i64 (.lit ((1 : Nat) : Int))] [] (fun v _ => Q v) = Q (.tuple [.int .i64 (.lit (regsL.getD 1 0)), .bool (.lit true)]) := by kernel_rfl
theorem regC2 (Q : SV → Prop) : sxFunc P R0 (fun _ => .plain 60) Tryz.f24 [.int .i64 (.lit ((2 : Nat) : Int))] [] (fun v _ => Q v) = Q (.tuple [.int .i64 (.lit (regsL.getD 2 0)), .bool (.lit true)]) := by kernel_rfl
theorem regC3 (Q : SV → Prop) : sxFunc P R0 (fun _ => .plain 60) Tryz.f24 [.int .i64 (.lit ((3 : Nat) : Int))] [] (fun v _ => Q v) = Q (.tuple [.int .i64 (.lit (regsL.getD 3 0)), .bool (.lit true)]) := by kernel_rfl
theorem regC4 (Q : SV → Prop) : sxFunc P R0 (fun _ => .plain 60) Tryz.f24 [.int .i64 (.lit ((4 : Nat) : Int))] [] (fun v _ => Q v) = Q (.tuple [.int .i64 (.lit (regsL.getD 4 0)), .bool (.lit true)]) := by kernel_rfl
theorem regC5 (Q : SV → Prop) : sxFunc P R0 (fun _ => .plain 60) Tryz.f24 [.int .i64 (.lit ((5 : Nat) : Int))] [] (fun v _ => Q v) = Q (.tuple [.int .i64 (.lit (regsL.getD 5 0)), .bool (.lit true)]) := by kernel_rfl
theorem regC6 (Q : SV → Prop) : sxFunc P R0 (fun _ => .plain 60) Tryz.f24 [.int .i64 (.lit ((6 : Nat) : Int))] [] (fun v _ => Q v) = Q (.tuple [.int .i64 (.lit (regsL.getD 6 0)), .bool (.lit true)]) := by kernel_rfl
set_option maxRecDepth 100000 in
theorem regC (k : Nat) (hk : k < 7) (Q : SV → Prop) (hQ : Q (.tuple [.int .i64 (.lit (regsL.getD k 0)), .bool (.lit true)])) : sxFunc P R0 (fun _ => .plain 60) Tryz.f24 [.int .i64 (.lit (k : Int))] [] (fun v _ => Q v) := by
  match k, hk with
  | 0, _ => rw [regC0]; exact hQ
  | 1, _ => rw [regC1]; exact hQ
  | 2, _ => rw [regC2]; exact hQ
  | 3, _ => rw [regC3]; exact hQ
  | 4, _ => rw [regC4]; exact hQ
  | 5, _ => rw [regC5]; exact hQ
  | 6, _ => rw [regC6]; exact hQ
def regIn (n : Int) : Bool := decide (0 ≤ n) && decide (n < 7)
def regV (n : Int) : Int := if regIn n then regsL.getD n.toNat 0 else 0
def regVal (n : Int) : Value := .tuple #[.int .i64 (regV n), .bool (regIn n)]
set_option maxRecDepth 100000 in
theorem reg_calls (n : Int) (w : World) : Calls P 24 #[.int .i64 n] w fun e w' => e = .returned (regVal n) ∧ Below w.heap.size w w' := by
  have fin : ∀ (G : FuncId → Option Cal) (hG : GammaOk P G) (o : IE), o.den = n → sxFunc P G (fun _ => .plain 60) Tryz.f24 [.int .i64 o] [] (fun v _ => ∀ ν, v.den ν = regVal n) →
      Calls P 24 #[.int .i64 n] w fun e w' => e = .returned (regVal n) ∧ Below w.heap.size w w' := by
    intro G hG o ho hx
    have hs := func_sound (un := fun _ => .plain 60) hG Tryz.func24
    have hc := calls_val hs (args := [.int .i64 o]) (by simp [SV.wfL, SV.wf]) hx w
    have e : (SV.denL nu0 [.int .i64 o]).toArray = #[.int .i64 n] := by simp [SV.denL, SV.den, ho]
    rw [e] at hc
    exact hc
  by_cases h0 : n < 0
  · refine fin GA GA_ok (.var n) rfl ?_
    rw [regA]
    refine ⟨by simp [BE.den, IE.den, cmpI_lss, h0], fun ν => ?_⟩
    have : regIn n = false := by simp [regIn]; omega
    simp [SV.den, SV.denL, IE.den, BE.den, regVal, regV, this]
  · by_cases h1 : 7 ≤ n
    · refine fin GB GB_ok (.var n) rfl ?_
      rw [regB]
      refine ⟨by simp [BE.den, IE.den, cmpI_lss]; omega, by simp [BE.den, IE.den, cmpI_geq, h1], fun ν => ?_⟩
      have : regIn n = false := by simp [regIn]; omega
      simp [SV.den, SV.denL, IE.den, BE.den, regVal, regV, this]
    · obtain ⟨k, rfl⟩ := Int.eq_ofNat_of_zero_le (show 0 ≤ n by omega)
      have hk : k < 7 := by omega
      refine fin R0 R0_ok (.lit k) rfl ?_
      refine regC k hk _ fun ν => ?_
      have : regIn (k : Int) = true := by simp [regIn]; omega
      simp [SV.den, SV.denL, IE.den, BE.den, regVal, regV, this]
def fReg : PureFn
  | [.int .i64 e] => some (none, .tuple [.int .i64 (.var (regV e.den)), .bool (.var (regIn e.den))])
  | _ => none
theorem freg_ok : PureOk P 24 fReg := by
  intro args p v hF hp
  unfold fReg at hF
  split at hF
  · rename_i e
    simp only [Option.some.injEq, Prod.mk.injEq] at hF; obtain ⟨rfl, rfl⟩ := hF
    refine ⟨by simp [SV.wfL, SV.wf], by simp [SV.wfL, SV.wf], fun w => ?_⟩
    have := reg_calls e.den w
    simpa [SV.denL, SV.den, IE.den, BE.den, regVal] using this
  · simp at hF
end Go.Proofs.YtalifikpmlapgaaGreat.jitNames
