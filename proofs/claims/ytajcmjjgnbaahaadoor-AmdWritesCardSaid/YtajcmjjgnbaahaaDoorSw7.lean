/- Encode with one outcome: what may not be written is an empty row of no place. -/
import Derived.Test.YtajcmjjgnbaahaaDoorAm5
namespace Go.Proofs.YtajcmjjgnbaahaaDoor.Amd
open Go Go.Proofs.YtajcmjjgnbaahaaDoor.Sx Go.RowKit
set_option linter.unusedVariables false
set_option linter.unusedSimpArgs false
def encLen (x : AI) : Nat := if amdErr x = 0 then (amdBytes x).length else 0
structure EncN (x : AI) (c : Nat × (Nat -> Int)) : Prop where
  ok : amdErr x = 0 -> EncO x c
  no : amdErr x ≠ 0 -> c.1 = 0
def encNOuts (O : Nat × (Nat -> Int) -> Prop) (m : Nat) (er : Int) : List Out :=
  [.any (Nat × (Nat -> Int)) O (fun c n => .tuple [.sliceE true n 1 (.lit 0) (.var m) (.var c.1), .int .i64 (.var er)]) (fun c => [.row true true [.int .u8 fun e => .var (c.2 e)] (.var c.1)]) (fun _ => [])]
def encNOutsP : Ins -> List SV -> List Out := fun ins pl => match ins, pl with
  | [], [.agg [.int .i64 op, .bool w, .bool l, .int .i64 d, .int .i64 s, .int .i64 dp, .int .i64 im, .int .i64 cc]] =>
    encNOuts (EncN ⟨op.den, w.den, l.den, d.den, s.den, dp.den, im.den, cc.den⟩) (encLen ⟨op.den, w.den, l.den, d.den, s.den, dp.den, im.den, cc.den⟩) (amdErr ⟨op.den, w.den, l.den, d.den, s.den, dp.den, im.den, cc.den⟩)
  | _, _ => []
abbrev encNM : SpecFn := rdSpec [.plain] encPre encNOutsP
def atN (ν : Nat -> Pl) (n : Nat) (p : Pl) : Nat -> Pl := fun i => if i = n then p else ν i
theorem live_app {hp new : List SObj} {o : Nat} (h : Live hp o) : Live (hp ++ new) o := by
  obtain ⟨x, hx, ha⟩ := h
  exact ⟨x, by rw [List.getElem?_append_left (List.getElem?_eq_some_iff.1 hx).1]; exact hx, ha⟩
theorem live_lt' {hp : List SObj} {o : Nat} (h : Live hp o) : o < hp.length := by
  obtain ⟨x, hx, _⟩ := h
  exact (List.getElem?_eq_some_iff.1 hx).1
theorem more_row {B : Nat -> Prop} {ν : Nat -> Pl} {hp : List SObj} {w : World} {p : Pl} {cs : List Col} {m : NE} (h : SatHp B ν hp w)
    (hr : RowSat B p w true true cs m.den) (hap : p.nil = false -> ∀ o, Owned ν hp o -> (ν o).blk ≠ p.blk) : SatHp B (atN ν hp.length p) (hp ++ [.row true true cs m]) w := by
  have hag : Agree (Live hp) ν (atN ν hp.length p) := fun o ho => by have := live_lt' ho; unfold atN; rw [if_neg (by omega)]
  refine ⟨fun o x hx => ?_, fun o o' ho ho' e => ?_⟩
  · rw [List.getElem?_append] at hx
    split at hx
    · exact (h.obj o x hx).mono (live_of hx) (fun _ h => live_app h) hag (Nat.le_refl _) (fun _ _ _ => rfl)
    · rename_i hge
      have ho : o = hp.length := by
        rcases Nat.lt_or_ge (o - hp.length) 1 with h1 | h1
        · omega
        · rw [List.getElem?_eq_none (by simpa using h1)] at hx; cases hx
      subst ho
      simp at hx; subst hx
      show RowSat B (atN ν hp.length p hp.length) w true true cs m.den
      unfold atN; rw [if_pos rfl]; exact hr
  · have key : ∀ i, Owned (atN ν hp.length p) (hp ++ [.row true true cs m]) i -> (i < hp.length /\ Owned ν hp i /\ atN ν hp.length p i = ν i) ∨ (i = hp.length /\ p.nil = false /\ atN ν hp.length p i = p) := by
      rintro i ⟨x, hx, hw⟩
      rw [List.getElem?_append] at hx
      split at hx
      · rename_i hlt
        have e1 : atN ν hp.length p i = ν i := by unfold atN; rw [if_neg (by omega)]
        rw [e1] at hw
        exact .inl ⟨hlt, ⟨x, hx, hw⟩, e1⟩
      · have hi : i = hp.length := by
          rcases Nat.lt_or_ge (i - hp.length) 1 with h1 | h1
          · omega
          · rw [List.getElem?_eq_none (by simpa using h1)] at hx; cases hx
        subst hi
        simp at hx; subst hx
        have e1 : atN ν hp.length p hp.length = p := by unfold atN; rw [if_pos rfl]
        rw [e1] at hw
        exact .inr ⟨rfl, by simpa [SObj.owns] using hw, e1⟩
    rcases key o ho with ⟨a1, a2, a3⟩ | ⟨a1, a2, a3⟩ <;> rcases key o' ho' with ⟨b1, b2, b3⟩ | ⟨b1, b2, b3⟩
    · rw [a3, b3] at e; exact h.apart o o' a2 b2 e
    · rw [a3, b3] at e; exact absurd e (hap b2 o a2)
    · rw [a3, b3] at e; exact absurd e.symm (hap a2 o' b2)
    · omega
theorem obj_both {B : Nat -> Prop} {ν ν' : Nat -> Pl} {n m : Nat -> Prop} {w w' : World} {o : Nat} {x : SObj} (a : ObjSat B ν' m w' o x) (b : ObjSat B ν n w o x) : ObjSat B ν' n w' o x := by
  cases x with
  | cells vs ty => exact ⟨a.1, a.2.1, b.2.2⟩
  | dead => trivial
  | row own inp cols m => exact a
  | husk => trivial
  | map ks vs => exact ⟨a.1, a.2.1, b.2.2.1, b.2.2.2.1, a.2.2.2.2⟩
  | grown sz vs => exact ⟨a.1, a.2.1, b.2.2⟩
  | glob g vs => exact a
theorem own_app {ν : Nat -> Pl} {hp new : List SObj} {o : Nat} (h : Owned ν hp o) : Owned ν (hp ++ new) o := by
  obtain ⟨x, hx, hw⟩ := h
  exact ⟨x, by rw [List.getElem?_append_left (List.getElem?_eq_some_iff.1 hx).1]; exact hx, hw⟩
theorem less_row {B : Nat -> Prop} {ν ν' : Nat -> Pl} {hp new : List SObj} {w w' : World} (h0 : SatHp B ν hp w) (h : SatHp B ν' (hp ++ new) w') : SatHp B ν' hp w' :=
  ⟨fun o x hx => obj_both (h.obj o x (by rw [List.getElem?_append_left (List.getElem?_eq_some_iff.1 hx).1]; exact hx)) (h0.obj o x hx), fun o o' ho ho' e => h.apart o o' (own_app ho) (own_app ho') e⟩
theorem may_row {B : Nat -> Prop} {ν ν' : Nat -> Pl} {hp : List SObj} {w w' : World} {cs : List Col} {m : NE} (h0 : SatHp B ν hp w) (h : SatHp B ν' (hp ++ [.row true false cs m]) w') :
    SatHp B (atN ν' hp.length ⟨(ν' hp.length).blk, 0, false⟩) (hp ++ [.row true true cs m]) w' := by
  have hr : RowSat B (ν' hp.length) w' true false cs m.den := h.obj hp.length (.row true false cs m) (by simp)
  refine more_row (less_row h0 h) ⟨fun h => (by cases h), fun _ h2 => hr.lo rfl h2, fun _ h => (by cases h), fun e he j c hc => ?_, fun _ e he j hj => ?_⟩ fun _ o ho e => ?_
  · exact hr.cell e he j c hc
  · exact hr.thawed rfl e he j hj
  · have := h.apart o hp.length (own_app ho) ⟨.row true false cs m, by simp, rfl⟩ e
    obtain ⟨x, hx, _⟩ := ho
    have := (List.getElem?_eq_some_iff.1 hx).1
    omega
theorem encN_ok {f : FuncId} (h : SpecOk P f encM) : SpecOk P f encNM := by
  intro B ν hp w args K h1 h2 h3 hx
  match args with
  | [] => exact h B ν hp w [] K h1 h2 h3 hx
  | _ :: _ :: _ => exact h B ν hp w _ K h1 h2 h3 hx
  | [x] =>
    simp only [rdSpec, viewArgs, asksP, withIns] at hx
    split at hx
    · rename_i ho
      obtain ⟨hp1, hp2⟩ := hx
      obtain ⟨op, wd, l, d, s, dp, im, cc, _, he⟩ := encPre_of hp1
      rw [he] at hp2
      generalize ha : (⟨op.den, wd.den, l.den, d.den, s.den, dp.den, im.den, cc.den⟩ : AI) = a
      have hK : ∀ c, EncN a c -> K (.tuple [.sliceE true hp.length 1 (.lit 0) (.var (encLen a)) (.var c.1), .int .i64 (.var (amdErr a))]) (hp ++ [.row true true [.int .u8 fun e => .var (c.2 e)] (.var c.1)]) := by
        rw [<- ha]; exact hp2
      have hc := h B ν hp w [x] (fun v hp' => (∃ c, EncO a c /\ v = .tuple [.sliceE false hp.length 1 (.lit 0) (.var (amdBytes a).length) (.var c.1), .int .i64 (.lit 0)] /\ hp' = hp ++ [.row true false [.int .u8 fun e => .var (c.2 e)] (.var c.1)]) ∨
          (amdErr a ≠ 0 /\ v = .tuple [.nils, .int .i64 (.var (amdErr a))] /\ hp' = hp)) h1 h2 h3 (by
        simp only [rdSpec, viewArgs, asksP, withIns]
        rw [if_pos ho]
        refine ⟨hp1, ?_⟩
        rw [he]
        show (∀ c, _ -> _) /\ (∀ _ : Unit, _ -> _)
        rw [ha]
        exact ⟨fun c hc => .inl ⟨c, hc, rfl, rfl⟩, fun _ hn => .inr ⟨hn, rfl, List.append_nil _⟩⟩)
      refine hc.mono ?_
      rintro e w' ⟨ν', v, hp', a1, a2, rfl, a3, a4, a5, hk⟩
      rcases hk with ⟨c, hO, rfl, rfl⟩ | ⟨hn, rfl, rfl⟩
      · refine ⟨atN ν' hp.length ⟨(ν' hp.length).blk, 0, false⟩, _, _, fun o ho => live_app ho, fun o ho => ?_, ?_, ?_, may_row h1 a4, a5, hK c ⟨fun _ => hO, fun hn => absurd hO.err hn⟩⟩
        · have := live_lt' ho
          unfold atN; rw [if_neg (by omega)]; exact a2 o ho
        · have e1 : encLen a = (amdBytes a).length := if_pos hO.err
          rw [e1, hO.err]
          simp [SV.den, SV.denL, atN, Pl.base, IE.den, NE.den]
        · refine ⟨⟨.row true true [.int .u8 fun e => .var (c.2 e)] (.var c.1), by simp, rfl⟩, trivial, trivial⟩
      · refine ⟨atN ν' hp'.length ⟨0, 0, true⟩, _, _, fun o ho => live_app ho, fun o ho => ?_, ?_, ?_, more_row a4 (m := .var 0) ⟨fun _ => rfl, fun h => (by cases h), fun h => (by cases h), fun e he => absurd he (Nat.not_lt_zero _), fun _ e he => absurd he (Nat.not_lt_zero _)⟩ (fun h => (by cases h)), a5, hK (0, fun _ => 0) ⟨fun h => absurd h hn, fun _ => rfl⟩⟩
        · have := live_lt' ho
          unfold atN; rw [if_neg (by omega)]; exact a2 o ho
        · have e1 : encLen a = 0 := if_neg hn
          rw [e1]
          simp [SV.den, SV.denL, atN, Pl.base, IE.den, NE.den]
        · refine ⟨⟨.row true true [.int .u8 fun e => .var 0] (.var 0), by simp, rfl⟩, trivial, trivial⟩
    · rename_i ho
      refine h B ν hp w [x] K h1 h2 h3 ?_
      simp only [rdSpec, viewArgs, asksP, withIns]
      rw [if_neg ho]; exact hx
end Go.Proofs.YtajcmjjgnbaahaaDoor.Amd
