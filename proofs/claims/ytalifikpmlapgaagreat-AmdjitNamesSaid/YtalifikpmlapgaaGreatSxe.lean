/- What a call with known arguments in a known memory comes to, told once and used where it is made. -/
import Derived.Test.YtalifikpmlapgaaGreatSxk
namespace Go.Proofs.YtalifikpmlapgaaGreat.Sx
open Go Go.RowKit
set_option linter.unusedVariables false
set_option linter.unusedSimpArgs false

mutual
def shutEq : SV → SV → Bool
  | .int k (.lit a), .int k' (.lit b) => decide (k = k') && decide (a = b)
  | .bool (.lit a), .bool (.lit b) => a == b
  | .str a, .str b => a.data.toList == b.data.toList
  | .ptr a b, .ptr a' b' => Nat.beq a a' && Nat.beq b b'
  | .slice a b (.lit l) (.lit c), .slice a' b' (.lit l') (.lit c') => Nat.beq a a' && Nat.beq b b' && Nat.beq l l' && Nat.beq c c'
  | .sliceG a b l c, .sliceG a' b' l' c' => Nat.beq a a' && Nat.beq b b' && Nat.beq l l' && Nat.beq c c'
  | .agg l, .agg l' => shutEqs l l'
  | .nils, .nils | .nilp, .nilp | .nili, .nili => true
  | _, _ => false
def shutEqs : List SV → List SV → Bool
  | [], [] => true
  | v :: r, v' :: r' => shutEq v v' && shutEqs r r'
  | _, _ => false
end
/-- A call: its arguments, memory ahead of it, its value, memory behind it. -/
structure Ex where
  args : List SV
  hp : List SObj
  val : SV
  out : List SObj
  keep : List Nat
def findEx (args : List SV) : List Ex → Option Ex
  | [] => none
  | c :: r => if shutEqs args c.args then some c else findEx args r
def exSpec (l : List Ex) : SpecFn := fun args hp K =>
  match findEx args l with
  | some c => sameSVs args c.args (sameHp hp c.hp (K c.val c.out))
  | none => StuckAt 402
def exGuess (l : List Ex) : Guess := fun args hp =>
  match findEx args l with
  | some c => some (c.val, c.out)
  | none => none
def renObjD (f : Nat → Option Nat) : SObj → Option SObj
  | .dead => some .dead
  | .husk => some .husk
  | x => renObj f x
def renObjsD (f : Nat → Option Nat) (hp : List SObj) : List Nat → Option (List SObj)
  | [] => some []
  | o :: r =>
    match hp[o]? with
    | some x =>
      match renObjD f x, renObjsD f hp r with
      | some y, some l => some (y :: l)
      | _, _ => none
    | none => none
def exDone1 (keep : List Nat) (V : SV) (N : List SObj) (v : SV) (hp : List SObj) : Prop :=
  match distinct keep, renSV (fun o => posOf o keep 0) v, renObjsD (fun o => posOf o keep 0) hp keep with
  | true, some v', some n' => sameSV v' V (sameHp n' N True)
  | _, _, _ => StuckAt 403
def exDone (c : Ex) : SV → List SObj → Prop := exDone1 (List.range c.hp.length ++ c.keep) c.val c.out

section
variable {P : Program} {Γ : FuncId → Option Cal} {B : Nat → Prop} {ν : Nat → Pl} {w : World}

theorem renObjsD_get {f : Nat → Option Nat} {hp : List SObj} : ∀ {l : List Nat} {n : List SObj}, renObjsD f hp l = some n → n.length = l.length ∧ ∀ (j : Nat) (y : SObj), n[j]? = some y → ∃ o x, l[j]? = some o ∧ hp[o]? = some x ∧ renObjD f x = some y
  | [], n, h => by simp only [renObjsD, Option.some.injEq] at h; subst h; exact ⟨rfl, fun j y hy => by simp at hy⟩
  | o :: r, n, h => by
    simp only [renObjsD] at h
    split at h
    · rename_i x hx
      split at h
      · rename_i y l hy hl
        simp only [Option.some.injEq] at h; subst h
        obtain ⟨h1, h2⟩ := renObjsD_get hl
        refine ⟨by simp [h1], fun j z hz => ?_⟩
        cases j with
        | zero => simp at hz; subst hz; exact ⟨o, x, by simp, hx, hy⟩
        | succ j => simpa using h2 j z (by simpa using hz)
      · simp at h
    · simp at h
theorem renObjD_sound {f : Nat → Option Nat} {ν ν' : Nat → Pl} {p p' : Nat → Prop} (hf : ∀ o o', f o = some o' → p o → ν' o' = ν o ∧ p' o') {x y : SObj} (h : renObjD f x = some y) {o o' : Nat} (he : ν' o' = ν o) (hx : ObjSat B ν p w o x) :
    ObjSat B ν' p' w o' y ∧ y.owns (ν' o') = x.owns (ν o) := by
  unfold renObjD at h
  split at h
  · simp only [Option.some.injEq] at h; subst h; exact ⟨trivial, rfl⟩
  · simp only [Option.some.injEq] at h; subst h; exact ⟨trivial, rfl⟩
  · obtain ⟨z1, z2, _⟩ := renObj_sound (B := B) (B' := B) (fun _ h => h) hf h he hx
    exact ⟨z1, z2⟩
theorem renObjD_alive {f : Nat → Option Nat} {x y : SObj} (h : renObjD f x = some y) (hx : x.alive = true) : y.alive = true := by
  unfold renObjD at h
  split at h
  · cases hx
  · simp only [Option.some.injEq] at h; rw [← h]; rfl
  · unfold renObj at h
    split at h
    · simp only [Option.map_eq_some_iff] at h; obtain ⟨_, _, e⟩ := h; rw [← e]; rfl
    · simp only [Option.map_eq_some_iff] at h; obtain ⟨_, _, e⟩ := h; rw [← e]; rfl
    · split at h
      · simp only [Option.some.injEq] at h; rw [← h]; rfl
      · simp at h
    · simp only [Option.some.injEq] at h; rw [← h]; rfl
    · simp at h

theorem ex_ok {f : FuncId} {s : SpecFn} (hs : SpecOk P f s) {c : Ex} (h : s c.args c.hp (exDone c)) {B : Nat → Prop} {ν : Nat → Pl} {w : World} {K : SV → List SObj → Prop}
    (hsat : SatHp B ν c.hp w) (hB : Under B w) (hwf : SV.wfL (Live c.hp) c.args) (hk : K c.val c.out) : Calls P f (SV.denL ν c.args).toArray w (RetPost B ν c.hp w K) := by
  refine (hs B ν c.hp w c.args _ hsat hB hwf h).mono ?_
  rintro e w' ⟨ν1, v1, hp1, l1, a1, rfl, w1, s1, b1, hd⟩
  unfold exDone exDone1 at hd
  split at hd
  · rename_i v' n' hdis hr1 hr2
    obtain ⟨t1, t2⟩ := sameSV_eq _ _ _ hd
    obtain ⟨t3, _⟩ := sameHp_eq _ _ _ t2
    subst t1 t3
    clear t2 hd
    generalize hkeep : List.range c.hp.length ++ c.keep = keep at *
    have hlow : ∀ o, o < c.hp.length → keep[o]? = some o := fun o ho => by
      rw [← hkeep, List.getElem?_append_left (by simpa using ho), List.getElem?_range ho]
    obtain ⟨q1, q2⟩ := renObjsD_get hr2
    let ν2 : Nat → Pl := fun j => match keep[j]? with | some o => ν1 o | none => ⟨0, 0, false⟩
    have f1 : ∀ o j, posOf o keep 0 = some j → Live hp1 o → ν2 j = ν1 o ∧ Live c.out j := fun o j hj ho => by
      obtain ⟨_, h2⟩ := posOf_get hj
      rw [Nat.sub_zero] at h2
      have hj' : j < c.out.length := by have := (List.getElem?_eq_some_iff.1 h2).1; omega
      obtain ⟨o', x, g1, g2, g3⟩ := q2 j c.out[j] (List.getElem?_eq_getElem hj')
      rw [h2] at g1; cases g1
      obtain ⟨x', g4, g5⟩ := ho
      rw [g2] at g4; cases g4
      exact ⟨by simp [ν2, h2], c.out[j], List.getElem?_eq_getElem hj', renObjD_alive g3 g5⟩
    obtain ⟨v2, v3⟩ := ren_sound (ν := ν1) (ν' := ν2) (p := Live hp1) (p' := Live c.out) f1 hr1 w1
    have hag : Agree (Live c.hp) ν ν2 := fun o ho => by
      have hlt := live_lt ho
      simp only [ν2, hlow o hlt]
      exact a1 o ho
    have hl : ∀ o, Live c.hp o → Live c.out o := fun o ho => by
      have h2 := hlow o (live_lt ho)
      have hj' : o < c.out.length := by have := (List.getElem?_eq_some_iff.1 h2).1; omega
      obtain ⟨o', x, g1, g2, g3⟩ := q2 o c.out[o] (List.getElem?_eq_getElem hj')
      rw [h2] at g1; cases g1
      obtain ⟨x', g4, g5⟩ := l1 o ho
      rw [g2] at g4; cases g4
      exact ⟨c.out[o], List.getElem?_eq_getElem hj', renObjD_alive g3 g5⟩
    have hnew : ∀ j y, c.out[j]? = some y → ∃ o x, keep[j]? = some o ∧ hp1[o]? = some x ∧ ObjSat B ν2 (Live c.out) w' j y ∧ y.owns (ν2 j) = x.owns (ν1 o) ∧ ν2 j = ν1 o := fun j y hy => by
      obtain ⟨o, x0, g3, g4, g5⟩ := q2 j y hy
      have e1 : ν2 j = ν1 o := by simp [ν2, g3]
      obtain ⟨z1, z2⟩ := renObjD_sound (ν := ν1) (ν' := ν2) (p := Live hp1) (p' := Live c.out) f1 g5 (o := o) (o' := j) e1 (s1.obj o x0 g4)
      exact ⟨o, x0, g3, g4, z1, z2, e1⟩
    have hs2 : SatHp B ν2 c.out w' := by
      refine ⟨fun i y hy => ?_, fun i i' hi hi' ee => ?_⟩
      · obtain ⟨_, _, _, _, g, _, _⟩ := hnew i y hy
        exact g
      · have side : ∀ i, Owned ν2 c.out i → ∃ o, keep[i]? = some o ∧ Owned ν1 hp1 o ∧ ν2 i = ν1 o := fun i ⟨y, hy, hw⟩ => by
          obtain ⟨o, x, g1, g2, _, g4, g5⟩ := hnew i y hy
          exact ⟨o, g1, ⟨x, g2, by rw [← g4]; exact hw⟩, g5⟩
        obtain ⟨o, c2, c3, c4⟩ := side i hi
        obtain ⟨o', d2, d3, d4⟩ := side i' hi'
        rw [c4, d4] at ee
        have := s1.apart o o' c3 d3 ee
        subst this
        exact distinct_get hdis c2 d2
    refine ⟨ν2, c.val, c.out, hl, hag, by rw [v2], v3, hs2, b1, hk⟩
  · exact nomatch hd

theorem findEx_mem {args : List SV} {c : Ex} : ∀ {l : List Ex}, findEx args l = some c → c ∈ l
  | [], h => by simp [findEx] at h
  | x :: r, h => by
    simp only [findEx] at h
    split at h
    · simp only [Option.some.injEq] at h; subst h; exact List.mem_cons_self ..
    · exact List.mem_cons_of_mem _ (findEx_mem h)

theorem exSpec_ok {f : FuncId} {s : SpecFn} (hs : SpecOk P f s) {l : List Ex} (h : ∀ c ∈ l, s c.args c.hp (exDone c)) : SpecOk P f (exSpec l) := by
  intro B ν hp w args K hsat hB hwf hx
  unfold exSpec at hx
  split at hx
  · rename_i c hc
    obtain ⟨e1, h2⟩ := sameSVs_eq _ _ _ hx
    obtain ⟨e2, h3⟩ := sameHp_eq _ _ _ h2
    subst e1 e2
    exact ex_ok hs (h c (findEx_mem hc)) hsat hB hwf h3
  · exact nomatch hx
end
end Go.Proofs.YtalifikpmlapgaaGreat.Sx
