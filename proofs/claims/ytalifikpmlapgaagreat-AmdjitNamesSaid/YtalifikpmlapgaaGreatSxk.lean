/- What a call with known arguments comes to, told once and used wherever it is made. -/
import Derived.Test.YtalifikpmlapgaaGreatSx5
namespace Go.Proofs.YtalifikpmlapgaaGreat.Sx
open Go Go.RowKit
set_option linter.unusedVariables false
set_option linter.unusedSimpArgs false

mutual
/-- Blocks under other numbers. -/
def renSV (f : Nat → Option Nat) : SV → Option SV
  | .ptr o off => (f o).map fun o => .ptr o off
  | .slice o off l c => (f o).map fun o => .slice o off l c
  | .ptrE inp o sz i c => (f o).map fun o => .ptrE inp o sz i c
  | .sliceE inp o sz st l c => (f o).map fun o => .sliceE inp o sz st l c
  | .mapv o => (f o).map fun o => .mapv o
  | .sliceG o sz st l => (f o).map fun o => .sliceG o sz st l
  | .iface t v => (renSV f v).map fun v => .iface t v
  | .agg l => (renSVs f l).map fun l => .agg l
  | .tuple l => (renSVs f l).map fun l => .tuple l
  | .func fn a b =>
    match renSVs f a, renSVs f b with
    | some a, some b => some (.func fn a b)
    | _, _ => none
  | v => some v
def renSVs (f : Nat → Option Nat) : List SV → Option (List SV)
  | [] => some []
  | v :: r =>
    match renSV f v, renSVs f r with
    | some v, some r => some (v :: r)
    | _, _ => none
end
def renObj (f : Nat → Option Nat) : SObj → Option SObj
  | .cells vs ty => (renSVs f vs).map fun vs => .cells vs ty
  | .grown sz vs => (renSVs f vs).map fun vs => .grown sz vs
  | .map ks vs =>
    match renSVs f ks, renSVs f vs with
    | some ks, some vs => some (.map ks vs)
    | _, _ => none
  | .row true inp cols n => some (.row true inp cols n)
  | _ => none
def renObjs (f : Nat → Option Nat) (hp : List SObj) : List Nat → Option (List SObj)
  | [] => some []
  | o :: r =>
    match hp[o]? with
    | some x =>
      match renObj f x, renObjs f hp r with
      | some y, some l => some (y :: l)
      | _, _ => none
    | none => none
def renAll (f : Nat → Option Nat) : List SObj → Option (List SObj)
  | [] => some []
  | x :: r =>
    match renObj f x, renAll f r with
    | some y, some l => some (y :: l)
    | _, _ => none
def posOf (o : Nat) : List Nat → Nat → Option Nat
  | [], _ => none
  | k :: r, i => if k = o then some i else posOf o r (i + 1)
def distinct : List Nat → Bool
  | [] => true
  | k :: r => !r.contains k && distinct r
/-- The call has ended so: 'keep' are the blocks that stay told, in this order. -/
def clDone (keep : List Nat) (V : SV) (N : List SObj) (v : SV) (hp : List SObj) : Prop :=
  match distinct keep, renSV (fun o => posOf o keep 0) v, renObjs (fun o => posOf o keep 0) hp keep with
  | true, some v', some n' => sameSV v' V (sameHp n' N True)
  | _, _, _ => StuckAt 400

mutual
def eqLit : SV → SV → Bool
  | .int k (.lit a), .int k' (.lit b) => decide (k = k') && decide (a = b)
  | .bool (.lit a), .bool (.lit b) => a == b
  | .str a, .str b => a.data.toList == b.data.toList
  | .agg l, .agg l' => eqLits l l'
  | .nils, .nils | .nilp, .nilp | .nili, .nili => true
  | _, _ => false
def eqLits : List SV → List SV → Bool
  | [], [] => true
  | v :: r, v' :: r' => eqLit v v' && eqLits r r'
  | _, _ => false
end
structure Cl where
  args : List SV
  gs : List (Nat × List SV)
  val : SV
  new : List SObj
def globsIn (hp : List SObj) : List (Nat × List SV) → Bool
  | [] => true
  | (g, vs) :: r => (match globOf hp g with | some vs' => eqLits vs' vs | none => false) && globsIn hp r
def gsHp (gs : List (Nat × List SV)) : List SObj := gs.map fun p => .glob p.1 p.2
def findCl (args : List SV) (hp : List SObj) : List Cl → Option Cl
  | [] => none
  | c :: r => if eqLits args c.args && globsIn hp c.gs then some c else findCl args hp r
/-- A call with known arguments; else as it goes. -/
def clSpec (l : List Cl) (s : SpecFn) : SpecFn := fun args hp K =>
  match findCl args hp l with
  | some c =>
    match renSV (fun o => some (hp.length + o)) c.val, renAll (fun o => some (hp.length + o)) c.new with
    | some v, some n => fSV v fun v => fHp n fun n => K v (hp ++ n)
    | _, _ => StuckAt 401
  | none => s args hp K
def clGuess (l : List Cl) (g : Guess) : Guess := fun args hp =>
  match findCl args hp l with
  | some c =>
    match renSV (fun o => some (hp.length + o)) c.val, renAll (fun o => some (hp.length + o)) c.new with
    | some v, some n => some (v, hp ++ n)
    | _, _ => none
  | none => g args hp

section
variable {P : Program} {Γ : FuncId → Option Cal} {B : Nat → Prop} {ν : Nat → Pl} {w : World}

mutual
theorem ren_sound {f : Nat → Option Nat} {ν ν' : Nat → Pl} {p p' : Nat → Prop} (hf : ∀ o o', f o = some o' → p o → ν' o' = ν o ∧ p' o') : ∀ {v v' : SV}, renSV f v = some v' → v.wf p → v'.den ν' = v.den ν ∧ v'.wf p'
  | .ptr o off, v', h, hw => by
    simp only [renSV, Option.map_eq_some_iff] at h; obtain ⟨o', h1, rfl⟩ := h
    obtain ⟨e1, e2⟩ := hf o o' h1 hw; exact ⟨by simp only [SV.den, e1], e2⟩
  | .slice o off l c, v', h, hw => by
    simp only [renSV, Option.map_eq_some_iff] at h; obtain ⟨o', h1, rfl⟩ := h
    obtain ⟨e1, e2⟩ := hf o o' h1 hw; exact ⟨by simp only [SV.den, e1], e2⟩
  | .ptrE inp o sz i c, v', h, hw => by
    simp only [renSV, Option.map_eq_some_iff] at h; obtain ⟨o', h1, rfl⟩ := h
    obtain ⟨e1, e2⟩ := hf o o' h1 hw; exact ⟨by simp only [SV.den, e1], e2⟩
  | .sliceE inp o sz st l c, v', h, hw => by
    simp only [renSV, Option.map_eq_some_iff] at h; obtain ⟨o', h1, rfl⟩ := h
    obtain ⟨e1, e2⟩ := hf o o' h1 hw; exact ⟨by simp only [SV.den, e1], e2⟩
  | .mapv o, v', h, hw => by
    simp only [renSV, Option.map_eq_some_iff] at h; obtain ⟨o', h1, rfl⟩ := h
    obtain ⟨e1, e2⟩ := hf o o' h1 hw; exact ⟨by simp only [SV.den, e1], e2⟩
  | .sliceG o sz st l, v', h, hw => by
    simp only [renSV, Option.map_eq_some_iff] at h; obtain ⟨o', h1, rfl⟩ := h
    obtain ⟨e1, e2⟩ := hf o o' h1 hw; exact ⟨by simp only [SV.den, e1], e2⟩
  | .iface t v, v', h, hw => by
    simp only [renSV, Option.map_eq_some_iff] at h; obtain ⟨u, h1, rfl⟩ := h
    obtain ⟨e1, e2⟩ := ren_sound hf h1 (by simpa [SV.wf] using hw); exact ⟨by simp only [SV.den, e1], by simpa [SV.wf] using e2⟩
  | .agg l, v', h, hw => by
    simp only [renSV, Option.map_eq_some_iff] at h; obtain ⟨u, h1, rfl⟩ := h
    obtain ⟨e1, e2⟩ := rens_sound hf h1 (by simpa [SV.wf] using hw); exact ⟨by simp only [SV.den, e1], by simpa [SV.wf] using e2⟩
  | .tuple l, v', h, hw => by
    simp only [renSV, Option.map_eq_some_iff] at h; obtain ⟨u, h1, rfl⟩ := h
    obtain ⟨e1, e2⟩ := rens_sound hf h1 (by simpa [SV.wf] using hw); exact ⟨by simp only [SV.den, e1], by simpa [SV.wf] using e2⟩
  | .func fn a b, v', h, hw => by
    simp only [renSV] at h
    split at h
    · rename_i a' b' h1 h2
      simp only [Option.some.injEq] at h; subst h
      simp only [SV.wf] at hw
      obtain ⟨e1, e2⟩ := rens_sound hf h1 hw.1
      obtain ⟨e3, e4⟩ := rens_sound hf h2 hw.2
      exact ⟨by simp only [SV.den, e1, e3], ⟨e2, e4⟩⟩
    · simp at h
  | .int _ _, v', h, _ | .bool _, v', h, _ | .str _, v', h, _ | .nilp, v', h, _ | .nils, v', h, _ | .nili, v', h, _ | .nilf, v', h, _ | .nilm, v', h, _ | .val _, v', h, _ | .strE _, v', h, _ | .gptr _ _, v', h, _ => by
    simp only [renSV, Option.some.injEq] at h; subst h; exact ⟨rfl, trivial⟩
theorem rens_sound {f : Nat → Option Nat} {ν ν' : Nat → Pl} {p p' : Nat → Prop} (hf : ∀ o o', f o = some o' → p o → ν' o' = ν o ∧ p' o') : ∀ {l l' : List SV}, renSVs f l = some l' → SV.wfL p l → SV.denL ν' l' = SV.denL ν l ∧ SV.wfL p' l'
  | [], l', h, _ => by simp only [renSVs, Option.some.injEq] at h; subst h; exact ⟨rfl, trivial⟩
  | v :: r, l', h, hw => by
    simp only [renSVs] at h
    split at h
    · rename_i v' r' h1 h2
      simp only [Option.some.injEq] at h; subst h
      obtain ⟨e1, e2⟩ := ren_sound hf h1 hw.1
      obtain ⟨e3, e4⟩ := rens_sound hf h2 hw.2
      exact ⟨by simp only [SV.denL, e1, e3], e2, e4⟩
    · simp at h
end

theorem rens_length {f : Nat → Option Nat} : ∀ {l l' : List SV}, renSVs f l = some l' → l'.length = l.length
  | [], l', h => by simp only [renSVs, Option.some.injEq] at h; subst h; rfl
  | v :: r, l', h => by
    simp only [renSVs] at h
    split at h
    · rename_i v' r' h1 h2
      simp only [Option.some.injEq] at h; subst h
      simp [rens_length h2]
    · simp at h

/-- A block under another number. -/
theorem renObj_sound {B' : Nat → Prop} (hB : ∀ b, B b → B' b) {f : Nat → Option Nat} {ν ν' : Nat → Pl} {p p' : Nat → Prop} (hf : ∀ o o', f o = some o' → p o → ν' o' = ν o ∧ p' o') {x y : SObj} (h : renObj f x = some y) {o o' : Nat} (he : ν' o' = ν o) (hx : ObjSat B' ν p w o x) :
    ObjSat B ν' p' w o' y ∧ y.owns (ν' o') = x.owns (ν o) ∧ y.alive = true := by
  unfold renObj at h
  split at h
  · rename_i vs ty
    simp only [Option.map_eq_some_iff] at h; obtain ⟨vs', h1, rfl⟩ := h
    obtain ⟨x1, x2, x3⟩ := hx
    obtain ⟨e1, e2⟩ := rens_sound hf h1 x3
    exact ⟨⟨fun hb => x1 (by rw [← he]; exact hB _ hb), by rw [he, e1]; exact x2, e2⟩, rfl, rfl⟩
  · rename_i sz vs
    simp only [Option.map_eq_some_iff] at h; obtain ⟨vs', h1, rfl⟩ := h
    obtain ⟨x1, x2, x3⟩ := hx
    obtain ⟨e1, e2⟩ := rens_sound hf h1 x3
    exact ⟨⟨fun hb => x1 (by rw [← he]; exact hB _ hb), by rw [he, e1]; exact x2, e2⟩, rfl, rfl⟩
  · rename_i ks vs
    split at h
    · rename_i ks' vs' h1 h2
      simp only [Option.some.injEq] at h; subst h
      obtain ⟨x1, x2, x3, x4, x5⟩ := hx
      obtain ⟨e1, e2⟩ := rens_sound hf h1 x3
      obtain ⟨e3, e4⟩ := rens_sound hf h2 x4
      have l1 := rens_length h1
      have l2 := rens_length h2
      exact ⟨⟨fun hb => x1 (by rw [← he]; exact hB _ hb), by rw [he, e1, e3, l1]; exact x2, e2, e4, by omega⟩, rfl, rfl⟩
    · simp at h
  · rename_i inp cols n
    simp only [Option.some.injEq] at h; subst h
    have hr : RowSat B' (ν o) w true inp cols n.den := hx
    refine ⟨?_, by simp [SObj.owns, he], rfl⟩
    show RowSat B (ν' o') w true inp cols n.den
    rw [he]
    exact ⟨hr.empty, fun a b => ⟨fun hb => (hr.lo a b).1 (hB _ hb), (hr.lo a b).2⟩, fun _ h => (by cases h), hr.cell, hr.thawed⟩
  · simp at h

theorem renObjs_get {f : Nat → Option Nat} {hp : List SObj} : ∀ {l : List Nat} {n : List SObj}, renObjs f hp l = some n → n.length = l.length ∧ ∀ (j : Nat) (y : SObj), n[j]? = some y → ∃ o x, l[j]? = some o ∧ hp[o]? = some x ∧ renObj f x = some y
  | [], n, h => by simp only [renObjs, Option.some.injEq] at h; subst h; exact ⟨rfl, fun j y hy => by simp at hy⟩
  | o :: r, n, h => by
    simp only [renObjs] at h
    split at h
    · rename_i x hx
      split at h
      · rename_i y l h1 h2
        simp only [Option.some.injEq] at h; subst h
        obtain ⟨e1, e2⟩ := renObjs_get h2
        refine ⟨by simp [e1], fun j z hz => ?_⟩
        cases j with
        | zero => simp at hz; subst hz; exact ⟨o, x, rfl, hx, h1⟩
        | succ j => obtain ⟨o', x', g1, g2, g3⟩ := e2 j z (by simpa using hz); exact ⟨o', x', by simpa using g1, g2, g3⟩
      · simp at h
    · simp at h
theorem renAll_get {f : Nat → Option Nat} : ∀ {l n : List SObj}, renAll f l = some n → n.length = l.length ∧ ∀ (j : Nat) (y : SObj), n[j]? = some y → ∃ x, l[j]? = some x ∧ renObj f x = some y
  | [], n, h => by simp only [renAll, Option.some.injEq] at h; subst h; exact ⟨rfl, fun j y hy => by simp at hy⟩
  | x :: r, n, h => by
    simp only [renAll] at h
    split at h
    · rename_i y l h1 h2
      simp only [Option.some.injEq] at h; subst h
      obtain ⟨e1, e2⟩ := renAll_get h2
      refine ⟨by simp [e1], fun j z hz => ?_⟩
      cases j with
      | zero => simp at hz; subst hz; exact ⟨x, rfl, h1⟩
      | succ j => obtain ⟨x', g2, g3⟩ := e2 j z (by simpa using hz); exact ⟨x', by simpa using g2, g3⟩
    · simp at h
theorem posOf_get {o : Nat} : ∀ {l : List Nat} {i j : Nat}, posOf o l i = some j → i ≤ j ∧ l[j - i]? = some o
  | [], i, j, h => by simp [posOf] at h
  | k :: r, i, j, h => by
    simp only [posOf] at h
    split at h
    · rename_i e
      simp only [Option.some.injEq] at h; subst h; subst e
      exact ⟨Nat.le_refl _, by simp⟩
    · obtain ⟨h1, h2⟩ := posOf_get h
      refine ⟨by omega, ?_⟩
      rw [show j - i = (j - (i + 1)) + 1 by omega]
      simpa using h2
theorem distinct_get : ∀ {l : List Nat} {i j : Nat} {o : Nat}, distinct l = true → l[i]? = some o → l[j]? = some o → i = j
  | [], i, j, o, _, h, _ => by simp at h
  | k :: r, 0, 0, o, _, _, _ => rfl
  | k :: r, 0, j + 1, o, h, h1, h2 => by
    simp only [distinct, Bool.and_eq_true, Bool.not_eq_true'] at h
    simp at h1 h2; subst h1
    have := List.mem_of_getElem? h2
    have h3 := h.1
    simp [List.contains_iff_mem.2 this] at h3
    exact absurd this h3
  | k :: r, i + 1, 0, o, h, h1, h2 => by
    simp only [distinct, Bool.and_eq_true, Bool.not_eq_true'] at h
    simp at h1 h2; subst h2
    have := List.mem_of_getElem? h1
    have h3 := h.1
    simp at h3
    exact absurd this h3
  | k :: r, i + 1, j + 1, o, h, h1, h2 => by
    simp only [distinct, Bool.and_eq_true] at h
    have := distinct_get (i := i) (j := j) h.2 (by simpa using h1) (by simpa using h2)
    omega

mutual
theorem eqLit_den {ν ν' : Nat → Pl} : ∀ {a b : SV}, eqLit a b = true → a.den ν = b.den ν' ∧ (∀ p, a.wf p) ∧ ∀ p, b.wf p
  | .int k (.lit x), .int k' (.lit y), h => by simp only [eqLit, Bool.and_eq_true, decide_eq_true_eq] at h; obtain ⟨rfl, rfl⟩ := h; exact ⟨rfl, fun _ => trivial, fun _ => trivial⟩
  | .bool (.lit x), .bool (.lit y), h => by simp only [eqLit, beq_iff_eq] at h; subst h; exact ⟨rfl, fun _ => trivial, fun _ => trivial⟩
  | .str x, .str y, h => by
    simp only [eqLit, beq_iff_eq] at h
    have : x = y := by
      cases x; cases y; simp only at h
      congr 1; exact Array.ext' h
    subst this; exact ⟨rfl, fun _ => trivial, fun _ => trivial⟩
  | .agg l, .agg l', h => by
    simp only [eqLit] at h
    obtain ⟨h1, h2, h3⟩ := eqLits_den (ν := ν) (ν' := ν') h
    exact ⟨by simp only [SV.den, h1], fun p => by simpa [SV.wf] using h2 p, fun p => by simpa [SV.wf] using h3 p⟩
  | .nils, .nils, _ => ⟨rfl, fun _ => trivial, fun _ => trivial⟩
  | .nilp, .nilp, _ => ⟨rfl, fun _ => trivial, fun _ => trivial⟩
  | .nili, .nili, _ => ⟨rfl, fun _ => trivial, fun _ => trivial⟩
theorem eqLits_den {ν ν' : Nat → Pl} : ∀ {a b : List SV}, eqLits a b = true → SV.denL ν a = SV.denL ν' b ∧ (∀ p, SV.wfL p a) ∧ ∀ p, SV.wfL p b
  | [], [], _ => ⟨rfl, fun _ => trivial, fun _ => trivial⟩
  | v :: r, v' :: r', h => by
    simp only [eqLits, Bool.and_eq_true] at h
    obtain ⟨h1, h2, h3⟩ := eqLit_den (ν := ν) (ν' := ν') h.1
    obtain ⟨h4, h5, h6⟩ := eqLits_den (ν := ν) (ν' := ν') h.2
    exact ⟨by simp only [SV.denL, h1, h4], fun p => ⟨h2 p, h5 p⟩, fun p => ⟨h3 p, h6 p⟩⟩
end

theorem globsIn_get {hp : List SObj} : ∀ {gs : List (Nat × List SV)}, globsIn hp gs = true → ∀ p ∈ gs, ∃ vs', globOf hp p.1 = some vs' ∧ eqLits vs' p.2 = true
  | [], _, p, hp' => by simp at hp'
  | (g, vs) :: r, h, p, hm => by
    simp only [globsIn, Bool.and_eq_true] at h
    rcases List.mem_cons.1 hm with rfl | hm
    · split at h
      · rename_i vs' hv; exact ⟨vs', hv, h.1⟩
      · simp at h
    · exact globsIn_get h.2 p hm

theorem globOf_obj {g : Nat} {vs : List SV} : ∀ {hp : List SObj}, globOf hp g = some vs → ∃ o : Nat, hp[o]? = some (.glob g vs)
  | [], h => by simp [globOf] at h
  | x :: r, h => by
    have ih := fun h' => globOf_obj (g := g) (vs := vs) (hp := r) h'
    cases x with
    | glob g' vs' =>
      simp only [globOf] at h
      split at h
      · rename_i e
        simp only [Option.some.injEq] at h; subst h; subst e
        exact ⟨0, rfl⟩
      · obtain ⟨o, ho⟩ := ih h; exact ⟨o + 1, by simpa using ho⟩
    | _ => obtain ⟨o, ho⟩ := ih h; exact ⟨o + 1, by simpa using ho⟩

theorem cl_ok {f : FuncId} {s : SpecFn} (hs : SpecOk P f s) {c : Cl} {keep : List Nat} (h : s c.args (gsHp c.gs) (clDone keep c.val c.new)) {B : Nat → Prop} {ν : Nat → Pl} {hp : List SObj} {w : World} {args : List SV} {K : SV → List SObj → Prop}
    (hsat : SatHp B ν hp w) (hB : Under B w) (ha : eqLits args c.args = true) (hg : globsIn hp c.gs = true) {v : SV} {n : List SObj} (hv : renSV (fun o => some (hp.length + o)) c.val = some v) (hn : renAll (fun o => some (hp.length + o)) c.new = some n) (hk : K v (hp ++ n)) :
    Calls P f (SV.denL ν args).toArray w (RetPost B ν hp w K) := by
  have hBs : ∀ b, B b → b < w.heap.size := hB
  let ν0 : Nat → Pl := fun i => match c.gs[i]? with | some p => ⟨p.1, 0, false⟩ | none => ⟨0, 0, false⟩
  have hs0 : SatHp (fun b => b < w.heap.size) ν0 (gsHp c.gs) w := by
    refine ⟨fun o x hx => ?_, fun o o' ho => ?_⟩
    · simp only [gsHp, List.getElem?_map, Option.map_eq_some_iff] at hx
      obtain ⟨q, hq, rfl⟩ := hx
      obtain ⟨vs', h1, h2⟩ := globsIn_get hg q (List.mem_of_getElem? hq)
      obtain ⟨o1, ho1⟩ := globOf_obj h1
      obtain ⟨_, g1, g2, g3, g4⟩ := hsat.obj o1 _ ho1
      refine ⟨by simp [ν0, hq], g2, g2, ?_, ?_⟩
      · obtain ⟨t, fz, g3⟩ := g3
        exact ⟨t, fz, by rw [g3, (eqLits_den (ν := nu0) (ν' := nu0) h2).1]⟩
      · exact (eqLits_den (ν := nu0) (ν' := nu0) h2).2.2 _
    · obtain ⟨x, hx, hw⟩ := ho
      simp only [gsHp, List.getElem?_map, Option.map_eq_some_iff] at hx
      obtain ⟨q, hq, rfl⟩ := hx
      simp [SObj.owns] at hw
  have hc := hs (fun b => b < w.heap.size) ν0 (gsHp c.gs) w c.args (clDone keep c.val c.new) hs0 (fun _ h => h) ((eqLits_den (ν := ν) (ν' := ν0) ha).2.2 _) h
  rw [← (eqLits_den (ν := ν) (ν' := ν0) ha).1] at hc
  refine hc.mono ?_
  rintro e w' ⟨ν1, v1, hp1, l1, a1, rfl, w1, s1, b1, hd⟩
  unfold clDone at hd
  split at hd
  · rename_i v' n' hdis hr1 hr2
    obtain ⟨t1, t2⟩ := sameSV_eq _ _ _ hd
    obtain ⟨t3, _⟩ := sameHp_eq _ _ _ t2
    rw [t1] at hr1
    rw [t3] at hr2
    clear t1 t2 t3 hd
    obtain ⟨q1, q2⟩ := renObjs_get hr2
    obtain ⟨q3, q4⟩ := renAll_get hn
    let νm : Nat → Pl := fun j => match keep[j]? with | some o => ν1 o | none => ⟨0, 0, false⟩
    let ν2 : Nat → Pl := fun i => if i < hp.length then ν i else νm (i - hp.length)
    have f1 : ∀ o j, posOf o keep 0 = some j → Live hp1 o → νm j = ν1 o ∧ j < keep.length := fun o j hj _ => by
      obtain ⟨_, h2⟩ := posOf_get hj
      rw [Nat.sub_zero] at h2
      exact ⟨by simp [νm, h2], (List.getElem?_eq_some_iff.1 h2).1⟩
    have hlen : n.length = keep.length := by omega
    have hin : ∀ j, j < keep.length → Live (hp ++ n) (hp.length + j) := fun j hj => by
      have hj' : j < n.length := by omega
      obtain ⟨x, _, hx2⟩ := q4 j n[j] (List.getElem?_eq_getElem hj')
      refine ⟨n[j], by rw [List.getElem?_append_right (by omega), Nat.add_sub_cancel_left]; exact List.getElem?_eq_getElem hj', ?_⟩
      unfold renObj at hx2
      split at hx2
      · simp only [Option.map_eq_some_iff] at hx2; obtain ⟨_, _, e⟩ := hx2; rw [← e]; rfl
      · simp only [Option.map_eq_some_iff] at hx2; obtain ⟨_, _, e⟩ := hx2; rw [← e]; rfl
      · split at hx2
        · simp only [Option.some.injEq] at hx2; rw [← hx2]; rfl
        · simp at hx2
      · simp only [Option.some.injEq] at hx2; rw [← hx2]; rfl
      · simp at hx2
    have f2 : ∀ j i, (some (hp.length + j) : Option Nat) = some i → j < keep.length → ν2 i = νm j ∧ Live (hp ++ n) i := fun j i hj hlt => by
      simp only [Option.some.injEq] at hj; subst hj
      exact ⟨by simp only [ν2, show ¬ hp.length + j < hp.length by omega, if_false, Nat.add_sub_cancel_left], hin j hlt⟩
    obtain ⟨v2, v3⟩ := ren_sound (ν := ν1) (ν' := νm) (p := Live hp1) (p' := fun j => j < keep.length) f1 hr1 w1
    obtain ⟨v4, v5⟩ := ren_sound (ν := νm) (ν' := ν2) (p := fun j => j < keep.length) (p' := Live (hp ++ n)) f2 hv v3
    have hag : Agree (Live hp) ν ν2 := fun o ho => by simp [ν2, live_lt ho]
    have hl : ∀ o, Live hp o → Live (hp ++ n) o := fun o ho => by
      have hlt := live_lt ho
      obtain ⟨x, hx, e⟩ := ho
      exact ⟨x, by rw [List.getElem?_append_left hlt]; exact hx, e⟩
    have hold : ∀ k, k < w.heap.size → w'.heap[k]? = w.heap[k]? := fun k hk => b1.block k hk
    have hnew : ∀ j y, n[j]? = some y → ∃ o x, keep[j]? = some o ∧ hp1[o]? = some x ∧ ObjSat B ν2 (Live (hp ++ n)) w' (hp.length + j) y ∧ y.owns (ν2 (hp.length + j)) = x.owns (ν1 o) ∧ ν2 (hp.length + j) = ν1 o := fun j y hy => by
      obtain ⟨x1, g1, g2⟩ := q4 j y hy
      obtain ⟨o, x0, g3, g4, g5⟩ := q2 j x1 g1
      have e1 : νm j = ν1 o := by simp [νm, g3]
      have e2 : ν2 (hp.length + j) = νm j := by simp only [ν2, show ¬ hp.length + j < hp.length by omega, if_false, Nat.add_sub_cancel_left]
      obtain ⟨z1, z2, _⟩ := renObj_sound (B := fun b => b < w.heap.size) (B' := fun b => b < w.heap.size) (fun _ h => h) (ν := ν1) (ν' := νm) (p := Live hp1) (p' := fun j => j < keep.length) f1 g5 (o := o) (o' := j) e1 (s1.obj o x0 g4)
      obtain ⟨z3, z4, _⟩ := renObj_sound (B := B) (B' := fun b => b < w.heap.size) hBs (ν := νm) (ν' := ν2) (p := fun j => j < keep.length) (p' := Live (hp ++ n)) f2 g2 (o := j) (o' := hp.length + j) e2 z1
      exact ⟨o, x0, g3, g4, z3, by rw [z4, z2], by rw [e2, e1]⟩
    have hat : ∀ i y, (hp ++ n)[i]? = some y → (i < hp.length ∧ hp[i]? = some y) ∨ (hp.length ≤ i ∧ n[i - hp.length]? = some y) := fun i y hy => by
      rw [List.getElem?_append] at hy
      split at hy
      · rename_i hlt; exact .inl ⟨hlt, hy⟩
      · rename_i hge; exact .inr ⟨by omega, hy⟩
    have hs2 : SatHp B ν2 (hp ++ n) w' := by
      refine ⟨fun i y hy => ?_, fun i i' hi hi' ee => ?_⟩
      · rcases hat i y hy with ⟨c1, c2⟩ | ⟨c1, c2⟩
        · exact (hsat.obj i y c2).mono (live_of c2) hl hag b1.size (fun _ _ hlt => hold _ hlt)
        · obtain ⟨o, x, _, _, g, _, _⟩ := hnew _ y c2
          rw [show hp.length + (i - hp.length) = i by omega] at g; exact g
      · have side : ∀ i, Owned ν2 (hp ++ n) i → (i < hp.length ∧ Owned ν hp i) ∨ (hp.length ≤ i ∧ ∃ o, keep[i - hp.length]? = some o ∧ Owned ν1 hp1 o ∧ ν2 i = ν1 o) := fun i ⟨y, hy, hw⟩ => by
          rcases hat i y hy with ⟨c1, c2⟩ | ⟨c1, c2⟩
          · refine .inl ⟨c1, y, c2, ?_⟩
            simpa [ν2, c1] using hw
          · obtain ⟨o, x, g1, g2, _, g4, g5⟩ := hnew _ y c2
            rw [show hp.length + (i - hp.length) = i by omega] at g4 g5
            exact .inr ⟨c1, o, g1, ⟨x, g2, by rw [← g4]; exact hw⟩, g5⟩
        rcases side i hi with ⟨c1, c2⟩ | ⟨c1, o, c2, c3, c4⟩ <;> rcases side i' hi' with ⟨d1, d2⟩ | ⟨d1, o', d2, d3, d4⟩
        · simp only [ν2, c1, d1, if_true] at ee; exact hsat.apart i i' c2 d2 ee
        · have h1 := hsat.size i c2
          have h2 := s1.low o' d3
          rw [d4] at ee
          simp only [ν2, c1, if_true] at ee
          rw [← ee] at h2; exact absurd h1 h2
        · have h1 := hsat.size i' d2
          have h2 := s1.low o c3
          rw [c4] at ee
          simp only [ν2, d1, if_true] at ee
          rw [ee] at h2; exact absurd h1 h2
        · rw [c4, d4] at ee
          have := s1.apart o o' c3 d3 ee
          subst this
          have := distinct_get hdis c2 d2
          omega
    refine ⟨ν2, v, hp ++ n, hl, hag, by rw [v4, v2], v5, hs2, b1.mono hBs, hk⟩
  · exact nomatch hd

theorem findCl_mem {args : List SV} {hp : List SObj} {c : Cl} : ∀ {l : List Cl}, findCl args hp l = some c → c ∈ l ∧ eqLits args c.args = true ∧ globsIn hp c.gs = true
  | [], h => by simp [findCl] at h
  | x :: r, h => by
    simp only [findCl] at h
    split at h
    · rename_i hc
      simp only [Option.some.injEq] at h; subst h
      simp only [Bool.and_eq_true] at hc
      exact ⟨List.mem_cons_self .., hc.1, hc.2⟩
    · obtain ⟨h1, h2⟩ := findCl_mem h; exact ⟨List.mem_cons_of_mem _ h1, h2⟩

/-- Calls with known arguments are what they were told to be. -/
theorem clSpec_ok {f : FuncId} {s s' : SpecFn} (hs : SpecOk P f s) (hs' : SpecOk P f s') {l : List Cl} (h : ∀ c ∈ l, ∃ keep, s c.args (gsHp c.gs) (clDone keep c.val c.new)) : SpecOk P f (clSpec l s') := by
  intro B ν hp w args K hsat hB hwf hx
  unfold clSpec at hx
  split at hx
  · rename_i c hc
    obtain ⟨h1, h2, h3⟩ := findCl_mem hc
    obtain ⟨keep, hd⟩ := h c h1
    split at hx
    · rename_i v n hv hn
      rw [fSV_eq, fHp_eq] at hx
      exact cl_ok hs hd hsat hB h2 h3 hv hn hx
    · exact nomatch hx
  · exact hs' B ν hp w args K hsat hB hwf hx
end
end Go.Proofs.YtalifikpmlapgaaGreat.Sx
