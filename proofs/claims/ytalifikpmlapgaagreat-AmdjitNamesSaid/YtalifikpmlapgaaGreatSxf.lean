/- What a call with known arguments comes to that reads a known row, wherever the row lies. -/
import Derived.Test.YtalifikpmlapgaaGreatSxe
namespace Go.Proofs.YtalifikpmlapgaaGreat.Sx
open Go Go.RowKit
set_option linter.unusedVariables false
set_option linter.unusedSimpArgs false

/-- A call: its first argument is a slice of a row of known cells; the others are known. -/
structure Rc where
  sz : Nat
  st : Nat
  len : Nat
  cells : List SV
  rest : List SV
  val : SV
  new : List SObj
def rcHit (c : Rc) (args : List SV) (hp : List SObj) : Option Nat :=
  match args with
  | .sliceG o sz st len :: r =>
    match hp[o]? with
    | some (.grown gz vs) => if sz = c.sz ∧ gz = c.sz ∧ st = c.st ∧ len = c.len ∧ eqLits r c.rest = true ∧ eqLits vs c.cells = true then some o else none
    | _ => none
  | _ => none
def findRc (args : List SV) (hp : List SObj) : List Rc → Option Rc
  | [] => none
  | c :: r => if (rcHit c args hp).isSome then some c else findRc args hp r
def rcSpec (l : List Rc) (s : SpecFn) : SpecFn := fun args hp K =>
  match findRc args hp l with
  | some c =>
    match renSV (fun o => some (hp.length + o)) c.val, renAll (fun o => some (hp.length + o)) c.new with
    | some v, some n => fSV v fun v => fHp n fun n => K v (hp ++ n)
    | _, _ => StuckAt 411
  | none => s args hp K
def rcGuess (l : List Rc) (g : Guess) : Guess := fun args hp =>
  match findRc args hp l with
  | some c =>
    match renSV (fun o => some (hp.length + o)) c.val, renAll (fun o => some (hp.length + o)) c.new with
    | some v, some n => some (v, hp ++ n)
    | _, _ => none
  | none => g args hp
def rcArgs (c : Rc) : List SV := .sliceG 0 c.sz c.st c.len :: c.rest
def rcHp (c : Rc) : List SObj := [.grown c.sz c.cells]
def rcDone (c : Rc) (keep : List Nat) (v : SV) (hp : List SObj) : Prop :=
  match distinct keep && keep.all (fun o => Nat.blt 0 o), renSV (fun o => posOf o keep 0) v, renObjs (fun o => posOf o keep 0) hp keep with
  | true, some v', some n' => sameSV v' c.val (sameHp n' c.new (sameHp (hp.take 1) (rcHp c) True))
  | _, _, _ => StuckAt 412

section
variable {P : Program} {Γ : FuncId → Option Cal} {B : Nat → Prop} {ν : Nat → Pl} {w : World}

theorem rc_ok {f : FuncId} {s : SpecFn} (hs : SpecOk P f s) {c : Rc} {keep : List Nat} (h : s (rcArgs c) (rcHp c) (rcDone c keep)) {B : Nat → Prop} {ν : Nat → Pl} {hp : List SObj} {w : World} {args : List SV} {K : SV → List SObj → Prop} {oo : Nat}
    (hsat : SatHp B ν hp w) (hB : Under B w) (hhit : rcHit c args hp = some oo) {v : SV} {n : List SObj} (hv : renSV (fun o => some (hp.length + o)) c.val = some v) (hn : renAll (fun o => some (hp.length + o)) c.new = some n) (hk : K v (hp ++ n)) :
    Calls P f (SV.denL ν args).toArray w (RetPost B ν hp w K) := by
  unfold rcHit at hhit
  split at hhit
  · rename_i o sz st len r
    split at hhit
    · rename_i gz vs ho
      split at hhit
      · rename_i hcond
        obtain ⟨rfl, rfl, rfl, rfl, hr, hcs⟩ := hcond
        simp only [Option.some.injEq] at hhit; subst hhit
        obtain ⟨g1, g2, g3⟩ := hsat.obj o _ ho
        have hoo : Owned ν hp o := ⟨_, ho, rfl⟩
        have hosz := hsat.size o hoo
        let B' : Nat → Prop := fun b => b < w.heap.size ∧ b ≠ (ν o).blk
        let ν0 : Nat → Pl := fun _ => ν o
        have hcd := eqLits_den (ν := ν) (ν' := ν0) hcs
        have hs0 : SatHp B' ν0 (rcHp c) w := by
          refine ⟨fun i y hy => ?_, fun i i' hi hi' _ => ?_⟩
          · have hi0 : i = 0 := by have := (List.getElem?_eq_some_iff.1 hy).1; simp [rcHp] at this; omega
            subst hi0
            simp only [rcHp, List.getElem?_cons_zero, Option.some.injEq] at hy; subst hy
            refine ⟨fun hb => hb.2 rfl, ?_, hcd.2.2 _⟩
            rw [← hcd.1]; exact g2
          · have key : ∀ i, Owned ν0 (rcHp c) i → i = 0 := fun i ⟨y, hy, _⟩ => by have := (List.getElem?_eq_some_iff.1 hy).1; simp [rcHp] at this; omega
            rw [key i hi, key i' hi']
        have hrd := eqLits_den (ν := ν) (ν' := ν0) hr
        have hc := hs B' ν0 (rcHp c) w (rcArgs c) (rcDone c keep) hs0 (fun b hb => hb.1) ⟨⟨_, rfl, rfl⟩, hrd.2.2 _⟩ h
        have eargs : SV.denL ν0 (rcArgs c) = SV.denL ν (.sliceG o c.sz c.st c.len :: r) := by
          simp only [rcArgs, SV.denL, hrd.1]
          rfl
        rw [eargs] at hc
        refine hc.mono ?_
        rintro e w' ⟨ν1, v1, hp1, l1, a1, rfl, w1, s1, b1, hd⟩
        unfold rcDone at hd
        split at hd
        · rename_i v' n' hdk hr1 hr2
          simp only [Bool.and_eq_true] at hdk
          obtain ⟨hdis, hpos⟩ := hdk
          obtain ⟨t1, t2⟩ := sameSV_eq _ _ _ hd
          obtain ⟨t3, t4⟩ := sameHp_eq _ _ _ t2
          obtain ⟨t5, _⟩ := sameHp_eq _ _ _ t4
          rw [t1] at hr1
          rw [t3] at hr2
          clear t1 t2 t3 t4 hd
          have h10 : hp1[0]? = some (.grown c.sz c.cells) := by
            have := congrArg (fun l => l[0]?) t5
            simpa [rcHp, List.getElem?_take] using this
          have hv0 : ν1 0 = ν o := a1 0 ⟨_, rfl, rfl⟩
          have hown0 : Owned ν1 hp1 0 := ⟨_, h10, rfl⟩
          obtain ⟨q1, q2⟩ := renObjs_get hr2
          obtain ⟨q3, q4⟩ := renAll_get hn
          have hBs : ∀ b, B b → B' b := fun b hb => ⟨hB b hb, fun ee => g1 (ee ▸ hb)⟩
          let νm : Nat → Pl := fun j => match keep[j]? with | some o => ν1 o | none => ⟨0, 0, false⟩
          let ν2 : Nat → Pl := fun i => if i < hp.length then ν i else νm (i - hp.length)
          have f1 : ∀ o j, posOf o keep 0 = some j → Live hp1 o → νm j = ν1 o ∧ j < keep.length := fun o j hj _ => by
            obtain ⟨_, h2⟩ := posOf_get hj
            rw [Nat.sub_zero] at h2
            exact ⟨by simp [νm, h2], (List.getElem?_eq_some_iff.1 h2).1⟩
          have hlen : n.length = keep.length := by omega
          have hin : ∀ j, j < keep.length → Live (hp ++ n) (hp.length + j) := fun j hj => by
            have hj' : j < n.length := by omega
            obtain ⟨x, _, hx2⟩ := q4 j n[j] (List.getElem?_eq_getElem hj')
            refine ⟨n[j], by rw [List.getElem?_append_right (by omega), Nat.add_sub_cancel_left]; exact List.getElem?_eq_getElem hj', ?_⟩
            unfold renObj at hx2
            split at hx2
            · simp only [Option.map_eq_some_iff] at hx2; obtain ⟨_, _, e⟩ := hx2; rw [← e]; rfl
            · simp only [Option.map_eq_some_iff] at hx2; obtain ⟨_, _, e⟩ := hx2; rw [← e]; rfl
            · split at hx2
              · simp only [Option.some.injEq] at hx2; rw [← hx2]; rfl
              · simp at hx2
            · simp only [Option.some.injEq] at hx2; rw [← hx2]; rfl
            · simp at hx2
          have f2 : ∀ j i, (some (hp.length + j) : Option Nat) = some i → j < keep.length → ν2 i = νm j ∧ Live (hp ++ n) i := fun j i hj hlt => by
            simp only [Option.some.injEq] at hj; subst hj
            exact ⟨by simp only [ν2, show ¬ hp.length + j < hp.length by omega, if_false, Nat.add_sub_cancel_left], hin j hlt⟩
          obtain ⟨v2, v3⟩ := ren_sound (ν := ν1) (ν' := νm) (p := Live hp1) (p' := fun j => j < keep.length) f1 hr1 w1
          obtain ⟨v4, v5⟩ := ren_sound (ν := νm) (ν' := ν2) (p := fun j => j < keep.length) (p' := Live (hp ++ n)) f2 hv v3
          have hag : Agree (Live hp) ν ν2 := fun o ho => by simp [ν2, live_lt ho]
          have hl : ∀ o, Live hp o → Live (hp ++ n) o := fun o ho => by
            have hlt := live_lt ho
            obtain ⟨x, hx, e⟩ := ho
            exact ⟨x, by rw [List.getElem?_append_left hlt]; exact hx, e⟩
          have hnew : ∀ j y, n[j]? = some y → ∃ k x, keep[j]? = some k ∧ hp1[k]? = some x ∧ ObjSat B ν2 (Live (hp ++ n)) w' (hp.length + j) y ∧ y.owns (ν2 (hp.length + j)) = x.owns (ν1 k) ∧ ν2 (hp.length + j) = ν1 k := fun j y hy => by
            obtain ⟨x1, z1, z2⟩ := q4 j y hy
            obtain ⟨k, x0, z3, z4, z5⟩ := q2 j x1 z1
            have e1 : νm j = ν1 k := by simp [νm, z3]
            have e2 : ν2 (hp.length + j) = νm j := by simp only [ν2, show ¬ hp.length + j < hp.length by omega, if_false, Nat.add_sub_cancel_left]
            obtain ⟨y1, y2, _⟩ := renObj_sound (B := B') (B' := B') (fun _ h => h) (ν := ν1) (ν' := νm) (p := Live hp1) (p' := fun j => j < keep.length) f1 z5 (o := k) (o' := j) e1 (s1.obj k x0 z4)
            obtain ⟨y3, y4, _⟩ := renObj_sound (B := B) (B' := B') hBs (ν := νm) (ν' := ν2) (p := fun j => j < keep.length) (p' := Live (hp ++ n)) f2 z2 (o := j) (o' := hp.length + j) e2 y1
            exact ⟨k, x0, z3, z4, y3, by rw [y4, y2], by rw [e2, e1]⟩
          have hat : ∀ i y, (hp ++ n)[i]? = some y → (i < hp.length ∧ hp[i]? = some y) ∨ (hp.length ≤ i ∧ n[i - hp.length]? = some y) := fun i y hy => by
            rw [List.getElem?_append] at hy
            split at hy
            · rename_i hlt; exact .inl ⟨hlt, hy⟩
            · rename_i hge; exact .inr ⟨by omega, hy⟩
          have hkp : ∀ (j k : Nat), keep[j]? = some k → k ≠ 0 := fun j k hj e => by
            have := List.all_eq_true.1 hpos k (List.mem_of_getElem? hj)
            rw [e] at this
            exact absurd this (by decide)
          have hs2 : SatHp B ν2 (hp ++ n) w' := by
            refine ⟨fun i y hy => ?_, fun i i' hi hi' ee => ?_⟩
            · rcases hat i y hy with ⟨c1, c2⟩ | ⟨c1, c2⟩
              · by_cases hio : i = o
                · subst hio
                  rw [ho] at c2; cases c2
                  obtain ⟨y1, y2, y3⟩ := s1.obj 0 _ h10
                  have e2 : ν2 i = ν i := by simp [ν2, c1]
                  refine ⟨by rw [e2]; exact g1, ?_, wfL_mono hl _ g3⟩
                  rw [e2, ← hv0, (eqLits_den (ν := ν2) (ν' := ν1) hcs).1]
                  exact y2
                · refine (hsat.obj i y c2).mono (live_of c2) hl hag b1.size (fun hlo hor hlt => b1.block _ ⟨hlt, fun ee => ?_⟩)
                  rcases hor with h1 | h1
                  · exact hio (hsat.apart i o ⟨y, c2, h1⟩ hoo ee)
                  · exact g1 (ee ▸ h1)
              · obtain ⟨k, x, _, _, g, _, _⟩ := hnew _ y c2
                rw [show hp.length + (i - hp.length) = i by omega] at g; exact g
            · have side : ∀ i, Owned ν2 (hp ++ n) i → (i < hp.length ∧ Owned ν hp i) ∨ (hp.length ≤ i ∧ ∃ k, keep[i - hp.length]? = some k ∧ Owned ν1 hp1 k ∧ ν2 i = ν1 k) := fun i ⟨y, hy, hw⟩ => by
                rcases hat i y hy with ⟨c1, c2⟩ | ⟨c1, c2⟩
                · refine .inl ⟨c1, y, c2, ?_⟩
                  simpa [ν2, c1] using hw
                · obtain ⟨k, x, z1, z2, _, z4, z5⟩ := hnew _ y c2
                  rw [show hp.length + (i - hp.length) = i by omega] at z4 z5
                  exact .inr ⟨c1, k, z1, ⟨x, z2, by rw [← z4]; exact hw⟩, z5⟩
              have far : ∀ (k : Nat) (j : Nat), keep[j]? = some k → Owned ν1 hp1 k → ∀ i, Owned ν hp i → (ν i).blk ≠ (ν1 k).blk := fun k j hj hk1 i hi1 ee => by
                have h1 := hsat.size i hi1
                have h2 := s1.low k hk1
                rw [← ee] at h2
                by_cases hb : (ν i).blk = (ν o).blk
                · rw [ee, ← hv0] at hb
                  exact hkp j k hj (s1.apart k 0 hk1 hown0 hb)
                · exact h2 ⟨h1, hb⟩
              rcases side i hi with ⟨c1, c2⟩ | ⟨c1, k, c2, c3, c4⟩ <;> rcases side i' hi' with ⟨d1, d2⟩ | ⟨d1, k', d2, d3, d4⟩
              · simp only [ν2, c1, d1, if_true] at ee; exact hsat.apart i i' c2 d2 ee
              · rw [d4] at ee
                simp only [ν2, c1, if_true] at ee
                exact absurd ee (far k' _ d2 d3 i c2)
              · rw [c4] at ee
                simp only [ν2, d1, if_true] at ee
                exact absurd ee.symm (far k _ c2 c3 i' d2)
              · rw [c4, d4] at ee
                have := s1.apart k k' c3 d3 ee
                subst this
                have := distinct_get hdis c2 d2
                omega
          exact ⟨ν2, v, hp ++ n, hl, hag, by rw [v4, v2], v5, hs2, b1.mono hBs, hk⟩
        · exact nomatch hd
      · simp at hhit
    · simp at hhit
  · simp at hhit

theorem findRc_mem {args : List SV} {hp : List SObj} {c : Rc} : ∀ {l : List Rc}, findRc args hp l = some c → c ∈ l ∧ ∃ o, rcHit c args hp = some o
  | [], h => by simp [findRc] at h
  | x :: r, h => by
    simp only [findRc] at h
    split at h
    · rename_i hc
      simp only [Option.some.injEq] at h; subst h
      exact ⟨List.mem_cons_self .., Option.isSome_iff_exists.1 hc⟩
    · obtain ⟨h1, h2⟩ := findRc_mem h; exact ⟨List.mem_cons_of_mem _ h1, h2⟩

theorem rcSpec_ok {f : FuncId} {s s' : SpecFn} (hs : SpecOk P f s) (hs' : SpecOk P f s') {l : List Rc} (h : ∀ c ∈ l, ∃ keep, s (rcArgs c) (rcHp c) (rcDone c keep)) : SpecOk P f (rcSpec l s') := by
  intro B ν hp w args K hsat hB hwf hx
  unfold rcSpec at hx
  split at hx
  · rename_i c hc
    obtain ⟨h1, o, h2⟩ := findRc_mem hc
    obtain ⟨keep, hd⟩ := h c h1
    split at hx
    · rename_i v n hv hn
      rw [fSV_eq, fHp_eq] at hx
      exact rc_ok hs hd hsat hB h2 hv hn hx
    · exact nomatch hx
  · exact hs' B ν hp w args K hsat hB hwf hx
end
end Go.Proofs.YtalifikpmlapgaaGreat.Sx
