/- Symbolic execution is sound: one operation; a list of them; code; a function's call. -/
import Derived.Test.YtiljkmcahkphiaaSx4
import Derived.OrdersHeld
namespace Go.Proofs.Ytiljkmcahkphiaa.Sx
open Go Go.RowKit
set_option linter.unusedVariables false
set_option linter.unusedSimpArgs false

section
variable {P : Program} {Γ : FuncId → Option Cal} {B : Nat} {n : Nat → Prop} {ν : Nat → Nat} {σ : St} {a : Act} {w : World}

/-- What follows is so for whatever fits. -/
def Follows (B : Nat) (ν : Nat → Nat) (hp : List SObj) (w : World) (K : St → Prop) (next : Act → World → Prop) : Prop :=
  ∀ ν' σ' a' w', (∀ o, Live hp o → Live σ'.hp o) → Agree (Live hp) ν ν' → Sat B ν' σ' a' w' → Below B w w' → K σ' → next a' w'

theorem Follows.later {hp : List SObj} {K : St → Prop} {next : Act → World → Prop} (h : Follows B ν hp w K next) {ν' : Nat → Nat} {hp' : List SObj} {w' : World}
    (hl : ∀ o, Live hp o → Live hp' o) (ha : Agree (Live hp) ν ν') (hb : Below B w w') : Follows B ν' hp' w' K next :=
  fun ν'' σ'' a'' w'' hl' ha' hs hb' hk => h ν'' σ'' a'' w'' (fun o ho => hl' o (hl o ho)) (ha.trans ha' hl) hs (hb.trans hb') hk

theorem put_hp (σ : St) (d : Option Nat) (v : SV) : (σ.put d v).hp = σ.hp := by cases d <;> rfl

theorem layK_sat (h : Sat B ν σ a w) {vs : List SV} (hv : SV.wfL (Live σ.hp) vs) (e : TypeId) (k : Option Nat) (d : Option Nat) (f : Nat → SV) (g : Nat → Value)
    (hf : ∀ ν b, (f b).den ν = g (ν b)) (hw : ∀ (p : Nat → Prop) b, p b → (f b).wf p) {K : St → Prop} {next : Act → World → Prop} (hn : Follows B ν σ.hp w K next)
    (hk : layK σ k (.cells vs e) d f K) : next (a.put d (g w.heap.size)) (w.alloc (.cells (SV.denL ν vs).toArray e)) := by
  have hb : Below B w (w.alloc (.cells (SV.denL ν vs).toArray e)) := (Below.refl B w).alloc h.base _
  have main : ∀ b hp', SatHp B (bump ν b w.heap.size) hp' (w.alloc (.cells (SV.denL ν vs).toArray e)) → (∀ o, Live σ.hp o → Live hp' o) → Agree (Live σ.hp) ν (bump ν b w.heap.size) → Live hp' b →
      K (St.put { σ with hp := hp' } d (f b)) → next (a.put d (g w.heap.size)) (w.alloc (.cells (SV.denL ν vs).toArray e)) := by
    intro b hp' hs hlv ha hl hk
    have h2 : Sat B _ { σ with hp := hp' } a (w.alloc (.cells (SV.denL ν vs).toArray e)) := sat_grow h hlv ha hs hb
    have h3 := put_sat h2 d (v := f b) (hw _ _ hl)
    have := hn _ _ _ _ (by rw [put_hp]; exact hlv) ha h3 hb hk
    rw [hf, bump_at] at this
    exact this
  unfold layK at hk
  rw [fObj_eq] at hk
  simp only [putH_eq] at hk
  split at hk
  · obtain ⟨hs, hlv, ha⟩ := alloc_hp h.hp h.base hv e
    exact main _ _ hs hlv ha ⟨vs, e, by simp⟩ hk
  · rename_i b
    split at hk
    · rename_i hd
      have hlt : b < σ.hp.length := (List.getElem?_eq_some_iff.1 hd).1
      have hnl : ¬ Live σ.hp b := fun ⟨_, _, hx⟩ => by rw [hd] at hx; cases hx
      have hat : (setAt σ.hp b (.cells vs e))[b]? = some (.cells vs e) := by rw [setAt_set]; simp [hlt]
      obtain ⟨hs, hlv, ha⟩ := lay_hp h.hp h.base hv e hnl hat (fun o x hne hx => by
          rw [setAt_set, List.getElem?_set_ne (by omega)] at hx; exact .inl hx) (fun o ho => by
          rw [setAt_set, List.getElem?_set_ne (fun e => hnl (by rw [e]; exact ho))])
      exact main _ _ hs hlv ha ⟨vs, e, hat⟩ hk
    · exact nomatch hk

theorem hp_below {hp : List SObj} {w' : World} (h : SatHp B ν hp w) (hb : Below w.heap.size w w') : SatHp B ν hp w' :=
  ⟨fun o x ho => (h.obj o x ho).mono (live_of ho) (fun _ h => h) (Agree.refl _ _) (fun hl => hb.block _ (h.size o hl)), h.apart⟩

theorem run_newRow (e : TypeId) (cs : Array Value) : (newRow e cs).run P w = .ok ⟨w.heap.size, 0, none⟩ (w.alloc (.cells cs e)) := rfl

theorem oper_sound (hΓ : GammaOk P Γ) (h : Sat B ν σ a w) {o : Oper} {k : Option Nat} {K : St → Prop} (hx : sxOper P Γ k o σ K) {next : Act → World → Prop} {Q : Exit → Act → World → Prop}
    (hn : Follows B ν σ.hp w K next) : o.wp P a w next Q := by
  unfold Oper.wp
  unfold sxOper at hx
  simp only [putK_eq, putH_eq, fObj_eq] at hx
  split at hx
  · rename_i e he
    split at hx
    · rename_i z hz
      obtain ⟨z1, z2⟩ := zeroOf_sound (ν := ν) (w := w) (n := (Live σ.hp)) hz
      have hr : (execOp a.eval o).run P w = .ok (.value (.pointer (some ⟨w.heap.size, 0, none⟩))) (w.alloc (.cells (z.den ν).cells e)) := by
        simp only [execOp, he, Instr.alloc]
        rw [Sem.run_bind, Sem.run_bind, z1]
        rfl
      rw [hr, Oper.upon_value]
      rw [cells_den]
      exact layK_sat h (wf_cells z2) e k o.dst (fun b => .ptr b 0) (fun b => .pointer (some ⟨b, 0, none⟩)) (fun _ _ => rfl) (fun _ _ hp => hp) hn hx
    · exact hx.elim
  · rename_i e x he
    split at hx
    · rename_i v hv
      obtain ⟨v1, v2⟩ := eval_sound h.t hv
      have hr : (execOp a.eval o).run P w = .ok (.value (.pointer (some ⟨w.heap.size, 0, none⟩))) (w.alloc (.cells (v.den ν).cells e)) := by
        simp only [execOp, he, Instr.box, v1]
        rfl
      rw [hr, Oper.upon_value]
      rw [cells_den]
      exact layK_sat h (wf_cells v2) e k o.dst (fun b => .ptr b 0) (fun b => .pointer (some ⟨b, 0, none⟩)) (fun _ _ => rfl) (fun _ _ hp => hp) hn hx
    · exact hx.elim
  · rename_i t len parts he
    split at hx
    · rename_i e l hu hl
      split at hx
      · rename_i i z hi hz
        split at hx
        · rename_i hc
          obtain ⟨c1, c2, c3⟩ := hc
          split at hx
          · rename_i cs hcs
            obtain ⟨p1, p2⟩ := evalParts_sound h.t hl
            obtain ⟨z1, z2⟩ := zeroOf_sound (ν := ν) (w := w) (n := (Live σ.hp)) hz
            have hwz := (wfL_iff _ _).1 (wf_cells z2)
            have hz0 : SV.wfL (Live σ.hp) ((List.range (len * i.size)).map fun j => z.cells.getD (j % i.size) SV.undef) := by
              rw [wfL_iff]
              intro x hx'
              obtain ⟨j, _, rfl⟩ := List.mem_map.1 hx'
              by_cases hj : j % i.size < z.cells.length
              · simp only [List.getD_eq_getElem?_getD, List.getElem?_eq_getElem hj, Option.getD_some]; exact hwz _ (List.getElem_mem hj)
              · simp only [List.getD_eq_getElem?_getD, List.getElem?_eq_none (Nat.le_of_not_lt hj), Option.getD_none]; simp [SV.undef, SV.wf, SV.wfL]
            obtain ⟨f1, f2, _⟩ := fillC_sound ν _ (fun j => some (j * i.size, i.size)) (fun _ _ hx' => hx') l _ cs hcs p2 hz0
            have u1 : (underlying t).run P w = .ok (.slice e) w := by simp [underlying, program, Sem.run, hu, pure]
            have s1 : (sizeOf e).run P w = .ok i.size w := by simp [sizeOf, typeInfo, program, hi, Sem.run, pure]
            have e1 : (parts.map fun (i, x) => (i, a.eval x)).toList = l.map fun p => (p.1, p.2.den ν) := by rw [← p1]; simp
            have e2 : (Array.range (len * i.size)).map ((z.den ν).cells[· % (z.den ν).cells.size]!) = (SV.denL ν ((List.range (len * i.size)).map fun j => z.cells.getD (j % i.size) SV.undef)).toArray := by
              apply Array.ext'
              have hsz : (z.den ν).cells.size = i.size := by rw [cells_den]; simp [denL_length, c2]
              simp only [Array.toList_map, Array.toList_range, denL_map, List.map_map]
              refine List.map_congr_left fun j hj => ?_
              have hpos : 0 < i.size := Nat.pos_of_mul_pos_left c3
              have hj' : j % i.size < z.cells.length := by rw [c2]; exact Nat.mod_lt _ hpos
              simp only [Function.comp, hsz]
              rw [cells_den]
              simp [denL_map, List.getD_eq_getElem?_getD, hj']
            have hr : (execOp a.eval o).run P w = .ok (.value (.slice (some ⟨w.heap.size, 0, none⟩) len len)) (w.alloc (.cells (SV.denL ν cs).toArray e)) := by
              have hb : (Instr.buildSlice t len (parts.map fun (i, x) => (i, a.eval x))).run P w = .ok (.slice (some ⟨w.heap.size, 0, none⟩) len len) (w.alloc (.cells (SV.denL ν cs).toArray e)) := by
                unfold Instr.buildSlice
                rw [Sem.run_bind, u1]
                simp only [Result.andThen]
                rw [Sem.run_bind, s1]
                simp only [Result.andThen]
                rw [if_neg (by omega)]
                rw [if_neg (by omega : ¬ len * i.size = 0), Sem.run_bind, z1]
                simp only [Result.andThen]
                rw [Sem.run_bind]
                simp only [pure, Sem.run, Result.andThen]
                rw [e2, e1, f1]
                rfl
              simp only [execOp, he]
              rw [Sem.run_bind, hb]
              rfl
            rw [hr, Oper.upon_value]
            exact layK_sat h f2 e k o.dst (fun b => .slice b 0 (.lit len) (.lit len)) (fun b => .slice (some ⟨b, 0, none⟩) len len) (fun _ _ => rfl) (fun _ _ hp => hp) hn hx
          · exact hx.elim
        · exact hx.elim
      · exact hx.elim
    · exact hx.elim
  · rename_i t p x he
    split at hx
    · rename_i ob off v hp hv
      split at hx
      · rename_i ox hs
        obtain ⟨p1, _⟩ := eval_sound h.t hp
        obtain ⟨v1, v2⟩ := eval_sound h.t hv
        obtain ⟨w', s1, s2, s3, s4⟩ := storeC_sound h.hp v2 hs
        have hr : (execOp a.eval o).run P w = .ok .skip w' := by
          simp only [execOp, he, p1, v1, SV.den, Instr.storeAt, Instr.sureAddr]
          rw [Sem.run_bind, Sem.run_bind]
          simp only [Sem.run, pure, Result.andThen]
          rw [s1]
        rw [hr, Oper.upon_skip]
        have h2 : Sat B ν { σ with hp := setAt σ.hp ob ox } a w' := sat_grow h s3 (Agree.refl _ _) s2 s4
        have h3 := put_sat h2 o.dst (v := SV.undef) (by simp [SV.undef, SV.wf, SV.wfL])
        have := hn _ _ _ _ (by rw [put_hp]; exact s3) (Agree.refl _ _) h3 s4 hx
        simpa [SV.den, SV.undef, SV.denL, undef] using this
      · exact hx.elim
    · exact hx.elim
  · split at hx
    · rename_i v hv
      obtain ⟨r1, r2⟩ := sxVal_sound h hv trivial
      rw [r1, Oper.upon_value]
      exact hn _ _ _ _ (by rw [put_hp]; exact fun _ h => h) (Agree.refl _ _) (put_sat h o.dst r2) (Below.refl _ _) hx
    · rename_i p v hv
      obtain ⟨hp, hk⟩ := hx
      obtain ⟨r1, r2⟩ := sxVal_sound h hv hp
      rw [r1, Oper.upon_value]
      exact hn _ _ _ _ (by rw [put_hp]; exact fun _ h => h) (Agree.refl _ _) (put_sat h o.dst r2) (Below.refl _ _) hk
    · split at hx
      · rename_i c he
        split at hx
        · rename_i g args hc
          split at hx
          · rename_i hent
            split at hx
            · rename_i s _ hs
              obtain ⟨r1, r2⟩ := callee_sound h hc hent o.type
              have hr : (execOp a.eval o).run P w = .ok (.enter g (SV.denL ν args).toArray) w := by
                simp only [execOp, he]; exact r1
              rw [hr, Oper.upon_enter]
              have hcall := (hΓ g _ hs : SpecOk P g s) B ν σ.hp w args _ h.hp h.base r2 hx
              refine hcall.mono ?_
              rintro e w' ⟨ν', v, hp', l1, a1, rfl, v1, s1, b1, hk⟩
              have h2 : Sat B ν' { σ with hp := hp' } a w' := sat_grow h l1 a1 s1 b1
              have h3 := put_sat h2 o.dst (v := v) v1
              exact hn _ _ _ _ (by rw [put_hp]; exact l1) a1 h3 b1 hk
            · rename_i F hs
              obtain ⟨r1, r2⟩ := callee_sound h hc hent o.type
              have hr : (execOp a.eval o).run P w = .ok (.enter g (SV.denL ν args).toArray) w := by
                simp only [execOp, he]; exact r1
              rw [hr, Oper.upon_enter]
              have fin : ∀ p v, F args = some (p, v) → Holds p → K (σ.put o.dst v) → Calls P g (SV.denL ν args).toArray w (fun
                  | .returned v, w'' => next (a.put o.dst v) w''
                  | .panicked chain, w'' => Q (.panic chain) a w''
                  | .outgrown, _ => LetsOut Q) := by
                intro p v hF hp hk
                obtain ⟨v1, hcall⟩ := (hΓ g _ hs : PureOk P g F).calls hF hp ν (Live σ.hp) w
                refine hcall.mono ?_
                rintro e w' ⟨rfl, hb⟩
                have hb' : Below B w w' := hb.mono h.base
                have h2 : Sat B ν { σ with hp := σ.hp } a w' := sat_grow h (fun _ h => h) (Agree.refl _ _) (hp_below h.hp hb) hb'
                exact hn _ _ _ _ (by rw [put_hp]; exact fun _ h => h) (Agree.refl _ _) (put_sat h2 o.dst v1) hb' hk
              split at hx
              · rename_i v hF; exact fin _ _ hF trivial hx
              · rename_i p v hF; exact fin _ _ hF hx.1 hx.2
              · exact nomatch hx
            · exact nomatch hx
          · exact nomatch hx
        · exact nomatch hx
      · exact nomatch hx

theorem way_sound {e : BE} {A C : Prop} (h : Way e A C) : (e.den = true → A) ∧ (e.den = false → C) := by
  unfold Way at h
  split at h
  · exact ⟨fun _ => h, fun hf => by simp [BE.den] at hf⟩
  · exact ⟨fun ht => by simp [BE.den] at ht, fun _ => h⟩
  · exact h

theorem told_sat (h : Sat B ν σ a w) {x : Operand} {e : BE} (hx : σ.eval x = some (.bool e)) {b : Bool} (hb : e.den = b) : Sat B ν (σ.told x b) a w := by
  cases x with
  | tmp d =>
    refine ⟨?_, ?_, h.defers, h.hp, h.base⟩
    · simp only [St.eval] at hx
      simp only [St.told, h.tmps, setAt_set, denL_map, List.map_set]
      congr 1
      have hd : d < (σ.tmps.map (SV.den ν)).length := by simpa using (List.getElem?_eq_some_iff.1 hx).1
      have e1 : (σ.tmps.map (SV.den ν))[d]'hd = (SV.bool (.lit b)).den ν := by
        have := (List.getElem?_eq_some_iff.1 hx).2
        simp only [List.getElem_map, this, SV.den, BE.den, hb]
      rw [← e1, List.set_getElem_self]
    · simp only [St.told, setAt_set]
      rw [wfL_iff]
      intro y hy
      rcases List.mem_or_eq_of_mem_set hy with h1 | h1
      · exact (wfL_iff _ _).1 h.wf y h1
      · rw [h1]; trivial
  | const c => exact h
  | global g => exact h
  | func f => exact h

theorem told_hp (σ : St) (x : Operand) (b : Bool) : (σ.told x b).hp = σ.hp := by cases x <;> rfl

theorem guard_none {ops : List Oper} {o : Oper} (hg : guardS ops o = some none) (tmps : Array Value) : Region.wanted o (yielded ops.toArray tmps) = true := by
  have hg' : o.guard = none := by
    unfold guardS at hg
    split at hg
    · assumption
    · split at hg
      · split at hg <;> simp at hg
      · simp at hg
  simp [Region.wanted, hg']

theorem guard_bool (h : Sat B ν σ a w) {ops : List Oper} {o : Oper} {d : Nat} {b : Bool} {e : BE} (hg : guardS ops o = some (some (d, b))) (he : σ.tmps[d]? = some (.bool e)) :
    Region.wanted o (yielded ops.toArray a.tmps) = if b then e.den else !e.den := by
  unfold guardS at hg
  split at hg
  · simp at hg
  · rename_i j b' hgu
    split at hg
    · rename_i oj hj
      split at hg
      · rename_i d' hd
        simp only [Option.some.injEq, Prod.mk.injEq] at hg
        obtain ⟨rfl, rfl⟩ := hg
        obtain ⟨t1, _⟩ := tmp_sound h.t he
        have : yielded ops.toArray a.tmps j = some e.den := by simp [yielded, hj, hd, t1, SV.den]
        cases b' <;> cases hq : e.den <;> simp [Region.wanted, hgu, this, hq]
      · simp at hg
    · simp at hg

theorem guard_undef (h : Sat B ν σ a w) {ops : List Oper} {o : Oper} {d : Nat} {b : Bool} (hg : guardS ops o = some (some (d, b))) (he : σ.tmps[d]? = some (.tuple [])) :
    Region.wanted o (yielded ops.toArray a.tmps) = false := by
  unfold guardS at hg
  split at hg
  · simp at hg
  · rename_i j b' hgu
    split at hg
    · rename_i oj hj
      split at hg
      · rename_i d' hd
        simp only [Option.some.injEq, Prod.mk.injEq] at hg
        obtain ⟨rfl, rfl⟩ := hg
        obtain ⟨t1, _⟩ := tmp_sound h.t he
        have : yielded ops.toArray a.tmps j = none := by simp [yielded, hj, hd, t1, SV.den]
        simp [Region.wanted, hgu, this]
      · simp at hg
    · simp at hg

theorem ops_sound (hΓ : GammaOk P Γ) {ops : List Oper} {K : St → Prop} {Q : Exit → Act → World → Prop} : ∀ (l : List Oper) (σ : St) (ν : Nat → Nat) (a : Act) (w : World), Sat B ν σ a w → sxOps P Γ ops l σ K →
    Follows B ν σ.hp w K (Q .normal) → wpList P ops.toArray Q l a w
  | [], σ, ν, a, w, h, hx, hn => hn _ _ _ _ (fun _ h => h) (Agree.refl _ _) h (Below.refl _ _) hx
  | o :: rest, σ, ν, a, w, h, hx, hn => by
    have doit : ∀ σ1 : St, σ1.hp = σ.hp → Sat B ν σ1 a w → Region.wanted o (yielded ops.toArray a.tmps) = true → (sxOper P Γ none o σ1 fun σ' => sxOps P Γ ops rest σ' K) → wpList P ops.toArray Q (o :: rest) a w := by
      intro σ1 e1 h1 hw hx1
      unfold wpList
      rw [if_pos hw]
      refine .inl (oper_sound hΓ h1 hx1 ?_)
      rw [e1]
      intro ν' σ' a' w' l1 a1 s1 b1 k1
      exact ops_sound hΓ rest σ' ν' a' w' s1 k1 (hn.later l1 a1 b1)
    have skip : ∀ σ1 : St, σ1.hp = σ.hp → Sat B ν σ1 a w → Region.wanted o (yielded ops.toArray a.tmps) = false → sxOps P Γ ops rest (σ1.put o.dst SV.undef) K → wpList P ops.toArray Q (o :: rest) a w := by
      intro σ1 e1 h1 hw hx1
      unfold wpList
      rw [if_neg (by rw [hw]; simp)]
      have h3 := put_sat h1 o.dst (v := SV.undef) (by simp [SV.undef, SV.wf, SV.wfL])
      have e2 : (σ1.put o.dst SV.undef).hp = σ.hp := by cases o.dst <;> exact e1
      have h4 := ops_sound (Q := Q) hΓ rest (σ1.put o.dst SV.undef) ν (a.put o.dst (SV.undef.den ν)) w h3 hx1 (by rw [e2]; exact hn)
      simpa [SV.undef, SV.den, SV.denL, undef] using h4
    unfold sxOps at hx
    split at hx
    · rename_i hg
      exact doit σ rfl h (guard_none hg _) hx
    · rename_i d b hg
      split at hx
      · rename_i e he
        have hev : σ.eval (.tmp d) = some (.bool e) := he
        have hwant := guard_bool h hg he
        obtain ⟨h1, h2⟩ := way_sound hx
        cases hb : e.den with
        | true =>
          have h1' := h1 hb
          have hs := told_sat h hev hb
          cases b with
          | true => exact doit _ (told_hp ..) hs (by rw [hwant, hb]; rfl) (by simpa using h1')
          | false => exact skip _ (told_hp ..) hs (by rw [hwant, hb]; rfl) (by simpa using h1')
        | false =>
          have h2' := h2 hb
          have hs := told_sat h hev hb
          cases b with
          | true => exact skip _ (told_hp ..) hs (by rw [hwant, hb]; rfl) (by simpa using h2')
          | false => exact doit _ (told_hp ..) hs (by rw [hwant, hb]; rfl) (by simpa using h2')
      · rename_i he
        exact skip σ rfl h (guard_undef h hg he) hx
      · exact hx.elim
    · exact hx.elim

/-- The worlds that a quiet region may stand in. -/
structure Cls (B : Nat) (ν : Nat → Nat) (hp : List SObj) (w : World) (w' : World) : Prop where
  hp : SatHp B ν hp w'
  base : B ≤ w'.heap.size
  below : Below B w w'

theorem cls_sat {W w' : World} (h : Sat B ν σ a w) (hc : Cls B ν σ.hp W w') : Sat B ν σ a w' := ⟨h.tmps, h.wf, h.defers, hc.hp, hc.base⟩

theorem quiet1_sound (hΓ : GammaOk P Γ) (h : Sat B ν σ a w) {o : Oper} {p : Option BE} {v : SV} (hv : sxQuiet1 P Γ σ o.op = some (p, v)) (hp : Holds p) (W : World) :
    v.wf (Live σ.hp) ∧ ∀ w', Cls B ν σ.hp W w' → o.quietAt P a (Cls B ν σ.hp W) w' (v.den ν) := by
  unfold sxQuiet1 at hv
  split at hv
  · rename_i r hr
    simp only [Option.some.injEq] at hv; subst hv
    refine ⟨(sxVal_sound h hr hp).2, fun w' hc => ?_⟩
    unfold Oper.quietAt
    rw [(sxVal_sound (cls_sat h hc) hr hp).1]
    exact ⟨rfl, rfl⟩
  · split at hv
    · rename_i c he
      split at hv
      · rename_i g args hc
        split at hv
        · rename_i hent
          split at hv
          · rename_i F hF
            obtain ⟨v1, _⟩ := (hΓ g _ hF : PureOk P g F).calls hv hp ν (Live σ.hp) w
            refine ⟨v1, fun w' hcl => ?_⟩
            obtain ⟨_, hcall⟩ := (hΓ g _ hF : PureOk P g F).calls hv hp ν (Live σ.hp) w'
            obtain ⟨r1, _⟩ := callee_sound (cls_sat h hcl) hc hent o.type
            have hr : (execOp a.eval o).run P w' = .ok (.enter g (SV.denL ν args).toArray) w' := by
              simp only [execOp, he]; exact r1
            unfold Oper.quietAt
            rw [hr]
            refine ⟨rfl, hcall.mono ?_⟩
            rintro e w'' ⟨rfl, hb⟩
            exact ⟨rfl, hp_below hcl.hp hb, Nat.le_trans hcl.base hb.size, hcl.below.trans (hb.mono hcl.base)⟩
          · simp at hv
        · simp at hv
      · simp at hv
    · simp at hv

/-- One walk of a region whose order is open: 'step' is what is asked of an operation that is wanted. -/
theorem still_gen {one : St → Op → Option (Option BE × SV)} {ops : List Oper} {hp : List SObj} {R : List Oper → Act → Prop} {K : St → Prop} {w : World}
    (hnil : ∀ (σ : St) (a : Act), σ.hp = hp → Sat B ν σ a w → K σ → R [] a)
    (hstep : ∀ (σ : St) (a : Act) (o : Oper) rest p v, σ.hp = hp → Sat B ν σ a w → Region.wanted o (yielded ops.toArray a.tmps) = true → one σ o.op = some (p, v) → Holds p → v.wf (Live hp) → R rest (a.put o.dst (v.den ν)) → R (o :: rest) a)
    (hwf : ∀ (σ : St) (a : Act) (o : Oper) p v, σ.hp = hp → Sat B ν σ a w → one σ o.op = some (p, v) → Holds p → v.wf (Live hp))
    (hskip : ∀ (a : Act) (o : Oper) rest, Region.wanted o (yielded ops.toArray a.tmps) = false → R rest (a.put o.dst undef) → R (o :: rest) a) :
    ∀ (l : List Oper) (σ : St) (a : Act), σ.hp = hp → Sat B ν σ a w → sxStill one ops l σ K → R l a
  | [], σ, a, he, h, hx => hnil σ a he h hx
  | o :: rest, σ, a, he, h, hx => by
    have ih := still_gen hnil hstep hwf hskip rest
    have doit : ∀ σ1 : St, σ1.hp = hp → Sat B ν σ1 a w → Region.wanted o (yielded ops.toArray a.tmps) = true →
        withVal (one σ1 o.op) o.op (fun v => putK σ1 o.dst v fun σ => sxStill one ops rest σ K) → R (o :: rest) a := by
      intro σ1 e1 h1 hw hx1
      unfold withVal at hx1
      simp only [putK_eq] at hx1
      split at hx1
      · rename_i v hv
        have hvw := hwf σ1 a o none v e1 h1 hv trivial
        exact hstep σ1 a o rest none v e1 h1 hw hv trivial hvw (ih _ _ (by rw [put_hp]; exact e1) (put_sat h1 o.dst (by rw [e1]; exact hvw)) hx1)
      · rename_i p v hv
        have hvw := hwf σ1 a o (some p) v e1 h1 hv hx1.1
        exact hstep σ1 a o rest (some p) v e1 h1 hw hv hx1.1 hvw (ih _ _ (by rw [put_hp]; exact e1) (put_sat h1 o.dst (by rw [e1]; exact hvw)) hx1.2)
      · exact nomatch hx1
    have skip : ∀ σ1 : St, σ1.hp = hp → Sat B ν σ1 a w → Region.wanted o (yielded ops.toArray a.tmps) = false → sxStill one ops rest (σ1.put o.dst SV.undef) K → R (o :: rest) a := by
      intro σ1 e1 h1 hw hx1
      refine hskip a o rest hw ?_
      have h3 := put_sat h1 o.dst (v := SV.undef) (by simp [SV.undef, SV.wf, SV.wfL])
      have h4 := ih _ _ (by rw [put_hp]; exact e1) h3 hx1
      simpa [SV.undef, SV.den, SV.denL, undef] using h4
    unfold sxStill at hx
    split at hx
    · rename_i hg
      exact doit σ he h (guard_none hg _) hx
    · rename_i d b hg
      split at hx
      · rename_i e hd
        have hev : σ.eval (.tmp d) = some (.bool e) := hd
        have hwant := guard_bool h hg hd
        obtain ⟨h1, h2⟩ := way_sound hx
        cases hb : e.den with
        | true =>
          have h1' := h1 hb
          have hs := told_sat h hev hb
          cases b with
          | true => exact doit _ ((told_hp ..).trans he) hs (by rw [hwant, hb]; rfl) (by simpa using h1')
          | false => exact skip _ ((told_hp ..).trans he) hs (by rw [hwant, hb]; rfl) (by simpa using h1')
        | false =>
          have h2' := h2 hb
          have hs := told_sat h hev hb
          cases b with
          | true => exact skip _ ((told_hp ..).trans he) hs (by rw [hwant, hb]; rfl) (by simpa using h2')
          | false => exact doit _ ((told_hp ..).trans he) hs (by rw [hwant, hb]; rfl) (by simpa using h2')
      · rename_i hd
        exact skip σ he h (guard_undef h hg hd) hx
      · exact hx.elim
    · exact hx.elim

theorem step_sound (hΓ : GammaOk P Γ) (h : Sat B ν σ a w) {ops : List Oper} {base i : Nat} {o : Oper} (ho : ops[i]? = some o) {K : St → Prop} (hx : sxStep P Γ ops base i o σ K) {next : Act → World → Prop} {Q : Exit → Act → World → Prop}
    (hn : Follows B ν σ.hp w K next) : wpOp P ops.toArray Q i next a w := by
  unfold wpOp
  have ho' : ops.toArray[i]? = some o := by simpa using ho
  simp only [ho']
  have doit : ∀ (σ1 : St) k, σ1.hp = σ.hp → Sat B ν σ1 a w → Region.wanted o (yielded ops.toArray a.tmps) = true → sxOper P Γ k o σ1 K →
      if Region.wanted o (yielded ops.toArray a.tmps) = true then o.wp P a w next Q ∨ (o.asks P a w ∧ LetsOut Q) else next (a.put o.dst undef) w := by
    intro σ1 k e1 h1 hw hx1
    rw [if_pos hw]
    exact .inl (oper_sound hΓ h1 hx1 (by rw [e1]; exact hn))
  have skip : ∀ σ1 : St, σ1.hp = σ.hp → Sat B ν σ1 a w → Region.wanted o (yielded ops.toArray a.tmps) = false → putK σ1 o.dst SV.undef K →
      if Region.wanted o (yielded ops.toArray a.tmps) = true then o.wp P a w next Q ∨ (o.asks P a w ∧ LetsOut Q) else next (a.put o.dst undef) w := by
    intro σ1 e1 h1 hw hx1
    rw [if_neg (by rw [hw]; simp)]
    rw [putK_eq] at hx1
    have h3 := put_sat h1 o.dst (v := SV.undef) (by simp [SV.undef, SV.wf, SV.wfL])
    have := hn ν _ _ w (by rw [put_hp, e1]; exact fun _ h => h) (Agree.refl _ _) h3 (Below.refl _ _) hx1
    simpa [SV.undef, SV.den, SV.denL, undef] using this
  unfold sxStep at hx
  simp only at hx
  split at hx
  · rename_i hg
    exact doit σ _ rfl h (guard_none hg _) hx
  · rename_i d b hg
    split at hx
    · rename_i e he
      have hev : σ.eval (.tmp d) = some (.bool e) := he
      have hwant := guard_bool h hg he
      obtain ⟨h1, h2⟩ := way_sound hx
      cases hb : e.den with
      | true =>
        have h1' := h1 hb
        have hs := told_sat h hev hb
        cases b with
        | true => exact doit _ _ (told_hp ..) hs (by rw [hwant, hb]; rfl) (by simpa using h1')
        | false => exact skip _ (told_hp ..) hs (by rw [hwant, hb]; rfl) (by simpa using h1')
      | false =>
        have h2' := h2 hb
        have hs := told_sat h hev hb
        cases b with
        | true => exact skip _ (told_hp ..) hs (by rw [hwant, hb]; rfl) (by simpa using h2')
        | false => exact doit _ _ (told_hp ..) hs (by rw [hwant, hb]; rfl) (by simpa using h2')
    · rename_i he
      exact skip σ rfl h (guard_undef h hg he) hx
    · exact hx.elim
  · exact hx.elim

theorem take_sound (h : Sat B ν σ a w) {ops : List Oper} {o : Oper} {v : SV} (hv : takeS P ops o σ = some v) : Yields P ops.toArray o (v.den ν) a ∧ v.wf (Live σ.hp) := by
  have hval : ∀ u, (match sxVal P { σ with hp := [] } o.op with | some (none, v) => some v | _ => none) = some u → (∀ w, (execOp a.eval o).run P w = .ok (.value (u.den ν)) w) ∧ u.wf (Live σ.hp) := by
    intro u hu
    split at hu
    · rename_i u' hu'
      simp only [Option.some.injEq] at hu; subst hu
      exact sxVal_pure h.t hu'
    · simp at hu
  unfold takeS at hv
  simp only at hv
  split at hv
  · rename_i hg
    obtain ⟨h1, h2⟩ := hval v hv
    exact ⟨.inl ⟨guard_none hg _, h1⟩, h2⟩
  · rename_i d b hg
    split at hv
    · rename_i e he
      have hwant := guard_bool h hg he
      split at hv
      · rename_i hb
        obtain ⟨h1, h2⟩ := hval v hv
        exact ⟨.inl ⟨by rw [hwant]; subst hb; cases e <;> rfl, h1⟩, h2⟩
      · rename_i hb
        simp only [Option.some.injEq] at hv; subst hv
        exact ⟨.inr ⟨by rw [hwant]; cases e <;> cases b <;> first | rfl | exact absurd rfl hb, rfl⟩, by simp [SV.undef, SV.wf, SV.wfL]⟩
    · rename_i he
      simp only [Option.some.injEq] at hv; subst hv
      exact ⟨.inr ⟨guard_undef h hg he, rfl⟩, by simp [SV.undef, SV.wf, SV.wfL]⟩
    · simp at hv
  · simp at hv

/-- The blocks that stay: the worlds of a region. -/
def Stays (ν0 : Nat → Nat) (h0 : List SObj) (st : List Nat) (w : World) : Prop := ∀ o ∈ st, ∀ vs ty, h0[o]? = some (.cells vs ty) → w.heap[ν0 o]? = some (.cells (SV.denL ν0 vs).toArray ty (0, 0))

theorem load_yields (h : Sat B ν σ a w) {ν0 : Nat → Nat} {h0 : List SObj} {st : List Nat} (hl0 : ∀ o, Live h0 o → Live σ.hp o) (ha0 : Agree (Live h0) ν0 ν) (hst : ∀ o ∈ st, Live h0 o) (hsame : ∀ o ∈ st, σ.hp[o]? = h0[o]?)
    (hwf : ∀ o ∈ st, ∀ vs ty, h0[o]? = some (.cells vs ty) → SV.wfL (Live h0) vs)
    {ops : List Oper} {o : Oper} {v : SV} (hv : loadS P st ops o σ = some v) : YieldsIf P ops.toArray (Stays ν0 h0 st) o (v.den ν) a ∧ v.wf (Live σ.hp) := by
  unfold loadS at hv
  split at hv
  · rename_i t p he
    split at hv
    · rename_i ob off hp
      split at hv
      · rename_i hc
        have hmem : ob ∈ st := by simpa using hc
        split at hv
        · rename_i hg
          obtain ⟨p1, _⟩ := eval_sound h.t hp
          have key : ∀ w', Stays ν0 h0 st w' → (loadVar t ⟨ν ob, off, none⟩).run P w' = .ok (v.den ν) w' ∧ v.wf (Live σ.hp) := by
            intro w' hs
            refine loadC_at hv fun vs ty ho => ?_
            rw [hsame ob hmem] at ho
            have hw := hwf ob hmem vs ty ho
            refine ⟨?_, wfL_mono hl0 _ hw⟩
            rw [ha0 ob (hst ob hmem), hs ob hmem vs ty ho, denL_congr ha0 vs hw]
          refine ⟨.inl ⟨guard_none hg _, fun w' hs => ?_⟩, (loadC_sound h.hp hv).2⟩
          simp only [execOp, he, p1, SV.den, Instr.loadAt, Instr.sureAddr]
          rw [Sem.run_bind, Sem.run_bind]
          simp only [Sem.run, pure, Result.andThen]
          rw [(key w' hs).1]
        · simp at hv
      · simp at hv
    · simp at hv
  · simp at hv

theorem firstTake_sound {st : List Nat} {ops : List Oper} {listed : Array Bool} {σ : St} : ∀ {l : List Nat} {i : Nat} {o : Oper} {v : SV}, firstTake P st ops listed σ l = some (i, o, v) →
    i ∈ l ∧ ops[i]? = some o ∧ (takeS P ops o σ = some v ∨ loadS P st ops o σ = some v) ∧ Region.free .any ops.toArray listed i = true
  | [], _, _, _, h => by simp [firstTake] at h
  | j :: r, i, o, v, h => by
    have rec_ : firstTake P st ops listed σ r = some (i, o, v) → i ∈ j :: r ∧ ops[i]? = some o ∧ (takeS P ops o σ = some v ∨ loadS P st ops o σ = some v) ∧ Region.free .any ops.toArray listed i = true := fun h => by
      obtain ⟨h1, h2⟩ := firstTake_sound h
      exact ⟨List.mem_cons_of_mem _ h1, h2⟩
    unfold firstTake at h
    split at h
    · rename_i o' ho
      split at h
      · rename_i v' hv
        split at h
        · rename_i hf
          simp only [Option.some.injEq, Prod.mk.injEq] at h
          obtain ⟨rfl, rfl, rfl⟩ := h
          exact ⟨List.mem_cons_self .., ho, .inl hv, hf⟩
        · exact rec_ h
      · split at h
        · rename_i v' hv
          split at h
          · rename_i hf
            simp only [Option.some.injEq, Prod.mk.injEq] at h
            obtain ⟨rfl, rfl, rfl⟩ := h
            exact ⟨List.mem_cons_self .., ho, .inr hv, hf⟩
          · exact rec_ h
        · exact rec_ h
    · exact rec_ h

theorem allOf_mem : ∀ {l : List Nat} {f : Nat → Prop}, allOf l f → ∀ i ∈ l, f i
  | [], _, _, i, hi => by cases hi
  | [j], f, h, i, hi => by
    simp only [List.mem_singleton] at hi; subst hi; exact h
  | j :: k :: r, f, h, i, hi => by
    rcases List.mem_cons.1 hi with rfl | hi
    · exact h.1
    · exact allOf_mem h.2 i hi

theorem dead_hp {hp : List SObj} (h : SatHp B ν hp w) (m : Nat) : SatHp B ν (hp ++ List.replicate m SObj.dead) w ∧ ∀ o, Live hp o → Live (hp ++ List.replicate m SObj.dead) o := by
  have hl : ∀ o, Live hp o → Live (hp ++ List.replicate m SObj.dead) o := fun o ho => by
    obtain ⟨vs, ty, hx⟩ := ho
    exact ⟨vs, ty, by rw [List.getElem?_append_left (List.getElem?_eq_some_iff.1 hx).1]; exact hx⟩
  have hb : ∀ (o : Nat) (x : SObj), (hp ++ List.replicate m SObj.dead)[o]? = some x → hp[o]? = some x ∨ x = SObj.dead := by
    intro o x hx
    rw [List.getElem?_append] at hx
    split at hx
    · exact .inl hx
    · rw [List.getElem?_replicate] at hx
      split at hx
      · simp at hx; exact .inr hx.symm
      · simp at hx
  have hb' : ∀ o, Live (hp ++ List.replicate m SObj.dead) o → Live hp o := fun o ho => by
    obtain ⟨vs, ty, hx⟩ := ho
    rcases hb o _ hx with h1 | h1
    · exact ⟨vs, ty, h1⟩
    · cases h1
  refine ⟨⟨fun o x hx => ?_, fun o o' h1 h2 e => h.apart o o' (hb' o h1) (hb' o' h2) e⟩, hl⟩
  rcases hb o x hx with h1 | h1
  · exact (h.obj o x h1).mono (live_of h1) hl (Agree.refl _ _) (fun _ => rfl)
  · subst h1; trivial

theorem stuckAt_elim {c : Nat} {Q : Prop} (h : StuckAt c) : Q := nomatch h

theorem sameIE_eq : ∀ (a b : IE) (R : Prop), sameIE a b R → a = b ∧ R := by
  intro a
  induction a with
  | lit n => intro b R h; cases b <;> simp only [sameIE] at h <;> first | exact stuckAt_elim h | (split at h <;> first | exact stuckAt_elim h | (rename_i e; exact ⟨by rw [e], h⟩))
  | var n => intro b R h; cases b <;> simp only [sameIE] at h <;> first | exact stuckAt_elim h | exact ⟨by rw [h.1], h.2⟩
  | conv k x ih => intro b R h; cases b <;> simp only [sameIE] at h <;> first | exact stuckAt_elim h | (split at h <;> first | exact stuckAt_elim h | (rename_i e; obtain ⟨h1, h2⟩ := ih _ _ h; exact ⟨by rw [e, h1], h2⟩))
  | rem x y ihx ihy => intro b R h; cases b <;> simp only [sameIE] at h <;> first | exact stuckAt_elim h | (obtain ⟨h1, h2⟩ := ihx _ _ h; obtain ⟨h3, h4⟩ := ihy _ _ h2; exact ⟨by rw [h1, h3], h4⟩)
  | mn x y ihx ihy => intro b R h; cases b <;> simp only [sameIE] at h <;> first | exact stuckAt_elim h | (obtain ⟨h1, h2⟩ := ihx _ _ h; obtain ⟨h3, h4⟩ := ihy _ _ h2; exact ⟨by rw [h1, h3], h4⟩)
  | mx x y ihx ihy => intro b R h; cases b <;> simp only [sameIE] at h <;> first | exact stuckAt_elim h | (obtain ⟨h1, h2⟩ := ihx _ _ h; obtain ⟨h3, h4⟩ := ihy _ _ h2; exact ⟨by rw [h1, h3], h4⟩)
  | bits op k x y ihx ihy => intro b R h; cases b <;> simp only [sameIE] at h <;> first | exact stuckAt_elim h | (split at h <;> first | exact stuckAt_elim h | (rename_i e; obtain ⟨h1, h2⟩ := ihx _ _ h; obtain ⟨h3, h4⟩ := ihy _ _ h2; exact ⟨by rw [e.1, e.2, h1, h3], h4⟩))
  | _ k x y ihx ihy => intro b R h; cases b <;> simp only [sameIE] at h <;> first | exact stuckAt_elim h | (split at h <;> first | exact stuckAt_elim h | (rename_i e; obtain ⟨h1, h2⟩ := ihx _ _ h; obtain ⟨h3, h4⟩ := ihy _ _ h2; exact ⟨by rw [e, h1, h3], h4⟩))

theorem sameBE_eq : ∀ (a b : BE) (R : Prop), sameBE a b R → a = b ∧ R := by
  intro a
  induction a with
  | lit n => intro b R h; cases b <;> simp only [sameBE] at h <;> first | exact stuckAt_elim h | (split at h <;> first | exact stuckAt_elim h | (rename_i e; exact ⟨by rw [e], h⟩))
  | var n => intro b R h; cases b <;> simp only [sameBE] at h <;> first | exact stuckAt_elim h | exact ⟨by rw [h.1], h.2⟩
  | cmp op x y => intro b R h; cases b <;> simp only [sameBE] at h <;> first | exact stuckAt_elim h | (split at h <;> first | exact stuckAt_elim h | (rename_i e; obtain ⟨h1, h2⟩ := sameIE_eq _ _ _ h; obtain ⟨h3, h4⟩ := sameIE_eq _ _ _ h2; exact ⟨by rw [e, h1, h3], h4⟩))
  | not x ih => intro b R h; cases b <;> simp only [sameBE] at h <;> first | exact stuckAt_elim h | (obtain ⟨h1, h2⟩ := ih _ _ h; exact ⟨by rw [h1], h2⟩)
  | eq x y ihx ihy => intro b R h; cases b <;> simp only [sameBE] at h <;> first | exact stuckAt_elim h | (obtain ⟨h1, h2⟩ := ihx _ _ h; obtain ⟨h3, h4⟩ := ihy _ _ h2; exact ⟨by rw [h1, h3], h4⟩)
  | ite x y z ihx ihy ihz => intro b R h; cases b <;> simp only [sameBE] at h <;> first | exact stuckAt_elim h | (obtain ⟨h1, h2⟩ := ihx _ _ h; obtain ⟨h3, h4⟩ := ihy _ _ h2; obtain ⟨h5, h6⟩ := ihz _ _ h4; exact ⟨by rw [h1, h3, h5], h6⟩)

theorem sameNE_eq (a b : NE) (R : Prop) (h : sameNE a b R) : a = b ∧ R := by
  cases a <;> cases b <;> simp only [sameNE] at h <;> first | exact stuckAt_elim h | exact ⟨by rw [h.1], h.2⟩ | (split at h <;> first | exact stuckAt_elim h | (rename_i e; exact ⟨by rw [e], h⟩))

mutual
theorem sameSV_eq : ∀ (a b : SV) (R : Prop), sameSV a b R → a = b ∧ R
  | .int k e, b, R, h => by
    cases b <;> simp only [sameSV] at h <;> first | exact stuckAt_elim h | (split at h <;> first | exact stuckAt_elim h | (rename_i q; obtain ⟨h1, h2⟩ := sameIE_eq _ _ _ h; exact ⟨by rw [q, h1], h2⟩))
  | .bool e, b, R, h => by
    cases b <;> simp only [sameSV] at h <;> first | exact stuckAt_elim h | (obtain ⟨h1, h2⟩ := sameBE_eq _ _ _ h; exact ⟨by rw [h1], h2⟩)
  | .str s, b, R, h => by
    cases b <;> simp only [sameSV] at h <;> first | exact stuckAt_elim h | skip
    rename_i s'
    split at h
    · rename_i q
      have : s = s' := by
        cases s; cases s'
        simp only [ByteArray.mk.injEq]
        exact Array.ext' q
      exact ⟨by rw [this], h⟩
    · exact ⟨by rw [h.1], h.2⟩
  | .ptr o off, b, R, h => by
    cases b <;> simp only [sameSV] at h <;> first | exact stuckAt_elim h | (split at h <;> first | exact stuckAt_elim h | (rename_i q; exact ⟨by rw [q.1, q.2], h⟩))
  | .nilp, b, R, h => by cases b <;> simp only [sameSV] at h <;> first | exact stuckAt_elim h | exact ⟨rfl, h⟩
  | .nils, b, R, h => by cases b <;> simp only [sameSV] at h <;> first | exact stuckAt_elim h | exact ⟨rfl, h⟩
  | .nili, b, R, h => by cases b <;> simp only [sameSV] at h <;> first | exact stuckAt_elim h | exact ⟨rfl, h⟩
  | .nilf, b, R, h => by cases b <;> simp only [sameSV] at h <;> first | exact stuckAt_elim h | exact ⟨rfl, h⟩
  | .nilm, b, R, h => by cases b <;> simp only [sameSV] at h <;> first | exact stuckAt_elim h | exact ⟨rfl, h⟩
  | .slice o off l c, b, R, h => by
    cases b <;> simp only [sameSV] at h <;> first | exact stuckAt_elim h | (split at h <;> first | exact stuckAt_elim h | (rename_i q; obtain ⟨h1, h2⟩ := sameNE_eq _ _ _ h; obtain ⟨h3, h4⟩ := sameNE_eq _ _ _ h2; exact ⟨by rw [q.1, q.2, h1, h3], h4⟩))
  | .iface t v, b, R, h => by
    cases b <;> simp only [sameSV] at h <;> first | exact stuckAt_elim h | (split at h <;> first | exact stuckAt_elim h | (rename_i q; obtain ⟨h1, h2⟩ := sameSV_eq v _ _ h; exact ⟨by rw [q, h1], h2⟩))
  | .agg l, b, R, h => by
    cases b <;> simp only [sameSV] at h <;> first | exact stuckAt_elim h | (obtain ⟨h1, h2⟩ := sameSVs_eq l _ _ h; exact ⟨by rw [h1], h2⟩)
  | .tuple l, b, R, h => by
    cases b <;> simp only [sameSV] at h <;> first | exact stuckAt_elim h | (obtain ⟨h1, h2⟩ := sameSVs_eq l _ _ h; exact ⟨by rw [h1], h2⟩)
  | .func fn x y, b, R, h => by
    cases b <;> simp only [sameSV] at h <;> first | exact stuckAt_elim h | (split at h <;> first | exact stuckAt_elim h | (rename_i q; obtain ⟨h1, h2⟩ := sameSVs_eq x _ _ h; obtain ⟨h3, h4⟩ := sameSVs_eq y _ _ h2; exact ⟨by rw [q, h1, h3], h4⟩))
theorem sameSVs_eq : ∀ (a b : List SV) (R : Prop), sameSVs a b R → a = b ∧ R
  | [], b, R, h => by cases b <;> simp only [sameSVs] at h <;> first | exact stuckAt_elim h | exact ⟨rfl, h⟩
  | v :: r, b, R, h => by
    cases b <;> simp only [sameSVs] at h <;> first | exact stuckAt_elim h | (obtain ⟨h1, h2⟩ := sameSV_eq v _ _ h; obtain ⟨h3, h4⟩ := sameSVs_eq r _ _ h2; exact ⟨by rw [h1, h3], h4⟩)
end

theorem sameHp_eq : ∀ (a b : List SObj) (R : Prop), sameHp a b R → a = b ∧ R
  | [], b, R, h => by cases b <;> simp only [sameHp] at h <;> first | exact stuckAt_elim h | exact ⟨rfl, h⟩
  | x :: r, b, R, h => by
    cases b with
    | nil => cases x <;> simp only [sameHp] at h <;> exact stuckAt_elim h
    | cons y r' =>
      cases x with
      | dead =>
        cases y with
        | dead => simp only [sameHp] at h; obtain ⟨h1, h2⟩ := sameHp_eq r r' R h; exact ⟨by rw [h1], h2⟩
        | cells _ _ => simp only [sameHp] at h; exact stuckAt_elim h
      | cells l t =>
        cases y with
        | dead => simp only [sameHp] at h; exact stuckAt_elim h
        | cells l' t' =>
          simp only [sameHp] at h
          split at h
          · rename_i q
            obtain ⟨h1, h2⟩ := sameSVs_eq _ _ _ h
            obtain ⟨h3, h4⟩ := sameHp_eq r r' R h2
            exact ⟨by rw [q, h1, h3], h4⟩
          · exact stuckAt_elim h

theorem sameSt_eq {σ σ' : St} (h : sameSt σ σ') : σ = σ' := by
  obtain ⟨h1, h2⟩ := sameSVs_eq _ _ _ h
  obtain ⟨h3, _⟩ := sameHp_eq _ _ _ h2
  cases σ; cases σ'
  simp only at h1 h3
  rw [h1, h3]

theorem sameObjs_eq {hp hp' : List SObj} : ∀ (st : List Nat) (R : Prop), sameObjs hp hp' st R → (∀ o ∈ st, hp[o]? = hp'[o]?) ∧ R
  | [], R, h => ⟨fun _ hm => absurd hm (by simp), h⟩
  | o :: r, R, h => by
    unfold sameObjs at h
    split at h
    · rename_i l t l' t' h1 h2
      split at h
      · rename_i ht
        obtain ⟨e1, e2⟩ := sameSVs_eq _ _ _ h
        obtain ⟨e3, e4⟩ := sameObjs_eq r R e2
        refine ⟨fun o' ho => ?_, e4⟩
        rcases List.mem_cons.1 ho with rfl | ho
        · rw [h1, h2, ht, e1]
        · exact e3 o' ho
      · exact stuckAt_elim h
    · exact stuckAt_elim h

/-- Only what goes on as it should. -/
def plainQ (Q : Act → World → Prop) : Exit → Act → World → Prop
  | .normal, a, w => Q a w
  | _, _, _ => False

theorem any_sound (hΓ : GammaOk P Γ) {ops : List Oper} (hsel : Region.noSelect ops.toArray = true) {base : Nat} {K : St → Prop} {Q : Act → World → Prop} {ν0 : Nat → Nat} {h0 : List SObj} {st : List Nat}
    (hst : ∀ o ∈ st, Live h0 o) (hwf : ∀ o ∈ st, ∀ vs ty, h0[o]? = some (.cells vs ty) → SV.wfL (Live h0) vs) : ∀ (fuel : Nat) (listed : Array Bool) (σ : St) (ν : Nat → Nat) (a : Act) (w : World),
    Sat B ν σ a w → (∀ o, Live h0 o → Live σ.hp o) → Agree (Live h0) ν0 ν → (∀ o ∈ st, σ.hp[o]? = h0[o]?) → sxAny P Γ st h0 ops base fuel listed σ K → Follows B ν σ.hp w K Q → wpAnyH P .any ops.toArray (plainQ Q) (Stays ν0 h0 st) fuel listed a w
  | 0, listed, σ, ν, a, w, h, _, _, _, hx, hn => by
    unfold sxAny at hx
    split at hx
    · rename_i hr
      exact ⟨by simpa using hr, hn _ _ _ _ (fun _ h => h) (Agree.refl _ _) h (Below.refl _ _) hx⟩
    · exact nomatch hx
  | fuel + 1, listed, σ, ν, a, w, h, hl0, ha0, hsame, hx, hn => by
    have hS : ∀ (σ : St) (ν : Nat → Nat) (a : Act) (w : World), Sat B ν σ a w → Agree (Live h0) ν0 ν → (∀ o ∈ st, σ.hp[o]? = h0[o]?) → Stays ν0 h0 st w := by
      intro σ ν a w h ha0 hsame o ho vs ty hx
      have hx' := hx
      rw [← hsame o ho] at hx'
      obtain ⟨_, hb, _⟩ := h.hp.obj o _ hx'
      rw [← ha0 o (hst o ho), hb, denL_congr ha0 vs (hwf o ho vs ty hx)]
    unfold sxAny at hx
    split at hx
    · rename_i hr
      exact wpAnyH_done hr (hn _ _ _ _ (fun _ h => h) (Agree.refl _ _) h (Below.refl _ _) hx) _
    · rename_i i r hr
      split at hx
      · rename_i j o v hf
        obtain ⟨h1, h2, h3, h4⟩ := firstTake_sound hf
        have hy : YieldsIf P ops.toArray (Stays ν0 h0 st) o (v.den ν) a ∧ v.wf (Live σ.hp) := by
          rcases h3 with h3 | h3
          · obtain ⟨y1, y2⟩ := take_sound h h3
            exact ⟨y1.yieldsIf, y2⟩
          · exact load_yields h hl0 ha0 hst hsame hwf h3
        rw [putK_eq] at hx
        have hs := put_sat h o.dst hy.2
        refine wpAnyH_take (i := j) (oi := o) (v := v.den ν) (by simpa using h2) hsel h4 (by rw [hr]; simpa using h1) (fun _ _ _ hq => hq) hy.1 (hS σ ν a w h ha0 hsame) ?_
        exact any_sound hΓ hsel hst hwf fuel _ _ ν _ w hs (by rw [put_hp]; exact hl0) ha0 (by rw [put_hp]; exact hsame) hx (by rw [put_hp]; exact hn)
      · refine wpAnyH_all hr (by simp) (fun j hj => ?_)
        have hx' := allOf_mem hx j hj
        split at hx'
        · rename_i o ho
          refine step_sound hΓ h ho hx' ?_
          intro ν' σ' a' w' l1 a1 s1 b1 k1
          obtain ⟨k2, k3⟩ := sameObjs_eq _ _ k1
          have hl' : ∀ o, Live h0 o → Live σ'.hp o := fun o ho => l1 o (hl0 o ho)
          have ha' : Agree (Live h0) ν0 ν' := ha0.trans a1 hl0
          exact ⟨hS σ' ν' a' w' s1 ha' k2, any_sound hΓ hsel hst hwf fuel _ σ' ν' a' w' s1 hl' ha' k2 k3 (hn.later l1 a1 b1)⟩
        · exact nomatch hx'

theorem staying_live {h h' : List SObj} : ∀ {l : List Nat} {o : Nat}, o ∈ staying h h' l → Live h o
  | [], o, ho => by cases ho
  | x :: r, o, ho => by
    unfold staying at ho
    split at ho
    · rename_i vs ty _ _ h1 _
      rcases List.mem_cons.1 ho with rfl | ho
      · exact ⟨vs, ty, h1⟩
      · exact staying_live ho
    · exact staying_live ho

theorem sat_drew (h : Sat B ν σ a w) : Sat B ν σ a { w with drawn := w.drawn + 1 } := ⟨h.tmps, h.wf, h.defers, ⟨h.hp.obj, h.hp.apart⟩, h.base⟩
theorem below_drew (B : Nat) (w : World) : Below B w { w with drawn := w.drawn + 1 } := (Below.refl B w).drew

theorem open_sound (hΓ : GammaOk P Γ) {ops : List Oper} {K : St → Prop} {Q : Exit → Act → World → Prop} {id : Nat} (hm : P.follows .mixedOrders = true) (h : Sat B ν σ a w) (hx : sxOpen P Γ ops σ K) (hn : Follows B ν σ.hp w K (Q .normal)) :
    (Code.region id ops.toArray true).wp P Q a w := by
  unfold sxOpen at hx
  split at hx
  · rename_i hsel
    rw [fSpine_eq] at hx
    split at hx
    · rename_i σL hL
      rw [fSVs_eq, fHp_eq] at hx
      obtain ⟨hk, hany⟩ := hx
      have hd := sat_drew h
      obtain ⟨d1, d2⟩ := dead_hp hd.hp (laidBefore ops ops.length)
      have hs : Sat B ν { σ with hp := σ.hp ++ List.replicate (laidBefore ops ops.length) .dead } a { w with drawn := w.drawn + 1 } := ⟨hd.tmps, wfL_mono d2 _ hd.wf, hd.defers, d1, hd.base⟩
      have hw := any_sound (Q := Q .normal) (ν0 := ν) hΓ hsel (fun o ho => staying_live ho) (fun o ho vs ty hx => (hs.hp.obj o _ hx).2.2) _ _ _ ν a _ hs (fun _ h => h) (Agree.refl _ _) (fun _ _ => rfl) hany (by
        intro ν' σ' a' w' l1 a1 s1 b1 k1
        have := sameSt_eq k1
        subst this
        exact hn ν' _ a' w' (fun o ho => l1 o (d2 o ho)) (fun o ho => a1 o (d2 o ho)) s1 ((below_drew B w).trans b1) hk)
      have hreg : (Code.region id ops.toArray true).wp P (plainQ (Q .normal)) a w := wp_region_held hm (by simpa using hw)
      exact wp_mono hreg (fun e a w hq => by cases e <;> first | exact hq | exact hq.elim)
    · exact nomatch hx
  · exact nomatch hx

theorem draw_sound (hΓ : GammaOk P Γ) {ops : List Oper} {K : St → Prop} {Q : Exit → Act → World → Prop} {id : Nat} (h : Sat B ν σ a w) (hx : sxDraw P Γ ops σ K) (hn : Follows B ν σ.hp w K (Q .normal)) :
    (Code.region id ops.toArray true).wp P Q a w := by
  unfold sxDraw at hx
  split at hx
  · rename_i hm
    split at hx
    · split at hx
      · rename_i hB
        simp only [Bool.and_eq_true] at hB
        replace hB := hB.1
        refine wp_region_quiet (C := Cls B ν σ.hp w) hm hB ⟨(sat_drew h).hp, (sat_drew h).base, below_drew B w⟩ ?_
        refine still_gen (B := B) (ν := ν) (w := w) (hp := σ.hp) (R := fun l a => wpQuiet P ops.toArray (Cls B ν σ.hp w) (fun a' => ∀ w', Cls B ν σ.hp w w' → Q .normal a' w') l a) ?_ ?_ ?_ ?_ ops σ a rfl h hx
        · intro σ' a' e1 h1 hk w' hc
          have h1' : Sat B ν σ' a' w' := ⟨h1.tmps, h1.wf, h1.defers, by rw [e1]; exact hc.hp, hc.base⟩
          exact hn ν σ' a' w' (by rw [e1]; exact fun _ h => h) (Agree.refl _ _) h1' hc.below hk
        · intro σ' a' o rest p v e1 h1 hw hv hp _ hr
          have hq := quiet1_sound hΓ h1 hv hp w
          rw [e1] at hq
          show (if Region.wanted o (yielded ops.toArray a'.tmps) = true then _ else _)
          rw [if_pos hw]
          exact ⟨v.den ν, fun w' hc => hq.2 w' hc, hr⟩
        · intro σ' a' o p v e1 h1 hv hp
          have hq := quiet1_sound hΓ h1 hv hp w
          rw [e1] at hq; exact hq.1
        · intro a' o rest hw hr
          show (if Region.wanted o (yielded ops.toArray a'.tmps) = true then _ else _)
          rw [if_neg (by rw [hw]; simp)]
          exact hr
      · exact open_sound hΓ hm h hx hn
    · split at hx
      · rename_i hB
        simp only [Bool.and_eq_true] at hB
        replace hB := hB.1
        refine wp_region_still_tail (quietLen ops) hm hB ?_
        refine still_gen (B := B) (ν := ν) (w := { w with drawn := w.drawn + 1 }) (hp := σ.hp) (R := fun l a => wpStill P ops.toArray { w with drawn := w.drawn + 1 } (fun a' => wpList P ops.toArray Q (ops.drop (quietLen ops)) a' { w with drawn := w.drawn + 1 }) l a) ?_ ?_ ?_ ?_ _ σ a rfl (sat_drew h) hx
        · intro σ' a' e1 h1 hk
          refine ops_sound hΓ _ σ' ν a' _ h1 hk ?_
          rw [e1]
          exact hn.later (fun _ h => h) (Agree.refl _ _) (below_drew B w)
        · intro σ' a' o rest p v e1 h1 hw hv hp _ hr
          show (if Region.wanted o (yielded ops.toArray a'.tmps) = true then _ else _)
          rw [if_pos hw]
          unfold Oper.still
          rw [(sxVal_sound h1 hv hp).1, Oper.stillUpon_value]
          exact hr
        · intro σ' a' o p v e1 h1 hv hp
          rw [← e1]; exact (sxVal_sound h1 hv hp).2
        · intro a' o rest hw hr
          show (if Region.wanted o (yielded ops.toArray a'.tmps) = true then _ else _)
          rw [if_neg (by rw [hw]; simp)]
          exact hr
      · exact open_sound hΓ hm h hx hn
  · exact nomatch hx

def outOf : SExit → Exit
  | .normal => .normal
  | .exit id => .exit id
  | .ret => .ret

/-- What follows is so for whatever fits, 'p' being the blocks that must stay. -/
def FollowsP (B : Nat) (ν : Nat → Nat) (p : Nat → Prop) (w : World) (K : St → Prop) (next : Act → World → Prop) : Prop :=
  ∀ ν' σ' a' w', (∀ o, p o → Live σ'.hp o) → Agree p ν ν' → Sat B ν' σ' a' w' → Below B w w' → K σ' → next a' w'

theorem FollowsP.plain {p : Nat → Prop} {hp : List SObj} {K : St → Prop} {next : Act → World → Prop} (h : FollowsP B ν p w K next) (hl : ∀ o, p o → Live hp o) : Follows B ν hp w K next :=
  fun ν' σ' a' w' l1 a1 s1 b1 k1 => h ν' σ' a' w' (fun o ho => l1 o (hl o ho)) (fun o ho => a1 o (hl o ho)) s1 b1 k1

def FollowsE (B : Nat) (ν : Nat → Nat) (p : Nat → Prop) (w : World) (K : SExit → St → Prop) (Q : Exit → Act → World → Prop) : Prop := ∀ e, FollowsP B ν p w (K e) (Q (outOf e))

theorem FollowsE.later {p : Nat → Prop} {K : SExit → St → Prop} {Q : Exit → Act → World → Prop} (h : FollowsE B ν p w K Q) {ν' : Nat → Nat} {w' : World}
    (ha : Agree p ν ν') (hb : Below B w w') : FollowsE B ν' p w' K Q := fun e ν'' σ'' a'' w'' hl' ha' hs hb' hk => h e ν'' σ'' a'' w'' hl' (ha.trans ha' (fun _ h => h)) hs (hb.trans hb') hk

/-- A piece of code does what its symbolic run says. -/
def CodeOk (P : Program) (n0 : Nat) (c : Code) (f : St → (SExit → St → Prop) → Prop) : Prop :=
  ∀ B (p : Nat → Prop) ν σ a w K Q, (∀ o, p o → o < n0) → (∀ o, p o → Live σ.hp o) → Sat B ν σ a w → f σ K → FollowsE B ν p w K Q → c.wp P Q a w

theorem liveB_live {hp : List SObj} {o : Nat} (h : liveB hp o = true) : Live hp o := by
  unfold liveB at h
  split at h
  · rename_i vs ty e; exact ⟨vs, ty, e⟩
  · simp at h
mutual
theorem okSV_wf {hp : List SObj} : ∀ (v : SV), okSV hp v = true → v.wf (Live hp)
  | .int _ _, _ => trivial
  | .bool _, _ => trivial
  | .str _, _ => trivial
  | .ptr o _, h => by simp only [okSV] at h; simp only [SV.wf]; exact liveB_live h
  | .nilp, _ => trivial
  | .slice o _ _ _, h => by simp only [okSV] at h; simp only [SV.wf]; exact liveB_live h
  | .nils, _ => trivial
  | .iface _ v, h => by simp only [okSV] at h; simp only [SV.wf]; exact okSV_wf v h
  | .nili, _ => trivial
  | .agg vs, h => by simp only [okSV] at h; simp only [SV.wf]; exact okSVs_wf vs h
  | .tuple vs, h => by simp only [okSV] at h; simp only [SV.wf]; exact okSVs_wf vs h
  | .func _ a b, h => by simp only [okSV, Bool.and_eq_true] at h; simp only [SV.wf]; exact ⟨okSVs_wf a h.1, okSVs_wf b h.2⟩
  | .nilf, _ => trivial
  | .nilm, _ => trivial
theorem okSVs_wf {hp : List SObj} : ∀ (l : List SV), okSVs hp l = true → SV.wfL (Live hp) l
  | [], _ => trivial
  | v :: r, h => by simp only [okSVs, Bool.and_eq_true] at h; exact ⟨okSV_wf v h.1, okSVs_wf r h.2⟩
end

theorem keepHp_get (n0 : Nat) (keep : List Nat) : ∀ (hp : List SObj) (i o : Nat) (x : SObj), (keepHp n0 keep i hp)[o]? = some x → hp[o]? = some x ∨ x = .dead
  | [], _, _, _, h => by simp [keepHp] at h
  | y :: r, i, o, x, h => by
    cases o with
    | zero =>
      simp only [keepHp, List.getElem?_cons_zero, Option.some.injEq] at h ⊢
      split at h
      · exact .inl h
      · split at h
        · exact .inl h
        · exact .inr h.symm
    | succ o =>
      simp only [keepHp, List.getElem?_cons_succ] at h ⊢
      exact keepHp_get n0 keep r (i + 1) o x h
theorem keepHp_low (n0 : Nat) (keep : List Nat) : ∀ (hp : List SObj) (i o : Nat), i + o < n0 → (keepHp n0 keep i hp)[o]? = hp[o]?
  | [], _, _, _ => by simp [keepHp]
  | y :: r, i, o, h => by
    cases o with
    | zero => simp only [keepHp, List.getElem?_cons_zero]; rw [if_pos (by omega)]
    | succ o => simp only [keepHp, List.getElem?_cons_succ]; exact keepHp_low n0 keep r (i + 1) o (by omega)

/-- What nothing names may be forgotten. -/
theorem gc_sat {n0 : Nat} {K : St → Prop} (h : Sat B ν σ a w) {p : Nat → Prop} (hp0 : ∀ o, p o → o < n0) (hpl : ∀ o, p o → Live σ.hp o) (hx : gcK n0 σ K) : ∃ σ', Sat B ν σ' a w ∧ K σ' ∧ (∀ o, p o → Live σ'.hp o) := by
  unfold gcK at hx
  rw [fSpine_eq] at hx
  split at hx
  · rename_i hc
    simp only [Bool.and_eq_true] at hc
    obtain ⟨c1, c2⟩ := hc
    refine ⟨{ σ with hp := keepHp n0 (reach σ.hp 6 (idsSVs σ.tmps [])) 0 σ.hp }, ⟨h.tmps, okSVs_wf _ c1, h.defers, ⟨?_, ?_⟩, h.base⟩, hx, ?_⟩
    · intro o x ho
      rcases keepHp_get _ _ _ _ _ _ ho with h1 | h1
      · have hox := h.hp.obj o x h1
        cases x with
        | dead => trivial
        | cells vs ty =>
          obtain ⟨o1, o2, _⟩ := hox
          exact ⟨o1, o2, okSVs_wf _ (List.all_eq_true.1 c2 _ (List.mem_of_getElem? ho))⟩
      · subst h1; trivial
    · have back : ∀ o, Live (keepHp n0 (reach σ.hp 6 (idsSVs σ.tmps [])) 0 σ.hp) o → Live σ.hp o := fun o ho => by
        obtain ⟨vs, ty, hx⟩ := ho
        rcases keepHp_get _ _ _ _ _ _ hx with h1 | h1
        · exact ⟨vs, ty, h1⟩
        · cases h1
      exact fun o o' h1 h2 e => h.hp.apart o o' (back o h1) (back o' h2) e
    · intro o ho
      obtain ⟨vs, ty, hx⟩ := hpl o ho
      exact ⟨vs, ty, by rw [keepHp_low _ _ _ _ _ (by have := hp0 o ho; omega)]; exact hx⟩
  · exact ⟨σ, h, hx, hpl⟩

theorem loopN_sound {n0 : Nat} {c : Code} {f : St → (SExit → St → Prop) → Prop} (hf : CodeOk P n0 c f) {K : SExit → St → Prop} {Q : Exit → Act → World → Prop} {p : Nat → Prop} (hp0 : ∀ o, p o → o < n0) : ∀ (n : Nat) (σ : St) (ν : Nat → Nat) (a : Act) (w : World), (∀ o, p o → Live σ.hp o) → Sat B ν σ a w →
    loopN n0 f K n σ → FollowsE B ν p w K Q → Code.rounds P c Q n a w
  | 0, _, _, _, _, _, _, h, _ => nomatch h
  | n + 1, σ, ν, a, w, hl, hs, h, hn => by
    rw [rounds_succ]
    obtain ⟨σ1, s0, k0, l0⟩ := gc_sat hs hp0 hl h
    refine hf B p ν σ1 a w _ _ hp0 l0 s0 k0 ?_
    intro e ν' σ' a' w' l1 a1 s1 b1 k1
    cases e with
    | normal => exact loopN_sound hf hp0 n σ' ν' a' w' l1 s1 k1 (hn.later a1 b1)
    | exit id => exact hn (.exit id) ν' σ' a' w' l1 a1 s1 b1 k1
    | ret => exact hn .ret ν' σ' a' w' l1 a1 s1 b1 k1

theorem loopI_sound {n0 : Nat} {c : Code} {f : St → (SExit → St → Prop) → Prop} (hf : CodeOk P n0 c f) {K : SExit → St → Prop} {Q : Exit → Act → World → Prop} {p : Nat → Prop} (hp0 : ∀ o, p o → o < n0) {σ : St} (hl : ∀ o, p o → Live σ.hp o) (hs : Sat B ν σ a w)
    (h : loopI f K σ) (hn : FollowsE B ν p w K Q) : (Code.loop c).wp P Q a w := by
  obtain ⟨I, μ, h0, hr⟩ := h
  have key : ∀ (m : Nat) (σ : St) (ν : Nat → Nat) (a : Act) (w : World), (∀ o, p o → Live σ.hp o) → Sat B ν σ a w → I σ → μ σ < m → FollowsE B ν p w K Q → Code.rounds P c Q m a w := by
    intro m
    induction m with
    | zero => intro σ ν a w _ _ _ hlt; exact absurd hlt (by omega)
    | succ m ih =>
      intro σ ν a w hl hs h0 hlt hn
      rw [rounds_succ]
      refine hf B p ν σ a w _ _ hp0 hl hs (hr σ h0) ?_
      intro e ν' σ' a' w' l1 a1 s1 b1 k1
      cases e with
      | normal => exact ih σ' ν' a' w' l1 s1 k1.1 (by have := k1.2; omega) (hn.later a1 b1)
      | exit id => exact hn (.exit id) ν' σ' a' w' l1 a1 s1 b1 k1
      | ret => exact hn .ret ν' σ' a' w' l1 a1 s1 b1 k1
  exact wp_loop_rounds _ (key _ σ ν a w hl hs h0 (Nat.lt_succ_self _) hn)

theorem code_sound (hΓ : GammaOk P Γ) (un : Nat → Nat) (n0 : Nat) : ∀ (c : Code) (bid : Nat), CodeOk P n0 c (fun σ K => sxCode P Γ un n0 c bid σ K)
  | .skip, bid => fun B p ν σ a w K Q _ hl hs h hn => wp_skip (hn .normal ν σ a w hl (Agree.refl _ _) hs (Below.refl _ _) (by simpa [sxCode] using h))
  | .label l, bid => fun B p ν σ a w K Q _ hl hs h hn => wp_label (hn .normal ν σ a w hl (Agree.refl _ _) hs (Below.refl _ _) (by simpa [sxCode] using h))
  | .region id ops draw, bid => fun B p ν σ a w K Q _ hl hs h hn => by
    simp only [sxCode] at h
    cases draw with
    | true => simp only [if_true] at h; exact draw_sound (ops := ops.toList) hΓ hs h ((hn .normal).plain hl)
    | false =>
      simp only [Bool.false_eq_true, if_false] at h
      exact wp_region_list (ops_sound hΓ ops.toList σ ν a w hs h ((hn .normal).plain hl))
  | .seq x y, bid => fun B p ν σ a w K Q hp0 hl hs h hn => by
    simp only [sxCode] at h
    refine wp_seq (code_sound hΓ un n0 x bid B p ν σ a w _ _ hp0 hl hs h ?_)
    intro e ν' σ' a' w' l1 a1 s1 b1 k1
    cases e with
    | normal => exact code_sound hΓ un n0 y bid B p ν' σ' a' w' _ _ hp0 l1 s1 k1 (hn.later a1 b1)
    | exit id => exact hn (.exit id) ν' σ' a' w' l1 a1 s1 b1 k1
    | ret => exact hn .ret ν' σ' a' w' l1 a1 s1 b1 k1
  | .cond c x y, bid => fun B p ν σ a w K Q hp0 hl hs h hn => by
    simp only [sxCode] at h
    split at h
    · rename_i e he
      obtain ⟨e1, _⟩ := eval_sound hs.t he
      obtain ⟨h1, h2⟩ := way_sound h
      exact wp_cond_split (t := e.den) e1
        (fun ht => code_sound hΓ un n0 x bid B p ν _ a w _ _ hp0 (by rw [told_hp]; exact hl) (told_sat hs he ht) (h1 ht) hn)
        (fun ht => code_sound hΓ un n0 y bid B p ν _ a w _ _ hp0 (by rw [told_hp]; exact hl) (told_sat hs he ht) (h2 ht) hn)
    · exact h.elim
  | .block id c, bid => fun B p ν σ a w K Q hp0 hl hs h hn => by
    simp only [sxCode] at h
    refine wp_block (code_sound hΓ un n0 c id B p ν σ a w _ _ hp0 hl hs h ?_)
    intro e ν' σ' a' w' l1 a1 s1 b1 k1
    cases e with
    | normal => exact hn .normal ν' σ' a' w' l1 a1 s1 b1 k1
    | exit i =>
      simp only [inBlockS] at k1
      simp only [outOf, Exit.inBlock]
      split
      · rename_i hi; rw [if_pos hi] at k1; exact hn .normal ν' σ' a' w' l1 a1 s1 b1 k1
      · rename_i hi; rw [if_neg hi] at k1; exact hn (.exit i) ν' σ' a' w' l1 a1 s1 b1 k1
    | ret => exact hn .ret ν' σ' a' w' l1 a1 s1 b1 k1
  | .loop c, bid => fun B p ν σ a w K Q hp0 hl hs h hn => by
    simp only [sxCode] at h
    split at h
    · exact loopI_sound (code_sound hΓ un n0 c bid) hp0 hl hs h hn
    · exact wp_loop_rounds _ (loopN_sound (code_sound hΓ un n0 c bid) hp0 _ σ ν a w hl hs h hn)
  | .exit id, bid => fun B p ν σ a w K Q _ hl hs h hn => wp_exit (hn (.exit id) ν σ a w hl (Agree.refl _ _) hs (Below.refl _ _) (by simpa [sxCode] using h))
  | .ret, bid => fun B p ν σ a w K Q _ hl hs h hn => wp_ret (hn .ret ν σ a w hl (Agree.refl _ _) hs (Below.refl _ _) (by simpa [sxCode] using h))
  | .goto l, bid => fun B p ν σ a w K Q _ hl hs h hn => by simp only [sxCode] at h; exact nomatch h
  | .scope c, bid => fun B p ν σ a w K Q _ hl hs h hn => by simp only [sxCode] at h; exact nomatch h
  | .rangeFunc .., bid => fun B p ν σ a w K Q _ hl hs h hn => by simp only [sxCode] at h; exact nomatch h
  | .refuse _, bid => fun B p ν σ a w K Q _ hl hs h hn => by simp only [sxCode] at h; exact nomatch h

def res1 (tmps : Array Value) : ResultVar → Sem Value
  | .tmp t => pure (tmps.getD t undef)
  | .cell q t => do loadVar t (← asAddr (tmps.getD q undef))

theorem result1_sound (hs : Sat B ν σ a w) {r : ResultVar} {v : SV} (h : sxResult1 P σ r = some v) :
    (res1 a.tmps r).run P w = .ok (v.den ν) w ∧ v.wf (Live σ.hp) := by
  cases r with
  | tmp t =>
    simp only [sxResult1] at h
    obtain ⟨h1, h2⟩ := tmp_sound hs.t h
    exact ⟨by simp [res1, Array.getD_eq_getD_getElem?, h1, Sem.run, pure], h2⟩
  | cell q t =>
    simp only [sxResult1] at h
    split at h
    · rename_i o off hq
      obtain ⟨h1, _⟩ := tmp_sound hs.t hq
      obtain ⟨l1, l2⟩ := loadC_sound hs.hp h
      refine ⟨?_, l2⟩
      have e1 : a.tmps.getD q undef = .pointer (some ⟨ν o, off, none⟩) := by simp [Array.getD_eq_getD_getElem?, h1, SV.den]
      show (Sem.run P (do loadVar t (← asAddr (a.tmps.getD q undef))) w) = _
      rw [e1, Sem.run_bind]
      simp only [asAddr, Sem.run, pure, Result.andThen]
      exact l1
    · simp at h

theorem results_list (hs : Sat B ν σ a w) : ∀ {l : List ResultVar} {vs : List SV}, sxResults P σ l = some vs →
    (l.mapM (res1 a.tmps)).run P w = .ok (SV.denL ν vs) w ∧ SV.wfL (Live σ.hp) vs
  | [], vs, h => by simp [sxResults] at h; subst h; simp [Sem.run, pure, SV.denL, SV.wfL]
  | r :: rest, vs, h => by
    unfold sxResults at h
    split at h
    · rename_i v l h1 h2
      simp only [Option.some.injEq] at h; subst h
      obtain ⟨a1, a2⟩ := result1_sound hs h1
      obtain ⟨b1, b2⟩ := results_list hs h2
      refine ⟨?_, a2, b2⟩
      rw [List.mapM_cons, Sem.run_bind, a1]
      simp only [Result.andThen]
      rw [Sem.run_bind, b1]
      rfl
    · simp at h

theorem results_sound (hs : Sat B ν σ a w) {fn : Func} {vs : List SV} (h : sxResults P σ fn.results.toList = some vs) :
    (results fn a.tmps).run P w = .ok ((single vs).den ν) w ∧ (single vs).wf (Live σ.hp) := by
  obtain ⟨h1, h2⟩ := results_list hs h
  have h3 : (fn.results.mapM (res1 a.tmps)).run P w = .ok (SV.denL ν vs).toArray w := by
    rw [Array.mapM_eq_mapM_toList, Sem.run_map, h1]; rfl
  refine ⟨?_, ?_⟩
  · unfold results
    rw [Sem.run_bind]
    refine (congrArg (fun r => Result.andThen r _) h3).trans ?_
    simp only [Result.andThen]
    match vs with
    | [] => simp [single, SV.den, SV.denL, Sem.run, pure]
    | [v] => simp [single, SV.den, SV.denL, Sem.run, pure]
    | u :: v :: r => simp [single, SV.den, SV.denL, Sem.run, pure]
  · match vs, h2 with
    | [], _ => simp [single, SV.wf, SV.wfL]
    | [v], h => simpa [single, SV.wfL] using h
    | u :: v :: r, h => simpa [single, SV.wf] using h

theorem func_sound (hΓ : GammaOk P Γ) {un : Nat → Nat} {f : FuncId} {fn : Func} (hf : P.funcs[f]? = some fn) : SpecOk P f (sxFunc P Γ un fn) := by
  intro B ν hp w args K hs hB hw hx
  unfold sxFunc at hx
  split at hx
  · rename_i c hb
    rw [fSpine_eq] at hx
    refine calls_of_wp hf hb ?_
    have hs0 : Sat B ν { tmps := args ++ List.replicate (fn.ntmps - args.length) SV.undef, hp := hp } { tmps := (SV.denL ν args).toArray ++ Array.replicate (fn.ntmps - (SV.denL ν args).toArray.size) undef, defers := [] } w := by
      refine ⟨?_, ?_, rfl, hs, hB⟩
      · apply Array.ext'
        simp [denL_map, SV.undef, SV.den, SV.denL, undef]
      · refine wfL_append hw ?_
        rw [wfL_iff]
        intro v hv
        rw [List.mem_replicate] at hv
        rw [hv.2]; simp [SV.undef, SV.wf, SV.wfL]
    refine code_sound hΓ un hp.length c 0 B (Live hp) ν _ _ w _ _ (fun o ho => live_lt ho) (fun _ h => h) hs0 hx ?_
    intro e ν' σ' a' w' l1 a1 s1 b1 k1
    have fin : ∀ vs, sxResults P σ' fn.results.toList = some vs → K (single vs) σ'.hp → a'.defers = [] ∧ ∃ v, (results fn a'.tmps).run P w' = .ok v w' ∧ RetPost B ν hp w K (.returned v) w' := by
      intro vs hv hk
      obtain ⟨r1, r2⟩ := results_sound s1 hv
      exact ⟨s1.defers, _, r1, ν', _, _, l1, a1, rfl, r2, s1.hp, b1, hk⟩
    cases e with
    | exit id => exact k1.elim
    | normal =>
      simp only at k1
      split at k1
      · rename_i vs hv; exact fin vs hv k1
      · exact k1.elim
    | ret =>
      simp only at k1
      split at k1
      · rename_i vs hv; exact fin vs hv k1
      · exact k1.elim
  · exact hx.elim

theorem inl_ok {un : FuncId → Nat → Nat} {T : FuncId → Option Cal} (hT : GammaOk P T) : ∀ d, GammaOk P (inl P un T d)
  | 0 => fun g s h => by simp [inl] at h
  | d + 1 => fun g s h => by
    unfold inl at h
    split at h
    · rename_i s' hs
      simp only [Option.some.injEq] at h; subst h
      exact hT g s' hs
    · split at h
      · rename_i fn hf
        simp only [Option.some.injEq] at h; subst h
        exact (func_sound (inl_ok hT d) hf : SpecOk P g _)
      · simp at h

theorem table_ok : ∀ {l : List (FuncId × Cal)}, (∀ p ∈ l, CalOk P p.1 p.2) → GammaOk P (table l)
  | [], _ => fun g s h => by simp [table] at h
  | (f, s) :: r, hl => fun g s' h => by
    unfold table at h
    split at h
    · rename_i hg
      simp only [Option.some.injEq] at h; subst h; subst hg
      exact hl (g, s) (List.mem_cons_self ..)
    · exact table_ok (fun p hp => hl p (List.mem_cons_of_mem _ hp)) g s' h

theorem none_ok : GammaOk P (fun _ => none) := fun g s h => by simp at h

/-- From an empty memory of its own: what is said of a call alone. -/
theorem calls_of_spec {f : FuncId} {s : SpecFn} (hs : SpecOk P f s) {args : List SV} (hw : SV.wfL (fun _ => False) args) {K : SV → List SObj → Prop} (hx : s args [] K) (w : World) :
    Calls P f (SV.denL (fun _ => 0) args).toArray w fun e w' => ∃ ν v hp, e = .returned (v.den ν) ∧ SatHp w.heap.size ν hp w' ∧ Below w.heap.size w w' ∧ K v hp := by
  have h0 : SatHp w.heap.size (fun _ => 0) [] w := ⟨fun o x h => by simp at h, fun o o' h => by obtain ⟨_, _, h⟩ := h; simp at h⟩
  refine (hs w.heap.size (fun _ => 0) [] w args K h0 (Nat.le_refl _) (wfL_mono (fun _ h => h.elim) _ hw) hx).mono ?_
  rintro e w' ⟨ν', v, hp', _, _, he, _, hsat, hb, hk⟩
  exact ⟨ν', v, hp', he, hsat, hb, hk⟩

/-- A call whose result leads to no memory. -/
theorem calls_val {f : FuncId} {s : SpecFn} (hs : SpecOk P f s) {args : List SV} (hw : SV.wfL (fun _ => False) args) {V : Value} (hx : s args [] fun v _ => ∀ ν, v.den ν = V) (w : World) :
    Calls P f (SV.denL (fun _ => 0) args).toArray w fun e w' => e = .returned V ∧ Below w.heap.size w w' := by
  refine (calls_of_spec hs hw hx w).mono ?_
  rintro e w' ⟨ν, v, hp, rfl, _, hb, hv⟩
  exact ⟨by rw [hv ν], hb⟩

/-- A function of its arguments alone, out of a run from an empty memory. -/
theorem pure_ok {f : FuncId} {s : SpecFn} (hs : SpecOk P f s) {F : PureFn}
    (h : ∀ args p v, F args = some (p, v) → Holds p → SV.wfL (fun _ => False) args ∧ v.wf (fun _ => False) ∧ s args [] (fun v' _ => ∀ ν, v'.den ν = v.den ν)) : PureOk P f F := by
  intro args p v hF hp
  obtain ⟨w1, w2, h3⟩ := h args p v hF hp
  refine ⟨w1, w2, fun w => (calls_of_spec hs w1 h3 w).mono ?_⟩
  rintro e w' ⟨ν', v', hp'', rfl, _, hb, hv⟩
  exact ⟨by rw [hv ν', wf0_den (fun _ => 0) ν' w2], hb⟩

/-- The same, the arguments spelled otherwise. -/
theorem pure_of {f : FuncId} {s : SpecFn} (hs : SpecOk P f s) {F : PureFn}
    (h : ∀ args p v, F args = some (p, v) → Holds p → ∃ args', SV.denL (fun _ => 0) args' = SV.denL (fun _ => 0) args ∧ SV.wfL (fun _ => False) args ∧ SV.wfL (fun _ => False) args' ∧ v.wf (fun _ => False) ∧
      s args' [] (fun v' _ => ∀ ν, v'.den ν = v.den ν)) : PureOk P f F := by
  intro args p v hF hp
  obtain ⟨args', e, w0, w1, w2, h3⟩ := h args p v hF hp
  refine ⟨w0, w2, fun w => ?_⟩
  rw [← e]
  refine (calls_of_spec hs w1 h3 w).mono ?_
  rintro e w' ⟨ν', v', hp'', rfl, _, hb, hv⟩
  exact ⟨by rw [hv ν', wf0_den (fun _ => 0) ν' w2], hb⟩

end
end Go.Proofs.Ytiljkmcahkphiaa.Sx
