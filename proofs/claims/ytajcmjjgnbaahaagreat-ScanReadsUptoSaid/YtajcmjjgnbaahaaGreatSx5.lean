/- Symbolic execution is sound: one operation; a list of them; code; a function's call. -/
import Derived.Test.YtajcmjjgnbaahaaGreatSxs
import Derived.Test.YtajcmjjgnbaahaaGreatSxg
import Derived.OrdersHeld
import Derived.Scope
set_option linter.unusedVariables false
set_option linter.unusedSimpArgs false
namespace Go.Proofs.YtajcmjjgnbaahaaGreat.Sx
open Go Go.RowKit
section
variable {P : Program} {Γ : FuncId -> Option Cal} {B : Nat -> Prop} {n : Nat -> Prop} {ν : Nat -> Pl} {σ : St} {a : Act} {w : World}
theorem zGV (hΓ : zO P Γ) (h : Sat B ν σ a w) {o : Oper} {k : Option Nat} {K : St -> Prop} (hx : zEB P Γ k o σ K) {next : Act -> World -> Prop} {Q : Exit -> Act -> World -> Prop}
    (hn : zAC B ν σ.hp w K next) : o.wp P a w next Q := by
  unfold zEB at hx
  split at hx
  · rename_i q hq; exact zQU h hq hx hn
  unfold Oper.wp
  simp only [zDG, zA2, zCu] at hx
  split at hx
  · rename_i e he
    split at hx
    · rename_i z hz
      obtain ⟨z1, z2⟩ := zAZ (ν := ν) (w := w) (n := (Live σ.hp)) hz
      have hr : (execOp a.eval o).run P w = .ok (.value (.pointer (some ⟨w.heap.size, 0, none⟩))) (w.alloc (.cells (z.den ν).cells e)) := by
        simp only [execOp, he, Instr.alloc]
        rw [Sem.run_bind, Sem.run_bind, z1]
        rfl
      rw [hr, Oper.upon_value]
      rw [zAb]
      exact zHV h (zCR z2) e k o.dst (fun b => .ptr b 0) (fun b => .pointer (some ⟨b, 0, none⟩)) (fun _ _ => rfl) (fun _ _ hp => hp) hn hx
    · exact hx.elim
  · rename_i e x he
    split at hx
    · rename_i v hv
      obtain ⟨v1, v2⟩ := zB h.t hv
      have hr : (execOp a.eval o).run P w = .ok (.value (.pointer (some ⟨w.heap.size, 0, none⟩))) (w.alloc (.cells (v.den ν).cells e)) := by
        simp only [execOp, he, Instr.box, v1]
        rfl
      rw [hr, Oper.upon_value]
      rw [zAb]
      exact zHV h (zCR v2) e k o.dst (fun b => .ptr b 0) (fun b => .pointer (some ⟨b, 0, none⟩)) (fun _ _ => rfl) (fun _ _ hp => hp) hn hx
    · exact hx.elim
  · rename_i t len parts he
    split at hx
    · rename_i e l hu hl
      split at hx
      · rename_i i z hi hz
        split at hx
        · rename_i hc
          obtain ⟨c1, c2, c3⟩ := hc
          split at hx
          · rename_i cs hcs
            obtain ⟨p1, p2⟩ := zBv h.t hl
            obtain ⟨z1, z2⟩ := zAZ (ν := ν) (w := w) (n := (Live σ.hp)) hz
            have hwz := (zz _ _).1 (zCR z2)
            have hz0 : SV.wfL (Live σ.hp) ((List.range (len * i.size)).map fun j => z.cells.getD (j % i.size) SV.undef) := by
              rw [zz]
              intro x hx'
              obtain ⟨j, _, rfl⟩ := List.mem_map.1 hx'
              by_cases hj : j % i.size < z.cells.length
              · simp only [List.getD_eq_getElem?_getD, List.getElem?_eq_getElem hj, Option.getD_some]; exact hwz _ (List.getElem_mem hj)
              · simp only [List.getD_eq_getElem?_getD, List.getElem?_eq_none (Nat.le_of_not_lt hj), Option.getD_none]; simp [SV.undef, SV.wf, SV.wfL]
            obtain ⟨f1, f2, _⟩ := zDy ν _ (fun j => some (j * i.size, i.size)) (fun _ _ hx' => hx') l _ cs hcs p2 hz0
            have u1 : (underlying t).run P w = .ok (.slice e) w := by simp [underlying, program, Sem.run, hu, pure]
            have s1 : (sizeOf e).run P w = .ok i.size w := by simp [sizeOf, typeInfo, program, hi, Sem.run, pure]
            have e1 : (parts.map fun (i, x) => (i, a.eval x)).toList = l.map fun p => (p.1, p.2.den ν) := by rw [<- p1]; simp
            have e2 : (Array.range (len * i.size)).map ((z.den ν).cells[· % (z.den ν).cells.size]!) = (SV.denL ν ((List.range (len * i.size)).map fun j => z.cells.getD (j % i.size) SV.undef)).toArray := by
              apply Array.ext'
              have hsz : (z.den ν).cells.size = i.size := by rw [zAb]; simp [zJ, c2]
              simp only [Array.toList_map, Array.toList_range, zX, List.map_map]
              refine List.map_congr_left fun j hj => ?_
              have hpos : 0 < i.size := Nat.pos_of_mul_pos_left c3
              have hj' : j % i.size < z.cells.length := by rw [c2]; exact Nat.mod_lt _ hpos
              simp only [Function.comp, hsz]
              rw [zAb]
              simp [zX, List.getD_eq_getElem?_getD, hj']
            have hr : (execOp a.eval o).run P w = .ok (.value (.slice (some ⟨w.heap.size, 0, none⟩) len len)) (w.alloc (.cells (SV.denL ν cs).toArray e)) := by
              have hb : (Instr.buildSlice t len (parts.map fun (i, x) => (i, a.eval x))).run P w = .ok (.slice (some ⟨w.heap.size, 0, none⟩) len len) (w.alloc (.cells (SV.denL ν cs).toArray e)) := by
                unfold Instr.buildSlice
                rw [Sem.run_bind, u1]
                simp only [Result.andThen]
                rw [Sem.run_bind, s1]
                simp only [Result.andThen]
                rw [if_neg (by omega)]
                rw [if_neg (by omega : ¬ len * i.size = 0), Sem.run_bind, z1]
                simp only [Result.andThen]
                rw [Sem.run_bind]
                simp only [pure, Sem.run, Result.andThen]
                rw [e2, e1, f1]
                rfl
              simp only [execOp, he]
              rw [Sem.run_bind, hb]
              rfl
            rw [hr, Oper.upon_value]
            exact zHV h f2 e k o.dst (fun b => .slice b 0 (.lit len) (.lit len)) (fun b => .slice (some ⟨b, 0, none⟩) len len) (fun _ _ => rfl) (fun _ _ hp => hp) hn hx
          · exact hx.elim
        · exact hx.elim
      · exact hx.elim
    · exact hx.elim
  · rename_i t p x he
    split at hx
    · rename_i ob off v hp hv
      split at hx
      · rename_i ox hs
        obtain ⟨p1, _⟩ := zB h.t hp
        obtain ⟨v1, v2⟩ := zB h.t hv
        obtain ⟨w', s1, s2, s3, s4⟩ := zLJ h.hp v2 hs
        have hr : (execOp a.eval o).run P w = .ok .skip w' := by
          simp only [execOp, he, p1, v1, SV.den, Instr.storeAt, Instr.sureAddr]
          rw [Sem.run_bind, Sem.run_bind]
          simp only [Sem.run, pure, Result.andThen]
          rw [s1]
        rw [hr, Oper.upon_skip]
        have h2 : Sat B ν { σ with hp := zS σ.hp ob ox } a w' := zAL h s3 (zb.refl _ _) s2 s4
        have h3 := z0 h2 o.dst (v := SV.undef) (by simp [SV.undef, SV.wf, SV.wfL])
        have := hn _ _ _ _ (by rw [zAR]; exact s3) (zb.refl _ _) h3 s4 hx
        simpa [SV.den, SV.undef, SV.denL, undef] using this
      · exact hx.elim
    · exact hx.elim
  · split at hx
    · rename_i v hv
      obtain ⟨r1, r2⟩ := zB0 h hv trivial
      rw [r1, Oper.upon_value]
      exact hn _ _ _ _ (by rw [zAR]; exact fun _ h => h) (zb.refl _ _) (z0 h o.dst r2) (ze.refl _ _) hx
    · rename_i p v hv
      obtain ⟨hp, hk⟩ := hx
      obtain ⟨r1, r2⟩ := zB0 h hv hp
      rw [r1, Oper.upon_value]
      exact hn _ _ _ _ (by rw [zAR]; exact fun _ h => h) (zb.refl _ _) (z0 h o.dst r2) (ze.refl _ _) hk
    · split at hx
      · rename_i c he
        split at hx
        · rename_i g args hc
          split at hx
          · rename_i hent
            split at hx
            · rename_i s _ hs
              obtain ⟨r1, r2⟩ := zDA h hc hent o.type
              have hr : (execOp a.eval o).run P w = .ok (.enter g (SV.denL ν args).toArray) w := by
                simp only [execOp, he]; exact r1
              rw [hr, Oper.upon_enter]
              have hcall := (hΓ g _ hs : zZ P g s) B ν σ.hp w args _ h.hp h.base r2 hx
              refine hcall.mono ?_
              rintro e w' ⟨ν', v, hp', l1, a1, rfl, v1, s1, b1, hk⟩
              have h2 : Sat B ν' { σ with hp := hp' } a w' := zAL h l1 a1 s1 b1
              have h3 := z0 h2 o.dst (v := v) v1
              exact hn _ _ _ _ (by rw [zAR]; exact l1) a1 h3 b1 hk
            · rename_i F hs
              obtain ⟨r1, r2⟩ := zDA h hc hent o.type
              have hr : (execOp a.eval o).run P w = .ok (.enter g (SV.denL ν args).toArray) w := by
                simp only [execOp, he]; exact r1
              rw [hr, Oper.upon_enter]
              have fin : ∀ p v, F args = some (p, v) -> zAJ p -> K (σ.put o.dst v) -> Calls P g (SV.denL ν args).toArray w (fun
                  | .returned v, w'' => next (a.put o.dst v) w''
                  | .panicked chain, w'' => Q (.panic chain) a w''
                  | .outgrown, _ => LetsOut Q) := by
                intro p v hF hp hk
                obtain ⟨v1, hcall⟩ := (hΓ g _ hs : zAr P g F).calls hF hp ν (Live σ.hp) w
                refine hcall.mono ?_
                rintro e w' ⟨rfl, hb⟩
                have hb' : ze B w w' := ze.of hb h.base
                have h2 : Sat B ν { σ with hp := σ.hp } a w' := zAL h (fun _ h => h) (zb.refl _ _) (zKr h.hp hb) hb'
                exact hn _ _ _ _ (by rw [zAR]; exact fun _ h => h) (zb.refl _ _) (z0 h2 o.dst v1) hb' hk
              split at hx
              · rename_i v hF; exact fin _ _ hF trivial hx
              · rename_i p v hF; exact fin _ _ hF hx.1 hx.2
              · exact nomatch hx
            · exact nomatch hx
          · exact nomatch hx
        · exact nomatch hx
      · exact nomatch hx
theorem zPp {e : BE} {A C : Prop} (h : Way e A C) : (e.den = true -> A) /\ (e.den = false -> C) := by
  unfold Way at h
  split at h
  · exact ⟨fun _ => h, fun hf => by simp [BE.den] at hf⟩
  · exact ⟨fun ht => by simp [BE.den] at ht, fun _ => h⟩
  · exact h
theorem zGI {Γ : FuncId -> Option Cal} {d : Nat} {e : BE} {A C : Prop} (h : WayO Γ d e A C) : (e.den = true -> A) /\ (e.den = false -> C) := by
  unfold WayO at h
  split at h
  · exact ⟨fun _ => h, fun hf => by simp [BE.den] at hf⟩
  · exact ⟨fun ht => by simp [BE.den] at ht, fun _ => h⟩
  · split at h
    · exact ⟨fun _ => h.2, fun hf => by rw [h.1] at hf; simp at hf⟩
    · split at h
      · exact ⟨fun ht => by rw [h.1] at ht; simp at ht, fun _ => h.2⟩
      · exact h
theorem zCT (h : Sat B ν σ a w) {x : Operand} {e : BE} (hx : σ.eval x = some (.bool e)) {b : Bool} (hb : e.den = b) : Sat B ν (σ.told x b) a w := by
  cases x with
  | tmp d =>
    refine ⟨?_, ?_, h.defers, h.hp, h.base⟩
    · simp only [St.eval, zDv] at hx
      simp only [St.told, h.tmps, zP, zX, List.map_set]
      congr 1
      have hd : d < (σ.tmps.map (SV.den ν)).length := by simpa using (List.getElem?_eq_some_iff.1 hx).1
      have e1 : (σ.tmps.map (SV.den ν))[d]'hd = (SV.bool (.lit b)).den ν := by
        have := (List.getElem?_eq_some_iff.1 hx).2
        simp only [List.getElem_map, this, SV.den, BE.den, hb]
      rw [<- e1, List.set_getElem_self]
    · simp only [St.told, zP]
      rw [zz]
      intro y hy
      rcases List.mem_or_eq_of_mem_set hy with h1 | h1
      · exact (zz _ _).1 h.wf y h1
      · rw [h1]; trivial
  | const c => exact h
  | global g => exact h
  | func f => exact h
theorem zBg (σ : St) (x : Operand) (b : Bool) : (σ.told x b).hp = σ.hp := by cases x <;> rfl
theorem zDY {ops : List Oper} {o : Oper} (hg : zDa ops o = some none) (tmps : Array Value) : Region.wanted o (yielded ops.toArray tmps) = true := by
  have hg' : o.guard = none := by
    unfold zDa at hg
    split at hg
    · assumption
    · split at hg
      · split at hg <;> simp at hg
      · simp at hg
  simp [Region.wanted, hg']
theorem zDZ (h : Sat B ν σ a w) {ops : List Oper} {o : Oper} {d : Nat} {b : Bool} {e : BE} (hg : zDa ops o = some (some (d, b))) (he : σ.tmps[d]? = some (.bool e)) :
    Region.wanted o (yielded ops.toArray a.tmps) = if b then e.den else !e.den := by
  unfold zDa at hg
  split at hg
  · simp at hg
  · rename_i j b' hgu
    split at hg
    · rename_i oj hj
      split at hg
      · rename_i d' hd
        simp only [Option.some.injEq, Prod.mk.injEq] at hg
        obtain ⟨rfl, rfl⟩ := hg
        obtain ⟨t1, _⟩ := zD9 h.t he
        have : yielded ops.toArray a.tmps j = some e.den := by simp [yielded, hj, hd, t1, SV.den]
        cases b' <;> cases hq : e.den <;> simp [Region.wanted, hgu, this, hq]
      · simp at hg
    · simp at hg
theorem zDt (h : Sat B ν σ a w) {ops : List Oper} {o : Oper} {d : Nat} {b : Bool} (hg : zDa ops o = some (some (d, b))) (he : σ.tmps[d]? = some (.tuple [])) :
    Region.wanted o (yielded ops.toArray a.tmps) = false := by
  unfold zDa at hg
  split at hg
  · simp at hg
  · rename_i j b' hgu
    split at hg
    · rename_i oj hj
      split at hg
      · rename_i d' hd
        simp only [Option.some.injEq, Prod.mk.injEq] at hg
        obtain ⟨rfl, rfl⟩ := hg
        obtain ⟨t1, _⟩ := zD9 h.t he
        have : yielded ops.toArray a.tmps j = none := by simp [yielded, hj, hd, t1, SV.den]
        simp [Region.wanted, hgu, this]
      · simp at hg
    · simp at hg
theorem zFq (hΓ : zO P Γ) {ops : List Oper} {K : St -> Prop} {Q : Exit -> Act -> World -> Prop} : ∀ (l : List Oper) (σ : St) (ν : Nat -> Pl) (a : Act) (w : World), Sat B ν σ a w -> zHC P Γ ops l σ K ->
    zAC B ν σ.hp w K (Q .normal) -> wpList P ops.toArray Q l a w
  | [], σ, ν, a, w, h, hx, hn => hn _ _ _ _ (fun _ h => h) (zb.refl _ _) h (ze.refl _ _) hx
  | o :: rest, σ, ν, a, w, h, hx, hn => by
    have doit : ∀ σ1 : St, σ1.hp = σ.hp -> Sat B ν σ1 a w -> Region.wanted o (yielded ops.toArray a.tmps) = true -> (zEB P Γ none o σ1 fun σ' => zHC P Γ ops rest σ' K) -> wpList P ops.toArray Q (o :: rest) a w := by
      intro σ1 e1 h1 hw hx1
      unfold wpList
      rw [if_pos hw]
      refine .inl (zGV hΓ h1 hx1 ?_)
      rw [e1]
      intro ν' σ' a' w' l1 a1 s1 b1 k1
      exact zFq hΓ rest σ' ν' a' w' s1 k1 (hn.later l1 a1 b1)
    have skip : ∀ σ1 : St, σ1.hp = σ.hp -> Sat B ν σ1 a w -> Region.wanted o (yielded ops.toArray a.tmps) = false -> zHC P Γ ops rest (σ1.put o.dst SV.undef) K -> wpList P ops.toArray Q (o :: rest) a w := by
      intro σ1 e1 h1 hw hx1
      unfold wpList
      rw [if_neg (by rw [hw]; simp)]
      have h3 := z0 h1 o.dst (v := SV.undef) (by simp [SV.undef, SV.wf, SV.wfL])
      have e2 : (σ1.put o.dst SV.undef).hp = σ.hp := by cases o.dst <;> exact e1
      have h4 := zFq (Q := Q) hΓ rest (σ1.put o.dst SV.undef) ν (a.put o.dst (SV.undef.den ν)) w h3 hx1 (by rw [e2]; exact hn)
      simpa [SV.undef, SV.den, SV.denL, undef] using h4
    unfold zHC at hx
    split at hx
    · rename_i hg
      exact doit σ rfl h (zDY hg _) hx
    · rename_i d b hg
      split at hx
      · rename_i e he
        have hev : σ.eval (.tmp d) = some (.bool e) := (zDv _ _).trans he
        have hwant := zDZ h hg he
        obtain ⟨h1, h2⟩ := zGI hx
        cases hb : e.den with
        | true =>
          have h1' := h1 hb
          have hs := zCT h hev hb
          cases b with
          | true => exact doit _ (zBg ..) hs (by rw [hwant, hb]; rfl) (by simpa using h1')
          | false => exact skip _ (zBg ..) hs (by rw [hwant, hb]; rfl) (by simpa using h1')
        | false =>
          have h2' := h2 hb
          have hs := zCT h hev hb
          cases b with
          | true => exact skip _ (zBg ..) hs (by rw [hwant, hb]; rfl) (by simpa using h2')
          | false => exact doit _ (zBg ..) hs (by rw [hwant, hb]; rfl) (by simpa using h2')
      · rename_i he
        exact skip σ rfl h (zDt h hg he) hx
      · exact hx.elim
    · exact hx.elim
structure Cls (B : Nat -> Prop) (ν : Nat -> Pl) (hp : List SObj) (w : World) (w' : World) : Prop where
  hp : z6 B ν hp w'
  base : zEy B w'
  below : ze B w w'
theorem zR9 {W w' : World} (h : Sat B ν σ a w) (hc : Cls B ν σ.hp W w') : Sat B ν σ a w' := ⟨h.tmps, h.wf, h.defers, hc.hp, hc.base⟩
theorem zGr (hΓ : zO P Γ) (h : Sat B ν σ a w) {o : Oper} {p : Option BE} {v : SV} (hv : zB7 P Γ σ o.op = some (p, v)) (hp : zAJ p) (W : World) :
    v.wf (Live σ.hp) /\ ∀ w', Cls B ν σ.hp W w' -> o.quietAt P a (Cls B ν σ.hp W) w' (v.den ν) := by
  unfold zB7 at hv
  split at hv
  · rename_i r hr
    simp only [Option.some.injEq] at hv; subst hv
    refine ⟨(zB0 h hr hp).2, fun w' hc => ?_⟩
    unfold Oper.quietAt
    rw [(zB0 (zR9 h hc) hr hp).1]
    exact ⟨rfl, rfl⟩
  · split at hv
    · rename_i c he
      split at hv
      · rename_i g args hc
        split at hv
        · rename_i hent
          split at hv
          · rename_i F hF
            obtain ⟨v1, _⟩ := (hΓ g _ hF : zAr P g F).calls hv hp ν (Live σ.hp) w
            refine ⟨v1, fun w' hcl => ?_⟩
            obtain ⟨_, hcall⟩ := (hΓ g _ hF : zAr P g F).calls hv hp ν (Live σ.hp) w'
            obtain ⟨r1, _⟩ := zDA (zR9 h hcl) hc hent o.type
            have hr : (execOp a.eval o).run P w' = .ok (.enter g (SV.denL ν args).toArray) w' := by
              simp only [execOp, he]; exact r1
            unfold Oper.quietAt
            rw [hr]
            refine ⟨rfl, hcall.mono ?_⟩
            rintro e w'' ⟨rfl, hb⟩
            exact ⟨rfl, zKr hcl.hp hb, hcl.base.mono hb.size, hcl.below.trans (ze.of hb hcl.base)⟩
          · simp at hv
        · simp at hv
      · simp at hv
    · simp at hv
theorem zHo {one : St -> Op -> Option (Option BE × SV)} {ops : List Oper} {hp : List SObj} {R : List Oper -> Act -> Prop} {K : St -> Prop} {w : World}
    (hnil : ∀ (σ : St) (a : Act), σ.hp = hp -> Sat B ν σ a w -> K σ -> R [] a)
    (hstep : ∀ (σ : St) (a : Act) (o : Oper) rest p v, σ.hp = hp -> Sat B ν σ a w -> Region.wanted o (yielded ops.toArray a.tmps) = true -> one σ o.op = some (p, v) -> zAJ p -> v.wf (Live hp) -> R rest (a.put o.dst (v.den ν)) -> R (o :: rest) a)
    (hwf : ∀ (σ : St) (a : Act) (o : Oper) p v, σ.hp = hp -> Sat B ν σ a w -> one σ o.op = some (p, v) -> zAJ p -> v.wf (Live hp))
    (hskip : ∀ (a : Act) (o : Oper) rest, Region.wanted o (yielded ops.toArray a.tmps) = false -> R rest (a.put o.dst undef) -> R (o :: rest) a) :
    ∀ (l : List Oper) (σ : St) (a : Act), σ.hp = hp -> Sat B ν σ a w -> zCM one ops l σ K -> R l a
  | [], σ, a, he, h, hx => hnil σ a he h hx
  | o :: rest, σ, a, he, h, hx => by
    have ih := zHo hnil hstep hwf hskip rest
    have doit : ∀ σ1 : St, σ1.hp = hp -> Sat B ν σ1 a w -> Region.wanted o (yielded ops.toArray a.tmps) = true ->
        zHd (one σ1 o.op) o.op (fun v => putK σ1 o.dst v fun σ => zCM one ops rest σ K) -> R (o :: rest) a := by
      intro σ1 e1 h1 hw hx1
      unfold zHd at hx1
      simp only [zDG] at hx1
      split at hx1
      · rename_i v hv
        have hvw := hwf σ1 a o none v e1 h1 hv trivial
        exact hstep σ1 a o rest none v e1 h1 hw hv trivial hvw (ih _ _ (by rw [zAR]; exact e1) (z0 h1 o.dst (by rw [e1]; exact hvw)) hx1)
      · rename_i p v hv
        have hvw := hwf σ1 a o (some p) v e1 h1 hv hx1.1
        exact hstep σ1 a o rest (some p) v e1 h1 hw hv hx1.1 hvw (ih _ _ (by rw [zAR]; exact e1) (z0 h1 o.dst (by rw [e1]; exact hvw)) hx1.2)
      · exact nomatch hx1
    have skip : ∀ σ1 : St, σ1.hp = hp -> Sat B ν σ1 a w -> Region.wanted o (yielded ops.toArray a.tmps) = false -> zCM one ops rest (σ1.put o.dst SV.undef) K -> R (o :: rest) a := by
      intro σ1 e1 h1 hw hx1
      refine hskip a o rest hw ?_
      have h3 := z0 h1 o.dst (v := SV.undef) (by simp [SV.undef, SV.wf, SV.wfL])
      have h4 := ih _ _ (by rw [zAR]; exact e1) h3 hx1
      simpa [SV.undef, SV.den, SV.denL, undef] using h4
    unfold zCM at hx
    split at hx
    · rename_i hg
      exact doit σ he h (zDY hg _) hx
    · rename_i d b hg
      split at hx
      · rename_i e hd
        have hev : σ.eval (.tmp d) = some (.bool e) := (zDv _ _).trans hd
        have hwant := zDZ h hg hd
        obtain ⟨h1, h2⟩ := zPp hx
        cases hb : e.den with
        | true =>
          have h1' := h1 hb
          have hs := zCT h hev hb
          cases b with
          | true => exact doit _ ((zBg ..).trans he) hs (by rw [hwant, hb]; rfl) (by simpa using h1')
          | false => exact skip _ ((zBg ..).trans he) hs (by rw [hwant, hb]; rfl) (by simpa using h1')
        | false =>
          have h2' := h2 hb
          have hs := zCT h hev hb
          cases b with
          | true => exact skip _ ((zBg ..).trans he) hs (by rw [hwant, hb]; rfl) (by simpa using h2')
          | false => exact doit _ ((zBg ..).trans he) hs (by rw [hwant, hb]; rfl) (by simpa using h2')
      · rename_i hd
        exact skip σ he h (zDt h hg hd) hx
      · exact hx.elim
    · exact hx.elim
theorem zHp (hΓ : zO P Γ) (h : Sat B ν σ a w) {ops : List Oper} {k : Option Nat} {i : Nat} {o : Oper} (ho : ops[i]? = some o) {K : St -> Prop} (hx : zJ3 P Γ ops k o σ K) {next : Act -> World -> Prop} {Q : Exit -> Act -> World -> Prop}
    (hn : zAC B ν σ.hp w K next) : wpOp P ops.toArray Q i next a w := by
  unfold wpOp
  have ho' : ops.toArray[i]? = some o := by simpa using ho
  simp only [ho']
  have doit : ∀ (σ1 : St) k, σ1.hp = σ.hp -> Sat B ν σ1 a w -> Region.wanted o (yielded ops.toArray a.tmps) = true -> zEB P Γ k o σ1 K ->
      if Region.wanted o (yielded ops.toArray a.tmps) = true then o.wp P a w next Q ∨ (o.asks P a w /\ LetsOut Q) else next (a.put o.dst undef) w := by
    intro σ1 k e1 h1 hw hx1
    rw [if_pos hw]
    exact .inl (zGV hΓ h1 hx1 (by rw [e1]; exact hn))
  have skip : ∀ σ1 : St, σ1.hp = σ.hp -> Sat B ν σ1 a w -> Region.wanted o (yielded ops.toArray a.tmps) = false -> putK σ1 o.dst SV.undef K ->
      if Region.wanted o (yielded ops.toArray a.tmps) = true then o.wp P a w next Q ∨ (o.asks P a w /\ LetsOut Q) else next (a.put o.dst undef) w := by
    intro σ1 e1 h1 hw hx1
    rw [if_neg (by rw [hw]; simp)]
    rw [zDG] at hx1
    have h3 := z0 h1 o.dst (v := SV.undef) (by simp [SV.undef, SV.wf, SV.wfL])
    have := hn ν _ _ w (by rw [zAR, e1]; exact fun _ h => h) (zb.refl _ _) h3 (ze.refl _ _) hx1
    simpa [SV.undef, SV.den, SV.denL, undef] using this
  unfold zJ3 at hx
  split at hx
  · rename_i hg
    exact doit σ _ rfl h (zDY hg _) hx
  · rename_i d b hg
    split at hx
    · rename_i e he
      have hev : σ.eval (.tmp d) = some (.bool e) := (zDv _ _).trans he
      have hwant := zDZ h hg he
      obtain ⟨h1, h2⟩ := zGI hx
      cases hb : e.den with
      | true =>
        have h1' := h1 hb
        have hs := zCT h hev hb
        cases b with
        | true => exact doit _ _ (zBg ..) hs (by rw [hwant, hb]; rfl) (by simpa using h1')
        | false => exact skip _ (zBg ..) hs (by rw [hwant, hb]; rfl) (by simpa using h1')
      | false =>
        have h2' := h2 hb
        have hs := zCT h hev hb
        cases b with
        | true => exact skip _ (zBg ..) hs (by rw [hwant, hb]; rfl) (by simpa using h2')
        | false => exact doit _ _ (zBg ..) hs (by rw [hwant, hb]; rfl) (by simpa using h2')
    · rename_i he
      exact skip σ rfl h (zDt h hg he) hx
    · exact hx.elim
  · exact hx.elim
theorem zJI (hΓ : zO P Γ) (h : Sat B ν σ a w) {ops : List Oper} {base i : Nat} {o : Oper} (ho : ops[i]? = some o) {K : St -> Prop} (hx : zP1 P Γ ops base i o σ K) {next : Act -> World -> Prop} {Q : Exit -> Act -> World -> Prop}
    (hn : zAC B ν σ.hp w K next) : wpOp P ops.toArray Q i next a w := zHp hΓ h ho hx hn
theorem zJF (h : Sat B ν σ a w) {ops : List Oper} {o : Oper} {v : SV} (hv : zPz P ops o σ = some v) : Yields P ops.toArray o (v.den ν) a /\ v.wf (Live σ.hp) := by
  have hval : ∀ u, (match zHB P { σ with hp := [] } o.op with | some (none, v) => some v | _ => none) = some u -> (∀ w, (execOp a.eval o).run P w = .ok (.value (u.den ν)) w) /\ u.wf (Live σ.hp) := by
    intro u hu
    split at hu
    · rename_i u' hu'
      simp only [Option.some.injEq] at hu; subst hu
      exact zOz h.t hu'
    · simp at hu
  unfold zPz at hv
  simp only at hv
  split at hv
  · rename_i hg
    obtain ⟨h1, h2⟩ := hval v hv
    exact ⟨.inl ⟨zDY hg _, h1⟩, h2⟩
  · rename_i d b hg
    split at hv
    · rename_i e he
      have hwant := zDZ h hg he
      split at hv
      · rename_i hb
        obtain ⟨h1, h2⟩ := hval v hv
        exact ⟨.inl ⟨by rw [hwant]; subst hb; cases e <;> rfl, h1⟩, h2⟩
      · rename_i hb
        simp only [Option.some.injEq] at hv; subst hv
        exact ⟨.inr ⟨by rw [hwant]; cases e <;> cases b <;> first | rfl | exact absurd rfl hb, rfl⟩, by simp [SV.undef, SV.wf, SV.wfL]⟩
    · rename_i he
      simp only [Option.some.injEq] at hv; subst hv
      exact ⟨.inr ⟨zDt h hg he, rfl⟩, by simp [SV.undef, SV.wf, SV.wfL]⟩
    · simp at hv
  · simp at hv
def zJB (ν0 : Nat -> Pl) (h0 : List SObj) (st : List Nat) (w : World) : Prop := ∀ o ∈ st, ∀ vs ty, h0[o]? = some (.cells vs ty) -> w.heap[(ν0 o).blk]? = some (.cells (SV.denL ν0 vs).toArray ty (0, 0))
theorem zIN (h : Sat B ν σ a w) {ν0 : Nat -> Pl} {h0 : List SObj} {st : List Nat} (hl0 : ∀ o, Live h0 o -> Live σ.hp o) (ha0 : zb (Live h0) ν0 ν) (hst : ∀ o ∈ st, Live h0 o) (hsame : ∀ o ∈ st, σ.hp[o]? = h0[o]?)
    (hwf : ∀ o ∈ st, ∀ vs ty, h0[o]? = some (.cells vs ty) -> SV.wfL (Live h0) vs)
    {ops : List Oper} {o : Oper} {v : SV} (hv : zRF P st ops o σ = some v) : YieldsIf P ops.toArray (zJB ν0 h0 st) o (v.den ν) a /\ v.wf (Live σ.hp) := by
  unfold zRF at hv
  split at hv
  · rename_i t p he
    split at hv
    · rename_i ob off hp
      split at hv
      · rename_i hc
        have hmem : ob ∈ st := by simpa using hc
        split at hv
        · rename_i hg
          obtain ⟨p1, _⟩ := zB h.t hp
          have key : ∀ w', zJB ν0 h0 st w' -> (loadVar t ⟨(ν ob).blk, off, none⟩).run P w' = .ok (v.den ν) w' /\ v.wf (Live σ.hp) := by
            intro w' hs
            refine zHU hv fun vs ty ho => ?_
            rw [hsame ob hmem] at ho
            have hw := hwf ob hmem vs ty ho
            refine ⟨?_, zj hl0 _ hw⟩
            rw [ha0 ob (hst ob hmem), hs ob hmem vs ty ho, zy ha0 vs hw]
          refine ⟨.inl ⟨zDY hg _, fun w' hs => ?_⟩, (zFN h.hp hv).2⟩
          simp only [execOp, he, p1, SV.den, Instr.loadAt, Instr.sureAddr]
          rw [Sem.run_bind, Sem.run_bind]
          simp only [Sem.run, pure, Result.andThen]
          rw [(key w' hs).1]
        · rename_i d b hg
          split at hv
          · rename_i e hge
            split at hv
            · rename_i heb
              have hwant := zDZ h hg hge
              obtain ⟨p1, _⟩ := zB h.t hp
              have key : ∀ w', zJB ν0 h0 st w' -> (loadVar t ⟨(ν ob).blk, off, none⟩).run P w' = .ok (v.den ν) w' /\ v.wf (Live σ.hp) := by
                intro w' hs
                refine zHU hv fun vs ty ho => ?_
                rw [hsame ob hmem] at ho
                have hw := hwf ob hmem vs ty ho
                refine ⟨?_, zj hl0 _ hw⟩
                rw [ha0 ob (hst ob hmem), hs ob hmem vs ty ho, zy ha0 vs hw]
              refine ⟨.inl ⟨by rw [hwant]; subst heb; cases e <;> rfl, fun w' hs => ?_⟩, (zFN h.hp hv).2⟩
              simp only [execOp, he, p1, SV.den, Instr.loadAt, Instr.sureAddr]
              rw [Sem.run_bind, Sem.run_bind]
              simp only [Sem.run, pure, Result.andThen]
              rw [(key w' hs).1]
            · simp at hv
          · simp at hv
        · simp at hv
      · simp at hv
    · simp at hv
  · simp at hv
theorem zCs {st : List Nat} {ops : List Oper} {listed : Array Bool} {σ : St} : ∀ {l : List Nat} {i : Nat} {o : Oper} {v : SV}, zBV P st ops listed σ l = some (i, o, v) ->
    i ∈ l /\ ops[i]? = some o /\ (zPz P ops o σ = some v ∨ zRF P st ops o σ = some v) /\ Region.free .any ops.toArray listed i = true
  | [], _, _, _, h => by simp [zBV] at h
  | j :: r, i, o, v, h => by
    have rec_ : zBV P st ops listed σ r = some (i, o, v) -> i ∈ j :: r /\ ops[i]? = some o /\ (zPz P ops o σ = some v ∨ zRF P st ops o σ = some v) /\ Region.free .any ops.toArray listed i = true := fun h => by
      obtain ⟨h1, h2⟩ := zCs h
      exact ⟨List.mem_cons_of_mem _ h1, h2⟩
    unfold zBV at h
    split at h
    · rename_i o' ho
      split at h
      · rename_i v' hv
        split at h
        · rename_i hf
          simp only [Option.some.injEq, Prod.mk.injEq] at h
          obtain ⟨rfl, rfl, rfl⟩ := h
          exact ⟨List.mem_cons_self .., ho, .inl hv, hf⟩
        · exact rec_ h
      · split at h
        · rename_i v' hv
          split at h
          · rename_i hf
            simp only [Option.some.injEq, Prod.mk.injEq] at h
            obtain ⟨rfl, rfl, rfl⟩ := h
            exact ⟨List.mem_cons_self .., ho, .inr hv, hf⟩
          · exact rec_ h
        · exact rec_ h
    · exact rec_ h
theorem zIu : ∀ {l : List Nat} {f : Nat -> Prop}, zT9 l f -> ∀ i ∈ l, f i
  | [], _, _, i, hi => by cases hi
  | [j], f, h, i, hi => by
    simp only [List.mem_singleton] at hi; subst hi; exact h
  | j :: k :: r, f, h, i, hi => by
    rcases List.mem_cons.1 hi with rfl | hi
    · exact h.1
    · exact zIu h.2 i hi
theorem zK1 {hp : List SObj} (h : z6 B ν hp w) (m : Nat) : z6 B ν (hp ++ List.replicate m SObj.dead) w /\ ∀ o, Live hp o -> Live (hp ++ List.replicate m SObj.dead) o := by
  have hl : ∀ o, Live hp o -> Live (hp ++ List.replicate m SObj.dead) o := fun o ho => by
    obtain ⟨x, hx, e⟩ := ho
    exact ⟨x, by rw [List.getElem?_append_left (List.getElem?_eq_some_iff.1 hx).1]; exact hx, e⟩
  have hb : ∀ (o : Nat) (x : SObj), (hp ++ List.replicate m SObj.dead)[o]? = some x -> hp[o]? = some x ∨ x = SObj.dead := by
    intro o x hx
    rw [List.getElem?_append] at hx
    split at hx
    · exact .inl hx
    · rw [List.getElem?_replicate] at hx
      split at hx
      · simp at hx; exact .inr hx.symm
      · simp at hx
  have hb' : ∀ o, zAc ν (hp ++ List.replicate m SObj.dead) o -> zAc ν hp o := fun o ho => by
    obtain ⟨x, hx, e⟩ := ho
    rcases hb o _ hx with h1 | h1
    · exact ⟨x, h1, e⟩
    · subst h1; simp [SObj.owns] at e
  refine ⟨⟨fun o x hx => ?_, fun o o' h1 h2 e => h.apart o o' (hb' o h1) (hb' o' h2) e⟩, hl⟩
  rcases hb o x hx with h1 | h1
  · exact (h.obj o x h1).mono (zBQ h1) hl (zb.refl _ _) (Nat.le_refl _) (fun _ _ _ => rfl)
  · subst h1; trivial
theorem zC {c : Nat} {Q : Prop} (h : zF c) : Q := nomatch h
theorem zHs : ∀ (a b : IE) (R : Prop), zBl a b R -> a = b /\ R := by
  intro a
  induction a with
  | lit n => intro b R h; cases b <;> simp only [zBl] at h <;> first | exact zC h | (split at h <;> first | exact zC h | (rename_i e; exact ⟨by rw [e], h⟩))
  | var n => intro b R h; cases b <;> simp only [zBl] at h <;> first | exact zC h | exact ⟨by rw [h.1], h.2⟩
  | conv k x ih => intro b R h; cases b <;> simp only [zBl] at h <;> first | exact zC h | (split at h <;> first | exact zC h | (rename_i e; obtain ⟨h1, h2⟩ := ih _ _ h; exact ⟨by rw [e, h1], h2⟩))
  | rem x y ihx ihy => intro b R h; cases b <;> simp only [zBl] at h <;> first | exact zC h | (obtain ⟨h1, h2⟩ := ihx _ _ h; obtain ⟨h3, h4⟩ := ihy _ _ h2; exact ⟨by rw [h1, h3], h4⟩)
  | mn x y ihx ihy => intro b R h; cases b <;> simp only [zBl] at h <;> first | exact zC h | (obtain ⟨h1, h2⟩ := ihx _ _ h; obtain ⟨h3, h4⟩ := ihy _ _ h2; exact ⟨by rw [h1, h3], h4⟩)
  | mx x y ihx ihy => intro b R h; cases b <;> simp only [zBl] at h <;> first | exact zC h | (obtain ⟨h1, h2⟩ := ihx _ _ h; obtain ⟨h3, h4⟩ := ihy _ _ h2; exact ⟨by rw [h1, h3], h4⟩)
  | bits op k x y ihx ihy => intro b R h; cases b <;> simp only [zBl] at h <;> first | exact zC h | (split at h <;> first | exact zC h | (rename_i e; obtain ⟨h1, h2⟩ := ihx _ _ h; obtain ⟨h3, h4⟩ := ihy _ _ h2; exact ⟨by rw [e.1, e.2, h1, h3], h4⟩))
  | _ k x y ihx ihy => intro b R h; cases b <;> simp only [zBl] at h <;> first | exact zC h | (split at h <;> first | exact zC h | (rename_i e; obtain ⟨h1, h2⟩ := ihx _ _ h; obtain ⟨h3, h4⟩ := ihy _ _ h2; exact ⟨by rw [e, h1, h3], h4⟩))
theorem zQO : ∀ (a b : BE) (R : Prop), zC5 a b R -> a = b /\ R := by
  intro a
  induction a with
  | lit n => intro b R h; cases b <;> simp only [zC5] at h <;> first | exact zC h | (split at h <;> first | exact zC h | (rename_i e; exact ⟨by rw [e], h⟩))
  | var n => intro b R h; cases b <;> simp only [zC5] at h <;> first | exact zC h | exact ⟨by rw [h.1], h.2⟩
  | cmp op x y => intro b R h; cases b <;> simp only [zC5] at h <;> first | exact zC h | (split at h <;> first | exact zC h | (rename_i e; obtain ⟨h1, h2⟩ := zHs _ _ _ h; obtain ⟨h3, h4⟩ := zHs _ _ _ h2; exact ⟨by rw [e, h1, h3], h4⟩))
  | not x ih => intro b R h; cases b <;> simp only [zC5] at h <;> first | exact zC h | (obtain ⟨h1, h2⟩ := ih _ _ h; exact ⟨by rw [h1], h2⟩)
  | eq x y ihx ihy => intro b R h; cases b <;> simp only [zC5] at h <;> first | exact zC h | (obtain ⟨h1, h2⟩ := ihx _ _ h; obtain ⟨h3, h4⟩ := ihy _ _ h2; exact ⟨by rw [h1, h3], h4⟩)
  | ite x y z ihx ihy ihz => intro b R h; cases b <;> simp only [zC5] at h <;> first | exact zC h | (obtain ⟨h1, h2⟩ := ihx _ _ h; obtain ⟨h3, h4⟩ := ihy _ _ h2; obtain ⟨h5, h6⟩ := ihz _ _ h4; exact ⟨by rw [h1, h3, h5], h6⟩)
theorem zCo (a b : NE) (R : Prop) (h : zFi a b R) : a = b /\ R := by
  cases a <;> cases b <;> simp only [zFi] at h <;> first | exact zC h | exact ⟨by rw [h.1], h.2⟩ | (split at h <;> first | exact zC h | (rename_i e; exact ⟨by rw [e], h⟩))
mutual
theorem zLQ : ∀ (a b : SV) (R : Prop), zA6 a b R -> a = b /\ R
  | .int k e, b, R, h => by
    cases b <;> simp only [zA6] at h <;> first | exact zC h | (split at h <;> first | exact zC h | (rename_i q; obtain ⟨h1, h2⟩ := zHs _ _ _ h; exact ⟨by rw [q, h1], h2⟩))
  | .bool e, b, R, h => by
    cases b <;> simp only [zA6] at h <;> first | exact zC h | (obtain ⟨h1, h2⟩ := zQO _ _ _ h; exact ⟨by rw [h1], h2⟩)
  | .str s, b, R, h => by
    cases b <;> simp only [zA6] at h <;> first | exact zC h | skip
    rename_i s'
    split at h
    · rename_i q
      have : s = s' := by
        cases s; cases s'
        simp only [ByteArray.mk.injEq]
        exact Array.ext' q
      exact ⟨by rw [this], h⟩
    · exact ⟨by rw [h.1], h.2⟩
  | .ptr o off, b, R, h => by
    cases b <;> simp only [zA6] at h <;> first | exact zC h | (split at h <;> first | exact zC h | (rename_i q; exact ⟨by rw [q.1, q.2], h⟩))
  | .nilp, b, R, h => by cases b <;> simp only [zA6] at h <;> first | exact zC h | exact ⟨rfl, h⟩
  | .nils, b, R, h => by cases b <;> simp only [zA6] at h <;> first | exact zC h | exact ⟨rfl, h⟩
  | .nili, b, R, h => by cases b <;> simp only [zA6] at h <;> first | exact zC h | exact ⟨rfl, h⟩
  | .nilf, b, R, h => by cases b <;> simp only [zA6] at h <;> first | exact zC h | exact ⟨rfl, h⟩
  | .nilm, b, R, h => by cases b <;> simp only [zA6] at h <;> first | exact zC h | exact ⟨rfl, h⟩
  | .slice o off l c, b, R, h => by
    cases b <;> simp only [zA6] at h <;> first | exact zC h | (split at h <;> first | exact zC h | (rename_i q; obtain ⟨h1, h2⟩ := zCo _ _ _ h; obtain ⟨h3, h4⟩ := zCo _ _ _ h2; exact ⟨by rw [q.1, q.2, h1, h3], h4⟩))
  | .iface t v, b, R, h => by
    cases b <;> simp only [zA6] at h <;> first | exact zC h | (split at h <;> first | exact zC h | (rename_i q; obtain ⟨h1, h2⟩ := zLQ v _ _ h; exact ⟨by rw [q, h1], h2⟩))
  | .agg l, b, R, h => by
    cases b <;> simp only [zA6] at h <;> first | exact zC h | (obtain ⟨h1, h2⟩ := zAg l _ _ h; exact ⟨by rw [h1], h2⟩)
  | .tuple l, b, R, h => by
    cases b <;> simp only [zA6] at h <;> first | exact zC h | (obtain ⟨h1, h2⟩ := zAg l _ _ h; exact ⟨by rw [h1], h2⟩)
  | .func fn x y, b, R, h => by
    cases b <;> simp only [zA6] at h <;> first | exact zC h | (split at h <;> first | exact zC h | (rename_i q; obtain ⟨h1, h2⟩ := zAg x _ _ h; obtain ⟨h3, h4⟩ := zAg y _ _ h2; exact ⟨by rw [q, h1, h3], h4⟩))
  | .val v, b, R, h => by cases b <;> simp only [zA6] at h <;> first | exact zC h | exact ⟨by rw [h.1], h.2⟩
  | .strE v, b, R, h => by cases b <;> simp only [zA6] at h <;> first | exact zC h | exact ⟨by rw [h.1], h.2⟩
  | .ptrE inp o sz i c, b, R, h => by
    cases b <;> simp only [zA6] at h <;> first | exact zC h | (split at h <;> first | exact zC h | (rename_i q; obtain ⟨h1, h2⟩ := zCo _ _ _ h; exact ⟨by rw [q.1, q.2.1, q.2.2.1, q.2.2.2, h1], h2⟩))
  | .sliceE inp o sz st l c, b, R, h => by
    cases b <;> simp only [zA6] at h <;> first | exact zC h | (split at h <;> first | exact zC h | (rename_i q; obtain ⟨h1, h2⟩ := zCo _ _ _ h; obtain ⟨h3, h4⟩ := zCo _ _ _ h2; obtain ⟨h5, h6⟩ := zCo _ _ _ h4; exact ⟨by rw [q.1, q.2.1, q.2.2, h1, h3, h5], h6⟩))
  | .mapv o, b, R, h => by
    cases b <;> simp only [zA6] at h <;> first | exact zC h | (split at h <;> first | exact zC h | (rename_i q; exact ⟨by rw [q], h⟩))
  | .gptr g off, b, R, h => by
    cases b <;> simp only [zA6] at h <;> first | exact zC h | (split at h <;> first | exact zC h | (rename_i q; exact ⟨by rw [q.1, q.2], h⟩))
  | .sliceG o sz st l, b, R, h => by
    cases b <;> simp only [zA6] at h <;> first | exact zC h | (split at h <;> first | exact zC h | (rename_i q; exact ⟨by rw [q.1, q.2.1, q.2.2.1, q.2.2.2], h⟩))
theorem zAg : ∀ (a b : List SV) (R : Prop), zBj a b R -> a = b /\ R
  | [], b, R, h => by cases b <;> simp only [zBj] at h <;> first | exact zC h | exact ⟨rfl, h⟩
  | v :: r, b, R, h => by
    cases b <;> simp only [zBj] at h <;> first | exact zC h | (obtain ⟨h1, h2⟩ := zLQ v _ _ h; obtain ⟨h3, h4⟩ := zAg r _ _ h2; exact ⟨by rw [h1, h3], h4⟩)
end
theorem zCG : ∀ (a b : List SObj) (R : Prop), zAe a b R -> a = b /\ R
  | [], b, R, h => by cases b <;> simp only [zAe] at h <;> first | exact zC h | exact ⟨rfl, h⟩
  | x :: r, b, R, h => by
    cases b with
    | nil => cases x <;> simp only [zAe] at h <;> exact zC h
    | cons y r' =>
      cases x with
      | dead =>
        cases y with
        | dead => simp only [zAe] at h; obtain ⟨h1, h2⟩ := zCG r r' R h; exact ⟨by rw [h1], h2⟩
        | _ => simp only [zAe] at h; exact zC h
      | row own inp cols n =>
        cases y with
        | row own' inp' cols' n' =>
          simp only [zAe] at h
          split at h
          · rename_i ho
            obtain ⟨h1, h2⟩ := h
            obtain ⟨h3, h4⟩ := zCo _ _ _ h2
            obtain ⟨h5, h6⟩ := zCG r r' R h4
            exact ⟨by rw [ho.1, ho.2, h1, h3, h5], h6⟩
          · exact zC h
        | _ => simp only [zAe] at h; exact zC h
      | husk =>
        cases y with
        | husk => simp only [zAe] at h; obtain ⟨h1, h2⟩ := zCG r r' R h; exact ⟨by rw [h1], h2⟩
        | _ => simp only [zAe] at h; exact zC h
      | glob sz l =>
        cases y with
        | glob sz' l' =>
          simp only [zAe] at h
          split at h
          · rename_i he
            obtain ⟨h1, h2⟩ := zAg _ _ _ h
            obtain ⟨h3, h4⟩ := zCG r r' R h2
            exact ⟨by rw [he, h1, h3], h4⟩
          · exact zC h
        | _ => simp only [zAe] at h; exact zC h
      | grown sz l =>
        cases y with
        | grown sz' l' =>
          simp only [zAe] at h
          split at h
          · rename_i he
            obtain ⟨h1, h2⟩ := zAg _ _ _ h
            obtain ⟨h3, h4⟩ := zCG r r' R h2
            exact ⟨by rw [he, h1, h3], h4⟩
          · exact zC h
        | _ => simp only [zAe] at h; exact zC h
      | map l t =>
        cases y with
        | map l' t' =>
          simp only [zAe] at h
          obtain ⟨h1, h2⟩ := zAg _ _ _ h
          obtain ⟨h3, h4⟩ := zAg _ _ _ h2
          obtain ⟨h5, h6⟩ := zCG r r' R h4
          exact ⟨by rw [h1, h3, h5], h6⟩
        | _ => simp only [zAe] at h; exact zC h
      | cells l t =>
        cases y with
        | dead => simp only [zAe] at h; exact zC h
        | row _ _ _ _ => simp only [zAe] at h; exact zC h
        | husk => simp only [zAe] at h; exact zC h
        | map _ _ => simp only [zAe] at h; exact zC h
        | grown _ _ => simp only [zAe] at h; exact zC h
        | glob _ _ => simp only [zAe] at h; exact zC h
        | cells l' t' =>
          simp only [zAe] at h
          split at h
          · rename_i q
            obtain ⟨h1, h2⟩ := zAg _ _ _ h
            obtain ⟨h3, h4⟩ := zCG r r' R h2
            exact ⟨by rw [q, h1, h3], h4⟩
          · exact zC h
theorem zHr {σ σ' : St} (h : zNg σ σ') : σ = σ' := by
  obtain ⟨h1, h2⟩ := zAg _ _ _ h
  obtain ⟨h3, _⟩ := zCG _ _ _ h2
  cases σ; cases σ'
  simp only at h1 h3
  rw [h1, h3]
theorem zFF {hp hp' : List SObj} : ∀ (st : List Nat) (R : Prop), zFh hp hp' st R -> (∀ o ∈ st, hp[o]? = hp'[o]?) /\ R
  | [], R, h => ⟨fun _ hm => absurd hm (by simp), h⟩
  | o :: r, R, h => by
    unfold zFh at h
    split at h
    · rename_i l t l' t' h1 h2
      split at h
      · rename_i ht
        obtain ⟨e1, e2⟩ := zAg _ _ _ h
        obtain ⟨e3, e4⟩ := zFF r R e2
        refine ⟨fun o' ho => ?_, e4⟩
        rcases List.mem_cons.1 ho with rfl | ho
        · rw [h1, h2, ht, e1]
        · exact e3 o' ho
      · exact zC h
    · exact zC h
def zJT (Q : Act -> World -> Prop) : Exit -> Act -> World -> Prop
  | .normal, a, w => Q a w
  | _, _, _ => False
theorem zEc {ops : List Oper} : ∀ {l : List Nat} {σ : St} {K : St -> Prop}, Sat B ν σ a w -> zEd Γ ops l σ K -> ∃ σ', Sat B ν σ' a w /\ σ'.hp = σ.hp /\ K σ'
  | [], σ, K, h, hx => ⟨σ, h, rfl, hx⟩
  | i :: r, σ, K, h, hx => by
    unfold zEd at hx
    split at hx
    · split at hx
      · rename_i d e b hf
        obtain ⟨hb, hx⟩ := hx
        rw [zAq] at hx
        have he : σ.eval (.tmp d) = some (.bool e) := by
          unfold zUG at hf
          rw [show σ.eval (.tmp d) = σ.tmps[d]? by simp only [St.eval, zDv]]
          split at hf
          · split at hf
            · simp at hf
            · rename_i e' _ he'
              split at hf
              · simp only [Option.some.injEq, Prod.mk.injEq] at hf
                obtain ⟨rfl, rfl, _⟩ := hf; exact he'
              · split at hf
                · simp only [Option.some.injEq, Prod.mk.injEq] at hf
                  obtain ⟨rfl, rfl, _⟩ := hf; exact he'
                · simp at hf
            · simp at hf
          · simp at hf
        obtain ⟨σ', h1, h2, h3⟩ := zEc (zCT h he hb) hx
        exact ⟨σ', h1, h2, h3⟩
      · exact zEc h hx
    · exact zEc h hx
theorem zEY (hΓ : zO P Γ) {ops : List Oper} (hsel : Region.noSelect ops.toArray = true) {base : Nat} {K : St -> Prop} {Q : Act -> World -> Prop} {ν0 : Nat -> Pl} {h0 : List SObj} {st : List Nat}
    (hst : ∀ o ∈ st, Live h0 o) (hwf : ∀ o ∈ st, ∀ vs ty, h0[o]? = some (.cells vs ty) -> SV.wfL (Live h0) vs) : ∀ (fuel : Nat) (listed : Array Bool) (σ : St) (ν : Nat -> Pl) (a : Act) (w : World),
    Sat B ν σ a w -> (∀ o, Live h0 o -> Live σ.hp o) -> zb (Live h0) ν0 ν -> (∀ o ∈ st, σ.hp[o]? = h0[o]?) -> zLH P Γ st h0 ops base fuel listed σ K -> zAC B ν σ.hp w K Q -> wpAnyH P .any ops.toArray (zJT Q) (zJB ν0 h0 st) fuel listed a w
  | 0, listed, σ, ν, a, w, h, _, _, _, hx, hn => by
    unfold zLH at hx
    split at hx
    · rename_i hr
      exact ⟨by simpa using hr, hn _ _ _ _ (fun _ h => h) (zb.refl _ _) h (ze.refl _ _) hx⟩
    · exact nomatch hx
  | fuel + 1, listed, σ, ν, a, w, h, hl0, ha0, hsame, hx, hn => by
    have hS : ∀ (σ : St) (ν : Nat -> Pl) (a : Act) (w : World), Sat B ν σ a w -> zb (Live h0) ν0 ν -> (∀ o ∈ st, σ.hp[o]? = h0[o]?) -> zJB ν0 h0 st w := by
      intro σ ν a w h ha0 hsame o ho vs ty hx
      have hx' := hx
      rw [<- hsame o ho] at hx'
      obtain ⟨_, hb, _⟩ := h.hp.obj o _ hx'
      rw [<- ha0 o (hst o ho), hb, zy ha0 vs (hwf o ho vs ty hx)]
    unfold zLH at hx
    split at hx
    · rename_i hr
      exact wpAnyH_done hr (hn _ _ _ _ (fun _ h => h) (zb.refl _ _) h (ze.refl _ _) hx) _
    · rename_i i r hr
      obtain ⟨σ1, hs1, he1, hx⟩ := zEc h hx
      rw [<- he1] at hl0 hsame hn
      clear h he1
      have h := hs1
      clear hs1
      generalize σ1 = σ at *
      split at hx
      · rename_i j o v hf
        obtain ⟨h1, h2, h3, h4⟩ := zCs hf
        have hy : YieldsIf P ops.toArray (zJB ν0 h0 st) o (v.den ν) a /\ v.wf (Live σ.hp) := by
          rcases h3 with h3 | h3
          · obtain ⟨y1, y2⟩ := zJF h h3
            exact ⟨y1.yieldsIf, y2⟩
          · exact zIN h hl0 ha0 hst hsame hwf h3
        rw [zDG] at hx
        have hs := z0 h o.dst hy.2
        refine wpAnyH_take (i := j) (oi := o) (v := v.den ν) (by simpa using h2) hsel h4 (by rw [hr]; simpa using h1) (fun _ _ _ hq => hq) hy.1 (hS σ ν a w h ha0 hsame) ?_
        exact zEY hΓ hsel hst hwf fuel _ _ ν _ w hs (by rw [zAR]; exact hl0) ha0 (by rw [zAR]; exact hsame) hx (by rw [zAR]; exact hn)
      · refine wpAnyH_all hr (by simp) (fun j hj => ?_)
        have hx' := zIu hx j hj
        split at hx'
        · rename_i o ho
          refine zJI hΓ h ho hx' ?_
          intro ν' σ' a' w' l1 a1 s1 b1 k1
          obtain ⟨k2, k3⟩ := zFF _ _ k1
          have hl' : ∀ o, Live h0 o -> Live σ'.hp o := fun o ho => l1 o (hl0 o ho)
          have ha' : zb (Live h0) ν0 ν' := ha0.trans a1 hl0
          exact ⟨hS σ' ν' a' w' s1 ha' k2, zEY hΓ hsel hst hwf fuel _ σ' ν' a' w' s1 hl' ha' k2 k3 (hn.later l1 a1 b1)⟩
        · exact nomatch hx'
theorem zGM (hΓ : zO P Γ) {ops : List Oper} (hsel : Region.noSelect ops.toArray = true) {base : Nat} {Q : Act -> World -> Prop} {ν0 : Nat -> Pl} {h0 : List SObj} {st : List Nat} {fq : Nat} {canon : List Bool} {σL : St}
    (hst : ∀ o ∈ st, Live h0 o) (hwf : ∀ o ∈ st, ∀ vs ty, h0[o]? = some (.cells vs ty) -> SV.wfL (Live h0) vs)
    {w0 : World} (cont : ∀ (ν : Nat -> Pl) (a : Act) (w : World), Sat B ν σL a w -> (∀ o, Live h0 o -> Live σL.hp o) -> zb (Live h0) ν0 ν -> (∀ o ∈ st, σL.hp[o]? = h0[o]?) -> ze B w0 w -> wpAnyH P .any ops.toArray (zJT Q) (zJB ν0 h0 st) fq canon.toArray a w) :
    ∀ (fuel : Nat) (listed : Array Bool) (σ : St) (ν : Nat -> Pl) (a : Act) (w : World),
    Sat B ν σ a w -> (∀ o, Live h0 o -> Live σ.hp o) -> zb (Live h0) ν0 ν -> (∀ o ∈ st, σ.hp[o]? = h0[o]?) -> ze B w0 w -> zJH P Γ st h0 ops base fq canon σL fuel listed σ -> wpAnyH P .any ops.toArray (zJT Q) (zJB ν0 h0 st) fuel listed a w
  | 0, listed, σ, ν, a, w, h, hl0, ha0, hsame, hkw, hx => by
    unfold zJH at hx
    split at hx
    · rename_i hc
      obtain ⟨rfl, hc⟩ := hc
      have e := zHr hx
      subst e
      have : listed = canon.toArray := Array.ext' (by simpa using hc)
      rw [this]
      exact cont ν a w h hl0 ha0 hsame hkw
    · exact nomatch hx
  | fuel + 1, listed, σ, ν, a, w, h, hl0, ha0, hsame, hkw, hx => by
    have hS : ∀ (σ : St) (ν : Nat -> Pl) (a : Act) (w : World), Sat B ν σ a w -> zb (Live h0) ν0 ν -> (∀ o ∈ st, σ.hp[o]? = h0[o]?) -> zJB ν0 h0 st w := by
      intro σ ν a w h ha0 hsame o ho vs ty hx
      have hx' := hx
      rw [<- hsame o ho] at hx'
      obtain ⟨_, hb, _⟩ := h.hp.obj o _ hx'
      rw [<- ha0 o (hst o ho), hb, zy ha0 vs (hwf o ho vs ty hx)]
    unfold zJH at hx
    split at hx
    · rename_i hc
      obtain ⟨rfl, hc⟩ := hc
      have e := zHr hx
      subst e
      have : listed = canon.toArray := Array.ext' (by simpa using hc)
      rw [this]
      exact cont ν a w h hl0 ha0 hsame hkw
    · split at hx
      · exact nomatch hx
      · rename_i i r hr
        split at hx
        · rename_i j o v hf
          obtain ⟨h1, h2, h3, h4⟩ := zCs hf
          have hy : YieldsIf P ops.toArray (zJB ν0 h0 st) o (v.den ν) a /\ v.wf (Live σ.hp) := by
            rcases h3 with h3 | h3
            · obtain ⟨y1, y2⟩ := zJF h h3
              exact ⟨y1.yieldsIf, y2⟩
            · exact zIN h hl0 ha0 hst hsame hwf h3
          rw [zDG] at hx
          have hs := z0 h o.dst hy.2
          refine wpAnyH_take (i := j) (oi := o) (v := v.den ν) (by simpa using h2) hsel h4 (by rw [hr]; simpa using h1) (fun _ _ _ hq => hq) hy.1 (hS σ ν a w h ha0 hsame) ?_
          exact zGM hΓ hsel hst hwf cont fuel _ _ ν _ w hs (by rw [zAR]; exact hl0) ha0 (by rw [zAR]; exact hsame) hkw hx
        · refine wpAnyH_all hr (by simp) (fun j hj => ?_)
          have hx' := zIu hx j hj
          split at hx'
          · rename_i o ho
            refine zJI hΓ h ho hx' ?_
            intro ν' σ' a' w' l1 a1 s1 b1 k1
            obtain ⟨k2, k3⟩ := zFF _ _ k1
            have hl' : ∀ o, Live h0 o -> Live σ'.hp o := fun o ho => l1 o (hl0 o ho)
            have ha' : zb (Live h0) ν0 ν' := ha0.trans a1 hl0
            exact ⟨hS σ' ν' a' w' s1 ha' k2, zGM hΓ hsel hst hwf cont fuel _ σ' ν' a' w' s1 hl' ha' k2 (hkw.trans b1) k3⟩
          · exact nomatch hx'
theorem zCF {h h' : List SObj} : ∀ {l : List Nat} {o : Nat}, o ∈ zEE h h' l -> Live h o
  | [], o, ho => by cases ho
  | x :: r, o, ho => by
    unfold zEE at ho
    split at ho
    · rename_i vs ty _ _ h1 _
      split at ho
      · exact zCF ho
      · rcases List.mem_cons.1 ho with rfl | ho
        · exact ⟨_, h1, rfl⟩
        · exact zCF ho
    · exact zCF ho
theorem zDl (h : Sat B ν σ a w) : Sat B ν σ a { w with drawn := w.drawn + 1 } := ⟨h.tmps, h.wf, h.defers, ⟨fun o x hx => (h.hp.obj o x hx).mono (zBQ hx) (fun _ h => h) (zb.refl _ _) (Nat.le_refl _) (fun _ _ _ => rfl), h.hp.apart⟩, h.base⟩
theorem zCh (B : Nat -> Prop) (w : World) : ze B w { w with drawn := w.drawn + 1 } := (ze.refl B w).drew
theorem zPL (hΓ : zO P Γ) {ops : List Oper} {K : St -> Prop} {Q : Exit -> Act -> World -> Prop} {id : Nat} (hm : P.follows .mixedOrders = true) (h : Sat B ν σ a w) (hx : zP4 P Γ ops σ K) (hn : zAC B ν σ.hp w K (Q .normal)) :
    (Code.region id ops.toArray true).wp P Q a w := by
  unfold zP4 at hx
  split at hx
  · rename_i hsel
    split at hx
    · rw [zAq, zAq] at hx
      have hd := zDl h
      obtain ⟨d1, d2⟩ := zK1 hd.hp (z7 ops ops.length)
      have hs : Sat B ν { σ with hp := σ.hp ++ List.replicate (z7 ops ops.length) .dead } a { w with drawn := w.drawn + 1 } := ⟨hd.tmps, zj d2 _ hd.wf, hd.defers, d1, hd.base⟩
      have hw := zEY (Q := Q .normal) (ν0 := ν) hΓ hsel (fun o ho => by
          have hc := (List.mem_filter.1 ho).2
          rw [Bool.and_eq_true] at hc
          replace hc := hc.1
          unfold zM6 at hc
          split at hc
          · rename_i vs ty he; exact ⟨_, he, rfl⟩
          · simp at hc) (fun o ho vs ty hx => (hs.hp.obj o _ hx).2.2) _ _ _ ν a _ hs (fun _ h => h) (zb.refl _ _) (fun _ _ => rfl) hx (by
        intro ν' σ' a' w' l1 a1 s1 b1 k1
        exact hn ν' _ a' w' (fun o ho => l1 o (d2 o ho)) (fun o ho => a1 o (d2 o ho)) s1 ((zCh B w).trans b1) k1)
      have hreg : (Code.region id ops.toArray true).wp P (zJT (Q .normal)) a w := wp_region_held hm (by simpa using hw)
      exact wp_mono hreg (fun e a w hq => by cases e <;> first | exact hq | exact hq.elim)
    rw [zAq] at hx
    split at hx
    · rename_i σL hL
      rw [zET, zOf] at hx
      obtain ⟨hk, hany⟩ := hx
      have hd := zDl h
      obtain ⟨d1, d2⟩ := zK1 hd.hp (z7 ops ops.length)
      have hs : Sat B ν { σ with hp := σ.hp ++ List.replicate (z7 ops ops.length) .dead } a { w with drawn := w.drawn + 1 } := ⟨hd.tmps, zj d2 _ hd.wf, hd.defers, d1, hd.base⟩
      have hw := zEY (Q := Q .normal) (ν0 := ν) hΓ hsel (fun o ho => zCF ho) (fun o ho vs ty hx => (hs.hp.obj o _ hx).2.2) _ _ _ ν a _ hs (fun _ h => h) (zb.refl _ _) (fun _ _ => rfl) hany (by
        intro ν' σ' a' w' l1 a1 s1 b1 k1
        have := zHr k1
        subst this
        exact hn ν' _ a' w' (fun o ho => l1 o (d2 o ho)) (fun o ho => a1 o (d2 o ho)) s1 ((zCh B w).trans b1) hk)
      have hreg : (Code.region id ops.toArray true).wp P (zJT (Q .normal)) a w := wp_region_held hm (by simpa using hw)
      exact wp_mono hreg (fun e a w hq => by cases e <;> first | exact hq | exact hq.elim)
    · unfold zP3 at hx
      rw [zAq] at hx
      split at hx
      rename_i q σL hL
      rw [zET, zOf] at hx
      simp only at hx
      obtain ⟨hk, hany⟩ := hx
      have hd := zDl h
      obtain ⟨d1, d2⟩ := zK1 hd.hp (z7 ops ops.length)
      have hs : Sat B ν { σ with hp := σ.hp ++ List.replicate (z7 ops ops.length) .dead } a { w with drawn := w.drawn + 1 } := ⟨hd.tmps, zj d2 _ hd.wf, hd.defers, d1, hd.base⟩
      generalize hst : zEE (σ.hp ++ List.replicate (z7 ops ops.length) .dead) σL.hp ((zDJ { tmps := σL.tmps, hp := σL.hp } ops).filter fun o => !(zC4 { tmps := σL.tmps, hp := σL.hp } ops).contains o) = st at hk hany
      have hlv : ∀ o ∈ st, Live (σ.hp ++ List.replicate (z7 ops ops.length) .dead) o := fun o ho => zCF (by rw [<- hst] at ho; exact ho)
      have hwf : ∀ o ∈ st, ∀ vs ty, (σ.hp ++ List.replicate (z7 ops ops.length) .dead)[o]? = some (.cells vs ty) -> SV.wfL (Live (σ.hp ++ List.replicate (z7 ops ops.length) .dead)) vs := fun o ho vs ty hx => (hs.hp.obj o _ hx).2.2
      have hw := zGM (Q := Q .normal) (ν0 := ν) (w0 := { w with drawn := w.drawn + 1 }) hΓ hsel hlv hwf (fun ν' a' w' s1 l1 a1 m1 b1 => by
          refine zEY (Q := Q .normal) (ν0 := ν) hΓ hsel hlv hwf _ _ _ ν' a' w' s1 l1 a1 m1 hk ?_
          intro ν2 σ2 a2 w2 l2 g2 s2 b2 k2
          exact hn ν2 σ2 a2 w2 (fun o ho => l2 o (l1 o (d2 o ho))) (fun o ho => (zb.trans a1 g2 l1) o (d2 o ho)) s2 ((zCh B w).trans (b1.trans b2)) k2) _ _ _ ν a _ hs (fun _ h => h) (zb.refl _ _) (fun _ _ => rfl) (ze.refl _ _) hany
      have hreg : (Code.region id ops.toArray true).wp P (zJT (Q .normal)) a w := wp_region_held hm (by simpa using hw)
      exact wp_mono hreg (fun e a w hq => by cases e <;> first | exact hq | exact hq.elim)
  · exact nomatch hx
theorem zCb {σ σ' : St} : ∀ {l : List Operand}, (∀ x ∈ l, σ.eval x = σ'.eval x) -> zBa σ l = zBa σ' l
  | [], _ => rfl
  | x :: r, h => by
    simp only [zBa, h x (List.mem_cons_self ..), zCb (l := r) fun y hy => h y (List.mem_cons_of_mem _ hy)]
theorem zCv {σ σ' : St} : ∀ {l : List (Nat × Operand)}, (∀ x ∈ l.map (·.2), σ.eval x = σ'.eval x) -> zAi σ l = zAi σ' l
  | [], _ => rfl
  | (i, x) :: r, h => by
    simp only [zAi, h x (by simp), zCv (l := r) fun y hy => h y (by simp only [List.map_cons, List.mem_cons]; exact .inr hy)]
theorem zMG {t t' : List SV} {hp : List SObj} {c : Call} (h : ∀ x ∈ c.operands.toList, St.eval { tmps := t, hp := hp } x = St.eval { tmps := t', hp := hp } x) :
    zBi P { tmps := t, hp := hp } c = zBi P { tmps := t', hp := hp } c := by
  have ha : zBa { tmps := t, hp := hp } c.args.toList = zBa { tmps := t', hp := hp } c.args.toList := zCb fun x hx => h x (by simp [Call.operands]; exact .inr (by simpa using hx))
  unfold zBi
  rw [ha]
  cases hc : c.callee with
  | value f => simp only [h f (by simp [Call.operands, hc])]
  | invoke r name => simp only [h r (by simp [Call.operands, hc])]
  | builtin b => rfl
theorem zOx {t t' : List SV} {hp : List SObj} {op : Op} (h : ∀ x ∈ op.operands.toList, St.eval { tmps := t, hp := hp } x = St.eval { tmps := t', hp := hp } x) :
    zBM P { tmps := t, hp := hp } op = zBM P { tmps := t', hp := hp } op := by
  cases op with
  | move x => simp only [zBM, h x (by simp [Op.operands])]
  | assign x => simp only [zBM, h x (by simp [Op.operands])]
  | pick c a b => simp only [zBM, h c (by simp [Op.operands]), h a (by simp [Op.operands]), h b (by simp [Op.operands])]
  | load ty x => simp only [zBM, h x (by simp [Op.operands])]
  | nilCheck x => simp only [zBM, h x (by simp [Op.operands])]
  | binOp op ty x y yt => simp only [zBM, h x (by simp [Op.operands]), h y (by simp [Op.operands])]
  | unOp op ty x => simp only [zBM, h x (by simp [Op.operands])]
  | convert s d x => simp only [zBM, h x (by simp [Op.operands])]
  | makeInterface ty x => simp only [zBM, h x (by simp [Op.operands])]
  | makeFunc fn fi ca =>
    have e1 := zCb (σ := { tmps := t, hp := hp }) (σ' := { tmps := t', hp := hp }) (l := fi.toList) fun x hx => h x (by simp [Op.operands]; exact .inl (by simpa using hx))
    have e2 := zCb (σ := { tmps := t, hp := hp }) (σ' := { tmps := t', hp := hp }) (l := ca.toList) fun x hx => h x (by simp [Op.operands]; exact .inr (by simpa using hx))
    simp only [zBM, e1, e2]
  | fieldAddr s x f => simp only [zBM, h x (by simp [Op.operands])]
  | field s x f => simp only [zBM, h x (by simp [Op.operands])]
  | indexAddr ty x i => simp only [zBM, h x (by simp [Op.operands]), h i (by simp [Op.operands])]
  | typeAssert x a b c => simp only [zBM, h x (by simp [Op.operands])]
  | extract x i => simp only [zBM, h x (by simp [Op.operands])]
  | build ty ps =>
    have e1 := zCv (σ := { tmps := t, hp := hp }) (σ' := { tmps := t', hp := hp }) (l := ps.toList) fun x hx => h x (by simpa [Op.operands] using hx)
    simp only [zBM, e1]
  | call c =>
    have hc : ∀ x ∈ c.args.toList, St.eval { tmps := t, hp := hp } x = St.eval { tmps := t', hp := hp } x := fun x hx => h x (by simp [Op.operands, Call.operands]; exact .inr (by simpa using hx))
    simp only [zBM]
    split
    · rename_i x hcal hargs
      rw [hargs] at hc
      rw [hc x (by simp)]
    · rename_i x y hcal hargs
      rw [hargs] at hc
      rw [hc x (by simp), hc y (by simp)]
    · rename_i x y hcal hargs
      rw [hargs] at hc
      rw [hc x (by simp), hc y (by simp)]
    · rfl
  | _ => rfl
theorem zOw {t t' : List SV} {hp : List SObj} {op : Op} (h : ∀ x ∈ op.operands.toList, St.eval { tmps := t, hp := hp } x = St.eval { tmps := t', hp := hp } x) :
    zDS P { tmps := t, hp := hp } op = zDS P { tmps := t', hp := hp } op := by
  cases op with
  | load ty x => simp only [zDS, h x (by simp [Op.operands])]
  | nilCheck x => simp only [zDS, h x (by simp [Op.operands])]
  | indexAddr ty x i => simp only [zDS, h x (by simp [Op.operands]), h i (by simp [Op.operands])]
  | fieldAddr s x f => simp only [zDS, h x (by simp [Op.operands])]
  | convert s d x => simp only [zDS, h x (by simp [Op.operands])]
  | binOp op ty x y yt => simp only [zDS, h x (by simp [Op.operands]), h y (by simp [Op.operands])]
  | slice ty x lo hi mx =>
    cases mx with
    | some m => rfl
    | none =>
      have hx := h x (by simp [Op.operands])
      have hlo : ∀ y, lo = some y -> St.eval { tmps := t, hp := hp } y = St.eval { tmps := t', hp := hp } y := fun y hy => h y (by simp [Op.operands, hy])
      have hhi : ∀ y, hi = some y -> St.eval { tmps := t, hp := hp } y = St.eval { tmps := t', hp := hp } y := fun y hy => h y (by simp [Op.operands, hy])
      simp only [zDS, hx]
      cases lo with
      | none =>
        cases hi with
        | none => cases St.eval { tmps := t', hp := hp } x <;> rfl
        | some b => cases St.eval { tmps := t', hp := hp } x <;> simp only [hhi b rfl]
      | some a =>
        cases hi with
        | none => cases St.eval { tmps := t', hp := hp } x <;> simp only [hlo a rfl]
        | some b => cases St.eval { tmps := t', hp := hp } x <;> rfl
  | call c =>
    have hc : ∀ x ∈ c.args.toList, St.eval { tmps := t, hp := hp } x = St.eval { tmps := t', hp := hp } x := fun x hx => h x (by simp [Op.operands, Call.operands]; exact .inr (by simpa using hx))
    simp only [zDS]
    split
    · rename_i x hcal hargs
      rw [hargs] at hc
      rw [hc x (by simp)]
    · rename_i x hcal hargs
      rw [hargs] at hc
      rw [hc x (by simp)]
    · rfl
  | _ => rfl
theorem zCw {t t' : List SV} {hp : List SObj} {x : Option Operand} (h : ∀ y, x = some y -> St.eval { tmps := t, hp := hp } y = St.eval { tmps := t', hp := hp } y) : zId { tmps := t, hp := hp } x = zId { tmps := t', hp := hp } x := by
  cases x with
  | none => rfl
  | some y => simp only [zId, h y rfl]
theorem zOv {t t' : List SV} {hp : List SObj} {op : Op} (h : ∀ x ∈ op.operands.toList, St.eval { tmps := t, hp := hp } x = St.eval { tmps := t', hp := hp } x) :
    zE1 P { tmps := t, hp := hp } op = zE1 P { tmps := t', hp := hp } op := by
  cases op with
  | slice ty x lo hi mx =>
    have hx := h x (by simp [Op.operands])
    have hlo := zCw (t := t) (t' := t') (hp := hp) (x := lo) fun y hy => h y (by simp [Op.operands, hy])
    have hhi := zCw (t := t) (t' := t') (hp := hp) (x := hi) fun y hy => h y (by simp [Op.operands, hy])
    have hmx := zCw (t := t) (t' := t') (hp := hp) (x := mx) fun y hy => h y (by simp [Op.operands, hy])
    simp only [zE1, hx, hlo, hhi, hmx]
  | index ty x i => simp only [zE1, h x (by simp [Op.operands]), h i (by simp [Op.operands])]
  | binOp op ty x y yt => simp only [zE1, h x (by simp [Op.operands]), h y (by simp [Op.operands])]
  | lookup ty x i ok => simp only [zE1, zOB, zKl, mapS, h x (by simp [Op.operands]), h i (by simp [Op.operands])]
  | call c =>
    have hc : ∀ x ∈ c.args.toList, St.eval { tmps := t, hp := hp } x = St.eval { tmps := t', hp := hp } x := fun x hx => h x (by simp [Op.operands, Call.operands]; exact .inr (by simpa using hx))
    simp only [zE1]
    split
    · rename_i x hcal hargs
      rw [hargs] at hc
      rw [hc x (by simp)]
    · rfl
  | _ => rfl
theorem zOu {t t' : List SV} {hp : List SObj} {op : Op} (h : ∀ x ∈ op.operands.toList, St.eval { tmps := t, hp := hp } x = St.eval { tmps := t', hp := hp } x) :
    zEA P { tmps := t, hp := hp } op = zEA P { tmps := t', hp := hp } op := by
  cases op with
  | load ty p => simp only [zEA, h p (by simp [Op.operands])]
  | indexAddr ty x i => simp only [zEA, h x (by simp [Op.operands]), h i (by simp [Op.operands])]
  | slice ty x lo hi mx =>
    have hx := h x (by simp [Op.operands])
    have hlo := zCw (t := t) (t' := t') (hp := hp) (x := lo) fun y hy => h y (by simp [Op.operands, hy])
    have hhi := zCw (t := t) (t' := t') (hp := hp) (x := hi) fun y hy => h y (by simp [Op.operands, hy])
    cases mx with
    | none => simp only [zEA, hx, hlo, hhi]
    | some m => rfl
  | convert s d x => simp only [zEA, h x (by simp [Op.operands])]
  | binOp op ty x y yt => simp only [zEA, h x (by simp [Op.operands]), h y (by simp [Op.operands])]
  | call c =>
    have hc : ∀ x ∈ c.args.toList, St.eval { tmps := t, hp := hp } x = St.eval { tmps := t', hp := hp } x := fun x hx => h x (by simp [Op.operands, Call.operands]; exact .inr (by simpa using hx))
    simp only [zEA]
    split
    · rename_i x hcal hargs
      rw [hargs] at hc
      rw [hc x (by simp)]
    · rfl
  | _ => rfl
theorem zLZ {t t' : List SV} {hp : List SObj} {op : Op} (h : ∀ x ∈ op.operands.toList, St.eval { tmps := t, hp := hp } x = St.eval { tmps := t', hp := hp } x) :
    zB7 P Γ { tmps := t, hp := hp } op = zB7 P Γ { tmps := t', hp := hp } op := by
  unfold zB7 zHB
  rw [zOx h, zOu h, zOw h, zOv h]
  cases op with
  | call c => simp only [zMG (P := P) (c := c) (fun x hx => h x (by simpa [Op.operands] using hx))]
  | _ => rfl
theorem zKh {hp : List SObj} {b : Nat} {o : Oper} {t t' : List SV} (h : ∀ x ∈ o.op.operands.toList, St.eval { tmps := t, hp := hp } x = St.eval { tmps := t', hp := hp } x) :
    zDI P Γ hp b o t = zDI P Γ hp b o t' := by
  have hq := zLZ (P := P) (Γ := Γ) h
  unfold zDI
  split
  · rfl
  · rename_i e x he
    rw [h x (by simp [he, Op.operands])]
  · rename_i ty len parts he
    have e1 := zCv (σ := { tmps := t, hp := hp }) (σ' := { tmps := t', hp := hp }) (l := parts.toList) fun x hx => h x (by simpa [he, Op.operands] using hx)
    rw [e1]
  · rw [hq]
structure zDC (P : Program) (Γ : FuncId -> Option Cal) (hp0 : List SObj) (ops : List Oper) (T : Nat -> List SV) (V : Nat -> SV) (X : Nat -> List SObj) (q : Nat) : Prop where
  step : ∀ i o, i < q -> ops[i]? = some o -> ∃ p x, zDI P Γ hp0 (hp0.length + (X i).length) o (T i) = some (p, V i, x) /\ zAJ p /\ T (i + 1) = putT (T i) o.dst (V i) /\ X (i + 1) = X i ++ zJa x
theorem zGw {hp0 : List SObj} : ∀ (r : List Oper) (t : List SV) (xs : List SObj) (K : List SV -> List SObj -> Prop), zN6 P Γ hp0 r t xs K ->
    ∃ T V X, T 0 = t /\ X 0 = xs /\ zDC P Γ hp0 r T V X r.length /\ K (T r.length) (X r.length)
  | [], t, xs, K, h => ⟨fun _ => t, fun _ => .nili, fun _ => xs, rfl, rfl, ⟨fun i o hi _ => absurd hi (by simp)⟩, h⟩
  | o :: r, t, xs, K, h => by
    unfold zN6 at h
    split at h
    · rename_i p v x hs
      obtain ⟨hp, h⟩ := zCd h
      rw [zOd, zAq, zOf] at h
      obtain ⟨T, V, X, e1, e2, e3, e4⟩ := zGw r _ _ K h
      refine ⟨fun i => match i with | 0 => t | i + 1 => T i, fun i => match i with | 0 => v | i + 1 => V i, fun i => match i with | 0 => xs | i + 1 => X i, rfl, rfl, ⟨fun i o' hi ho => ?_⟩, e4⟩
      cases i with
      | zero =>
        simp at ho; subst ho
        exact ⟨p, x, hs, hp, e1, e2⟩
      | succ i => exact e3.step i o' (by simpa using hi) (by simpa using ho)
    · exact nomatch h
theorem zIc {t : List SV} {hp hp' : List SObj} (x : Operand) : St.eval { tmps := t, hp := hp } x = St.eval { tmps := t, hp := hp' } x := by cases x <;> rfl
theorem zJl {t : List SV} {hp hp' : List SObj} : ∀ l : List Operand, zBa { tmps := t, hp := hp } l = zBa { tmps := t, hp := hp' } l
  | [] => rfl
  | x :: r => by simp only [zBa, zIc (hp := hp) (hp' := hp') x, zJl (hp := hp) (hp' := hp') r]
theorem zG7 {t : List SV} {hp hp' : List SObj} : ∀ l : List (Nat × Operand), zAi { tmps := t, hp := hp } l = zAi { tmps := t, hp := hp' } l
  | [] => rfl
  | (i, x) :: r => by simp only [zAi, zIc (hp := hp) (hp' := hp') x, zG7 (hp := hp) (hp' := hp') r]
theorem zSD {t : List SV} {hp hp' : List SObj} (c : Call) : zBi P { tmps := t, hp := hp } c = zBi P { tmps := t, hp := hp' } c := by
  unfold zBi
  rw [zJl (hp := hp) (hp' := hp')]
  cases c.callee with
  | value f => simp only [zIc (hp := hp) (hp' := hp') f]
  | invoke r name => simp only [zIc (hp := hp) (hp' := hp') r]
  | builtin b => rfl
theorem zQ7 (hΓ : zO P Γ) {t : List SV} {hp0 hp' : List SObj} (h : Sat B ν { tmps := t, hp := hp' } a w) (hsub : ∀ (o : Nat) (x : SObj), hp0[o]? = some x -> hp'[o]? = some x) {o : Oper} {p : Option BE} {v : SV}
    (hv : zB7 P Γ { tmps := t, hp := hp0 } o.op = some (p, v)) (hp : zAJ p) {next : Act -> World -> Prop} {Q : Exit -> Act -> World -> Prop}
    (hn : ∀ w', Sat B ν { tmps := t, hp := hp' } a w' -> ze B w w' -> v.wf (Live hp') -> next (a.put o.dst (v.den ν)) w') : o.wp P a w next Q := by
  unfold Oper.wp
  unfold zB7 at hv
  split at hv
  · rename_i r hr
    simp only [Option.some.injEq] at hv; subst hv
    obtain ⟨r1, r2⟩ := zC3 (B := B) (n := Live hp') (σ := { tmps := t, hp := hp0 }) (w := w) ⟨h.tmps, h.wf⟩ (fun o x hx => h.hp.obj o x (hsub o x hx)) hr hp
    rw [r1, Oper.upon_value]
    exact hn w h (ze.refl _ _) r2
  · split at hv
    · rename_i c he
      split at hv
      · rename_i g args hc
        split at hv
        · rename_i hent
          split at hv
          · rename_i F hF
            rw [zSD (hp := hp0) (hp' := hp')] at hc
            obtain ⟨r1, r2⟩ := zDA h hc hent o.type
            have hr : (execOp a.eval o).run P w = .ok (.enter g (SV.denL ν args).toArray) w := by
              simp only [execOp, he]; exact r1
            rw [hr, Oper.upon_enter]
            obtain ⟨v1, hcall⟩ := (hΓ g _ hF : zAr P g F).calls hv hp ν (Live hp') w
            refine hcall.mono ?_
            rintro e w' ⟨rfl, hb⟩
            have hb' : ze B w w' := ze.of hb h.base
            exact hn w' (zAL h (fun _ h => h) (zb.refl _ _) (zKr h.hp hb) hb') hb' v1
          · simp at hv
        · simp at hv
      · simp at hv
    · simp at hv
theorem zQ8 (hΓ : zO P Γ) {t : List SV} {hp0 hp' : List SObj} (h : Sat B ν { tmps := t, hp := hp' } a w) {k : Nat} (hk : hp'[k]? = some .dead) {o : Oper} {p : Option BE} {v : SV} {cs : List SV} {ty : TypeId}
    (hv : zDI P Γ hp0 k o t = some (p, v, some (cs, ty))) {next : Act -> World -> Prop} {Q : Exit -> Act -> World -> Prop}
    (hn : zAC B ν hp' w (fun σ' => σ' = { tmps := putT t o.dst v, hp := zS hp' k (.cells cs ty) }) next) : o.wp P a w next Q := by
  have hput : ∀ d (u : SV), St.put { tmps := t, hp := zS hp' k (.cells cs ty) } d u = { tmps := putT t d u, hp := zS hp' k (.cells cs ty) } := fun d u => by cases d <;> rfl
  refine zGV hΓ h (k := some k) ?_ hn
  unfold zEB
  have hrow : ∀ K, (match o.op with | .alloc _ | .box _ _ | .buildSlice _ _ _ => True | _ => False) -> zP2 P (some k) o { tmps := t, hp := hp' } K = none := by
    intro K ho
    unfold zP2 zNZ zNa
    cases hop : o.op <;> simp_all
    split <;> simp_all
  unfold zDI at hv
  split at hv
  · rename_i e he
    rw [hrow _ (by simp [he])]
    simp only [he]
    simp only [Option.map_eq_some_iff, Prod.mk.injEq] at hv
    obtain ⟨z, hz, rfl, rfl, hx⟩ := hv
    simp only [Option.some.injEq, Prod.mk.injEq] at hx
    obtain ⟨rfl, rfl⟩ := hx
    rw [hz]
    simp only [layK, zCu, hk, zA2]
    exact hput _ _
  · rename_i e x he
    rw [hrow _ (by simp [he])]
    simp only [he]
    simp only [Option.map_eq_some_iff, Prod.mk.injEq] at hv
    obtain ⟨z, hz, rfl, rfl, hx⟩ := hv
    simp only [Option.some.injEq, Prod.mk.injEq] at hx
    obtain ⟨rfl, rfl⟩ := hx
    rw [zIc (hp := hp0) (hp' := hp')] at hz
    rw [hz]
    simp only [layK, zCu, hk, zA2]
    exact hput _ _
  · rename_i ty' len parts he
    rw [hrow _ (by simp [he])]
    simp only [he]
    rw [zG7 (hp := hp0) (hp' := hp')] at hv
    split at hv
    · rename_i e l hu hl
      split at hv
      · rename_i i z hi hz
        split at hv
        · rename_i hc
          simp only [Option.map_eq_some_iff, Prod.mk.injEq] at hv
          obtain ⟨z', hz', rfl, rfl, hx⟩ := hv
          simp only [Option.some.injEq, Prod.mk.injEq] at hx
          obtain ⟨rfl, rfl⟩ := hx
          rw [if_pos hc, hz']
          simp only [layK, zCu, hk, zA2]
          exact hput _ _
        · simp at hv
      · simp at hv
    · simp at hv
  · simp only [Option.map_eq_some_iff, Prod.mk.injEq] at hv
    obtain ⟨z, hz, _, _, hx⟩ := hv
    cases hx
theorem zL7 {α : Type} {p p' : α -> Bool} : ∀ {l : List α} {x : α}, x ∈ l -> p x = true -> p' x = false -> (∀ y, p' y = true -> p y = true) -> (l.filter p').length < (l.filter p).length
  | y :: r, x, hx, h1, h2, hm => by
    have mono : (r.filter p').length <= (r.filter p).length := by
      clear hx h1 h2
      induction r with
      | nil => simp
      | cons z r ih =>
        simp only [List.filter_cons]
        cases h3 : p' z with
        | true => rw [hm z h3]; simpa using ih
        | false => cases p z <;> simp <;> omega
    rcases List.mem_cons.1 hx with rfl | hx
    · simp only [List.filter_cons, h1, h2, if_true]
      simp; omega
    · have ih := zL7 (l := r) hx h1 h2 hm
      simp only [List.filter_cons]
      cases h3 : p' y with
      | true => rw [hm y h3]; simpa using ih
      | false => cases p y <;> simp <;> omega
theorem zSg (hΓ : zO P Γ) {ops : List Oper} {q base : Nat} {Q : Exit -> Act -> World -> Prop} (hdir : ∀ i j oj, i < j -> q <= j -> ops[j]? = some oj -> zF4 oj i = true) : ∀ (m j : Nat) (listed : Array Bool) (σ : St) (ν : Nat -> Pl) (a : Act) (w : World) (K : St -> Prop) (fuel : Nat),
    m = ops.length - j -> q <= j -> j <= ops.length -> listed.size = ops.length -> (∀ i, i < ops.length -> listed.getD i false = decide (i < j)) -> m <= fuel -> Sat B ν σ a w -> zGX P Γ ops base j (ops.drop j) σ K -> zAC B ν σ.hp w K (Q .normal) ->
    (∀ j oj, ops[j]? = some oj -> ∀ e ∈ oj.after, Region.binds .any e = true -> e.on < j) -> wpAny P .any ops.toArray Q fuel listed a w := by
  intro m
  induction m with
  | zero =>
    intro j listed σ ν a w K fuel hm hq hj hsz hl _ hs hx hn _
    have hjn : j = ops.length := by omega
    have hr : Region.ready .any ops.toArray listed = [] := by
      cases hr : Region.ready .any ops.toArray listed with
      | nil => rfl
      | cons i r =>
        have hi : i ∈ Region.ready .any ops.toArray listed := by rw [hr]; exact List.mem_cons_self ..
        rw [mem_ready] at hi
        obtain ⟨h1, o, ho, _⟩ := hi
        have hlt : i < ops.length := by have := (Array.getElem?_eq_some_iff.1 ho).1; simpa using this
        have := hl i hlt
        have e1 : listed.getD i true = listed.getD i false := by simp [Array.getD, show i < listed.size by omega]
        rw [e1, this] at h1
        simp at h1; omega
    refine wpAny_done hr ?_ fuel
    rw [List.drop_eq_nil_of_le (by omega)] at hx
    exact hn _ _ _ _ (fun _ h => h) (zb.refl _ _) hs (ze.refl _ _) hx
  | succ m ih =>
    intro j listed σ ν a w K fuel hm hq hj hsz hl hf hs hx hn hback
    obtain ⟨fuel, rfl⟩ : ∃ f, fuel = f + 1 := ⟨fuel - 1, by omega⟩
    have hjn : j < ops.length := by omega
    have hoj : ops[j]? = some ops[j] := List.getElem?_eq_getElem hjn
    have e1 : ∀ i, i < ops.length -> listed.getD i true = listed.getD i false := fun i hi => by simp [Array.getD, show i < listed.size by omega]
    have honly : ∀ i ∈ Region.ready .any ops.toArray listed, i = j := by
      intro i hi
      rw [mem_ready] at hi
      obtain ⟨h1, o, ho, h2⟩ := hi
      have hlt : i < ops.length := by have := (Array.getElem?_eq_some_iff.1 ho).1; simpa using this
      rw [e1 i hlt, hl i hlt] at h1
      have hij : j <= i := by simpa using h1
      rcases Nat.lt_or_ge j i with h3 | h3
      · exfalso
        have hd := hdir j i o h3 (by omega) (by simpa using ho)
        unfold zF4 at hd
        simp only [List.any_eq_true, Bool.and_eq_true, Array.mem_toList_iff] at hd
        obtain ⟨e, he, hb, hon⟩ := hd
        have := h2 e he hb
        rw [Nat.eq_of_beq_eq_true hon, hl j hjn] at this
        simp at this
      · omega
    have hready : j ∈ Region.ready .any ops.toArray listed := by
      rw [mem_ready]
      refine ⟨by rw [e1 j hjn, hl j hjn]; simp, ops[j], by simp [hjn], fun e he hb => ?_⟩
      have := hback j _ hoj e he hb
      rw [hl e.on (by omega)]
      simpa using this
    refine ⟨fun h0 => absurd hready (by rw [h0]; simp), fun i hi => ?_⟩
    have := honly i hi
    subst this
    rw [List.drop_eq_getElem_cons hjn] at hx
    simp only [zGX] at hx
    refine zHp hΓ hs hoj hx ?_
    intro ν' σ' a' w' l1 a1 s1 b1 k1
    refine ih (i + 1) _ σ' ν' a' w' K fuel (by omega) (by omega) (by omega) (by simp [hsz]) ?_ (by omega) s1 k1 (hn.later l1 a1 b1) hback
    intro k hk
    by_cases hki : k = i
    · subst hki
      simp [Array.getD, hsz, hjn]
    · rw [getD_set_ne false (Ne.symm hki), hl k hk]
      simp only [decide_eq_decide]; omega
theorem zGx : ∀ {ops : List Oper} {i : Nat} {o : Oper}, i < zA5 ops -> ops[i]? = some o -> o.guard = none
  | [], i, o, h, _ => by simp [zA5] at h
  | x :: r, i, o, h, ho => by
    unfold zA5 at h
    split at h
    · rename_i hc
      simp only [Bool.and_eq_true] at hc
      cases i with
      | zero => simp at ho; subst ho; simpa using hc.1
      | succ i => exact zGx (ops := r) (i := i) (Nat.lt_of_succ_lt_succ h) (by simpa using ho)
    · omega
theorem zJc : ∀ ops : List Oper, zA5 ops <= ops.length
  | [] => by simp [zA5]
  | x :: r => by
    unfold zA5
    have := zJc r
    split <;> simp <;> omega
structure zNL (ops : List Oper) (q : Nat) : Prop where
  pair : ∀ i j oi oj, i < j -> ops[i]? = some oi -> ops[j]? = some oj -> zLf q i j oi oj = true
  dist : ∀ i j oi oj, i < j -> j < q -> ops[i]? = some oi -> ops[j]? = some oj -> ∀ s, oi.dst = some s -> oj.dst ≠ some s
  back : ∀ j oj, ops[j]? = some oj -> ∀ e ∈ oj.after, Region.binds .any e = true -> e.on < j
theorem zPR {ops : List Oper} {q : Nat} (h : zV4 ops q = true) : zNL ops q := by
  unfold zV4 at h
  rw [List.all_eq_true] at h
  have lt : ∀ {j : Nat} {o : Oper}, ops[j]? = some o -> j < ops.length := fun h => (List.getElem?_eq_some_iff.1 h).1
  have hp : ∀ i j oi oj, i < j -> ops[i]? = some oi -> ops[j]? = some oj -> zLf q i j oi oj = true /\ (Nat.blt j q = true -> zIg oi oj = true) := by
    intro i j oi oj hij hi hj
    have h1 := h j (List.mem_range.2 (lt hj))
    simp only [hj, Bool.and_eq_true, List.all_eq_true] at h1
    have h2 := h1.1.1 i (List.mem_range.2 hij)
    simp only [hi, Bool.and_eq_true, Bool.or_eq_true, Bool.not_eq_true'] at h2
    refine ⟨h2.1, fun hb => ?_⟩
    rcases h2.2 with h3 | h3
    · rw [h3] at hb; cases hb
    · exact h3
  refine ⟨fun i j oi oj hij hi hj => (hp i j oi oj hij hi hj).1, ?_, ?_⟩
  · intro i j oi oj hij hjq hi hj s hs e
    have := (hp i j oi oj hij hi hj).2 (zE8 hjq)
    simp [zIg, hs, e] at this
  · intro j oj hj e he hb
    have h1 := h j (List.mem_range.2 (lt hj))
    simp only [hj, Bool.and_eq_true, List.all_eq_true] at h1
    have h2 := h1.2 e (by simpa using he)
    simp only [hb, Bool.not_true, Bool.false_or] at h2
    rw [Nat.blt_eq] at h2; exact h2
theorem zDn {q i j : Nat} {oi oj : Oper} (h : zLf q i j oi oj = true) : zF4 oj i = true ∨ (j < q /\ (∀ s, oi.dst = some s -> zJb oj s = false) /\ (∀ s, oj.dst = some s -> zJb oi s = false)) := by
  unfold zLf at h
  simp only [Bool.or_eq_true, Bool.and_eq_true] at h
  rcases h with h | ⟨⟨h1, h2⟩, h3⟩
  · exact .inl h
  · refine .inr ⟨by rw [Nat.blt_eq] at h1; exact h1, fun s hs => ?_, fun s hs => ?_⟩
    · rw [hs] at h2; simp at h2; exact h2.1
    · rw [hs] at h3; simpa using h3
theorem zCl : ∀ {l : List Operand} {s : Nat}, Operand.tmp s ∈ l -> s ∈ zDj l
  | .tmp t :: r, s, h => by
    rcases List.mem_cons.1 h with e | h
    · cases e; simp [zDj]
    · simp only [zDj, List.mem_cons]; exact .inr (zCl h)
  | .const _ :: r, s, h => by simp at h; simpa [zDj] using zCl (l := r) h
  | .global _ :: r, s, h => by simp at h; simpa [zDj] using zCl (l := r) h
  | .func _ :: r, s, h => by simp at h; simpa [zDj] using zCl (l := r) h
theorem zKb {t : List SV} {d : Option Nat} {v : SV} {s : Nat} (h : d ≠ some s) : (putT t d v)[s]? = t[s]? := by
  cases d with
  | none => rfl
  | some d =>
    simp only [putT, zP]
    rw [List.getElem?_set_ne (by intro e; exact h (by rw [e]))]
theorem zQk {t : List SV} {v : SV} {s : Nat} : (putT t (some s) v)[s]? = if s < t.length then some v else none := by
  simp only [putT, zP, List.getElem?_set_self']
  by_cases h : s < t.length
  · simp [h]
  · simp [h]
theorem zH7 {t : List SV} {d : Option Nat} {v : SV} : (putT t d v).length = t.length := by
  cases d <;> simp [putT, zt]
section
variable {hp0 : List SObj} {ops : List Oper} {T : Nat -> List SV} {V : Nat -> SV} {X : Nat -> List SObj} {q : Nat}
theorem zK9 (h : zDC P Γ hp0 ops T V X q) (hq : q <= ops.length) : ∀ i, i <= q -> (T i).length = (T 0).length
  | 0, _ => rfl
  | i + 1, hi => by
    obtain ⟨p, x, _, _, e, _⟩ := h.step i ops[i] (by omega) (List.getElem?_eq_getElem (by omega))
    rw [e, zH7, zK9 h hq i (by omega)]
theorem zCf (h : zDC P Γ hp0 ops T V X q) (hq : q <= ops.length) {s : Nat} {i : Nat} : ∀ j, i <= j -> j <= q -> (∀ k o, i <= k -> k < j -> ops[k]? = some o -> o.dst ≠ some s) -> (T j)[s]? = (T i)[s]?
  | 0, hij, _, _ => by have : i = 0 := by omega
                       rw [this]
  | j + 1, hij, hj, hw => by
    by_cases e : i = j + 1
    · rw [e]
    · obtain ⟨p, x, _, _, e1, _⟩ := h.step j ops[j] (by omega) (List.getElem?_eq_getElem (by omega))
      rw [e1, zKb (hw j _ (by omega) (by omega) (List.getElem?_eq_getElem (by omega)))]
      exact zCf h hq j (by omega) (by omega) fun k o h1 h2 h3 => hw k o h1 (by omega) h3
theorem zDR (h : zDC P Γ hp0 ops T V X q) (hq : q <= ops.length) {i : Nat} : ∀ j, i <= j -> j <= q -> ∃ r, X j = X i ++ r
  | 0, hij, _ => ⟨[], by have : i = 0 := by omega
                         simp [this]⟩
  | j + 1, hij, hj => by
    by_cases e : i = j + 1
    · exact ⟨[], by simp [e]⟩
    · obtain ⟨p, x, _, _, _, e1⟩ := h.step j ops[j] (by omega) (List.getElem?_eq_getElem (by omega))
      obtain ⟨r, hr⟩ := zDR h hq (i := i) j (by omega) (by omega)
      exact ⟨r ++ zJa x, by rw [e1, hr, List.append_assoc]⟩
theorem zHk (h : zDC P Γ hp0 ops T V X q) (hq : q <= ops.length) (h0 : X 0 = []) : ∀ j, j <= q -> ∀ k, k < (X j).length -> ∃ i, i < j /\ (X i).length = k /\ k < (X (i + 1)).length
  | 0, _, k, hk => by rw [h0] at hk; simp at hk
  | j + 1, hj, k, hk => by
    obtain ⟨p, x, _, _, _, e1⟩ := h.step j ops[j] (by omega) (List.getElem?_eq_getElem (by omega))
    by_cases hlt : k < (X j).length
    · obtain ⟨i, h1, h2, h3⟩ := zHk h hq h0 j (by omega) k hlt
      exact ⟨i, by omega, h2, h3⟩
    · refine ⟨j, by omega, ?_, hk⟩
      rw [e1] at hk
      cases x with
      | none => simp [zJa] at hk; omega
      | some y => obtain ⟨c, d⟩ := y; simp [zJa] at hk; omega
structure zSO (hp0 : List SObj) (ops : List Oper) (T : Nat -> List SV) (X : Nat -> List SObj) (q : Nat) (B : Nat -> Prop) (listed : Array Bool) (ν : Nat -> Pl) (a : Act) (w : World) (t' : List SV) (hp' : List SObj) : Prop where
  size : listed.size = ops.length
  closed : ∀ j o, listed.getD j false = true -> ops[j]? = some o -> ∀ i, zF4 o i = true -> listed.getD i false = true
  head : ∀ j, q <= j -> listed.getD j false = false
  tlen : t'.length = (T 0).length
  keep : ∀ s, (∀ i o, i < q -> ops[i]? = some o -> listed.getD i false = true -> o.dst ≠ some s) -> t'[s]? = (T 0)[s]?
  fin : ∀ i o s, i < q -> ops[i]? = some o -> listed.getD i false = true -> o.dst = some s -> t'[s]? = (T q)[s]?
  hlen : hp'.length = hp0.length + (X q).length
  old : ∀ o, o < hp0.length -> hp'[o]? = hp0[o]?
  new : ∀ i, i < q -> (X i).length < (X (i + 1)).length -> hp'[hp0.length + (X i).length]? = if listed.getD i false then (X q)[(X i).length]? else some .dead
  sat : Sat B ν { tmps := t', hp := hp' } a w
theorem zN5 (hΓ : zO P Γ) (htr : zDC P Γ hp0 ops T V X q) (hc : zNL ops q) (hq : q <= ops.length) (hX0 : X 0 = [])
  {Q : Exit -> Act -> World -> Prop} {K : St -> Prop} (hx : zGX P Γ ops hp0.length q (ops.drop q) { tmps := T q, hp := hp0 ++ X q } K) {fuel : Nat} {listed : Array Bool} {ν : Nat -> Pl} {a : Act} {w : World} {t' : List SV} {hp' : List SObj} (hall : ∀ i, i < q -> listed.getD i false = true) (hI : zSO hp0 ops T X q B listed ν a w t' hp') (hn : zAC B ν hp0 w K (Q .normal))
    (hf : ((List.range q).filter fun i => !listed.getD i false).length + (ops.length - q) <= fuel) : wpAny P .any ops.toArray Q fuel listed a w := by
  have et : t' = T q := by
    apply List.ext_getElem?
    intro s
    by_cases hw : ∃ j oj, j < q /\ ops[j]? = some oj /\ oj.dst = some s
    · obtain ⟨j, oj, hj, hoj, hd⟩ := hw
      exact hI.fin j oj s hj hoj (hall j hj) hd
    · have hno : ∀ k ok, k < q -> ops[k]? = some ok -> ok.dst ≠ some s := fun k ok h3 h4 h5 => hw ⟨k, ok, h3, h4, h5⟩
      rw [hI.keep s fun k ok h3 h4 _ => hno k ok h3 h4]
      exact (zCf htr hq q (Nat.zero_le _) (Nat.le_refl _) fun k ok _ h4 h5 => hno k ok h4 h5).symm
  have eh : hp' = hp0 ++ X q := by
    apply List.ext_getElem?
    intro o
    by_cases ho : o < hp0.length
    · rw [hI.old o ho, List.getElem?_append_left ho]
    · rw [List.getElem?_append_right (by omega)]
      by_cases hk : o - hp0.length < (X q).length
      · obtain ⟨i, h1, h2, h3⟩ := zHk htr hq hX0 q (Nat.le_refl _) _ hk
        have := hI.new i h1 (by omega)
        rw [hall i h1, if_pos rfl, h2, show hp0.length + (o - hp0.length) = o by omega] at this
        exact this
      · rw [List.getElem?_eq_none (by rw [hI.hlen]; omega), List.getElem?_eq_none (by omega)]
  subst et eh
  refine zSg hΓ (fun i j oj hij hqj hoj => ?_) (ops.length - q) q listed _ ν a w K fuel rfl (Nat.le_refl _) hq hI.size (fun i hi => ?_) (by omega) hI.sat hx ?_ hc.back
  · have hil : i < ops.length := by have := (List.getElem?_eq_some_iff.1 hoj).1; omega
    rcases zDn (hc.pair i j _ oj hij (List.getElem?_eq_getElem hil) hoj) with hd | hd
    · exact hd
    · omega
  · by_cases h : i < q
    · rw [hall i h]; simp [h]
    · rw [hI.head i (by omega)]; simp; omega
  · intro ν' σ' a' w' l1 a1 s1 b1 k1
    have hl : ∀ o, Live hp0 o -> Live (hp0 ++ X q) o := fun o ⟨x, h3, h4⟩ => ⟨x, by rw [List.getElem?_append_left (List.getElem?_eq_some_iff.1 h3).1]; exact h3, h4⟩
    exact hn ν' σ' a' w' (fun o ho => l1 o (hl o ho)) (fun o ho => a1 o (hl o ho)) s1 b1 k1
theorem zV3 (hΓ : zO P Γ) (htr : zDC P Γ hp0 ops T V X q) (hc : zNL ops q) (hq : q <= ops.length) (hgd : ∀ i o, i < q -> ops[i]? = some o -> o.guard = none) (hX0 : X 0 = [])
    {Q : Exit -> Act -> World -> Prop} {K : St -> Prop} (hx : zGX P Γ ops hp0.length q (ops.drop q) { tmps := T q, hp := hp0 ++ X q } K) :
    ∀ (fuel : Nat) (listed : Array Bool) (ν : Nat -> Pl) (a : Act) (w : World) (t' : List SV) (hp' : List SObj), ((List.range q).filter fun i => !listed.getD i false).length + (ops.length - q) <= fuel ->
      zSO hp0 ops T X q B listed ν a w t' hp' -> zAC B ν hp0 w K (Q .normal) -> wpAny P .any ops.toArray Q fuel listed a w := by
  have hlen := zK9 htr hq
  have hgetT : ∀ (listed : Array Bool), listed.size = ops.length -> ∀ i, i < ops.length -> listed.getD i true = listed.getD i false := fun listed hs i hi => by simp [Array.getD, show i < listed.size by omega]
  have uniq : ∀ i j oi oj s, i < q -> j < q -> ops[i]? = some oi -> ops[j]? = some oj -> oi.dst = some s -> oj.dst = some s -> i = j := by
    intro i j oi oj s hi hj ho ho' e e'
    rcases Nat.lt_trichotomy i j with h | h | h
    · exact absurd e' (hc.dist i j oi oj h hj ho ho' s e)
    · exact h
    · exact absurd e (hc.dist j i oj oi h hi ho' ho s e')
  intro fuel
  induction fuel with
  | zero =>
    intro listed ν a w t' hp' hf hI hn
    have hall : ∀ i, i < q -> listed.getD i false = true := by
      intro i hi
      cases hl : listed.getD i false with
      | true => rfl
      | false =>
        have hm : i ∈ (List.range q).filter fun i => !listed.getD i false := List.mem_filter.2 ⟨List.mem_range.2 hi, by rw [hl]; rfl⟩
        have := List.length_pos_of_mem hm
        omega
    exact zN5 hΓ htr hc hq hX0 hx hall hI hn hf
  | succ fuel ih =>
    intro listed ν a w t' hp' hf hI hn
    by_cases hall : ∀ i, i < q -> listed.getD i false = true
    · exact zN5 hΓ htr hc hq hX0 hx hall hI hn hf
    · have hex : ∃ i, i < q /\ listed.getD i false = false /\ ∀ k, k < i -> listed.getD k false = true := by
        have key : ∀ m, m <= q -> (∀ k, k < m -> listed.getD k false = true) ∨ ∃ i, i < q /\ listed.getD i false = false /\ ∀ k, k < i -> listed.getD k false = true := by
          intro m
          induction m with
          | zero => intro _; exact .inl fun k hk => absurd hk (by omega)
          | succ m ihm =>
            intro hm
            rcases ihm (by omega) with h | h
            · rcases Bool.eq_false_or_eq_true (listed.getD m false) with hl | hl
              · refine .inl fun k hk => ?_
                by_cases e : k = m
                · rw [e]; exact hl
                · exact h k (by omega)
              · exact .inr ⟨m, by omega, hl, h⟩
            · exact .inr h
        rcases key q (Nat.le_refl _) with h | h
        · exact absurd h hall
        · exact h
      obtain ⟨i0, hi0, hu0, hl0⟩ := hex
      refine ⟨fun h0 => ?_, fun i hi => ?_⟩
      · exfalso
        have : i0 ∈ Region.ready .any ops.toArray listed := by
          rw [mem_ready]
          refine ⟨by rw [hgetT listed hI.size i0 (by omega)]; exact hu0, ops[i0], by simp [show i0 < ops.length by omega], fun e he hb => ?_⟩
          exact hl0 _ (hc.back i0 _ (List.getElem?_eq_getElem (by omega)) e he hb)
        rw [h0] at this; simp at this
      · have hi' := hi
        rw [mem_ready] at hi'
        obtain ⟨h1, o, ho, h2⟩ := hi'
        have ho' : ops[i]? = some o := by simpa using ho
        have hilt : i < ops.length := (List.getElem?_eq_some_iff.1 ho').1
        rw [hgetT listed hI.size i hilt] at h1
        have hdl : ∀ k, zF4 o k = true -> listed.getD k false = true := by
          intro k hk
          unfold zF4 at hk
          simp only [List.any_eq_true, Bool.and_eq_true, Array.mem_toList_iff] at hk
          obtain ⟨e, he, hb, hon⟩ := hk
          rw [<- Nat.eq_of_beq_eq_true hon]
          exact h2 e he hb
        have hiq : i < q := by
          rcases Nat.lt_or_ge i q with h | h
          · exact h
          · exfalso
            rcases zDn (hc.pair i0 i _ _ (by omega) (List.getElem?_eq_getElem (by omega)) ho') with hd | hd
            · rw [hdl i0 hd] at hu0; cases hu0
            · omega
        obtain ⟨p, x, hstep, hp, eT, eX⟩ := htr.step i o hiq ho'
        have hslot : ∀ s, zJb o s = true -> (T i)[s]? = t'[s]? := by
          intro s hs
          by_cases hw : ∃ j oj, j < q /\ ops[j]? = some oj /\ oj.dst = some s
          · obtain ⟨j, oj, hj, hoj, hdst⟩ := hw
            rcases Nat.lt_or_ge j i with hji | hji
            · have hd : zF4 o j = true := by
                rcases zDn (hc.pair j i oj o hji hoj ho') with hd | hd
                · exact hd
                · rw [hd.2.1 s hdst] at hs; cases hs
              rw [hI.fin j oj s hj hoj (hdl j hd) hdst]
              exact (zCf htr hq q (by omega) (Nat.le_refl _) fun k ok h3 h4 h5 h6 => by
                have := uniq j k oj ok s hj h4 hoj h5 hdst h6
                omega).symm
            · have e1 : (T i)[s]? = (T 0)[s]? := zCf htr hq i (Nat.zero_le _) (by omega) fun k ok h3 h4 h5 h6 => by
                have := uniq j k oj ok s hj (by omega) hoj h5 hdst h6
                omega
              rw [e1]
              refine (hI.keep s fun k ok h3 h4 h5 h6 => ?_).symm
              have hkj := uniq j k oj ok s hj h3 hoj h4 hdst h6
              subst hkj
              rcases Nat.lt_or_ge i j with h7 | h7
              · have hd : zF4 oj i = true := by
                  rcases zDn (hc.pair i j o oj h7 ho' hoj) with hd | hd
                  · exact hd
                  · rw [hd.2.2 s hdst] at hs; cases hs
                have := hI.closed j oj h5 hoj i hd
                rw [this] at h1; cases h1
              · have : i = j := by omega
                subst this
                rw [h5] at h1; cases h1
          · have hno : ∀ k ok, k < q -> ops[k]? = some ok -> ok.dst ≠ some s := fun k ok h3 h4 h5 => hw ⟨k, ok, h3, h4, h5⟩
            rw [zCf htr hq i (Nat.zero_le _) (by omega) fun k ok _ h4 h5 => hno k ok (by omega) h5]
            exact (hI.keep s fun k ok h3 h4 _ => hno k ok h3 h4).symm
        have hcongr : zDI P Γ hp0 (hp0.length + (X i).length) o (T i) = zDI P Γ hp0 (hp0.length + (X i).length) o t' := by
          refine zKh fun y hy => ?_
          cases y with
          | tmp s => exact ((zDv _ _).trans (hslot s (by unfold zJb; simpa using zCl hy))).trans (zDv _ _).symm
          | const c => rfl
          | global g => rfl
          | func f => rfl
        rw [hcongr] at hstep
        have hcount : ((List.range q).filter fun k => !(listed.setIfInBounds i true).getD k false).length + (ops.length - q) <= fuel := by
          have := zL7 (l := List.range q) (p := fun k => !listed.getD k false) (p' := fun k => !(listed.setIfInBounds i true).getD k false) (x := i) (List.mem_range.2 hiq) (by simp only [h1]; rfl)
            (by simp [Array.getD, hI.size, hilt]) (fun y hy => by
              by_cases e : i = y
              · subst e; simp [Array.getD, hI.size, hilt] at hy
              · rw [getD_set_ne false e] at hy; exact hy)
          omega
        have hset : ∀ k, (listed.setIfInBounds i true).getD k false = if k = i then true else listed.getD k false := by
          intro k
          by_cases e : k = i
          · subst e; simp [Array.getD, hI.size, hilt]
          · rw [getD_set_ne false (Ne.symm e), if_neg e]
        obtain ⟨r, hr⟩ := zDR htr hq (i := i + 1) q (by omega) (Nat.le_refl _)
        -- what stays so behind the operation
        have inv : ∀ (ν' : Nat -> Pl) (a' : Act) (w' : World) (hp'' : List SObj), hp''.length = hp'.length -> (∀ o, o < hp0.length -> hp''[o]? = hp'[o]?) -> (∀ k, k < q -> k ≠ i -> (X k).length < (X (k + 1)).length -> hp''[hp0.length + (X k).length]? = hp'[hp0.length + (X k).length]?) ->
            ((X i).length < (X (i + 1)).length -> hp''[hp0.length + (X i).length]? = (X q)[(X i).length]?) -> Sat B ν' { tmps := putT t' o.dst (V i), hp := hp'' } a' w' -> zSO hp0 ops T X q B (listed.setIfInBounds i true) ν' a' w' (putT t' o.dst (V i)) hp'' := by
          intro ν' a' w' hp'' g1 g2 g3 g4 g5
          refine ⟨by simp [hI.size], ?_, ?_, by rw [zH7, hI.tlen], ?_, ?_, by rw [g1, hI.hlen], fun o ho => (g2 o ho).trans (hI.old o ho), ?_, g5⟩
          · intro j oj hj hoj k hk
            rw [hset] at hj ⊢
            split
            · rfl
            · by_cases e : j = i
              · subst e
                rw [ho'] at hoj; cases hoj
                exact hdl k hk
              · rw [if_neg e] at hj
                exact hI.closed j oj hj hoj k hk
          · intro j hj
            rw [hset, if_neg (by omega)]
            exact hI.head j hj
          · intro s hs
            have h3 : o.dst ≠ some s := hs i o hiq ho' (by rw [hset, if_pos rfl])
            rw [zKb h3]
            exact hI.keep s fun k ok h4 h5 h6 => hs k ok h4 h5 (by rw [hset]; split; rfl; exact h6)
          · intro k ok s hk hok hl hd
            rw [hset] at hl
            by_cases e : k = i
            · subst e
              rw [ho'] at hok; cases hok
              rw [hd, zQk]
              have e1 : (T q)[s]? = (T (k + 1))[s]? := zCf htr hq q (by omega) (Nat.le_refl _) fun m om h3 h4 h5 h6 => by
                have := uniq k m o om s hk h4 ho' h5 hd h6
                omega
              rw [e1, eT, hd, zQk, hI.tlen, hlen k (by omega)]
            · rw [if_neg e] at hl
              rw [zKb (fun e' => e (uniq k i ok o s hk hiq hok ho' hd e'))]
              exact hI.fin k ok s hk hok hl hd
          · intro k hk hgrow
            rw [hset]
            by_cases e : k = i
            · subst e; simpa using g4 hgrow
            · rw [if_neg e, g3 k hk e hgrow]
              exact hI.new k hk hgrow
        have hwant : Region.wanted o (yielded ops.toArray a.tmps) = true := by
          unfold Region.wanted; rw [hgd i o hiq ho']
        have hsub : ∀ (o : Nat) (x : SObj), hp0[o]? = some x -> hp'[o]? = some x := fun o x hx => by
          rw [hI.old o (List.getElem?_eq_some_iff.1 hx).1]; exact hx
        have hl0' : ∀ o, Live hp0 o -> Live hp' o := fun o ⟨x, h3, h4⟩ => ⟨x, hsub o x h3, h4⟩
        unfold wpOp
        simp only [ho, hwant, if_true]
        left
        cases x with
        | none =>
          have hq1 : zB7 P Γ { tmps := t', hp := hp0 } o.op = some (p, V i) := by
            unfold zDI at hstep
            split at hstep
            · simp at hstep
            · simp at hstep
            · split at hstep
              · split at hstep
                · split at hstep
                  · simp at hstep
                  · simp at hstep
                · simp at hstep
              · simp at hstep
            · simp only [Option.map_eq_some_iff, Prod.mk.injEq] at hstep
              obtain ⟨⟨a1, a2⟩, h3, h4, h5, _⟩ := hstep
              simp only at h4 h5
              rw [h3, h4, h5]
          refine zQ7 hΓ hI.sat hsub hq1 hp fun w' hs hb hv => ?_
          have hs2 := z0 hs o.dst (v := V i) hv
          have e2 : St.put { tmps := t', hp := hp' } o.dst (V i) = { tmps := putT t' o.dst (V i), hp := hp' } := by cases o.dst <;> rfl
          rw [e2] at hs2
          refine ih _ ν _ w' _ hp' hcount (inv ν _ w' hp' rfl (fun _ _ => rfl) (fun _ _ _ _ => rfl) (fun hg => ?_) hs2) (hn.later (fun _ h => h) (zb.refl _ _) hb)
          rw [eX] at hg; simp [zJa] at hg
        | some y =>
          obtain ⟨cs, ty⟩ := y
          have eX' : X (i + 1) = X i ++ [.cells cs ty] := eX
          have hgrow : (X i).length < (X (i + 1)).length := by rw [eX']; simp
          have hk := hI.new i hiq hgrow
          rw [h1] at hk
          simp only [Bool.false_eq_true, if_false] at hk
          have hklt : hp0.length + (X i).length < hp'.length := (List.getElem?_eq_some_iff.1 hk).1
          refine zQ8 hΓ hI.sat hk hstep ?_
          intro ν' σ' a' w' l1 a1 s1 b1 k1
          subst k1
          refine ih _ ν' a' w' _ _ hcount (inv ν' a' w' _ (by rw [zt]) (fun o ho => ?_) (fun k hk' hne hg => ?_) (fun _ => ?_) s1) (hn.later (fun _ h => h) ?_ b1)
          · rw [zP, List.getElem?_set_ne (by omega)]
          · rw [zP, List.getElem?_set_ne ?_]
            intro e
            have e1 : (X i).length = (X k).length := by omega
            rcases Nat.lt_or_ge k i with h3 | h3
            · obtain ⟨r', hr'⟩ := zDR htr hq (i := k + 1) i (by omega) (by omega)
              rw [hr'] at e1; simp at e1; omega
            · obtain ⟨r', hr'⟩ := zDR htr hq (i := i + 1) k (by omega) (by omega)
              rw [hr'] at e1; simp at e1; omega
          · rw [zP, List.getElem?_set_self hklt, hr, eX']
            simp
          · exact fun o ho => a1 o (hl0' o ho)
end
theorem zIC (hΓ : zO P Γ) {ops : List Oper} {K : St -> Prop} {Q : Exit -> Act -> World -> Prop} {id : Nat} (hm : P.follows .mixedOrders = true) (h : Sat B ν σ a w) (hx : zJ6 P Γ ops σ K) (hn : zAC B ν σ.hp w K (Q .normal)) :
    (Code.region id ops.toArray true).wp P Q a w := by
  unfold zJ6 at hx
  split at hx
  · rename_i hc
    simp only [Bool.and_eq_true] at hc
    unfold zXT at hx
    obtain ⟨T, V, X, e1, e2, htr, hk⟩ := zGw _ _ _ _ hx
    rw [zAq] at hk
    have hq := zJc ops
    have hlen : (ops.take (zA5 ops)).length = zA5 ops := by simp; omega
    rw [hlen] at htr hk
    have htr' : zDC P Γ σ.hp ops T V X (zA5 ops) := ⟨fun i o hi ho => htr.step i o hi (by rw [List.getElem?_take, if_pos hi]; exact ho)⟩
    have hd := zDl h
    obtain ⟨d1, d2⟩ := zK1 hd.hp (X (zA5 ops)).length
    refine wp_region_any hm ?_
    have hcond := zPR hc.1.1
    refine zV3 hΓ htr' hcond hq (fun i o hi ho => zGx hi ho) e2 hk _ _ ν a _ σ.tmps (σ.hp ++ List.replicate (X (zA5 ops)).length .dead) ?_ ?_ (hn.later (fun _ h => h) (zb.refl _ _) (zCh B w))
    · have : ((List.range (zA5 ops)).filter fun i => !(Array.replicate ops.toArray.size false).getD i false).length <= zA5 ops := by
        refine Nat.le_trans (List.length_filter_le _ _) (by simp)
      simp only [List.size_toArray] at this ⊢
      omega
    · have hfalse : ∀ j, (Array.replicate ops.toArray.size false).getD j false = false := fun j => by
        simp [Array.getD]
      refine ⟨by simp, fun j o hj => (by rw [hfalse] at hj; cases hj), fun j _ => hfalse j, (by rw [e1]), fun s _ => (by rw [e1]), fun i o s _ _ hl => (by rw [hfalse] at hl; cases hl), (by simp), fun o ho => List.getElem?_append_left ho, fun i hi hg => ?_, ⟨hd.tmps, zj d2 _ hd.wf, hd.defers, d1, hd.base⟩⟩
      rw [hfalse]
      simp only [Bool.false_eq_true, if_false]
      rw [List.getElem?_append_right (by omega), Nat.add_sub_cancel_left, List.getElem?_replicate, if_pos]
      obtain ⟨r, hr⟩ := zDR htr' hq (i := i + 1) (zA5 ops) (by omega) (Nat.le_refl _)
      rw [hr]; simp; omega
  · exact zPL hΓ hm h hx hn
theorem zPb (hΓ : zO P Γ) {ops : List Oper} {K : St -> Prop} {Q : Exit -> Act -> World -> Prop} {id : Nat} (h : Sat B ν σ a w) (hx : zP7 P Γ ops σ K) (hn : zAC B ν σ.hp w K (Q .normal)) :
    (Code.region id ops.toArray true).wp P Q a w := by
  unfold zP7 at hx
  split at hx
  · rename_i hm
    split at hx
    · split at hx
      · rename_i hB
        simp only [Bool.and_eq_true] at hB
        replace hB := hB.1
        refine wp_region_quiet (C := Cls B ν σ.hp w) hm hB ⟨(zDl h).hp, (zDl h).base, zCh B w⟩ ?_
        refine zHo (B := B) (ν := ν) (w := w) (hp := σ.hp) (R := fun l a => wpQuiet P ops.toArray (Cls B ν σ.hp w) (fun a' => ∀ w', Cls B ν σ.hp w w' -> Q .normal a' w') l a) ?_ ?_ ?_ ?_ ops σ a rfl h hx
        · intro σ' a' e1 h1 hk w' hc
          have h1' : Sat B ν σ' a' w' := ⟨h1.tmps, h1.wf, h1.defers, by rw [e1]; exact hc.hp, hc.base⟩
          exact hn ν σ' a' w' (by rw [e1]; exact fun _ h => h) (zb.refl _ _) h1' hc.below hk
        · intro σ' a' o rest p v e1 h1 hw hv hp _ hr
          have hq := zGr hΓ h1 hv hp w
          rw [e1] at hq
          show (if Region.wanted o (yielded ops.toArray a'.tmps) = true then _ else _)
          rw [if_pos hw]
          exact ⟨v.den ν, fun w' hc => hq.2 w' hc, hr⟩
        · intro σ' a' o p v e1 h1 hv hp
          have hq := zGr hΓ h1 hv hp w
          rw [e1] at hq; exact hq.1
        · intro a' o rest hw hr
          show (if Region.wanted o (yielded ops.toArray a'.tmps) = true then _ else _)
          rw [if_neg (by rw [hw]; simp)]
          exact hr
      · exact zIC hΓ hm h hx hn
    · split at hx
      · rename_i hB
        simp only [Bool.and_eq_true] at hB
        replace hB := hB.1
        refine wp_region_still_tail (zCX ops) hm hB ?_
        refine zHo (B := B) (ν := ν) (w := { w with drawn := w.drawn + 1 }) (hp := σ.hp) (R := fun l a => wpStill P ops.toArray { w with drawn := w.drawn + 1 } (fun a' => wpList P ops.toArray Q (ops.drop (zCX ops)) a' { w with drawn := w.drawn + 1 }) l a) ?_ ?_ ?_ ?_ _ σ a rfl (zDl h) hx
        · intro σ' a' e1 h1 hk
          refine zFq hΓ _ σ' ν a' _ h1 hk ?_
          rw [e1]
          exact hn.later (fun _ h => h) (zb.refl _ _) (zCh B w)
        · intro σ' a' o rest p v e1 h1 hw hv hp _ hr
          show (if Region.wanted o (yielded ops.toArray a'.tmps) = true then _ else _)
          rw [if_pos hw]
          unfold Oper.still
          rw [(zB0 h1 hv hp).1, Oper.stillUpon_value]
          exact hr
        · intro σ' a' o p v e1 h1 hv hp
          rw [<- e1]; exact (zB0 h1 hv hp).2
        · intro a' o rest hw hr
          show (if Region.wanted o (yielded ops.toArray a'.tmps) = true then _ else _)
          rw [if_neg (by rw [hw]; simp)]
          exact hr
      · exact zIC hΓ hm h hx hn
  · exact nomatch hx
def zYH : zAW -> Exit
  | .normal => .normal
  | .exit id => .exit id
  | .ret => .ret
def zK6 (B : Nat -> Prop) (ν : Nat -> Pl) (p : Nat -> Prop) (w : World) (K : St -> Prop) (next : Act -> World -> Prop) : Prop :=
  ∀ ν' σ' a' w', (∀ o, p o -> Live σ'.hp o) -> zb p ν ν' -> Sat B ν' σ' a' w' -> ze B w w' -> K σ' -> next a' w'
theorem zK6.plain {p : Nat -> Prop} {hp : List SObj} {K : St -> Prop} {next : Act -> World -> Prop} (h : zK6 B ν p w K next) (hl : ∀ o, p o -> Live hp o) : zAC B ν hp w K next :=
  fun ν' σ' a' w' l1 a1 s1 b1 k1 => h ν' σ' a' w' (fun o ho => l1 o (hl o ho)) (fun o ho => a1 o (hl o ho)) s1 b1 k1
def zBL (B : Nat -> Prop) (ν : Nat -> Pl) (p : Nat -> Prop) (w : World) (K : zAW -> St -> Prop) (Q : Exit -> Act -> World -> Prop) : Prop := ∀ e, zK6 B ν p w (K e) (Q (zYH e))
theorem zBL.later {p : Nat -> Prop} {K : zAW -> St -> Prop} {Q : Exit -> Act -> World -> Prop} (h : zBL B ν p w K Q) {ν' : Nat -> Pl} {w' : World}
    (ha : zb p ν ν') (hb : ze B w w') : zBL B ν' p w' K Q := fun e ν'' σ'' a'' w'' hl' ha' hs hb' hk => h e ν'' σ'' a'' w'' hl' (ha.trans ha' (fun _ h => h)) hs (hb.trans hb') hk
def zEZ (P : Program) (n0 : Nat) (c : Code) (f : St -> (zAW -> St -> Prop) -> Prop) : Prop :=
  ∀ B (p : Nat -> Prop) ν σ a w K Q, (∀ o, p o -> o < n0) -> (∀ o, p o -> Live σ.hp o) -> Sat B ν σ a w -> f σ K -> zBL B ν p w K Q -> c.wp P Q a w
theorem zCg {hp : List SObj} {o : Nat} (h : zWD hp o = true) : Live hp o := by
  unfold zWD at h
  split at h
  · rename_i x e; exact ⟨x, e, h⟩
  · simp at h
mutual
theorem zQs {hp : List SObj} : ∀ (v : SV), okSV hp v = true -> v.wf (Live hp)
  | .int _ _, _ => trivial
  | .bool _, _ => trivial
  | .str _, _ => trivial
  | .ptr o _, h => by simp only [okSV] at h; simp only [SV.wf]; exact zCg h
  | .nilp, _ => trivial
  | .slice o _ _ _, h => by simp only [okSV] at h; simp only [SV.wf]; exact zCg h
  | .nils, _ => trivial
  | .iface _ v, h => by simp only [okSV] at h; simp only [SV.wf]; exact zQs v h
  | .nili, _ => trivial
  | .agg vs, h => by simp only [okSV] at h; simp only [SV.wf]; exact zBo vs h
  | .tuple vs, h => by simp only [okSV] at h; simp only [SV.wf]; exact zBo vs h
  | .func _ a b, h => by simp only [okSV, Bool.and_eq_true] at h; simp only [SV.wf]; exact ⟨zBo a h.1, zBo b h.2⟩
  | .nilf, _ => trivial
  | .nilm, _ => trivial
  | .val _, _ => trivial
  | .strE _, _ => trivial
  | .ptrE _ o _ _ _, h => by simp only [okSV] at h; simp only [SV.wf]; exact zCg h
  | .sliceE _ o _ _ _ _, h => by simp only [okSV] at h; simp only [SV.wf]; exact zCg h
  | .mapv o, h => by simp only [okSV] at h; simp only [SV.wf]; exact zCg h
  | .sliceG o _ _ _, h => by simp only [okSV] at h; simp only [SV.wf]; exact zCg h
  | .gptr _ _, _ => trivial
theorem zBo {hp : List SObj} : ∀ (l : List SV), zEw hp l = true -> SV.wfL (Live hp) l
  | [], _ => trivial
  | v :: r, h => by simp only [zEw, Bool.and_eq_true] at h; exact ⟨zQs v h.1, zBo r h.2⟩
end
theorem zGb (n0 : Nat) (keep : List Nat) : ∀ (hp : List SObj) (i o : Nat) (x : SObj), (zD4 n0 keep i hp)[o]? = some x -> hp[o]? = some x ∨ x = .dead
  | [], _, _, _, h => by simp [zD4] at h
  | y :: r, i, o, x, h => by
    cases o with
    | zero =>
      simp only [zD4, List.getElem?_cons_zero, Option.some.injEq] at h ⊢
      split at h
      · exact .inl h
      · split at h
        · exact .inl h
        · exact .inr h.symm
    | succ o =>
      simp only [zD4, List.getElem?_cons_succ] at h ⊢
      exact zGb n0 keep r (i + 1) o x h
theorem zJg (n0 : Nat) (keep : List Nat) : ∀ (hp : List SObj) (i o : Nat), i + o < n0 -> (zD4 n0 keep i hp)[o]? = hp[o]?
  | [], _, _, _ => by simp [zD4]
  | y :: r, i, o, h => by
    cases o with
    | zero => simp only [zD4, List.getElem?_cons_zero]; rw [if_pos (by omega)]
    | succ o => simp only [zD4, List.getElem?_cons_succ]; exact zJg n0 keep r (i + 1) o (by omega)
theorem zUY {n0 : Nat} {K : St -> Prop} (h : Sat B ν σ a w) {p : Nat -> Prop} (hp0 : ∀ o, p o -> o < n0) (hpl : ∀ o, p o -> Live σ.hp o) (hx : gcK n0 σ K) : ∃ σ', Sat B ν σ' a w /\ K σ' /\ (∀ o, p o -> Live σ'.hp o) := by
  unfold gcK at hx
  rw [zAq] at hx
  split at hx
  · rename_i hc
    simp only [Bool.and_eq_true] at hc
    obtain ⟨c1, c2⟩ := hc
    refine ⟨{ σ with hp := zD4 n0 (zTD σ.hp 6 (zEO σ.tmps [])) 0 σ.hp }, ⟨h.tmps, zBo _ c1, h.defers, ⟨?_, ?_⟩, h.base⟩, hx, ?_⟩
    · intro o x ho
      rcases zGb _ _ _ _ _ _ ho with h1 | h1
      · have hox := h.hp.obj o x h1
        cases x with
        | dead => trivial
        | cells vs ty =>
          obtain ⟨o1, o2, _⟩ := hox
          exact ⟨o1, o2, zBo _ (List.all_eq_true.1 c2 _ (List.mem_of_getElem? ho))⟩
        | row own inp cols m => exact hox
        | husk => trivial
        | grown sz vs =>
          obtain ⟨o1, o2, _⟩ := hox
          exact ⟨o1, o2, zBo _ (List.all_eq_true.1 c2 _ (List.mem_of_getElem? ho))⟩
        | glob g vs => exact hox
        | map ks vs =>
          obtain ⟨o1, o2, _, _, o5⟩ := hox
          have hc := List.all_eq_true.1 c2 _ (List.mem_of_getElem? ho)
          simp only [zYS, Bool.and_eq_true] at hc
          exact ⟨o1, o2, zBo _ hc.1, zBo _ hc.2, o5⟩
      · subst h1; trivial
    · have back : ∀ o, zAc ν (zD4 n0 (zTD σ.hp 6 (zEO σ.tmps [])) 0 σ.hp) o -> zAc ν σ.hp o := fun o ho => by
        obtain ⟨x, hx, e⟩ := ho
        rcases zGb _ _ _ _ _ _ hx with h1 | h1
        · exact ⟨x, h1, e⟩
        · subst h1; simp [SObj.owns] at e
      exact fun o o' h1 h2 e => h.hp.apart o o' (back o h1) (back o' h2) e
    · intro o ho
      obtain ⟨x, hx, e⟩ := hpl o ho
      exact ⟨x, by rw [zJg _ _ _ _ _ (by have := hp0 o ho; omega)]; exact hx, e⟩
  · exact ⟨σ, h, hx, hpl⟩
theorem zIL {n0 : Nat} {c : Code} {f : St -> (zAW -> St -> Prop) -> Prop} (hf : zEZ P n0 c f) {K : zAW -> St -> Prop} {Q : Exit -> Act -> World -> Prop} {p : Nat -> Prop} (hp0 : ∀ o, p o -> o < n0) : ∀ (n : Nat) (σ : St) (ν : Nat -> Pl) (a : Act) (w : World), (∀ o, p o -> Live σ.hp o) -> Sat B ν σ a w ->
    zWA n0 f K n σ -> zBL B ν p w K Q -> Code.rounds P c Q n a w
  | 0, _, _, _, _, _, _, h, _ => nomatch h
  | n + 1, σ, ν, a, w, hl, hs, h, hn => by
    rw [rounds_succ]
    obtain ⟨σ1, s0, k0, l0⟩ := zUY hs hp0 hl h
    refine hf B p ν σ1 a w _ _ hp0 l0 s0 k0 ?_
    intro e ν' σ' a' w' l1 a1 s1 b1 k1
    cases e with
    | normal => exact zIL hf hp0 n σ' ν' a' w' l1 s1 k1 (hn.later a1 b1)
    | exit id => exact hn (.exit id) ν' σ' a' w' l1 a1 s1 b1 k1
    | ret => exact hn .ret ν' σ' a' w' l1 a1 s1 b1 k1
theorem zIK {n0 : Nat} {c : Code} {f : St -> (zAW -> St -> Prop) -> Prop} (hf : zEZ P n0 c f) {K : zAW -> St -> Prop} {Q : Exit -> Act -> World -> Prop} {p : Nat -> Prop} (hp0 : ∀ o, p o -> o < n0) : ∀ (n : Nat) (σ : St) (ν : Nat -> Pl) (a : Act) (w : World), (∀ o, p o -> Live σ.hp o) -> Sat B ν σ a w ->
    zV9 f K n σ -> zBL B ν p w K Q -> Code.rounds P c Q n a w
  | 0, _, _, _, _, _, _, h, _ => nomatch h
  | n + 1, σ, ν, a, w, hl, hs, h, hn => by
    rw [rounds_succ]
    refine hf B p ν σ a w _ _ hp0 hl hs h ?_
    intro e ν' σ' a' w' l1 a1 s1 b1 k1
    cases e with
    | normal => exact zIK hf hp0 n σ' ν' a' w' l1 s1 k1 (hn.later a1 b1)
    | exit id => exact hn (.exit id) ν' σ' a' w' l1 a1 s1 b1 k1
    | ret => exact hn .ret ν' σ' a' w' l1 a1 s1 b1 k1
theorem zIh (live : List Nat) (ν : Nat -> Pl) (u : Nat -> Value) : ∀ (l : List SV) (i : Nat), (∀ (k : Nat) (v : SV), l[k]? = some v -> u (i + k) = v.den ν) -> SV.denL ν (zFy live u i l) = SV.denL ν l
  | [], _, _ => rfl
  | v :: r, i, h => by
    have h0 := h 0 v rfl
    have hr := zIh live ν u r (i + 1) fun k w hk => by have := h (k + 1) w (by simpa using hk); rw [show i + (k + 1) = i + 1 + k by omega] at this; exact this
    unfold zFy
    simp only [SV.denL, hr]
    split
    · rfl
    · simp only [SV.den]; rw [<- h0]; simp
theorem zJC (live : List Nat) (u : Nat -> Value) {p : Nat -> Prop} : ∀ (l : List SV) (i : Nat), SV.wfL p l -> SV.wfL p (zFy live u i l)
  | [], _, _ => trivial
  | v :: r, i, h => by
    unfold zFy
    refine ⟨?_, zJC live u r (i + 1) h.2⟩
    split
    · exact h.1
    · trivial
theorem zHL (n0 : Nat) : ∀ (l : List SObj) (i o : Nat) (x : SObj), (zDQ n0 i l)[o]? = some x -> l[o]? = some x
  | [], _, _, _, h => by simp [zDQ] at h
  | y :: r, i, o, x, h => by
    unfold zDQ at h
    split at h
    · rename_i hr
      split at h
      · cases o with
        | zero => simpa using h
        | succ o => simp at h
      · cases y with
        | dead => simp at h
        | cells vs ty =>
          cases o with
          | zero => simpa using h
          | succ o => simp at h
        | row own inp cols m =>
          cases o with
          | zero => simpa using h
          | succ o => simp at h
        | husk =>
          cases o with
          | zero => simpa using h
          | succ o => simp at h
        | map ks vs =>
          cases o with
          | zero => simpa using h
          | succ o => simp at h
        | grown sz vs =>
          cases o with
          | zero => simpa using h
          | succ o => simp at h
        | glob sz vs =>
          cases o with
          | zero => simpa using h
          | succ o => simp at h
    · rename_i z l hr
      cases o with
      | zero => simpa using h
      | succ o =>
        have ih := zHL n0 r (i + 1) o x (by rw [hr]; simpa using h)
        simpa using ih
theorem zK8 (n0 : Nat) : ∀ (l : List SObj) (i o : Nat) (x : SObj), x.alive = true -> l[o]? = some x -> (zDQ n0 i l)[o]? = some x
  | [], _, _, _, _, h => by simp at h
  | y :: r, i, o, x, hx, h => by
    unfold zDQ
    cases o with
    | zero =>
      simp only [List.getElem?_cons_zero, Option.some.injEq] at h
      subst h
      split
      · split
        · simp
        · cases y <;> simp_all [SObj.alive]
      · simp
    | succ o =>
      have ih := zK8 n0 r (i + 1) o x hx (by simpa using h)
      split
      · rename_i hr
        rw [hr] at ih; simp at ih
      · rename_i z l hr
        rw [hr] at ih
        simpa using ih
theorem zOM {n0 : Nat} {live : List Nat} {K : St -> Prop} (h : Sat B ν σ a w) {p : Nat -> Prop} (hp0 : ∀ o, p o -> o < n0) (hpl : ∀ o, p o -> Live σ.hp o) (hx : zEx n0 live σ K) : ∃ σ', Sat B ν σ' a w /\ K σ' /\ (∀ o, p o -> Live σ'.hp o) := by
  have hx := hx (fun i => match σ.tmps[i]? with | some v => v.den ν | none => .nilIface)
  rw [zAq] at hx
  have s1 : Sat B ν { σ with tmps := zFy live (fun i => match σ.tmps[i]? with | some v => v.den ν | none => .nilIface) 0 σ.tmps } a w := by
    refine ⟨?_, zJC _ _ _ _ h.wf, h.defers, h.hp, h.base⟩
    rw [h.tmps]
    congr 1
    refine (zIh _ _ _ _ _ ?_).symm
    intro k v hk
    simp [hk]
  obtain ⟨σ2, s2, k2, l2⟩ := zUY s1 hp0 hpl hx
  rw [zAq] at k2
  have hlive : ∀ o, Live (zDQ n0 0 σ2.hp) o ↔ Live σ2.hp o := fun o => ⟨fun ⟨x, e, ha⟩ => ⟨x, zHL _ _ _ _ _ e, ha⟩, fun ⟨x, e, ha⟩ => ⟨x, zK8 _ _ _ _ _ ha e, ha⟩⟩
  have hfun : Live (zDQ n0 0 σ2.hp) = Live σ2.hp := funext fun o => propext (hlive o)
  refine ⟨{ σ2 with hp := zDQ n0 0 σ2.hp }, ⟨s2.tmps, ?_, s2.defers, ⟨?_, ?_⟩, s2.base⟩, k2, ?_⟩
  · show SV.wfL (Live (zDQ n0 0 σ2.hp)) σ2.tmps
    rw [hfun]; exact s2.wf
  · intro o x ho
    show zAN B ν (Live (zDQ n0 0 σ2.hp)) w o x
    rw [hfun]
    exact s2.hp.obj o x (zHL _ _ _ _ _ ho)
  · intro o o' h1 h2
    have back : ∀ o, zAc ν (zDQ n0 0 σ2.hp) o -> zAc ν σ2.hp o := fun o ⟨x, hx, e⟩ => ⟨x, zHL _ _ _ _ _ hx, e⟩
    exact s2.hp.apart o o' (back o h1) (back o' h2)
  · intro o ho
    exact (hlive o).2 (l2 o ho)
theorem zM3 {n0 : Nat} {c : Code} {f : St -> (zAW -> St -> Prop) -> Prop} (hf : zEZ P n0 c f) {K : zAW -> St -> Prop} {Q : Exit -> Act -> World -> Prop} {p : Nat -> Prop} (hp0 : ∀ o, p o -> o < n0) {σ : St} (hl : ∀ o, p o -> Live σ.hp o) (hs : Sat B ν σ a w)
    (h : zYd n0 f K σ) (hn : zBL B ν p w K Q) : (Code.loop c).wp P Q a w := by
  obtain ⟨live, I, μ, h0, hr⟩ := h
  have key : ∀ (m : Nat) (σ : St) (ν : Nat -> Pl) (a : Act) (w : World), (∀ o, p o -> Live σ.hp o) -> Sat B ν σ a w -> I σ -> μ σ < m -> zBL B ν p w K Q -> Code.rounds P c Q m a w := by
    intro m
    induction m with
    | zero => intro σ ν a w _ _ _ hlt; exact absurd hlt (by omega)
    | succ m ih =>
      intro σ ν a w hl hs h0 hlt hn
      rw [rounds_succ]
      refine hf B p ν σ a w _ _ hp0 hl hs (hr σ h0) ?_
      intro e ν' σ' a' w' l1 a1 s1 b1 k1
      cases e with
      | normal =>
        obtain ⟨σ3, s3, k3, l3⟩ := zOM (live := live) (K := fun σ3 => I σ3 /\ μ σ3 < μ σ) s1 hp0 l1 k1
        exact ih σ3 ν' a' w' l3 s3 k3.1 (by have := k3.2; omega) (hn.later a1 b1)
      | exit id => exact hn (.exit id) ν' σ' a' w' l1 a1 s1 b1 k1
      | ret => exact hn .ret ν' σ' a' w' l1 a1 s1 b1 k1
  obtain ⟨σ1, s1, k1, l1⟩ := zOM hs hp0 hl h0
  exact wp_loop_rounds _ (key _ σ1 ν a w l1 s1 k1 (Nat.lt_succ_self _) hn)
theorem zM4 {n0 : Nat} {c : Code} {f : St -> (zAW -> St -> Prop) -> Prop} (hf : zEZ P n0 c f) {K : zAW -> St -> Prop} {Q : Exit -> Act -> World -> Prop} {p : Nat -> Prop} (hp0 : ∀ o, p o -> o < n0) {σ : St} (hl : ∀ o, p o -> Live σ.hp o) (hs : Sat B ν σ a w)
    (h : zYe n0 f K σ) (hn : zBL B ν p w K Q) : (Code.loop c).wp P Q a w := by
  obtain ⟨α, slots, hp, inv, μ, ⟨x0, i0, s0⟩, hr⟩ := h
  have key : ∀ (m : Nat) (x : α) (u : Nat -> Value) (ν : Nat -> Pl) (a : Act) (w : World), (∀ o, p o -> Live (hp x) o) -> Sat B ν { tmps := zF0 (slots x) u 0 σ.tmps.length, hp := hp x } a w -> inv x -> μ x < m -> zBL B ν p w K Q -> Code.rounds P c Q m a w := by
    intro m
    induction m with
    | zero => intro x u ν a w _ _ _ hlt; exact absurd hlt (by omega)
    | succ m ih =>
      intro x u ν a w hl hs h0 hlt hn
      rw [rounds_succ]
      refine hf B p ν _ a w _ _ hp0 hl hs (hr u x h0) ?_
      intro e ν' σ' a' w' l1 a1 s1 b1 k1
      cases e with
      | normal =>
        obtain ⟨x', i', m', k'⟩ := k1
        obtain ⟨u', ν'', s3, a3, l3⟩ := zCm s1 k' hp0 l1
        exact ih x' u' ν'' a' w' l3 s3 i' (by omega) ((hn.later a1 b1).later a3 (ze.refl _ _))
      | exit id => exact hn (.exit id) ν' σ' a' w' l1 a1 s1 b1 k1
      | ret => exact hn .ret ν' σ' a' w' l1 a1 s1 b1 k1
  obtain ⟨u', ν'', s3, a3, l3⟩ := zCm hs s0 hp0 hl
  exact wp_loop_rounds _ (key _ x0 u' ν'' a w l3 s3 i0 (Nat.lt_succ_self _) (hn.later a3 (ze.refl _ _)))
theorem zRE {n0 : Nat} {A : Ann} {f : St -> (zAW -> St -> Prop) -> Prop} {K : zAW -> St -> Prop} {σ : St} (h : zWB n0 A f K σ) : zWC n0 A f K σ := by
  cases A; exact h
def zMP (P : Program) (c : Code) (Q : Exit -> Act -> World -> Prop) (a : Act) (w : World) : Prop :=
  ∀ (b : Frame) (k : List Item) (cs : List Frame), ∃ e a' w', Q e a' w' /\ Arrives P (lone (b.at a (.code c :: .inLoop c :: k)) cs w) b k cs e a' w'
theorem zIT {c : Code} {Q : Exit -> Act -> World -> Prop} (h : c.wp P (Exit.then (zMP P c Q) Q) a w) : zMP P c Q a w := by
  intro b k cs
  obtain ⟨e, a1, w1, hq, harr⟩ := h b (.inLoop c :: k) cs
  cases e with
  | normal =>
    obtain ⟨e2, a2, w2, hq2, harr2⟩ := hq b k cs
    exact ⟨e2, a2, w2, hq2, .of_steps (Steps.trans harr (.one step_inLoop)) harr2⟩
  | exit id => exact ⟨_, a1, w1, hq, .pass (x := .inLoop c) rfl (fun _ _ => .inl (by simp)) harr⟩
  | goto l => exact ⟨_, a1, w1, hq, .pass (x := .inLoop c) rfl (fun _ _ => .inl (by simp)) harr⟩
  | ret => exact ⟨_, a1, w1, hq, .pass (x := .inLoop c) rfl (fun _ _ => .inl (by simp)) harr⟩
  | panic ch => exact ⟨_, a1, w1, hq, .pass (x := .inLoop c) rfl (fun _ _ => .inl (by simp)) harr⟩
  | outgrown => exact ⟨_, a1, w1, hq, .pass (x := .inLoop c) rfl (fun _ _ => .inl (by simp)) harr⟩
theorem zFw {c : Code} {Q : Exit -> Act -> World -> Prop} : ∀ (n : Nat) {a : Act} {w : World}, Code.rounds P c Q n a w -> zMP P c Q a w
  | 0, _, _, h => h.elim
  | n + 1, a, w, h => zIT (wp_mono h fun e a' w' hq => by cases e <;> first | exact zFw n hq | exact hq)
theorem zGj {c : Code} {Q : Exit -> Act -> World -> Prop} (h : zMP P c Q a w) : (Code.loop c).wp P Q a w := by
  intro b k cs
  obtain ⟨e, a', w', hq, harr⟩ := h b k cs
  exact ⟨e, a', w', hq, .of_steps (.one step_loop) harr⟩
theorem zOE {n0 : Nat} {A : Ann} {c : Code} {f : St -> (zAW -> St -> Prop) -> Prop} (hf : zEZ P n0 c f) {K : zAW -> St -> Prop} {Q : Exit -> Act -> World -> Prop} {p : Nat -> Prop} (hp0 : ∀ o, p o -> o < n0) {σ : St} (hl : ∀ o, p o -> Live σ.hp o) (hs : Sat B ν σ a w)
    (h : zTT n0 A f K σ) (hn : zBL B ν p w K Q) : zMP P c Q a w := by
  obtain ⟨⟨x0, i0, s0⟩, hr, hX⟩ := h
  have key : ∀ (m : Nat) (x : A.α) (u : Nat -> Value) (ν : Nat -> Pl) (a : Act) (w : World), (∀ o, p o -> Live (A.hp x) o) -> Sat B ν { tmps := zF0 (A.slots x) u 0 σ.tmps.length, hp := A.hp x } a w -> A.inv x -> A.μ x < m -> zBL B ν p w K Q -> Code.rounds P c Q m a w := by
    intro m
    induction m with
    | zero => intro x u ν a w _ _ _ hlt; exact absurd hlt (by omega)
    | succ m ih =>
      intro x u ν a w hl hs h0 hlt hn
      rw [rounds_succ]
      refine hf B p ν _ a w _ _ hp0 hl hs (hr u x h0) ?_
      intro e ν' σ' a' w' l1 a1 s1 b1 k1
      cases e with
      | normal =>
        obtain ⟨x', i', m', k'⟩ := k1
        obtain ⟨u', ν'', s3, a3, l3⟩ := zCm s1 k' hp0 l1
        exact ih x' u' ν'' a' w' l3 s3 i' (by omega) ((hn.later a1 b1).later a3 (ze.refl _ _))
      | exit id =>
        simp only [zD7] at k1
        split at k1
        · rename_i hid
          obtain ⟨b, ib, k'⟩ := k1
          obtain ⟨u', ν'', s3, a3, l3⟩ := zCm s1 k' hp0 l1
          subst hid
          exact ((hn.later a1 b1).later a3 (ze.refl _ _)) (.exit A.exit) ν'' _ a' w' l3 (zb.refl _ _) s3 (ze.refl _ _) (hX u' b ib)
        · exact hn (.exit id) ν' σ' a' w' l1 a1 s1 b1 k1
      | ret => exact hn .ret ν' σ' a' w' l1 a1 s1 b1 k1
  obtain ⟨u', ν'', s3, a3, l3⟩ := zCm hs s0 hp0 hl
  exact zFw _ (key _ x0 u' ν'' a w l3 s3 i0 (Nat.lt_succ_self _) (hn.later a3 (ze.refl _ _)))
theorem zFM {n0 : Nat} {A : Ann} {c : Code} {f : St -> (zAW -> St -> Prop) -> Prop} (hf : zEZ P n0 c f) {K : zAW -> St -> Prop} {Q : Exit -> Act -> World -> Prop} {p : Nat -> Prop} (hp0 : ∀ o, p o -> o < n0) {σ : St} (hl : ∀ o, p o -> Live σ.hp o) (hs : Sat B ν σ a w)
    (h : zTT n0 A f K σ) (hn : zBL B ν p w K Q) : (Code.loop c).wp P Q a w :=
  zGj (zOE hf hp0 hl hs h hn)
theorem zAH (hΓ : zO P Γ) (un : Nat -> Plan) (n0 : Nat) : ∀ (c : Code) (bid : Nat), zEZ P n0 c (fun σ K => zAP P Γ un n0 c bid σ K)
  | .skip, bid => fun B p ν σ a w K Q _ hl hs h hn => wp_skip (hn .normal ν σ a w hl (zb.refl _ _) hs (ze.refl _ _) (by simpa [zAP] using h))
  | .label l, bid => fun B p ν σ a w K Q _ hl hs h hn => wp_label (hn .normal ν σ a w hl (zb.refl _ _) hs (ze.refl _ _) (by simpa [zAP] using h))
  | .region id ops draw, bid => fun B p ν σ a w K Q _ hl hs h hn => by
    simp only [zAP] at h
    cases draw with
    | true => simp only [if_true] at h; exact zPb (ops := ops.toList) hΓ hs h ((hn .normal).plain hl)
    | false =>
      simp only [Bool.false_eq_true, if_false] at h
      exact wp_region_list (zFq hΓ ops.toList σ ν a w hs h ((hn .normal).plain hl))
  | .seq x y, bid => fun B p ν σ a w K Q hp0 hl hs h hn => by
    simp only [zAP] at h
    refine wp_seq (zAH hΓ un n0 x bid B p ν σ a w _ _ hp0 hl hs h ?_)
    intro e ν' σ' a' w' l1 a1 s1 b1 k1
    cases e with
    | normal => exact zAH hΓ un n0 y bid B p ν' σ' a' w' _ _ hp0 l1 s1 k1 (hn.later a1 b1)
    | exit id => exact hn (.exit id) ν' σ' a' w' l1 a1 s1 b1 k1
    | ret => exact hn .ret ν' σ' a' w' l1 a1 s1 b1 k1
  | .cond c x y, bid => fun B p ν σ a w K Q hp0 hl hs h hn => by
    simp only [zAP] at h
    split at h
    · rename_i e he
      obtain ⟨e1, _⟩ := zB hs.t he
      obtain ⟨h1, h2⟩ := zGI h
      exact wp_cond_split (t := e.den) e1
        (fun ht => zAH hΓ un n0 x bid B p ν _ a w _ _ hp0 (by rw [zBg]; exact hl) (zCT hs he ht) (h1 ht) hn)
        (fun ht => zAH hΓ un n0 y bid B p ν _ a w _ _ hp0 (by rw [zBg]; exact hl) (zCT hs he ht) (h2 ht) hn)
    · exact h.elim
  | .block id c, bid => fun B p ν σ a w K Q hp0 hl hs h hn => by
    simp only [zAP] at h
    refine wp_block (zAH hΓ un n0 c id B p ν σ a w _ _ hp0 hl hs h ?_)
    intro e ν' σ' a' w' l1 a1 s1 b1 k1
    cases e with
    | normal => exact hn .normal ν' σ' a' w' l1 a1 s1 b1 k1
    | exit i =>
      simp only [zKp] at k1
      simp only [zYH, Exit.inBlock]
      split
      · rename_i hi; rw [if_pos hi] at k1; exact hn .normal ν' σ' a' w' l1 a1 s1 b1 k1
      · rename_i hi; rw [if_neg hi] at k1; exact hn (.exit i) ν' σ' a' w' l1 a1 s1 b1 k1
    | ret => exact hn .ret ν' σ' a' w' l1 a1 s1 b1 k1
  | .loop c, bid => fun B p ν σ a w K Q hp0 hl hs h hn => by
    simp only [zAP] at h
    split at h
    · exact zFM (zAH hΓ un n0 c bid) hp0 hl hs h hn
    · obtain ⟨inv, μ, h⟩ := h
      exact zFM (zAH hΓ un n0 c bid) hp0 hl hs h hn
    · obtain ⟨inv, μ, h⟩ := zRE h
      exact zFM (zAH hΓ un n0 c bid) hp0 hl hs h hn
    · refine zGj (zIT (zAH hΓ un n0 c bid B p ν σ a w _ _ hp0 hl hs h ?_))
      intro e ν' σ' a' w' l1 a1 s1 b1 k1
      cases e with
      | normal =>
        obtain ⟨inv, μ, k2⟩ := zRE k1
        exact zOE (zAH hΓ un n0 c bid) hp0 l1 s1 k2 (hn.later a1 b1)
      | exit id => exact hn (.exit id) ν' σ' a' w' l1 a1 s1 b1 k1
      | ret => exact hn .ret ν' σ' a' w' l1 a1 s1 b1 k1
    · exact wp_loop_rounds _ (zIK (zAH hΓ un n0 c bid) hp0 _ σ ν a w hl hs h hn)
    split at h
    · exact zM4 (zAH hΓ un n0 c bid) hp0 hl hs h hn
    split at h
    · exact zM3 (zAH hΓ un n0 c bid) hp0 hl hs h hn
    · exact wp_loop_rounds _ (zIL (zAH hΓ un n0 c bid) hp0 _ σ ν a w hl hs h hn)
  | .exit id, bid => fun B p ν σ a w K Q _ hl hs h hn => wp_exit (hn (.exit id) ν σ a w hl (zb.refl _ _) hs (ze.refl _ _) (by simpa [zAP] using h))
  | .ret, bid => fun B p ν σ a w K Q _ hl hs h hn => wp_ret (hn .ret ν σ a w hl (zb.refl _ _) hs (ze.refl _ _) (by simpa [zAP] using h))
  | .goto l, bid => fun B p ν σ a w K Q _ hl hs h hn => by simp only [zAP] at h; exact nomatch h
  | .scope c, bid => fun B p ν σ a w K Q hp0 hl hs h hn => by
    simp only [zAP] at h
    refine wp_scope_straight (zAH hΓ un n0 c bid B p ν σ a w _ _ hp0 hl hs h ?_)
    intro e
    cases e with
    | normal => exact hn .normal
    | exit i => exact hn (.exit i)
    | ret => exact hn .ret
  | .rangeFunc .., bid => fun B p ν σ a w K Q _ hl hs h hn => by simp only [zAP] at h; exact nomatch h
  | .refuse _, bid => fun B p ν σ a w K Q _ hl hs h hn => by simp only [zAP] at h; exact nomatch h
def res1 (tmps : Array Value) : ResultVar -> Sem Value
  | .tmp t => pure (tmps.getD t undef)
  | .cell q t => do loadVar t (<- asAddr (tmps.getD q undef))
theorem zKQ (hs : Sat B ν σ a w) {r : ResultVar} {v : SV} (h : zFd P σ r = some v) :
    (res1 a.tmps r).run P w = .ok (v.den ν) w /\ v.wf (Live σ.hp) := by
  cases r with
  | tmp t =>
    simp only [zFd] at h
    obtain ⟨h1, h2⟩ := zD9 hs.t h
    exact ⟨by simp [res1, Array.getD_eq_getD_getElem?, h1, Sem.run, pure], h2⟩
  | cell q t =>
    simp only [zFd] at h
    split at h
    · rename_i o off hq
      obtain ⟨h1, _⟩ := zD9 hs.t hq
      obtain ⟨l1, l2⟩ := zFN hs.hp h
      refine ⟨?_, l2⟩
      have e1 : a.tmps.getD q undef = .pointer (some ⟨(ν o).blk, off, none⟩) := by simp [Array.getD_eq_getD_getElem?, h1, SV.den]
      show (Sem.run P (do loadVar t (<- asAddr (a.tmps.getD q undef))) w) = _
      rw [e1, Sem.run_bind]
      simp only [asAddr, Sem.run, pure, Result.andThen]
      exact l1
    · simp at h
theorem zGq (hs : Sat B ν σ a w) : ∀ {l : List ResultVar} {vs : List SV}, zBh P σ l = some vs ->
    (l.mapM (res1 a.tmps)).run P w = .ok (SV.denL ν vs) w /\ SV.wfL (Live σ.hp) vs
  | [], vs, h => by simp [zBh] at h; subst h; simp [Sem.run, pure, SV.denL, SV.wfL]
  | r :: rest, vs, h => by
    unfold zBh at h
    split at h
    · rename_i v l h1 h2
      simp only [Option.some.injEq] at h; subst h
      obtain ⟨a1, a2⟩ := zKQ hs h1
      obtain ⟨b1, b2⟩ := zGq hs h2
      refine ⟨?_, a2, b2⟩
      rw [List.mapM_cons, Sem.run_bind, a1]
      simp only [Result.andThen]
      rw [Sem.run_bind, b1]
      rfl
    · simp at h
theorem zKP (hs : Sat B ν σ a w) {fn : Func} {vs : List SV} (h : zBh P σ fn.results.toList = some vs) :
    (results fn a.tmps).run P w = .ok ((zD1 vs).den ν) w /\ (zD1 vs).wf (Live σ.hp) := by
  obtain ⟨h1, h2⟩ := zGq hs h
  have h3 : (fn.results.mapM (res1 a.tmps)).run P w = .ok (SV.denL ν vs).toArray w := by
    rw [Array.mapM_eq_mapM_toList, Sem.run_map, h1]; rfl
  refine ⟨?_, ?_⟩
  · unfold results
    rw [Sem.run_bind]
    refine (congrArg (fun r => Result.andThen r _) h3).trans ?_
    simp only [Result.andThen]
    match vs with
    | [] => simp [zD1, SV.den, SV.denL, Sem.run, pure]
    | [v] => simp [zD1, SV.den, SV.denL, Sem.run, pure]
    | u :: v :: r => simp [zD1, SV.den, SV.denL, Sem.run, pure]
  · match vs, h2 with
    | [], _ => simp [zD1, SV.wf, SV.wfL]
    | [v], h => simpa [zD1, SV.wfL] using h
    | u :: v :: r, h => simpa [zD1, SV.wf] using h
theorem zN (hΓ : zO P Γ) {un : Nat -> Plan} {f : FuncId} {fn : Func} (hf : P.funcs[f]? = some fn) : zZ P f (zH P Γ un fn) := by
  intro B ν hp w args K hs hB hw hx
  unfold zH at hx
  split at hx
  · rename_i c hb
    rw [zAq] at hx
    refine calls_of_wp hf hb ?_
    have hs0 : Sat B ν { tmps := args ++ List.replicate (fn.ntmps - args.length) SV.undef, hp := hp } { tmps := (SV.denL ν args).toArray ++ Array.replicate (fn.ntmps - (SV.denL ν args).toArray.size) undef, defers := [] } w := by
      refine ⟨?_, ?_, rfl, hs, hB⟩
      · apply Array.ext'
        simp [zX, SV.undef, SV.den, SV.denL, undef]
      · refine zBF hw ?_
        rw [zz]
        intro v hv
        rw [List.mem_replicate] at hv
        rw [hv.2]; simp [SV.undef, SV.wf, SV.wfL]
    refine zAH hΓ un hp.length c 0 B (Live hp) ν _ _ w _ _ (fun o ho => zEM ho) (fun _ h => h) hs0 hx ?_
    intro e ν' σ' a' w' l1 a1 s1 b1 k1
    have fin : ∀ vs, zBh P σ' fn.results.toList = some vs -> K (zD1 vs) σ'.hp -> a'.defers = [] /\ ∃ v, (results fn a'.tmps).run P w' = .ok v w' /\ zSM B ν hp w K (.returned v) w' := by
      intro vs hv hk
      obtain ⟨r1, r2⟩ := zKP s1 hv
      exact ⟨s1.defers, _, r1, ν', _, _, l1, a1, rfl, r2, s1.hp, b1, hk⟩
    cases e with
    | exit id => exact k1.elim
    | normal =>
      simp only at k1
      split at k1
      · rename_i vs hv; exact fin vs hv k1
      · exact k1.elim
    | ret =>
      simp only at k1
      split at k1
      · rename_i vs hv; exact fin vs hv k1
      · exact k1.elim
  · exact hx.elim
theorem zAh {un : FuncId -> Nat -> Plan} {T : FuncId -> Option Cal} (hT : zO P T) : ∀ d, zO P (inl P un T d)
  | 0 => fun g s h => by simp [inl] at h
  | d + 1 => fun g s h => by
    unfold inl at h
    split at h
    · rename_i s' hs
      simp only [Option.some.injEq] at h; subst h
      exact hT g s' hs
    · split at h
      · rename_i fn hf
        simp only [Option.some.injEq] at h; subst h
        exact (zN (zAh hT d) hf : zZ P g _)
      · simp at h
theorem zJw : ∀ {l : List (FuncId × Cal)}, (∀ p ∈ l, zNN P p.1 p.2) -> zO P (zx l)
  | [], _ => fun g s h => by simp [zx] at h
  | (f, s) :: r, hl => fun g s' h => by
    unfold zx at h
    split at h
    · rename_i hg
      simp only [Option.some.injEq] at h; subst h; subst hg
      exact hl (g, s) (List.mem_cons_self ..)
    · exact zJw (fun p hp => hl p (List.mem_cons_of_mem _ hp)) g s' h
theorem none_ok : zO P (fun _ => none) := fun g s h => by simp at h
theorem zF7 {f : FuncId} {s : zl} (hs : zZ P f s) {args : List SV} (hw : SV.wfL (fun _ => False) args) {K : SV -> List SObj -> Prop} (hx : s args [] K) (w : World) :
    Calls P f (SV.denL nu0 args).toArray w fun e w' => ∃ ν v hp, e = .returned (v.den ν) /\ z6 (fun b => b < w.heap.size) ν hp w' /\ Below w.heap.size w w' /\ K v hp := by
  have h0 : z6 (fun b => b < w.heap.size) nu0 [] w := ⟨fun o x h => by simp at h, fun o o' h => by obtain ⟨_, h, _⟩ := h; simp at h⟩
  refine (hs (fun b => b < w.heap.size) nu0 [] w args K h0 (fun _ h => h) (zj (fun _ h => h.elim) _ hw) hx).mono ?_
  rintro e w' ⟨ν', v, hp', _, _, he, _, hsat, hb, hk⟩
  exact ⟨ν', v, hp', he, hsat, hb.below, hk⟩
theorem zIn {f : FuncId} {s : zl} (hs : zZ P f s) {args : List SV} (hw : SV.wfL (fun _ => False) args) {V : Value} (hx : s args [] fun v _ => ∀ ν, v.den ν = V) (w : World) :
    Calls P f (SV.denL nu0 args).toArray w fun e w' => e = .returned V /\ Below w.heap.size w w' := by
  refine (zF7 hs hw hx w).mono ?_
  rintro e w' ⟨ν, v, hp, rfl, _, hb, hv⟩
  exact ⟨by rw [hv ν], hb⟩
theorem zBO {f : FuncId} {s : zl} (hs : zZ P f s) {F : zBN}
    (h : ∀ args p v, F args = some (p, v) -> zAJ p -> ∃ args', SV.denL nu0 args' = SV.denL nu0 args /\ SV.wfL (fun _ => False) args /\ SV.wfL (fun _ => False) args' /\ v.wf (fun _ => False) /\
      s args' [] (fun v' _ => ∀ ν, v'.den ν = v.den ν)) : zAr P f F := by
  intro args p v hF hp
  obtain ⟨args', e, w0, w1, w2, h3⟩ := h args p v hF hp
  refine ⟨w0, w2, fun w => ?_⟩
  rw [<- e]
  refine (zF7 hs w1 h3 w).mono ?_
  rintro e w' ⟨ν', v', hp'', rfl, _, hb, hv⟩
  exact ⟨by rw [hv ν', zGH nu0 ν' w2], hb⟩
end
end Go.Proofs.YtajcmjjgnbaahaaGreat.Sx
