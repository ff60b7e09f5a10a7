/- Symbolic execution is sound: operations, code, calls. -/
import Derived.Test.YtiljkmcahkphiaaSx2
import Derived.Laws.CopyOwn
import Derived.LoopN
namespace Go.Proofs.Ytiljkmcahkphiaa.Sx
open Go
set_option linter.unusedVariables false
set_option linter.unusedSimpArgs false

theorem putCells_eq : ∀ (cs vs : List SV) (off : Nat), off + cs.length ≤ vs.length → putCells vs off cs = vs.take off ++ cs ++ vs.drop (off + cs.length)
  | [], vs, off, h => by simp [putCells]
  | c :: r, vs, off, h => by
    simp only [List.length_cons] at h
    rw [putCells, putCells_eq r _ (off + 1) (by rw [setAt_length]; omega), setAt_set]
    have h1 : off < vs.length := by omega
    rw [List.take_set, List.take_succ_eq_append_getElem h1, List.set_append_right (h := by simp; omega)]
    simp only [List.length_take, Nat.min_eq_left (Nat.le_of_lt h1), Nat.sub_self, List.set_cons_zero, List.append_assoc, List.singleton_append, List.length_cons, List.append_cancel_left_eq,
      List.cons_append, List.nil_append, List.cons.injEq, true_and]
    rw [show off + 1 + r.length = off + (r.length + 1) from by omega, List.drop_set_of_lt (by omega)]
theorem putCells_length : ∀ (cs vs : List SV) (off : Nat), (putCells vs off cs).length = vs.length
  | [], vs, off => rfl
  | c :: r, vs, off => by rw [putCells, putCells_length r, setAt_length]
theorem putCells_wf {n : Nat → Prop} : ∀ (cs vs : List SV) (off : Nat), SV.wfL n cs → SV.wfL n vs → SV.wfL n (putCells vs off cs)
  | [], vs, off, _, h => h
  | c :: r, vs, off, hc, h => by
    simp only [SV.wfL] at hc
    rw [putCells]
    refine putCells_wf r _ _ hc.2 ?_
    rw [setAt_set]; rw [wfL_iff] at *
    intro x hx
    rcases List.mem_or_eq_of_mem_set hx with h1 | h1
    · exact h x h1
    · exact h1 ▸ hc.1
theorem putCells_all {p : SV → Bool} : ∀ (cs vs : List SV) (off : Nat), cs.all p = true → vs.all p = true → (putCells vs off cs).all p = true
  | [], vs, off, _, h => h
  | c :: r, vs, off, hc, h => by
    simp only [List.all_cons, Bool.and_eq_true] at hc
    rw [putCells]
    refine putCells_all r _ _ hc.2 ?_
    rw [setAt_set]; rw [List.all_eq_true] at *
    intro x hx
    rcases List.mem_or_eq_of_mem_set hx with h1 | h1
    · exact h x h1
    · exact h1 ▸ hc.1

theorem foldl_put (ν : Nat → Nat) (off : Nat) : ∀ (l : List SV) (k : Nat) (vs : List SV),
    ((SV.denL ν l).zipIdx k).foldl (fun cs (x : Value × Nat) => cs.setIfInBounds (off + x.2) x.1) (SV.denL ν vs).toArray = (SV.denL ν (putCells vs (off + k) l)).toArray
  | [], k, vs => by simp [SV.denL, putCells]
  | c :: r, k, vs => by
    simp only [SV.denL, List.zipIdx_cons, List.foldl_cons, putCells]
    have e : ((SV.denL ν vs).toArray.setIfInBounds (off + k) (c.den ν)) = (SV.denL ν (setAt vs (off + k) c)).toArray := by
      simp [denL_map, setAt_set]
    rw [e, foldl_put ν off r (k + 1)]
    rfl

theorem fillC_sound (ν : Nat → Nat) {n : Nat → Prop} (place place' : Nat → Option (Nat × Nat)) (hpl : ∀ i p, place i = some p → place' i = some p) : ∀ (l : List (Nat × SV)) (vs cs : List SV), fillC place vs l = some cs →
    (∀ p ∈ l, p.2.wf n) → SV.wfL n vs →
    Instr.fill place' (SV.denL ν vs).toArray (l.map fun p => (p.1, p.2.den ν)) = some (SV.denL ν cs).toArray ∧ SV.wfL n cs ∧ cs.length = vs.length
  | [], vs, cs, h, _, hv => by simp [fillC] at h; subst h; simp [Instr.fill, hv]
  | (i, v) :: r, vs, cs, h, hl, hv => by
    unfold fillC at h
    split at h
    · simp at h
    · rename_i off size hp
      split at h
      · rename_i hc
        obtain ⟨a1, a2, a3⟩ := fillC_sound ν place place' hpl r _ cs h (fun p hp => hl p (List.mem_cons_of_mem _ hp)) (putCells_wf _ _ _ (wf_cells (hl (i, v) (List.mem_cons_self ..))) hv)
        refine ⟨?_, a2, by rw [a3, putCells_length]⟩
        simp only [List.map_cons, Instr.fill, hpl _ _ hp]
        have e1 : (v.den ν).cells.size = size := by rw [cells_den]; simp [denL_length, hc.1]
        have e2 : ¬ (off + (v.den ν).cells.size > (SV.denL ν vs).toArray.size) := by rw [e1]; simp only [List.size_toArray, denL_length]; have := hc.2; omega
        have e3 : ((v.den ν).cells.size ≠ size || decide (off + (v.den ν).cells.size > (SV.denL ν vs).toArray.size)) = false := by
          simp [e1]; have := hc.2; simp only [denL_length]; omega
        rw [if_neg (by rw [e3]; simp)]
        have e4 := foldl_put ν off v.cells 0 vs
        rw [Nat.add_zero] at e4
        rw [cells_den]
        have e5 : Array.foldl (fun cs (x : Value × Nat) => cs.setIfInBounds (off + x.2) x.1) (SV.denL ν vs).toArray ((SV.denL ν v.cells).toArray.zipIdx) = (SV.denL ν (putCells vs off v.cells)).toArray := by
          rw [← Array.foldl_toList, Array.toList_zipIdx]; exact e4
        rw [← e5] at a1
        exact a1
      · simp at h

section
variable {P : Program} {B : Nat} {n : Nat → Prop} {ν : Nat → Nat} {σ : St} {a : Act} {w : World}

theorem loadC_at {hp : List SObj} {t : TypeId} {o off : Nat} {v : SV} (hl : loadC P hp t o off = some v)
    (hb : ∀ vs ty, hp[o]? = some (.cells vs ty) → w.heap[ν o]? = some (.cells (SV.denL ν vs).toArray ty (0, 0)) ∧ SV.wfL n vs) :
    (loadVar t ⟨ν o, off, none⟩).run P w = .ok (v.den ν) w ∧ v.wf n := by
  unfold loadC at hl
  split at hl
  · rename_i vs ty d i ho hd hi
    have ha := run_isAgg (P := P) w hd
    obtain ⟨hb, hw⟩ := hb _ _ ho
    have hcell : ∀ i v, vs[i]? = some v → w.cell? ⟨ν o, i, none⟩ = some (v.den ν) := fun i v hv => by simp [World.cell?, hb, denL_map, hv]
    by_cases hg : isAggT P t = true
    · rw [if_pos hg] at hl
      rw [hg] at ha
      split at hl
      · rename_i hlen
        simp only [Option.some.injEq] at hl; subst hl
        refine ⟨?_, ?_⟩
        · have hc := run_loadCells_list (P := P) w ⟨ν o, off, none⟩ (SV.denL ν ((vs.drop off).take i.size)) (fun j u hu => by
            rw [add_addr]
            simp only [denL_map, List.getElem?_map, Option.map_eq_some_iff] at hu
            obtain ⟨s, hs, rfl⟩ := hu
            refine hcell _ _ ?_
            rw [List.getElem?_take] at hs
            split at hs
            · rwa [List.getElem?_drop] at hs
            · simp at hs)
          have e : (SV.denL ν ((vs.drop off).take i.size)).length = i.size := by simp [denL_length]; omega
          rw [e] at hc
          simp [loadVar, ha, sizeOf, typeInfo, program, hi, hc, SV.den, Sem.run, pure]
        · simp only [SV.wf]
          rw [wfL_iff] at *
          intro y hy
          exact hw y (List.mem_of_mem_drop (List.mem_of_mem_take hy))
      · simp at hl
    · rw [if_neg hg] at hl
      simp only [Bool.not_eq_true] at hg
      rw [hg] at ha
      have hc := hcell _ _ hl
      refine ⟨?_, (wfL_iff _ _).1 hw v (List.mem_of_getElem? hl)⟩
      simp [loadVar, ha, load, Sem.run, hc, pure]
  · simp at hl

theorem loadC_sound {hp : List SObj} (h : SatHp B ν hp w) {t : TypeId} {o off : Nat} {v : SV} (hl : loadC P hp t o off = some v) :
    (loadVar t ⟨ν o, off, none⟩).run P w = .ok (v.den ν) w ∧ v.wf (Live hp) :=
  loadC_at hl fun vs ty ho => by obtain ⟨_, hb, hw⟩ := h.obj o _ ho; exact ⟨hb, hw⟩

theorem run_places : ∀ {l : List Field} {q : List (Nat × Nat)}, placesC P l = some q → (l.mapM fun f => (do pure (f.offset, ← sizeOf f.type) : Sem (Nat × Nat))).run P w = .ok q w
  | [], q, h => by simp [placesC] at h; subst h; simp [Sem.run, pure]
  | f :: r, q, h => by
    unfold placesC at h
    split at h
    · rename_i i l hi hl
      simp only [Option.some.injEq] at h; subst h
      have ih := run_places hl
      rw [List.mapM_cons, Sem.run_bind, Sem.run_bind]
      have : (sizeOf f.type).run P w = .ok i.size w := by simp [sizeOf, typeInfo, program, hi, Sem.run, pure]
      rw [this]
      show (Sem.run P (do let l_ ← List.mapM (fun f => (do pure (f.offset, ← sizeOf f.type) : Sem (Nat × Nat))) r; pure ((f.offset, i.size) :: l_)) w) = _
      rw [Sem.run_bind, ih]
      rfl
    · simp at h

theorem sxVal_soundT (h : TSat ν n σ a) (hld : ∀ t o off v, loadC P σ.hp t o off = some v → (loadVar t ⟨ν o, off, none⟩).run P w = .ok (v.den ν) w ∧ v.wf n)
    {o : Oper} {p : Option BE} {v : SV} (hv : sxVal P σ o.op = some (p, v)) (hp : Holds p) :
    (execOp a.eval o).run P w = .ok (.value (v.den ν)) w ∧ v.wf n := by
  unfold sxVal at hv
  split at hv
  case h_1 x he | h_2 x he =>
    simp only [Option.map_eq_some_iff, Prod.mk.injEq] at hv
    obtain ⟨u, hu, rfl, rfl⟩ := hv
    obtain ⟨h1, h2⟩ := eval_sound h hu
    exact ⟨by simp [execOp, he, h1, pure], h2⟩
  case h_3 c x y he =>
    split at hv
    · rename_i u u' hc hx hy
      simp only [Option.some.injEq, Prod.mk.injEq] at hv; obtain ⟨rfl, rfl⟩ := hv
      obtain ⟨c1, _⟩ := eval_sound h hc
      obtain ⟨x1, x2⟩ := eval_sound h hx
      exact ⟨by simp [execOp, he, c1, x1, SV.den, BE.den, asBool, Sem.run, pure], x2⟩
    · rename_i u u' hc hx hy
      simp only [Option.some.injEq, Prod.mk.injEq] at hv; obtain ⟨rfl, rfl⟩ := hv
      obtain ⟨c1, _⟩ := eval_sound h hc
      obtain ⟨y1, y2⟩ := eval_sound h hy
      exact ⟨by simp [execOp, he, c1, y1, SV.den, BE.den, asBool, Sem.run, pure], y2⟩
    · rename_i e u u' _ _ hc hx hy
      simp only [Option.some.injEq, Prod.mk.injEq] at hv; obtain ⟨rfl, rfl⟩ := hv
      obtain ⟨c1, _⟩ := eval_sound h hc
      obtain ⟨x1, _⟩ := eval_sound h hx
      obtain ⟨y1, _⟩ := eval_sound h hy
      refine ⟨?_, trivial⟩
      cases hb : e.den <;> simp [execOp, he, c1, x1, y1, SV.den, BE.den, asBool, hb, Sem.run, pure]
    · simp at hv
  case h_4 t q he =>
    split at hv
    · rename_i ob off hq
      simp only [Option.map_eq_some_iff, Prod.mk.injEq] at hv
      obtain ⟨u, hu, rfl, rfl⟩ := hv
      obtain ⟨q1, _⟩ := eval_sound h hq
      obtain ⟨l1, l2⟩ := hld _ _ _ _ hu
      exact ⟨by simp [execOp, he, q1, SV.den, Instr.loadAt, Instr.sureAddr, l1, Sem.run, pure], l2⟩
    · simp at hv
  case h_5 x he =>
    split at hv
    all_goals first
      | (simp at hv; done)
      | (rename_i hx
         simp only [Option.some.injEq, Prod.mk.injEq] at hv; obtain ⟨rfl, rfl⟩ := hv
         obtain ⟨x1, x2⟩ := eval_sound h hx
         exact ⟨by simp [execOp, he, x1, SV.den, pure], x2⟩)
  case h_6 op t x y yt he =>
    split at hv
    · rename_i u u' hx hy
      obtain ⟨x1, _⟩ := eval_sound h hx
      obtain ⟨y1, _⟩ := eval_sound h hy
      obtain ⟨b1, b2⟩ := sxBin_sound (ν := ν) (w := w) (n := n) hv hp
      have g1 := sxBin_guard (ν := ν) (w := w) hv x y
      exact ⟨by simp [execOp, he, x1, y1, b1, g1, pure], b2⟩
    · simp at hv
  case h_7 op t x he =>
    split at hv
    · rename_i u hx
      simp only [Option.map_eq_some_iff, Prod.mk.injEq] at hv
      obtain ⟨u', hu, rfl, rfl⟩ := hv
      obtain ⟨x1, _⟩ := eval_sound h hx
      obtain ⟨b1, b2⟩ := sxUn_sound (P := P) (ν := ν) (w := w) (n := n) hu
      exact ⟨by simp [execOp, he, x1, b1, pure], b2⟩
    · simp at hv
  case h_8 src dst x he =>
    split at hv
    · rename_i d k k' e hs hd hx
      simp only [Option.some.injEq, Prod.mk.injEq] at hv; obtain ⟨rfl, rfl⟩ := hv
      obtain ⟨x1, _⟩ := eval_sound h hx
      refine ⟨?_, trivial⟩
      have u1 : (underlying src).run P w = .ok d w := by simp [underlying, program, Sem.run, hs, pure]
      have u2 : (underlying dst).run P w = .ok (.int k) w := by simp [underlying, program, Sem.run, hd, pure]
      simp [execOp, he, x1, SV.den, convert, u1, u2, Conv.intToInt, one_den' (.conv k), IE.den, Sem.run, pure]
    · simp at hv
  case h_9 t x he =>
    split at hv
    · rename_i u hx
      split at hv
      · rename_i hc
        simp only [Option.some.injEq, Prod.mk.injEq] at hv; obtain ⟨rfl, rfl⟩ := hv
        obtain ⟨x1, x2⟩ := eval_sound h hx
        obtain ⟨d, hd, hn⟩ := concrete_sound hc
        have u1 : (underlying t).run P w = .ok d w := by simp [underlying, program, Sem.run, hd, pure]
        refine ⟨?_, by simpa [SV.wf] using x2⟩
        cases d <;> first | exact absurd rfl (hn _) | simp [execOp, he, x1, SV.den, Instr.makeInterface, u1, Sem.run, pure]
      · simp at hv
    · simp at hv
  case h_10 fn fi ca he =>
    split at hv
    · rename_i u u' h1 h2
      simp only [Option.some.injEq, Prod.mk.injEq] at hv; obtain ⟨rfl, rfl⟩ := hv
      obtain ⟨a1, a2⟩ := evalAll_sound h h1
      obtain ⟨b1, b2⟩ := evalAll_sound h h2
      refine ⟨?_, a2, b2⟩
      have e1 : fi.map a.eval = (SV.denL ν u).toArray := Array.ext' (by simpa using a1)
      have e2 : ca.map a.eval = (SV.denL ν u').toArray := Array.ext' (by simpa using b1)
      simp [execOp, he, Instr.makeFunc, SV.den, e1, e2, pure]
    · simp at hv
  case h_11 s x f he =>
    split at hv
    · rename_i u hx
      simp only [Option.map_eq_some_iff, Prod.mk.injEq] at hv
      obtain ⟨u', hu, rfl, rfl⟩ := hv
      obtain ⟨x1, x2⟩ := eval_sound h hx
      obtain ⟨b1, b2⟩ := sxField_sound (ν := ν) (w := w) hu x2
      exact ⟨by simp [execOp, he, x1, b1, pure], b2⟩
    · simp at hv
  case h_12 s x f he =>
    split at hv
    · rename_i u hx
      simp only [Option.map_eq_some_iff, Prod.mk.injEq] at hv
      obtain ⟨u', hu, rfl, rfl⟩ := hv
      obtain ⟨x1, x2⟩ := eval_sound h hx
      obtain ⟨b1, b2⟩ := sxFieldV_sound (ν := ν) (w := w) hu x2
      exact ⟨by simp [execOp, he, x1, b1, pure], b2⟩
    · simp at hv
  case h_13 t x i he =>
    split at hv
    · rename_i u u' hx hi
      simp only [Option.map_eq_some_iff, Prod.mk.injEq] at hv
      obtain ⟨u'', hu, rfl, rfl⟩ := hv
      obtain ⟨x1, x2⟩ := eval_sound h hx
      obtain ⟨i1, _⟩ := eval_sound h hi
      obtain ⟨b1, b2⟩ := sxIndexAddr_sound (ν := ν) (w := w) hu x2
      exact ⟨by simp [execOp, he, x1, i1, b1, pure], b2⟩
    · simp at hv
  case h_14 x xt asserted ok he =>
    split at hv
    · rename_i u hx
      simp only [Option.map_eq_some_iff, Prod.mk.injEq] at hv
      obtain ⟨u', hu, rfl, rfl⟩ := hv
      obtain ⟨x1, x2⟩ := eval_sound h hx
      obtain ⟨b1, b2⟩ := sxAssert_sound (ν := ν) (w := w) (xt := xt) hu x2
      exact ⟨by simp [execOp, he, x1, b1, pure], b2⟩
    · simp at hv
  case h_15 x i he =>
    split at hv
    · rename_i vs hx
      simp only [Option.map_eq_some_iff, Prod.mk.injEq] at hv
      obtain ⟨u', hu, rfl, rfl⟩ := hv
      obtain ⟨x1, x2⟩ := eval_sound h hx
      simp only [SV.wf] at x2
      exact ⟨by simp [execOp, he, x1, SV.den, Instr.extract, denL_map, hu, Sem.run, pure], (wfL_iff _ _).1 x2 _ (List.mem_of_getElem? hu)⟩
    · simp at hv
  case h_16 t parts he =>
    split at hv
    · rename_i fs z l hu hz hl
      split at hv
      · rename_i q hq
        simp only [Option.map_eq_some_iff, Prod.mk.injEq] at hv
        obtain ⟨cs, hcs, rfl, rfl⟩ := hv
        obtain ⟨p1, p2⟩ := evalParts_sound h hl
        obtain ⟨z1, z2⟩ := zeroOf_sound (ν := ν) (w := w) (n := n) hz
        have u1 : (underlying t).run P w = .ok (.struct fs) w := by simp [underlying, program, Sem.run, hu, pure]
        have q1 : (fs.mapM fun f => (do pure (f.offset, ← sizeOf f.type) : Sem (Nat × Nat))).run P w = .ok q.toArray w := by
          rw [Array.mapM_eq_mapM_toList, Sem.run_map, run_places hq]; rfl
        obtain ⟨f1, f2, _⟩ := fillC_sound ν _ (fun i => q.toArray[i]?) (fun i x hx => by simpa using hx) l z.cells cs hcs p2 (wf_cells z2)
        refine ⟨?_, by simpa [SV.wf] using f2⟩
        have e1 : (parts.map fun (i, x) => (i, a.eval x)).toList = l.map fun p => (p.1, p.2.den ν) := by rw [← p1]; simp
        have e2 : (Instr.build t (parts.map fun (i, x) => (i, a.eval x))).run P w = .ok (.agg (SV.denL ν cs).toArray) w := by
          unfold Instr.build
          rw [Sem.run_bind, z1]
          simp only [Result.andThen]
          rw [Sem.run_bind, u1]
          simp only [Result.andThen]
          rw [Sem.run_bind, q1]
          simp only [Result.andThen]
          rw [cells_den, e1, f1]
          simp [Sem.run, pure]
        simp only [execOp, he, SV.den]
        rw [Sem.run_bind, e2]
        rfl
      · simp at hv
    · simp at hv
  case h_17 c he =>
    split at hv
    · rename_i x hcal hargs
      split at hv
      · rename_i t u ht hx
        simp only [Option.map_eq_some_iff, Prod.mk.injEq] at hv
        obtain ⟨u', hu, rfl, rfl⟩ := hv
        obtain ⟨x1, _⟩ := eval_sound h hx
        obtain ⟨b1, b2⟩ := sxLen_sound (ν := ν) (w := w) (n := n) hu c.argTypes ht o.type
        refine ⟨?_, b2⟩
        have e1 : c.args.map a.eval = #[u.den ν] := by
          have : c.args = #[x] := by apply Array.ext'; simpa using hargs
          simp [this, x1]
        simp [execOp, he, resolve, hcal, e1, invoke, builtin, b1, pure]
      · simp at hv
    · rename_i x y hcal hargs
      split at hv
      · rename_i k b k' b' hx hy
        split at hv
        · rename_i hk
          simp only [Option.some.injEq, Prod.mk.injEq] at hv; obtain ⟨rfl, rfl⟩ := hv
          obtain ⟨x1, _⟩ := eval_sound h hx
          obtain ⟨y1, _⟩ := eval_sound h hy
          refine ⟨?_, trivial⟩
          have e1 : c.args.map a.eval = #[.int k b.den, .int k' b'.den] := by
            have : c.args = #[x, y] := by apply Array.ext'; simpa using hargs
            simp [this, x1, y1, SV.den]
          simp [execOp, he, resolve, hcal, e1, invoke, builtin, Builtin.min_, Builtin.min2, SV.den, two_den .mn, IE.den, Sem.run, pure]
        · simp at hv
      · simp at hv
    · rename_i x y hcal hargs
      split at hv
      · rename_i k b k' b' hx hy
        split at hv
        · rename_i hk
          simp only [Option.some.injEq, Prod.mk.injEq] at hv; obtain ⟨rfl, rfl⟩ := hv
          obtain ⟨x1, _⟩ := eval_sound h hx
          obtain ⟨y1, _⟩ := eval_sound h hy
          refine ⟨?_, trivial⟩
          have e1 : c.args.map a.eval = #[.int k b.den, .int k' b'.den] := by
            have : c.args = #[x, y] := by apply Array.ext'; simpa using hargs
            simp [this, x1, y1, SV.den]
          simp [execOp, he, resolve, hcal, e1, invoke, builtin, Builtin.max_, Builtin.max2, SV.den, two_den .mx, IE.den, Sem.run, pure]
        · simp at hv
      · simp at hv
    · simp at hv
  case h_18 => simp at hv
theorem sxVal_sound (h : Sat B ν σ a w) {o : Oper} {p : Option BE} {v : SV} (hv : sxVal P σ o.op = some (p, v)) (hp : Holds p) :
    (execOp a.eval o).run P w = .ok (.value (v.den ν)) w ∧ v.wf (Live σ.hp) :=
  sxVal_soundT h.t (fun _ _ _ _ hl => loadC_sound h.hp hl) hv hp

/-- Without a look at memory: in whatever world. -/
theorem sxVal_pure (h : TSat ν n σ a) {o : Oper} {v : SV} (hv : sxVal P { σ with hp := [] } o.op = some (none, v)) :
    (∀ w, (execOp a.eval o).run P w = .ok (.value (v.den ν)) w) ∧ v.wf n := by
  have hl : ∀ t o off v, loadC P ([] : List SObj) t o off ≠ some v := fun t o off v => by simp [loadC]
  have hT : TSat ν n { σ with hp := [] } a := ⟨h.tmps, h.wf⟩
  exact ⟨fun w => (sxVal_soundT (w := w) hT (fun t o off v hx => absurd hx (hl t o off v)) hv trivial).1, (sxVal_soundT (w := default) hT (fun t o off v hx => absurd hx (hl t o off v)) hv trivial).2⟩
end
end Go.Proofs.Ytiljkmcahkphiaa.Sx
