/- Symbolic execution is sound: operations, code, calls. -/
import Derived.Test.YtajcmjjgnbaahaaGreatSx2
import Derived.Laws.BytesString
import Derived.Laws.IdiomCopy
import Derived.Laws.CopyOwn
import Derived.LoopN
import Derived.MapKept
import Derived.WideKeyRuns
set_option linter.unusedVariables false
set_option linter.unusedSimpArgs false
namespace Go.Proofs.YtajcmjjgnbaahaaGreat.Sx
open Go
theorem zDm : ∀ (cs vs : List SV) (off : Nat), off + cs.length <= vs.length -> zo vs off cs = vs.take off ++ cs ++ vs.drop (off + cs.length)
  | [], vs, off, h => by simp [zo]
  | c :: r, vs, off, h => by
    simp only [List.length_cons] at h
    rw [zo, zDm r _ (off + 1) (by rw [zt]; omega), zP]
    have h1 : off < vs.length := by omega
    rw [List.take_set, List.take_succ_eq_append_getElem h1, List.set_append_right (h := by simp; omega)]
    simp only [List.length_take, Nat.min_eq_left (Nat.le_of_lt h1), Nat.sub_self, List.set_cons_zero, List.append_assoc, List.singleton_append, List.length_cons, List.append_cancel_left_eq,
      List.cons_append, List.nil_append, List.cons.injEq, true_and]
    rw [show off + 1 + r.length = off + (r.length + 1) from by omega, List.drop_set_of_lt (by omega)]
theorem zEH : ∀ (cs vs : List SV) (off : Nat), (zo vs off cs).length = vs.length
  | [], vs, off => rfl
  | c :: r, vs, off => by rw [zo, zEH r, zt]
theorem zCq {n : Nat -> Prop} : ∀ (cs vs : List SV) (off : Nat), SV.wfL n cs -> SV.wfL n vs -> SV.wfL n (zo vs off cs)
  | [], vs, off, _, h => h
  | c :: r, vs, off, hc, h => by
    simp only [SV.wfL] at hc
    rw [zo]
    refine zCq r _ _ hc.2 ?_
    rw [zP]; rw [zz] at *
    intro x hx
    rcases List.mem_or_eq_of_mem_set hx with h1 | h1
    · exact h x h1
    · exact h1 ▸ hc.1
theorem zL4 (ν : Nat -> Pl) (off : Nat) : ∀ (l : List SV) (k : Nat) (vs : List SV),
    ((SV.denL ν l).zipIdx k).foldl (fun cs (x : Value × Nat) => cs.setIfInBounds (off + x.2) x.1) (SV.denL ν vs).toArray = (SV.denL ν (zo vs (off + k) l)).toArray
  | [], k, vs => by simp [SV.denL, zo]
  | c :: r, k, vs => by
    simp only [SV.denL, List.zipIdx_cons, List.foldl_cons, zo]
    have e : ((SV.denL ν vs).toArray.setIfInBounds (off + k) (c.den ν)) = (SV.denL ν (zS vs (off + k) c)).toArray := by
      simp [zX, zP]
    rw [e, zL4 ν off r (k + 1)]
    rfl
theorem zDy (ν : Nat -> Pl) {n : Nat -> Prop} (place place' : Nat -> Option (Nat × Nat)) (hpl : ∀ i p, place i = some p -> place' i = some p) : ∀ (l : List (Nat × SV)) (vs cs : List SV), zKv place vs l = some cs ->
    (∀ p ∈ l, p.2.wf n) -> SV.wfL n vs ->
    Instr.fill place' (SV.denL ν vs).toArray (l.map fun p => (p.1, p.2.den ν)) = some (SV.denL ν cs).toArray /\ SV.wfL n cs /\ cs.length = vs.length
  | [], vs, cs, h, _, hv => by simp [zKv] at h; subst h; simp [Instr.fill, hv]
  | (i, v) :: r, vs, cs, h, hl, hv => by
    unfold zKv at h
    split at h
    · simp at h
    · rename_i off size hp
      split at h
      · rename_i hc
        obtain ⟨a1, a2, a3⟩ := zDy ν place place' hpl r _ cs h (fun p hp => hl p (List.mem_cons_of_mem _ hp)) (zCq _ _ _ (zCR (hl (i, v) (List.mem_cons_self ..))) hv)
        refine ⟨?_, a2, by rw [a3, zEH]⟩
        simp only [List.map_cons, Instr.fill, hpl _ _ hp]
        have e1 : (v.den ν).cells.size = size := by rw [zAb]; simp [zJ, hc.1]
        have e2 : ¬ (off + (v.den ν).cells.size > (SV.denL ν vs).toArray.size) := by rw [e1]; simp only [List.size_toArray, zJ]; have := hc.2; omega
        have e3 : ((v.den ν).cells.size ≠ size || decide (off + (v.den ν).cells.size > (SV.denL ν vs).toArray.size)) = false := by
          simp [e1]; have := hc.2; simp only [zJ]; omega
        rw [if_neg (by rw [e3]; simp)]
        have e4 := zL4 ν off v.cells 0 vs
        rw [Nat.add_zero] at e4
        rw [zAb]
        have e5 : Array.foldl (fun cs (x : Value × Nat) => cs.setIfInBounds (off + x.2) x.1) (SV.denL ν vs).toArray ((SV.denL ν v.cells).toArray.zipIdx) = (SV.denL ν (zo vs off v.cells)).toArray := by
          rw [<- Array.foldl_toList, Array.toList_zipIdx]; exact e4
        rw [<- e5] at a1
        exact a1
      · simp at h
section
variable {P : Program} {B : Nat -> Prop} {n : Nat -> Prop} {ν : Nat -> Pl} {σ : St} {a : Act} {w : World}
theorem zHU {hp : List SObj} {t : TypeId} {o off : Nat} {v : SV} (hl : zLp P hp t o off = some v)
    (hb : ∀ vs ty, hp[o]? = some (.cells vs ty) -> w.heap[(ν o).blk]? = some (.cells (SV.denL ν vs).toArray ty (0, 0)) /\ SV.wfL n vs) :
    (loadVar t ⟨(ν o).blk, off, none⟩).run P w = .ok (v.den ν) w /\ v.wf n := by
  unfold zLp at hl
  split at hl
  · rename_i vs ty d i ho hd hi
    have ha := zFj (P := P) w hd
    obtain ⟨hb, hw⟩ := hb _ _ ho
    have hcell : ∀ i v, vs[i]? = some v -> w.cell? ⟨(ν o).blk, i, none⟩ = some (v.den ν) := fun i v hv => by simp [World.cell?, hb, zX, hv]
    by_cases hg : zD5 P t = true
    · rw [if_pos hg] at hl
      rw [hg] at ha
      split at hl
      · rename_i hlen
        simp only [Option.some.injEq] at hl; subst hl
        refine ⟨?_, ?_⟩
        · have hc := run_loadCells_list (P := P) w ⟨(ν o).blk, off, none⟩ (SV.denL ν ((vs.drop off).take i.size)) (fun j u hu => by
            rw [zDz]
            simp only [zX, List.getElem?_map, Option.map_eq_some_iff] at hu
            obtain ⟨s, hs, rfl⟩ := hu
            refine hcell _ _ ?_
            rw [List.getElem?_take] at hs
            split at hs
            · rwa [List.getElem?_drop] at hs
            · simp at hs)
          have e : (SV.denL ν ((vs.drop off).take i.size)).length = i.size := by simp [zJ]; omega
          rw [e] at hc
          simp [loadVar, ha, sizeOf, typeInfo, program, hi, hc, SV.den, Sem.run, pure]
        · simp only [SV.wf]
          rw [zz] at *
          intro y hy
          exact hw y (List.mem_of_mem_drop (List.mem_of_mem_take hy))
      · simp at hl
    · rw [if_neg hg] at hl
      simp only [Bool.not_eq_true] at hg
      rw [hg] at ha
      have hc := hcell _ _ hl
      refine ⟨?_, (zz _ _).1 hw v (List.mem_of_getElem? hl)⟩
      simp [loadVar, ha, load, Sem.run, hc, pure]
  · simp at hl
theorem zFN {hp : List SObj} (h : z6 B ν hp w) {t : TypeId} {o off : Nat} {v : SV} (hl : zLp P hp t o off = some v) :
    (loadVar t ⟨(ν o).blk, off, none⟩).run P w = .ok (v.den ν) w /\ v.wf (Live hp) :=
  zHU hl fun vs ty ho => by obtain ⟨_, hb, hw⟩ := h.obj o _ ho; exact ⟨hb, hw⟩
theorem zJL : ∀ {l : List Field} {q : List (Nat × Nat)}, zH8 P l = some q -> (l.mapM fun f => (do pure (f.offset, <- sizeOf f.type) : Sem (Nat × Nat))).run P w = .ok q w
  | [], q, h => by simp [zH8] at h; subst h; simp [Sem.run, pure]
  | f :: r, q, h => by
    unfold zH8 at h
    split at h
    · rename_i i l hi hl
      simp only [Option.some.injEq] at h; subst h
      have ih := zJL hl
      rw [List.mapM_cons, Sem.run_bind, Sem.run_bind]
      have : (sizeOf f.type).run P w = .ok i.size w := by simp [sizeOf, typeInfo, program, hi, Sem.run, pure]
      rw [this]
      show (Sem.run P (do let l_ <- List.mapM (fun f => (do pure (f.offset, <- sizeOf f.type) : Sem (Nat × Nat))) r; pure ((f.offset, i.size) :: l_)) w) = _
      rw [Sem.run_bind, ih]
      rfl
    · simp at h
theorem zJ0 (h : TSat ν n σ a) (hld : ∀ t o off v, zLp P σ.hp t o off = some v -> (loadVar t ⟨(ν o).blk, off, none⟩).run P w = .ok (v.den ν) w /\ v.wf n)
    {o : Oper} {p : Option BE} {v : SV} (hv : zBM P σ o.op = some (p, v)) (hp : zAJ p) :
    (execOp a.eval o).run P w = .ok (.value (v.den ν)) w /\ v.wf n := by
  unfold zBM at hv
  split at hv
  case h_1 x he | h_2 x he =>
    simp only [Option.map_eq_some_iff, Prod.mk.injEq] at hv
    obtain ⟨u, hu, rfl, rfl⟩ := hv
    obtain ⟨h1, h2⟩ := zB h hu
    exact ⟨by simp [execOp, he, h1, pure], h2⟩
  case h_3 c x y he =>
    split at hv
    · rename_i u u' hc hx hy
      simp only [Option.some.injEq, Prod.mk.injEq] at hv; obtain ⟨rfl, rfl⟩ := hv
      obtain ⟨c1, _⟩ := zB h hc
      obtain ⟨x1, x2⟩ := zB h hx
      exact ⟨by simp [execOp, he, c1, x1, SV.den, BE.den, asBool, Sem.run, pure], x2⟩
    · rename_i u u' hc hx hy
      simp only [Option.some.injEq, Prod.mk.injEq] at hv; obtain ⟨rfl, rfl⟩ := hv
      obtain ⟨c1, _⟩ := zB h hc
      obtain ⟨y1, y2⟩ := zB h hy
      exact ⟨by simp [execOp, he, c1, y1, SV.den, BE.den, asBool, Sem.run, pure], y2⟩
    · rename_i e u u' _ _ hc hx hy
      simp only [Option.some.injEq, Prod.mk.injEq] at hv; obtain ⟨rfl, rfl⟩ := hv
      obtain ⟨c1, _⟩ := zB h hc
      obtain ⟨x1, _⟩ := zB h hx
      obtain ⟨y1, _⟩ := zB h hy
      refine ⟨?_, trivial⟩
      cases hb : e.den <;> simp [execOp, he, c1, x1, y1, SV.den, BE.den, asBool, hb, Sem.run, pure]
    · simp at hv
  case h_4 t q he =>
    split at hv
    · rename_i ob off hq
      simp only [Option.map_eq_some_iff, Prod.mk.injEq] at hv
      obtain ⟨u, hu, rfl, rfl⟩ := hv
      obtain ⟨q1, _⟩ := zB h hq
      obtain ⟨l1, l2⟩ := hld _ _ _ _ hu
      exact ⟨by simp [execOp, he, q1, SV.den, Instr.loadAt, Instr.sureAddr, l1, Sem.run, pure], l2⟩
    · simp at hv
  case h_5 x he =>
    split at hv
    all_goals first
      | (simp at hv; done)
      | (rename_i hx
         simp only [Option.some.injEq, Prod.mk.injEq] at hv; obtain ⟨rfl, rfl⟩ := hv
         obtain ⟨x1, x2⟩ := zB h hx
         exact ⟨by simp [execOp, he, x1, SV.den, pure], x2⟩)
  case h_6 op t x y yt he =>
    split at hv
    · rename_i u u' hx hy
      obtain ⟨x1, _⟩ := zB h hx
      obtain ⟨y1, _⟩ := zB h hy
      obtain ⟨b1, b2⟩ := zMa (ν := ν) (w := w) (n := n) hv hp
      have g1 := zMb (ν := ν) (w := w) hv x y
      exact ⟨by simp [execOp, he, x1, y1, b1, g1, pure], b2⟩
    · simp at hv
  case h_7 op t x he =>
    split at hv
    · rename_i u hx
      simp only [Option.map_eq_some_iff, Prod.mk.injEq] at hv
      obtain ⟨u', hu, rfl, rfl⟩ := hv
      obtain ⟨x1, _⟩ := zB h hx
      obtain ⟨b1, b2⟩ := zO0 (P := P) (ν := ν) (w := w) (n := n) hu
      exact ⟨by simp [execOp, he, x1, b1, pure], b2⟩
    · simp at hv
  case h_8 src dst x he =>
    split at hv
    · rename_i d k k' e hs hd hx
      simp only [Option.some.injEq, Prod.mk.injEq] at hv; obtain ⟨rfl, rfl⟩ := hv
      obtain ⟨x1, _⟩ := zB h hx
      refine ⟨?_, trivial⟩
      have u1 : (underlying src).run P w = .ok d w := by simp [underlying, program, Sem.run, hs, pure]
      have u2 : (underlying dst).run P w = .ok (.int k) w := by simp [underlying, program, Sem.run, hd, pure]
      simp [execOp, he, x1, SV.den, convert, u1, u2, Conv.intToInt, zTO (.conv k), IE.den, Sem.run, pure]
    · simp at hv
  case h_9 t x he =>
    split at hv
    · rename_i u hx
      split at hv
      · rename_i hc
        simp only [Option.some.injEq, Prod.mk.injEq] at hv; obtain ⟨rfl, rfl⟩ := hv
        obtain ⟨x1, x2⟩ := zB h hx
        obtain ⟨d, hd, hn⟩ := zE7 hc
        have u1 : (underlying t).run P w = .ok d w := by simp [underlying, program, Sem.run, hd, pure]
        refine ⟨?_, by simpa [SV.wf] using x2⟩
        cases d <;> first | exact absurd rfl (hn _) | simp [execOp, he, x1, SV.den, Instr.makeInterface, u1, Sem.run, pure]
      · simp at hv
    · simp at hv
  case h_10 fn fi ca he =>
    split at hv
    · rename_i u u' h1 h2
      simp only [Option.some.injEq, Prod.mk.injEq] at hv; obtain ⟨rfl, rfl⟩ := hv
      obtain ⟨a1, a2⟩ := zCa h h1
      obtain ⟨b1, b2⟩ := zCa h h2
      refine ⟨?_, a2, b2⟩
      have e1 : fi.map a.eval = (SV.denL ν u).toArray := Array.ext' (by simpa using a1)
      have e2 : ca.map a.eval = (SV.denL ν u').toArray := Array.ext' (by simpa using b1)
      simp [execOp, he, Instr.makeFunc, SV.den, e1, e2, pure]
    · simp at hv
  case h_11 s x f he =>
    split at hv
    · rename_i u hx
      simp only [Option.map_eq_some_iff, Prod.mk.injEq] at hv
      obtain ⟨u', hu, rfl, rfl⟩ := hv
      obtain ⟨x1, x2⟩ := zB h hx
      obtain ⟨b1, b2⟩ := zJ9 (ν := ν) (w := w) hu x2
      exact ⟨by simp [execOp, he, x1, b1, pure], b2⟩
    · simp at hv
  case h_12 s x f he =>
    split at hv
    · rename_i u hx
      simp only [Option.map_eq_some_iff, Prod.mk.injEq] at hv
      obtain ⟨u', hu, rfl, rfl⟩ := hv
      obtain ⟨x1, x2⟩ := zB h hx
      obtain ⟨b1, b2⟩ := zI1 (ν := ν) (w := w) hu x2
      exact ⟨by simp [execOp, he, x1, b1, pure], b2⟩
    · simp at hv
  case h_13 t x i he =>
    split at hv
    · rename_i u u' hx hi
      simp only [Option.map_eq_some_iff, Prod.mk.injEq] at hv
      obtain ⟨u'', hu, rfl, rfl⟩ := hv
      obtain ⟨x1, x2⟩ := zB h hx
      obtain ⟨i1, _⟩ := zB h hi
      obtain ⟨b1, b2⟩ := zGL (ν := ν) (w := w) hu x2
      exact ⟨by simp [execOp, he, x1, i1, b1, pure], b2⟩
    · simp at hv
  case h_14 x xt asserted ok he =>
    split at hv
    · rename_i u hx
      simp only [Option.map_eq_some_iff, Prod.mk.injEq] at hv
      obtain ⟨u', hu, rfl, rfl⟩ := hv
      obtain ⟨x1, x2⟩ := zB h hx
      obtain ⟨b1, b2⟩ := zI3 (ν := ν) (w := w) (xt := xt) hu x2
      exact ⟨by simp [execOp, he, x1, b1, pure], b2⟩
    · simp at hv
  case h_15 x i he =>
    split at hv
    · rename_i vs hx
      simp only [Option.map_eq_some_iff, Prod.mk.injEq] at hv
      obtain ⟨u', hu, rfl, rfl⟩ := hv
      obtain ⟨x1, x2⟩ := zB h hx
      simp only [SV.wf] at x2
      exact ⟨by simp [execOp, he, x1, SV.den, Instr.extract, zX, hu, Sem.run, pure], (zz _ _).1 x2 _ (List.mem_of_getElem? hu)⟩
    · simp at hv
  case h_16 t parts he =>
    split at hv
    · rename_i fs z l hu hz hl
      split at hv
      · rename_i q hq
        simp only [Option.map_eq_some_iff, Prod.mk.injEq] at hv
        obtain ⟨cs, hcs, rfl, rfl⟩ := hv
        obtain ⟨p1, p2⟩ := zBv h hl
        obtain ⟨z1, z2⟩ := zAZ (ν := ν) (w := w) (n := n) hz
        have u1 : (underlying t).run P w = .ok (.struct fs) w := by simp [underlying, program, Sem.run, hu, pure]
        have q1 : (fs.mapM fun f => (do pure (f.offset, <- sizeOf f.type) : Sem (Nat × Nat))).run P w = .ok q.toArray w := by
          rw [Array.mapM_eq_mapM_toList, Sem.run_map, zJL hq]; rfl
        obtain ⟨f1, f2, _⟩ := zDy ν _ (fun i => q.toArray[i]?) (fun i x hx => by simpa using hx) l z.cells cs hcs p2 (zCR z2)
        refine ⟨?_, by simpa [SV.wf] using f2⟩
        have e1 : (parts.map fun (i, x) => (i, a.eval x)).toList = l.map fun p => (p.1, p.2.den ν) := by rw [<- p1]; simp
        have e2 : (Instr.build t (parts.map fun (i, x) => (i, a.eval x))).run P w = .ok (.agg (SV.denL ν cs).toArray) w := by
          unfold Instr.build
          rw [Sem.run_bind, z1]
          simp only [Result.andThen]
          rw [Sem.run_bind, u1]
          simp only [Result.andThen]
          rw [Sem.run_bind, q1]
          simp only [Result.andThen]
          rw [zAb, e1, f1]
          simp [Sem.run, pure]
        simp only [execOp, he, SV.den]
        rw [Sem.run_bind, e2]
        rfl
      · simp at hv
    · rename_i len e z l hu hz hl
      split at hv
      · rename_i inf hinf
        simp only [Option.map_eq_some_iff, Prod.mk.injEq] at hv
        obtain ⟨cs, hcs, rfl, rfl⟩ := hv
        obtain ⟨p1, p2⟩ := zBv h hl
        obtain ⟨z1, z2⟩ := zAZ (ν := ν) (w := w) (n := n) hz
        have u1 : (underlying t).run P w = .ok (.array len e) w := by simp [underlying, program, Sem.run, hu, pure]
        have q1 : (sizeOf e).run P w = .ok inf.size w := by simp [sizeOf, typeInfo, program, hinf, Sem.run, pure]
        obtain ⟨f1, f2, _⟩ := zDy ν _ (fun j => some (j * inf.size, inf.size)) (fun i x hx => hx) l z.cells cs hcs p2 (zCR z2)
        refine ⟨?_, by simpa [SV.wf] using f2⟩
        have e1 : (parts.map fun (i, x) => (i, a.eval x)).toList = l.map fun p => (p.1, p.2.den ν) := by rw [<- p1]; simp
        have e2 : (Instr.build t (parts.map fun (i, x) => (i, a.eval x))).run P w = .ok (.agg (SV.denL ν cs).toArray) w := by
          unfold Instr.build
          rw [Sem.run_bind, z1]
          simp only [Result.andThen]
          rw [Sem.run_bind, u1]
          simp only [Result.andThen]
          rw [Sem.run_bind, q1]
          simp only [Result.andThen]
          rw [zAb, e1, f1]
          simp [Sem.run, pure]
        simp only [execOp, he, SV.den]
        rw [Sem.run_bind, e2]
        rfl
      · simp at hv
    · simp at hv
  case h_17 c he =>
    split at hv
    · rename_i x hcal hargs
      split at hv
      · rename_i t u ht hx
        simp only [Option.map_eq_some_iff, Prod.mk.injEq] at hv
        obtain ⟨u', hu, rfl, rfl⟩ := hv
        obtain ⟨x1, _⟩ := zB h hx
        obtain ⟨b1, b2⟩ := zMX (ν := ν) (w := w) (n := n) hu c.argTypes ht o.type
        refine ⟨?_, b2⟩
        have e1 : c.args.map a.eval = #[u.den ν] := by
          have : c.args = #[x] := by apply Array.ext'; simpa using hargs
          simp [this, x1]
        simp [execOp, he, resolve, hcal, e1, invoke, builtin, b1, pure]
      · simp at hv
    · rename_i x y hcal hargs
      split at hv
      · rename_i k b k' b' hx hy
        split at hv
        · rename_i hk
          simp only [Option.some.injEq, Prod.mk.injEq] at hv; obtain ⟨rfl, rfl⟩ := hv
          obtain ⟨x1, _⟩ := zB h hx
          obtain ⟨y1, _⟩ := zB h hy
          refine ⟨?_, trivial⟩
          have e1 : c.args.map a.eval = #[.int k b.den, .int k' b'.den] := by
            have : c.args = #[x, y] := by apply Array.ext'; simpa using hargs
            simp [this, x1, y1, SV.den]
          simp [execOp, he, resolve, hcal, e1, invoke, builtin, Builtin.min_, Builtin.min2, SV.den, zBf .mn, IE.den, Sem.run, pure]
        · simp at hv
      · simp at hv
    · rename_i x y hcal hargs
      split at hv
      · rename_i k b k' b' hx hy
        split at hv
        · rename_i hk
          simp only [Option.some.injEq, Prod.mk.injEq] at hv; obtain ⟨rfl, rfl⟩ := hv
          obtain ⟨x1, _⟩ := zB h hx
          obtain ⟨y1, _⟩ := zB h hy
          refine ⟨?_, trivial⟩
          have e1 : c.args.map a.eval = #[.int k b.den, .int k' b'.den] := by
            have : c.args = #[x, y] := by apply Array.ext'; simpa using hargs
            simp [this, x1, y1, SV.den]
          simp [execOp, he, resolve, hcal, e1, invoke, builtin, Builtin.max_, Builtin.max2, SV.den, zBf .mx, IE.den, Sem.run, pure]
        · simp at hv
      · simp at hv
    · simp at hv
  case h_18 => simp at hv
theorem zAa (f : Nat -> Nat -> Nat) (a b : NE) : (NE.two f a b).den = f a.den b.den := by
  cases a <;> cases b <;> rfl
theorem zOa (st cap l : NE) : (zL3 st cap l).den = bif Nat.beq cap.den l.den then st.den else st.den + l.den := by cases st <;> cases cap <;> cases l <;> rfl
theorem zAF (k : Nat) : (NE.lit k).den = k := rfl
theorem zFL (i : IE) : i.nat.den = i.den.toNat := by cases i <;> rfl
theorem zBs (a b : NE) : (leNE a b).den = decide (a.den <= b.den) := by cases a <;> cases b <;> rfl
theorem zEo (i : IE) (m : NE) : (inNE i m).den = decide (0 <= i.den /\ i.den < (m.den : Int)) := by
  cases i <;> cases m <;> rfl
theorem zAI {b : BE} {p : Option BE} (h : askB b = some p) (hp : zAJ p) : b.den = true := by
  unfold askB at h
  split at h
  · rfl
  · simp at h
  · simp only [Option.some.injEq] at h; subst h; exact hp
theorem zCJ {p q : Option BE} (h : zAJ (zFA p q)) : zAJ p /\ zAJ q := by
  cases p with
  | none => exact ⟨trivial, h⟩
  | some a =>
    cases q with
    | none => exact ⟨h, trivial⟩
    | some b =>
      simp only [zFA, zAJ, BE.den] at h
      cases ha : a.den <;> simp_all [zAJ]
theorem zCe {p q : Option (Option BE)} {r : Option BE} (h : zGh p q = some r) (hr : zAJ r) : ∃ a b, p = some a /\ q = some b /\ zAJ a /\ zAJ b := by
  unfold zGh at h
  split at h
  · rename_i a b
    simp only [Option.some.injEq] at h; subst h
    exact ⟨a, b, rfl, rfl, zCJ hr⟩
  · simp at h
theorem zDO {o sz : Nat} {x : SObj} {inp : Bool} {cols : List Col} {m : NE} (hv : zAB sz x = some (inp, cols, m)) (ho : zAN B ν n w o x) :
    cols.length = sz /\ ((inp && (ν o).nil) = true -> m.den = 0) /\
    ∀ e, e < m.den -> ∀ j c, cols[j]? = some c -> ∃ v, w.cell? ⟨(ν o).blk, (ν o).base inp + (e * sz + j), none⟩ = some v /\ c.holds e v := by
  cases x with
  | row own inp' cols' m' =>
    simp only [zAB] at hv
    split at hv
    · rename_i hl
      simp only [Option.some.injEq, Prod.mk.injEq] at hv
      obtain ⟨rfl, rfl, rfl⟩ := hv
      have h : zw B (ν o) w own inp' cols' m'.den := ho
      refine ⟨hl, h.empty, ?_⟩
      rw [<- hl]; exact h.cell
    · simp at hv
  | dead => simp [zAB] at hv
  | husk => simp [zAB] at hv
  | map ks vs => simp [zAB] at hv
  | grown sz vs => simp [zAB] at hv
  | glob g vs => simp [zAB] at hv
  | cells vs ty =>
    simp only [zAB] at hv
    split at hv
    · simp at hv
    · rename_i hc
      simp only [not_or, Bool.not_eq_false] at hc
      simp only [Option.some.injEq, Prod.mk.injEq] at hv
      obtain ⟨rfl, rfl, rfl⟩ := hv
      obtain ⟨h1, h2, h3⟩ := ho
      refine ⟨by simp, by simp, ?_⟩
      intro e he j c hj
      simp only [NE.den] at he
      have hjs : j < sz := by
        have := (List.getElem?_eq_some_iff.1 hj).1
        simpa using this
      have hlt : e * sz + j < vs.length := by
        have h4 : (e + 1) * sz <= vs.length := Nat.le_trans (Nat.mul_le_mul_right sz he) (Nat.div_mul_le_self _ _)
        rw [Nat.add_mul] at h4; omega
      have hcell : ∀ v, vs[e * sz + j]? = some v -> w.cell? ⟨(ν o).blk, e * sz + j, none⟩ = some (v.den ν) := fun v hv => by simp [World.cell?, h2, zX, hv]
      have hget : vs[e * sz + j]? = some vs[e * sz + j] := List.getElem?_eq_getElem hlt
      simp only [Pl.base, cond_false, Nat.zero_add]
      refine ⟨_, hcell _ hget, ?_⟩
      simp only [List.getElem?_map, List.getElem?_range hjs, Option.map_some, Option.some.injEq] at hj
      subst hj
      have hone : (vs[e * sz + j]).one = true := List.all_eq_true.1 hc.2 _ (List.getElem_mem hlt)
      have hmem : e ∈ List.range (vs.length / sz) := List.mem_range.2 he
      unfold zOm
      split
      · split
        · rename_i k _ _ hall
          have := List.all_eq_true.1 hall e hmem
          rw [hget] at this
          generalize hx : vs[e * sz + j] = x at *
          cases x <;> simp at this
          exact ⟨by simp [SV.den, Value.oneCell'], by simp [Col.den, hget, SV.den, this]⟩
        · exact ⟨zFI ν hone, trivial⟩
      · split
        · rename_i _ hall
          have := List.all_eq_true.1 hall e hmem
          rw [hget] at this
          generalize hx : vs[e * sz + j] = x at *
          cases x <;> simp at this
          exact ⟨by simp [SV.den, Value.oneCell'], by simp [Col.den, hget, SV.den]⟩
        · exact ⟨zFI ν hone, trivial⟩
      · split
        · rename_i _ hall
          have := List.all_eq_true.1 hall e hmem
          rw [hget] at this
          generalize hx : vs[e * sz + j] = x at *
          cases x <;> simp at this
          exact ⟨by simp [SV.den, Value.oneCell'], by simp [Col.den, hget, SV.den]⟩
        · exact ⟨zFI ν hone, trivial⟩
      · exact ⟨zFI ν hone, trivial⟩
theorem zL0 {c : Col} {i : NE} {v : SV} (h : c.get i = some v) (w : Value) (hc : c.holds i.den w) : w = v.den ν /\ v.wf n := by
  unfold Col.get at h
  split at h <;> simp at h <;> subst h <;> obtain ⟨_, hc⟩ := hc <;> simp [Col.den] at hc <;> subst hc <;> simp [SV.den, SV.wf, IE.den, BE.den, NE.den]
theorem zFx {i : NE} : ∀ {cs : List Col} {vs : List SV}, zIV i cs = some vs -> vs.length = cs.length /\ SV.wfL n vs /\ ∀ (j : Nat) (v : SV), vs[j]? = some v -> ∃ c : Col, cs[j]? = some c /\ c.get i = some v
  | [], vs, h => by simp [zIV] at h; subst h; simp [SV.wfL]
  | c :: r, vs, h => by
    unfold zIV at h
    split at h
    · rename_i v l hv hl
      simp only [Option.some.injEq] at h; subst h
      obtain ⟨h1, h2, h3⟩ := zFx hl
      refine ⟨by simp [h1], ⟨?_, h2⟩, ?_⟩
      · unfold Col.get at hv
        split at hv <;> simp at hv <;> subst hv <;> simp [SV.wf]
      · intro j u hu
        cases j with
        | zero => simp at hu; subst hu; exact ⟨c, rfl, hv⟩
        | succ j => exact h3 j u (by simpa using hu)
    · simp at h
theorem zM5 {hp : List SObj} (hobj : ∀ o x, hp[o]? = some x -> zAN B ν n w o x) {t : TypeId} {inp : Bool} {o sz : Nat} {i : NE} {c : Nat} {p : Option BE} {v : SV}
    (hl : zRG P hp t inp o sz i c = some (p, v)) (hp' : zAJ p) : (loadVar t ⟨(ν o).blk, (ν o).base inp + (i.den * sz + c), none⟩).run P w = .ok (v.den ν) w /\ v.wf n := by
  unfold zRG at hl
  split at hl
  · rename_i x d inf ho hd hi
    split at hl
    · rename_i inp' cols m hvw
      obtain ⟨v1, v2, v3⟩ := zDO hvw (hobj o x ho)
      split at hl
      · rename_i hinp
        subst hinp
        split at hl
        · rename_i q hq
          have ha := zFj (P := P) w hd
          have hlt : ∀ {r : Option BE}, q = r -> zAJ r -> i.den < m.den := fun e hr => by
            subst e
            have := zAI hq hr
            rw [zBs, zAa] at this
            exact Nat.lt_of_succ_le (of_decide_eq_true this)
          by_cases hg : zD5 P t = true
          · rw [if_pos hg] at hl
            rw [hg] at ha
            split at hl
            · rename_i hlen
              simp only [Option.map_eq_some_iff, Prod.mk.injEq] at hl
              obtain ⟨vs, hvs, rfl, rfl⟩ := hl
              have hi' := hlt rfl hp'
              obtain ⟨g1, g2, g3⟩ := zFx (n := n) hvs
              have e : (SV.denL ν vs).length = inf.size := by simp [zJ, g1]; omega
              have hc := run_loadCells_list (P := P) w ⟨(ν o).blk, (ν o).base inp' + (i.den * sz + c), none⟩ (SV.denL ν vs) (fun j u hu => by
                rw [zDz]
                simp only [zX, List.getElem?_map, Option.map_eq_some_iff] at hu
                obtain ⟨s, hs, rfl⟩ := hu
                obtain ⟨col, hcol, hget⟩ := g3 j s hs
                rw [List.getElem?_take] at hcol
                split at hcol
                · rw [List.getElem?_drop] at hcol
                  obtain ⟨u, hu1, hu2⟩ := v3 i.den hi' (c + j) col hcol
                  rw [(zL0 (ν := ν) (n := n) hget u hu2).1.symm, <- hu1]
                  simp [Nat.add_assoc]
                · simp at hcol)
              rw [e] at hc
              exact ⟨by simp [loadVar, ha, sizeOf, typeInfo, program, hi, hc, SV.den, Sem.run, pure], by simpa [SV.wf] using g2⟩
            · simp at hl
          · rw [if_neg hg] at hl
            simp only [Bool.not_eq_true] at hg
            rw [hg] at ha
            split at hl
            · rename_i col hcol
              simp only [Option.map_eq_some_iff, Prod.mk.injEq] at hl
              obtain ⟨u, hu, rfl, rfl⟩ := hl
              obtain ⟨y, hy1, hy2⟩ := v3 i.den (hlt rfl hp') c col hcol
              obtain ⟨e1, e2⟩ := zL0 (ν := ν) (n := n) hu y hy2
              subst e1
              exact ⟨by simp [loadVar, ha, load, Sem.run, hy1, pure], e2⟩
            · simp at hl
        · simp at hl
      · simp at hl
    · simp at hl
  · simp at hl
theorem zDu {hp : List SObj} (hobj : ∀ o x, hp[o]? = some x -> zAN B ν n w o x) {inp : Bool} {o : Nat} {st len cap : NE} {p : Option BE} (h : zNA hp inp o st len cap = some p) (hp' : zAJ p) :
    (inp && (ν o).nil) = true -> len.den = 0 /\ cap.den = 0 /\ st.den = 0 := by
  intro hn
  unfold zNA at h
  split at h
  · simp at hn
  · split at h
    · rename_i own cols m ho
      simp only [Option.some.injEq] at h; subst h
      have hs : zw B (ν o) w own true cols m.den := hobj o _ ho
      have := hs.empty hn
      simp only [zAJ, BE.den, decide_eq_true_eq] at hp'
      omega
    · simp at h
theorem zI0 {hp : List SObj} (hobj : ∀ o x, hp[o]? = some x -> zAN B ν n w o x) {t : TypeId} {x ix v : SV} {p : Option BE} (h : zJ8 P hp t x ix = some (p, v)) (hp' : zAJ p) (hx : x.wf n) :
    (Instr.indexAt t (x.den ν) (ix.den ν)).run P w = .ok (v.den ν) w /\ v.wf n := by
  unfold zJ8 at h
  split at h
  · rename_i e inp o sz st len cap k i hu
    split at h
    · rename_i inf hi
      split at h
      · rename_i hsz
        simp only [Option.map_eq_some_iff, Prod.mk.injEq] at h
        obtain ⟨q, hq, rfl, rfl⟩ := h
        obtain ⟨a, b, ha, hb, ga, gb⟩ := zCe hq hp'
        have hg := zDu hobj ha ga
        have hin := zAI hb gb
        rw [zEo] at hin
        simp only [decide_eq_true_eq] at hin
        have hnn : (inp && (ν o).nil) = false := by
          cases hb2 : (inp && (ν o).nil) with
          | false => rfl
          | true => have := hg hb2; omega
        refine ⟨?_, by simpa [SV.wf] using hx⟩
        have e1 : (st.den * sz + i.den.toNat * inf.size) = (st.den + i.den.toNat) * sz := by rw [hsz, Nat.add_mul]
        simp [Instr.indexAt, asIntOf, underlying, program, hu, SV.den, hnn, hin, sizeOf, typeInfo, hi, Sem.run, pure, zAa, zFL, Addr.add_lit, <- e1, Nat.add_assoc]
      · simp at h
    · simp at h
  · rename_i e o off len cap k i hu
    split at h
    · rename_i inf hi
      split at h
      · rename_i hsz
        simp only [Option.map_eq_some_iff, Prod.mk.injEq] at h
        obtain ⟨q, hq, rfl, rfl⟩ := h
        have hin := zAI hq hp'
        rw [zEo] at hin
        simp only [decide_eq_true_eq] at hin
        refine ⟨?_, by simpa [SV.wf] using hx⟩
        have e1 : (off / inf.size + i.den.toNat) * inf.size = off + i.den.toNat * inf.size := by
          rw [Nat.add_mul, Nat.div_mul_cancel (Nat.dvd_of_mod_eq_zero hsz.2)]
        simp [Instr.indexAt, asIntOf, underlying, program, hu, SV.den, hin, sizeOf, typeInfo, hi, Sem.run, pure, zAa, zFL, Addr.add_lit, zAF, e1, Pl.base]
      · simp at h
    · simp at h
  · simp at h
theorem zI2 {s : TypeId} {x v : SV} {f : Nat} (h : zKB P s x f = some v) (hx : x.wf n) :
    (Instr.fieldAt s (x.den ν) f).run P w = .ok (v.den ν) w /\ v.wf n := by
  unfold zKB at h
  split at h
  · rename_i fs inp o sz i c hu
    split at h
    · rename_i fd hf
      split at h
      · rename_i inf hi
        split at h
        · simp at h
        · rename_i hz
          simp only [Option.some.injEq] at h; subst h
          refine ⟨?_, by simpa [SV.wf] using hx⟩
          simp [Instr.fieldAt, underlying, program, hu, hf, SV.den, Instr.sureAddr, fieldPlace, sizeOf, typeInfo, hi, hz, Sem.run, pure, Addr.add_lit, Nat.add_assoc]
      · simp at h
    · simp at h
  · simp at h
theorem zDF {hp : List SObj} (hobj : ∀ o x, hp[o]? = some x -> zAN B ν n w o x) {t : TypeId} {x v : SV} {lo hi : Option SV} {p : Option BE} (h : zFb P hp t x lo hi = some (p, v)) (hp' : zAJ p) (hx : x.wf n) :
    (Instr.sliceAt t (x.den ν) (lo.map (SV.den ν)) (hi.map (SV.den ν)) none).run P w = .ok (v.den ν) w /\ v.wf n := by
  unfold zFb at h
  split at h
  · rename_i e inp o sz st len cap hu
    have u1 : (underlying t).run P w = .ok (.slice e) w := by simp [underlying, program, hu, Sem.run, pure]
    split at h
    · rename_i inf hi'
      have s1 : (sizeOf e).run P w = .ok inf.size w := by simp [sizeOf, typeInfo, program, hi', Sem.run, pure]
      split at h
      · rename_i hsz
        split at h
        · simp only [Option.some.injEq, Prod.mk.injEq] at h
          obtain ⟨rfl, rfl⟩ := h
          refine ⟨?_, hx⟩
          simp only [Option.map_none, SV.den, Instr.sliceAt]
          rw [Sem.run_bind, u1]
          simp only [Result.andThen, Instr.slice]
          rw [Sem.run_bind, u1]
          simp only [Result.andThen, Instr.sliceBounds]
          simp [Sem.run, pure]
          rw [s1]
          simp only [Result.andThen]
          cases hb : (inp && (ν o).nil) <;> simp [hb, Addr.add_lit]
        · rename_i k h0
          simp only [Option.map_eq_some_iff, Prod.mk.injEq] at h
          obtain ⟨q, hq, rfl, rfl⟩ := h
          obtain ⟨a, b, ha, hb, ga, gb⟩ := zCe hq hp'
          have hg := zDu hobj ha ga
          have hin := zAI hb gb
          rw [zEo, zAa, zAF] at hin
          simp only [decide_eq_true_eq] at hin
          refine ⟨?_, by simpa [SV.wf] using hx⟩
          simp only [Option.map_none, Option.map_some, SV.den, Instr.sliceAt]
          rw [Sem.run_bind, u1]
          simp only [Result.andThen, Instr.slice]
          rw [Sem.run_bind, u1]
          simp only [Result.andThen, Instr.sliceBounds]
          have h1 : 0 <= h0.den /\ h0.den <= (cap.den : Int) := ⟨hin.1, by omega⟩
          simp [Sem.run, pure, Instr.sliceBound, asIntOf, h1, zFL]
          rw [s1]
          simp only [Result.andThen]
          cases hb : (inp && (ν o).nil) <;> simp [hb, Addr.add_lit]
        · rename_i k l0
          simp only [Option.map_eq_some_iff, Prod.mk.injEq] at h
          obtain ⟨q, hq, rfl, rfl⟩ := h
          obtain ⟨a, b, ha, hb, ga, gb⟩ := zCe hq hp'
          have hg := zDu hobj ha ga
          have hin := zAI hb gb
          rw [zEo, zAa, zAF] at hin
          simp only [decide_eq_true_eq] at hin
          refine ⟨?_, by simpa [SV.wf] using hx⟩
          simp only [Option.map_none, Option.map_some, SV.den, Instr.sliceAt]
          rw [Sem.run_bind, u1]
          simp only [Result.andThen, Instr.slice]
          rw [Sem.run_bind, u1]
          simp only [Result.andThen, Instr.sliceBounds]
          have h1 : 0 <= l0.den /\ l0.den <= (len.den : Int) := ⟨hin.1, by omega⟩
          simp [Sem.run, pure, Instr.sliceBound, asIntOf, h1, zFL, zAa, zOa]
          rw [s1]
          simp only [Result.andThen]
          cases hb : (inp && (ν o).nil) with
          | true =>
            obtain ⟨g1, g2, g3⟩ := hg hb
            simp [hb]
          | false =>
            simp only [cond_false, Option.map_some, Addr.add_lit]
            by_cases hc : cap.den = l0.den.toNat
            · simp [hc]
            · have : Nat.beq cap.den l0.den.toNat = false := by
                cases hb2 : Nat.beq cap.den l0.den.toNat with
                | false => rfl
                | true => exact absurd (Nat.eq_of_beq_eq_true hb2) hc
              simp [hc, this, Nat.add_mul, hsz, Nat.add_assoc]
        · simp at h
      · simp at h
    · simp at h
  · simp at h
theorem zBc {hp : List SObj} (hobj : ∀ o x, hp[o]? = some x -> zAN B ν n w o x) {sz : Nat} {x : SV} {inp : Bool} {o : Nat} {cols : List Col} {m st len cap : NE} (h : zHq hp sz x = some (inp, o, cols, m, st, len, cap)) :
    x.den ν = .slice (bif inp && (ν o).nil then none else some ⟨(ν o).blk, (ν o).base inp + st.den * sz, none⟩) len.den cap.den /\ cols.length = sz /\ ((inp && (ν o).nil) = true -> m.den = 0) /\
    (∃ ob, hp[o]? = some ob /\ zAB sz ob = some (inp, cols, m)) /\
    ∀ e, e < m.den -> ∀ j c, cols[j]? = some c -> ∃ v, w.cell? ⟨(ν o).blk, (ν o).base inp + (e * sz + j), none⟩ = some v /\ c.holds e v := by
  unfold zHq at h
  split at h
  · split at h
    · rename_i hsz
      subst hsz
      split at h
      · rename_i ob ho
        split at h
        · rename_i inp' cols' m' hv
          split at h
          · rename_i hi
            simp only [Option.some.injEq, Prod.mk.injEq] at h
            obtain ⟨rfl, rfl, rfl, rfl, rfl, rfl, rfl⟩ := h
            subst hi
            obtain ⟨v1, v2, v3⟩ := zDO hv (hobj _ _ ho)
            exact ⟨rfl, v1, v2, ⟨ob, ho, hv⟩, v3⟩
          · simp at h
        · simp at h
      · simp at h
    · simp at h
  · split at h
    · rename_i hsz
      split at h
      · rename_i ob ho
        split at h
        · rename_i cols' m' hv
          simp only [Option.some.injEq, Prod.mk.injEq] at h
          obtain ⟨rfl, rfl, rfl, rfl, rfl, rfl, rfl⟩ := h
          obtain ⟨v1, v2, v3⟩ := zDO hv (hobj _ _ ho)
          refine ⟨?_, v1, by simp, ⟨ob, ho, hv⟩, v3⟩
          simp [SV.den, Pl.base, zAF, Nat.div_mul_cancel (Nat.dvd_of_mod_eq_zero hsz.2)]
        · simp at h
      · simp at h
    · simp at h
  · simp at h
theorem zGc : ∀ (l : List Int) (r : ByteArray), l.foldl (fun r n => r.push (UInt8.ofNat n.toNat)) r = ⟨r.data ++ (l.map fun n => UInt8.ofNat n.toNat).toArray⟩
  | [], r => by simp
  | n :: l, r => by
    rw [List.foldl_cons, zGc l]
    simp [ByteArray.push]
theorem zJ1 {hp : List SObj} (hobj : ∀ o x, hp[o]? = some x -> zAN B ν n w o x) {x v : SV} {p : Option BE} (h : zMV hp x = some (p, v)) (hp' : zAJ p) :
    (Conv.bytesToString (x.den ν)).run P w = .ok (v.den ν) w /\ v.wf n /\ ∃ a l c, x.den ν = .slice a l c := by
  unfold zMV at h
  split at h
  · simp only [Option.some.injEq, Prod.mk.injEq] at h
    obtain ⟨rfl, rfl⟩ := h
    exact ⟨by simp [Conv.bytesToString, SV.den, Sem.run, pure], trivial, _, _, _, rfl⟩
  · split at h
    · rename_i inp o g m st len cap hv
      simp only [Option.map_eq_some_iff, Prod.mk.injEq] at h
      obtain ⟨q, hq, rfl, rfl⟩ := h
      obtain ⟨d1, d2, d3, _, d4⟩ := zBc hobj hv
      have hask := zAI hq hp'
      rw [zBs, zAa] at hask
      have hle : st.den + len.den <= m.den := of_decide_eq_true hask
      refine ⟨?_, trivial, _, _, _, d1⟩
      rw [d1]
      cases hb : (inp && (ν o).nil) with
      | true =>
        have : len.den = 0 := by have := d3 hb; omega
        simp only [cond_true, SV.den, zGp, this]
        simp [Conv.bytesToString, Sem.run, pure, ByteArray.empty, ByteArray.emptyWithCapacity]
        rfl
      | false =>
        simp only [cond_false]
        have hl := run_loadCells_list (P := P) w ⟨(ν o).blk, (ν o).base inp + st.den * 1, none⟩ (((List.range len.den).map fun j => (g (st.den + j)).den).map (Value.int .u8)) (fun j u hu => by
          rw [zDz]
          simp only [List.map_map, List.getElem?_map, Option.map_eq_some_iff] at hu
          obtain ⟨k, hk, rfl⟩ := hu
          obtain ⟨hk1, hk2⟩ := List.getElem?_eq_some_iff.1 hk
          simp only [List.length_range] at hk1
          simp only [List.getElem_range] at hk2
          subst hk2
          obtain ⟨u, u1, u2⟩ := d4 (st.den + j) (by omega) 0 _ rfl
          have u3 := u2.2
          simp only [Col.den] at u3
          simp only [Function.comp]
          rw [<- u3, <- u1]
          simp [Nat.add_assoc])
        have e2 : (((List.range len.den).map fun j => (g (st.den + j)).den).map (Value.int .u8)).length = len.den := by simp only [List.length_map, List.length_range]
        rw [e2] at hl
        have hr := run_bytesToString (P := P) w ⟨(ν o).blk, (ν o).base inp + st.den * 1, none⟩ len.den cap.den ((List.range len.den).map fun j => (g (st.den + j)).den) (by rw [hl])
        rw [hr, zGc]
        have e9 : ∀ L : Array UInt8, (⟨ByteArray.empty.data ++ L⟩ : ByteArray) = ⟨L⟩ := fun L => by
          have : ByteArray.empty.data = #[] := rfl
          rw [this, Array.empty_append]
        rw [e9]
        simp only [SV.den, zGp, List.map_map]
        rfl
    · simp at h
theorem zLG {op : BinOp} {t : TypeId} {x y v : SV} (ht : P.underlying t = some .string) (h : zNb op x y = some v) : (binOp op t (x.den ν) (y.den ν)).run P w = .ok (v.den ν) w /\ v.wf n := by
  have hs : ∀ {x : SV} {s : ByteArray}, zFf x = some s -> x.den ν = .string s := fun {x s} hx => by
    cases x <;> simp [zFf] at hx <;> subst hx <;> rfl
  unfold zNb at h
  split at h
  · rename_i a b h1 h2
    simp only [Option.some.injEq] at h; subst h
    rw [hs h1, hs h2, binOp_string_eql]
    exact ⟨rfl, trivial⟩
  · rename_i a b h1 h2
    simp only [Option.some.injEq] at h; subst h
    rw [hs h1, hs h2, binOp_string_neq]
    exact ⟨rfl, trivial⟩
  · simp at h
theorem zJz (h : TSat ν n σ a) (hobj : ∀ o x, σ.hp[o]? = some x -> zAN B ν n w o x)
    {o : Oper} {p : Option BE} {v : SV} (hv : zDS P σ o.op = some (p, v)) (hp : zAJ p) :
    (execOp a.eval o).run P w = .ok (.value (v.den ν)) w /\ v.wf n := by
  unfold zDS at hv
  split at hv
  case h_1 t q he =>
    split at hv
    · rename_i inp ob sz i c hq
      obtain ⟨q1, _⟩ := zB h hq
      obtain ⟨l1, l2⟩ := zM5 hobj hv hp
      exact ⟨by simp [execOp, he, q1, SV.den, Instr.loadAt, Instr.sureAddr, l1, Sem.run, pure], l2⟩
    · simp at hv
  case h_2 x he =>
    split at hv
    · rename_i hx
      simp only [Option.some.injEq, Prod.mk.injEq] at hv; obtain ⟨rfl, rfl⟩ := hv
      obtain ⟨x1, x2⟩ := zB h hx
      exact ⟨by simp [execOp, he, x1, SV.den, pure], x2⟩
    · simp at hv
  case h_3 t x i he =>
    split at hv
    · rename_i u u' hx hi
      obtain ⟨x1, x2⟩ := zB h hx
      obtain ⟨i1, _⟩ := zB h hi
      obtain ⟨b1, b2⟩ := zI0 hobj hv hp x2
      exact ⟨by simp [execOp, he, x1, i1, b1, Sem.run, pure], b2⟩
    · simp at hv
  case h_4 s x f he =>
    split at hv
    · rename_i u hx
      simp only [Option.map_eq_some_iff, Prod.mk.injEq] at hv
      obtain ⟨u', hu, rfl, rfl⟩ := hv
      obtain ⟨x1, x2⟩ := zB h hx
      obtain ⟨b1, b2⟩ := zI2 (P := P) (ν := ν) (w := w) (n := n) hu x2
      exact ⟨by simp [execOp, he, x1, b1, Sem.run, pure], b2⟩
    · simp at hv
  case h_5 t x lo hi he =>
    split at hv
    · rename_i u hx
      obtain ⟨x1, x2⟩ := zB h hx
      obtain ⟨b1, b2⟩ := zDF hobj hv hp x2
      simp only [Option.map_none] at b1
      exact ⟨by simp [execOp, he, x1, b1, Sem.run, pure], b2⟩
    · rename_i u l hx
      split at hv
      · rename_i l' hl
        obtain ⟨x1, x2⟩ := zB h hx
        obtain ⟨l1, _⟩ := zB h hl
        obtain ⟨b1, b2⟩ := zDF hobj hv hp x2
        simp only [Option.map_none, Option.map_some] at b1
        exact ⟨by simp [execOp, he, x1, l1, b1, Sem.run, pure], b2⟩
      · simp at hv
    · rename_i u l hx
      split at hv
      · rename_i l' hl
        obtain ⟨x1, x2⟩ := zB h hx
        obtain ⟨l1, _⟩ := zB h hl
        obtain ⟨b1, b2⟩ := zDF hobj hv hp x2
        simp only [Option.map_none, Option.map_some] at b1
        exact ⟨by simp [execOp, he, x1, l1, b1, Sem.run, pure], b2⟩
      · simp at hv
    · simp at hv
  case h_6 src dst x he =>
    split at hv
    · rename_i e u hs hd hx
      split at hv
      · rename_i hu8
        obtain ⟨x1, _⟩ := zB h hx
        obtain ⟨b1, b2, ⟨ad, l, c, b3⟩⟩ := zJ1 (P := P) hobj hv hp
        refine ⟨?_, b2⟩
        rw [b3] at b1
        have := run_convert_bytes_string w src dst e ad l c hs hu8 hd
        rw [b1] at this
        simp [execOp, he, x1, b3, this, Sem.run, pure]
      · simp at hv
    · simp at hv
  case h_7 op t x y yt he =>
    split at hv
    · rename_i u u' ht hx hy
      simp only [Option.map_eq_some_iff, Prod.mk.injEq] at hv
      obtain ⟨v', hu, rfl, rfl⟩ := hv
      obtain ⟨x1, _⟩ := zB h hx
      obtain ⟨y1, _⟩ := zB h hy
      obtain ⟨b1, b2⟩ := zLG (ν := ν) (w := w) (n := n) ht hu
      refine ⟨?_, b2⟩
      have hg : (eqGuard op t x y (u.den ν) (u'.den ν)).run P w = .ok () w := by
        unfold zNb at hu
        have hs : ∀ {x : SV} {s : ByteArray}, zFf x = some s -> x.den ν = .string s := fun {x s} hx => by
          cases x <;> simp [zFf] at hx <;> subst hx <;> rfl
        split at hu
        · rename_i h1 h2; rw [hs h1, hs h2]; simp [eqGuard, Sem.run, pure]
        · rename_i h1 h2; rw [hs h1, hs h2]; simp [eqGuard, Sem.run, pure]
        · simp at hu
      simp [execOp, he, x1, y1, b1, hg, pure]
    · simp at hv
  case h_8 c he =>
    split at hv
    · rename_i x hcal hargs
      have e0 : c.args = #[x] := by apply Array.ext'; simpa using hargs
      split at hv
      · rename_i t inp ob sz st len cap ht hx
        split at hv
        · rename_i e hu
          simp only [Option.some.injEq, Prod.mk.injEq] at hv; obtain ⟨rfl, rfl⟩ := hv
          obtain ⟨x1, _⟩ := zB h hx
          refine ⟨?_, trivial⟩
          simp [execOp, he, resolve, hcal, e0, x1, invoke, builtin, Builtin.len_, ht, underlying, program, hu, SV.den, goInt, zRb, Sem.run, pure]
        · simp at hv
      · simp at hv
    · rename_i x hcal hargs
      have e0 : c.args = #[x] := by apply Array.ext'; simpa using hargs
      split at hv
      · rename_i t inp ob sz st len cap ht hx
        split at hv
        · rename_i e hu
          simp only [Option.some.injEq, Prod.mk.injEq] at hv; obtain ⟨rfl, rfl⟩ := hv
          obtain ⟨x1, _⟩ := zB h hx
          refine ⟨?_, trivial⟩
          simp [execOp, he, resolve, hcal, e0, x1, invoke, builtin, Builtin.cap_, ht, underlying, program, hu, SV.den, goInt, zRb, Sem.run, pure]
        · simp at hv
      · simp at hv
    · simp at hv
  case h_9 => simp at hv
theorem zBZ (h : TSat ν n σ a) {x : Option Operand} {v : Option SV} (hv : zId σ x = some v) : x.map a.eval = v.map (SV.den ν) := by
  cases x with
  | none => simp [zId] at hv; subst hv; rfl
  | some x =>
    simp only [zId, Option.map_eq_some_iff] at hv
    obtain ⟨u, hu, rfl⟩ := hv
    simp [(zB h hu).1]
theorem zEW {x : Option SV} {top dflt r : NE} {p : Option BE} (h : zI9 x top dflt = some (p, r)) (hp : zAJ p) :
    (x = none /\ r = dflt) ∨ ∃ k e, x = some (.int k e) /\ r.den = e.den.toNat /\ 0 <= e.den /\ e.den <= (top.den : Int) := by
  unfold zI9 at h
  split at h
  · simp only [Option.some.injEq, Prod.mk.injEq] at h
    exact .inl ⟨rfl, h.2.symm⟩
  · rename_i k e
    simp only [Option.map_eq_some_iff, Prod.mk.injEq] at h
    obtain ⟨q, hq, rfl, rfl⟩ := h
    have hin := zAI hq hp
    rw [zEo, zAa, zAF] at hin
    simp only [decide_eq_true_eq] at hin
    exact .inr ⟨k, e, rfl, zFL e, hin.1, by omega⟩
  · simp at h
theorem zEr {isS : Bool} {len cap m hh l : Nat} {lo hi mx : Option SV} (hmx : (mx = none /\ m = cap) ∨ ∃ k e, mx = some (.int k e) /\ m = e.den.toNat /\ 0 <= e.den /\ e.den <= (cap : Int))
    (hhi : (hi = none /\ mx = none /\ hh = len) ∨ ∃ k e, hi = some (.int k e) /\ hh = e.den.toNat /\ 0 <= e.den /\ e.den <= (m : Int)) (hlo : (lo = none /\ l = 0) ∨ ∃ k e, lo = some (.int k e) /\ l = e.den.toNat /\ 0 <= e.den /\ e.den <= (hh : Int)) :
    (Instr.sliceBounds isS len cap (lo.map (SV.den ν)) (hi.map (SV.den ν)) (mx.map (SV.den ν))).run P w = .ok (l, hh, m) w := by
  have sb : ∀ (k : IntKind) (e : IE) (y r : Nat) (c : BoundsCode), r = e.den.toNat -> 0 <= e.den -> e.den <= (y : Int) -> (Instr.sliceBound (.int k e.den) y c).run P w = .ok r w := by
    intro k e y r c hr h0 h1
    simp [Instr.sliceBound, asIntOf, Sem.run, pure, h0, h1, hr]
  unfold Instr.sliceBounds
  rcases hmx with ⟨rfl, rfl⟩ | ⟨km, em, rfl, m1, m2, m3⟩
  · rcases hhi with ⟨rfl, _, rfl⟩ | ⟨kh, eh, rfl, h1, h2, h3⟩
    · rcases hlo with ⟨rfl, rfl⟩ | ⟨kl, el, rfl, l1, l2, l3⟩
      · simp [Sem.run, pure]
      · have s3 := fun c => sb kl el hh l c l1 l2 l3
        simp [SV.den, Sem.run_bind, s3, Result.andThen]
    · have s2 := fun c => sb kh eh m hh c h1 h2 h3
      rcases hlo with ⟨rfl, rfl⟩ | ⟨kl, el, rfl, l1, l2, l3⟩
      · simp [SV.den, Sem.run_bind, s2, Result.andThen]
      · have s3 := fun c => sb kl el hh l c l1 l2 l3
        simp [SV.den, Sem.run_bind, s2, s3, Result.andThen]
  · have s1 := fun c => sb km em cap m c m1 m2 m3
    rcases hhi with ⟨rfl, hx, _⟩ | ⟨kh, eh, rfl, h1, h2, h3⟩
    · simp at hx
    · have s2 := fun c => sb kh eh m hh c h1 h2 h3
      rcases hlo with ⟨rfl, rfl⟩ | ⟨kl, el, rfl, l1, l2, l3⟩
      · simp [SV.den, Sem.run_bind, s1, s2, Result.andThen]
      · have s3 := fun c => sb kl el hh l c l1 l2 l3
        simp [SV.den, Sem.run_bind, s1, s2, s3, Result.andThen]
theorem zLB {plain inp : Bool} {o sz : Nat} {st len cap : NE} (hi : plain = true -> inp = false) (hn : n o) :
    (zLC plain inp o sz st len cap).den ν = (SV.sliceE inp o sz st len cap).den ν /\ (zLC plain inp o sz st len cap).wf n := by
  unfold zLC
  split
  · have := hi rfl
    subst this
    exact ⟨by simp [SV.den, Pl.base, zAF], hn⟩
  · exact ⟨rfl, hn⟩
theorem zPl {sz : Nat} {x : SV} {inp : Bool} {o : Nat} {st len cap : NE} (h : asSl sz x = some (inp, o, st, len, cap)) (hx : x.wf n) :
    x.den ν = (SV.sliceE inp o sz st len cap).den ν /\ n o /\ (zKd x = true -> inp = false) := by
  unfold asSl at h
  split at h
  · split at h
    · rename_i hs
      simp only [Option.some.injEq, Prod.mk.injEq] at h
      obtain ⟨rfl, rfl, rfl, rfl, rfl⟩ := h
      subst hs
      exact ⟨rfl, hx, by simp [zKd]⟩
    · simp at h
  · split at h
    · rename_i hs
      simp only [Option.some.injEq, Prod.mk.injEq] at h
      obtain ⟨rfl, rfl, rfl, rfl, rfl⟩ := h
      exact ⟨by simp [SV.den, Pl.base, zAF, Nat.div_mul_cancel (Nat.dvd_of_mod_eq_zero hs.2)], hx, fun _ => rfl⟩
    · simp at h
  · simp at h
theorem zIy {hp : List SObj} (hobj : ∀ o x, hp[o]? = some x -> zAN B ν n w o x) {t : TypeId} {x v : SV} {lo hi mx : Option SV} {p : Option BE} (h : zJ5 P hp t x lo hi mx = some (p, v)) (hp' : zAJ p) (hx : x.wf n) :
    (Instr.sliceAt t (x.den ν) (lo.map (SV.den ν)) (hi.map (SV.den ν)) (mx.map (SV.den ν))).run P w = .ok (v.den ν) w /\ v.wf n := by
  unfold zJ5 at h
  split at h
  · rename_i e hu
    have u1 : (underlying t).run P w = .ok (.slice e) w := by simp [underlying, program, hu, Sem.run, pure]
    split at h
    · rename_i inf hi'
      have s1 : (sizeOf e).run P w = .ok inf.size w := by simp [sizeOf, typeInfo, program, hi', Sem.run, pure]
      split at h
      · rename_i inp o st len cap hsl
        obtain ⟨x1, x2, x3⟩ := zPl (ν := ν) hsl hx
        have main : ∀ {p v}, (match zI9 mx cap cap with
          | some (pm, m) => match zI9 hi m len with
            | some (ph, h) => match zI9 lo h (.lit 0) with
              | some (pl, l) => match zNA hp inp o st len cap with
                | some g => some (zFA (zFA g pm) (zFA ph pl), zLC (zKd x) inp o inf.size (zL3 st m l) (NE.two (· - ·) h l) (NE.two (· - ·) m l))
                | none => none
              | none => none
            | none => none
          | none => none) = some (p, v) -> zAJ p -> (mx ≠ none -> hi ≠ none) -> (Instr.sliceAt t (x.den ν) (lo.map (SV.den ν)) (hi.map (SV.den ν)) (mx.map (SV.den ν))).run P w = .ok (v.den ν) w /\ v.wf n := by
          intro p v h hp' hmh
          split at h
          · rename_i pm m hm
            split at h
            · rename_i ph hh hhd
              split at h
              · rename_i pl l hl
                split at h
                · rename_i g hg
                  simp only [Option.some.injEq, Prod.mk.injEq] at h
                  obtain ⟨rfl, rfl⟩ := h
                  obtain ⟨q1, q2⟩ := zCJ hp'
                  obtain ⟨q3, q4⟩ := zCJ q1
                  obtain ⟨q5, q6⟩ := zCJ q2
                  have hgd := zDu hobj hg q3
                  have b1 := zEW hm q4
                  have b2 := zEW hhd q5
                  have b3 := zEW hl q6
                  have c1 : (mx = none /\ m.den = cap.den) ∨ ∃ k e, mx = some (.int k e) /\ m.den = e.den.toNat /\ 0 <= e.den /\ e.den <= (cap.den : Int) := by
                    rcases b1 with ⟨r1, r2⟩ | b1
                    · exact .inl ⟨r1, by rw [r2]⟩
                    · exact .inr b1
                  have c2 : (hi = none /\ mx = none /\ hh.den = len.den) ∨ ∃ k e, hi = some (.int k e) /\ hh.den = e.den.toNat /\ 0 <= e.den /\ e.den <= (m.den : Int) := by
                    rcases b2 with ⟨r1, r2⟩ | b2
                    · refine .inl ⟨r1, ?_, by rw [r2]⟩
                      cases hmx : mx with
                      | none => rfl
                      | some u => exact absurd r1 (hmh (by rw [hmx]; simp))
                    · exact .inr b2
                  have c3 : (lo = none /\ l.den = 0) ∨ ∃ k e, lo = some (.int k e) /\ l.den = e.den.toNat /\ 0 <= e.den /\ e.den <= (hh.den : Int) := by
                    rcases b3 with ⟨r1, r2⟩ | b3
                    · exact .inl ⟨r1, by rw [r2]; rfl⟩
                    · exact .inr b3
                  have hb := zEr (P := P) (ν := ν) (w := w) (isS := true) (len := len.den) (cap := cap.den) c1 c2 c3
                  obtain ⟨t1, t2⟩ := zLB (ν := ν) (sz := inf.size) (st := zL3 st m l) (len := NE.two (· - ·) hh l) (cap := NE.two (· - ·) m l) x3 x2
                  refine ⟨?_, t2⟩
                  rw [t1, x1]
                  simp only [SV.den, Instr.sliceAt]
                  rw [Sem.run_bind, u1]
                  simp only [Result.andThen, Instr.slice]
                  rw [Sem.run_bind, u1]
                  simp only [Result.andThen]
                  rw [Sem.run_bind, hb]
                  simp only [Result.andThen]
                  rw [Sem.run_bind, s1]
                  simp only [Result.andThen, Sem.run, pure, zAa, zOa]
                  cases hbn : (inp && (ν o).nil) with
                  | true => simp
                  | false =>
                    simp only [cond_false, Option.map_some, Addr.add_lit]
                    by_cases hc : m.den = l.den
                    · simp [hc]
                    · have : Nat.beq m.den l.den = false := by
                        cases hb2 : Nat.beq m.den l.den with
                        | false => rfl
                        | true => exact absurd (Nat.eq_of_beq_eq_true hb2) hc
                      simp [hc, this, Nat.add_mul, Nat.add_assoc]
                · simp at h
              · simp at h
            · simp at h
          · simp at h
        split at h
        · simp at h
        · rename_i hne
          exact main h hp' (fun h1 h2 => by
            cases hm : mx with
            | none => exact h1 hm
            | some u => exact hne u hm h2)
      · simp at h
    · simp at h
  · simp at h
theorem zDV {x : SV} {s : ByteArray} (hx : zFf x = some s) : x.den ν = .string s := by
  cases x <;> simp [zFf] at hx <;> subst hx <;> rfl
theorem zHl (b : Bool) (s : ByteArray) : (zMU b s).den ν = .string s /\ (zMU b s).wf n := by
  cases b <;> exact ⟨rfl, trivial⟩
theorem zHN (x : SV) (s : ByteArray) : (if zDU x = true then NE.lit s.size else NE.var s.size).den = s.size := by split <;> rfl
theorem zIx {t : TypeId} {x v : SV} {lo hi : Option SV} {p : Option BE} (hu : P.underlying t = some .string) (h : zJ4 x lo hi = some (p, v)) (hp' : zAJ p) :
    (Instr.sliceAt t (x.den ν) (lo.map (SV.den ν)) (hi.map (SV.den ν)) none).run P w = .ok (v.den ν) w /\ v.wf n := by
  unfold zJ4 at h
  split at h
  · rename_i s hs
    have u1 : (underlying t).run P w = .ok .string w := by simp [underlying, program, hu, Sem.run, pure]
    simp only at h
    split at h
    · rename_i ph hh hhd
      split at h
      · rename_i pl l hl
        simp only [Option.some.injEq, Prod.mk.injEq] at h
        obtain ⟨rfl, rfl⟩ := h
        obtain ⟨q5, q6⟩ := zCJ hp'
        have b2 := zEW hhd q5
        have b3 := zEW hl q6
        rw [zHN] at b2
        have c2 : (hi = none /\ (none : Option SV) = none /\ hh.den = s.size) ∨ ∃ k e, hi = some (.int k e) /\ hh.den = e.den.toNat /\ 0 <= e.den /\ e.den <= (s.size : Int) := by
          rcases b2 with ⟨r1, r2⟩ | b2
          · exact .inl ⟨r1, rfl, by rw [r2, zHN]⟩
          · exact .inr b2
        have c3 : (lo = none /\ l.den = 0) ∨ ∃ k e, lo = some (.int k e) /\ l.den = e.den.toNat /\ 0 <= e.den /\ e.den <= (hh.den : Int) := by
          rcases b3 with ⟨r1, r2⟩ | b3
          · exact .inl ⟨r1, by rw [r2]; rfl⟩
          · exact .inr b3
        have hb := zEr (P := P) (ν := ν) (w := w) (isS := false) (len := s.size) (cap := s.size) (m := s.size) (mx := none) (.inl ⟨rfl, rfl⟩) c2 c3
        refine ⟨?_, (zHl (ν := ν) _ _).2⟩
        rw [(zHl (n := n) _ _).1, zDV hs]
        simp only [Instr.sliceAt]
        rw [Sem.run_bind, u1]
        simp only [Result.andThen, Instr.slice]
        rw [Sem.run_bind, u1]
        simp only [Result.andThen]
        simp only [Option.map_none] at hb
        simp [Sem.run_bind, hb, Result.andThen]
      · simp at h
    · simp at h
  · simp at h
theorem zPf {s : ByteArray} {i : Nat} (h : i < s.size) : s[i]? = some s[i] /\ ((s[i]).toNat : Int) = zDc s i := by
  have h2 : i < s.data.size := h
  refine ⟨by simp [h], ?_⟩
  simp only [zDc]
  rw [Array.getElem?_eq_getElem h2]; rfl
theorem zIz {t : TypeId} {x ix v : SV} {p : Option BE} (hu : P.underlying t = some .string) (h : zJ7 x ix = some (p, v)) (hp' : zAJ p) :
    (Instr.index t (x.den ν) (ix.den ν)).run P w = .ok (v.den ν) w /\ v.wf n := by
  unfold zJ7 at h
  split at h
  · rename_i s k i hs
    simp only [Option.map_eq_some_iff, Prod.mk.injEq] at h
    obtain ⟨q, hq, rfl, rfl⟩ := h
    have hin := zAI hq hp'
    rw [zEo, zHN] at hin
    simp only [decide_eq_true_eq] at hin
    have hlt : i.den.toNat < s.size := by omega
    obtain ⟨g1, g2⟩ := zPf hlt
    have u1 : (underlying t).run P w = .ok .string w := by simp [underlying, program, hu, Sem.run, pure]
    refine ⟨?_, trivial⟩
    rw [zDV hs]
    have fin : ∀ r : IE, r.den = zDc s i.den.toNat -> (Instr.index t (.string s) (.int k i.den)).run P w = .ok (.int .u8 r.den) w := fun r hr => by
      rw [run_index_string w t s k i.den hu, dif_pos ⟨hin.1, hin.2⟩, hr, g2]
    exact fin _ (by split <;> rfl)
  · simp at h
theorem zLF {op : BinOp} {t : TypeId} {x y v : SV} {p : Option BE} (ht : P.underlying t = some .string) (h : zP8 op x y = some (p, v)) (hp' : zAJ p) :
    (binOp op t (x.den ν) (y.den ν)).run P w = .ok (v.den ν) w /\ v.wf n /\ (op == .eql || op == .neq) = false := by
  unfold zP8 at h
  split at h
  · rename_i a b h1 h2
    rw [zDV h1, zDV h2]
    split at h
    · rw [binOp_string_add]
      split at h
      · split at h
        · simp only [Option.some.injEq, Prod.mk.injEq] at h
          obtain ⟨rfl, rfl⟩ := h
          refine ⟨?_, trivial, rfl⟩
          have : ¬ (((a.size + b.size : Nat) : Int) > IntKind.i64.max) := by simp [IntKind.max, IntKind.bits, IntKind.signed]; omega
          simp only [Op.stringOp]
          rw [if_neg this]; rfl
        · simp at h
      · simp only [Option.some.injEq, Prod.mk.injEq] at h
        obtain ⟨rfl, rfl⟩ := h
        refine ⟨?_, trivial, rfl⟩
        have hs : a.size + b.size <= 9223372036854775807 := of_decide_eq_true hp'
        have : ¬ (((a.size + b.size : Nat) : Int) > IntKind.i64.max) := by simp [IntKind.max, IntKind.bits, IntKind.signed]; omega
        simp only [Op.stringOp]
        rw [if_neg this]; rfl
    · simp only [Option.some.injEq, Prod.mk.injEq] at h
      obtain ⟨rfl, rfl⟩ := h
      exact ⟨by rw [binOp_string_lss]; rfl, trivial, rfl⟩
    · simp only [Option.some.injEq, Prod.mk.injEq] at h
      obtain ⟨rfl, rfl⟩ := h
      exact ⟨by simp [binOp, Op.stringOp]; rfl, trivial, rfl⟩
    · simp only [Option.some.injEq, Prod.mk.injEq] at h
      obtain ⟨rfl, rfl⟩ := h
      exact ⟨by simp [binOp, Op.stringOp]; rfl, trivial, rfl⟩
    · simp only [Option.some.injEq, Prod.mk.injEq] at h
      obtain ⟨rfl, rfl⟩ := h
      exact ⟨by simp [binOp, Op.stringOp]; rfl, trivial, rfl⟩
    · simp at h
  · simp at h
theorem zBu {k k0 : IntKind} {a : Int} : ∀ {ks vs : List SV} {i b : Nat} {r : Option Nat}, zEQ k a ks i = some r -> ks.length = vs.length ->
    (r = none -> Instr.findNow (.int k0) (.int k a) (ents b (SV.denL ν ks) (SV.denL ν vs)) i = some none) /\
      (∀ j, r = some j -> i <= j /\ ∃ v, vs[j - i]? = some v /\ ks[j - i]? = some (.int k (.lit a)) /\ Instr.findNow (.int k0) (.int k a) (ents b (SV.denL ν ks) (SV.denL ν vs)) i = some (some (j, v.den ν)))
  | [], [], i, b, r, h, _ => by
    simp only [zEQ, Option.some.injEq] at h; subst h
    exact ⟨fun _ => rfl, fun j hj => (by cases hj)⟩
  | x :: ks, v :: vs, i, b, r, h, hl => by
    unfold zEQ at h
    split at h
    · rename_i heq; cases heq
    · rename_i ii kk b' rr heq
      cases heq
      split at h
      · rename_i hk
        subst hk
        split at h
        · rename_i hab
          subst hab
          simp only [Option.some.injEq] at h; subst h
          refine ⟨fun hn => (by cases hn), fun j hj => ?_⟩
          simp only [Option.some.injEq] at hj; subst hj
          exact ⟨Nat.le_refl _, v, by simp, by simp, by simp [SV.denL, SV.den, IE.den, ents, Instr.findNow, Instr.sameNow]⟩
        · rename_i hab
          rename_i i _
          obtain ⟨g1, g2⟩ := zBu (ks := ks) (vs := vs) (i := i + 1) (b := b + 1) (r := r) h (show ks.length = vs.length by simpa using hl)
          have hne : (a == b') = false := by simpa using hab
          refine ⟨fun hn => ?_, fun j hj => ?_⟩
          · simpa [SV.denL, SV.den, IE.den, ents, Instr.findNow, Instr.sameNow, hne] using g1 hn
          · obtain ⟨e1, u, e2, e3, e4⟩ := g2 j hj
            have e5 : j - i = (j - (i + 1)) + 1 := by omega
            exact ⟨by omega, u, by rw [e5]; simpa using e2, by rw [e5]; simpa using e3, by simpa [SV.denL, SV.den, IE.den, ents, Instr.findNow, Instr.sameNow, hne] using e4⟩
      · simp at h
    · simp at h
  | [], _ :: _, _, _, _, _, hl => by simp at hl
  | _ :: _, [], _, _, _, _, hl => by simp at hl
theorem zBG {ok b : Bool} {v : SV} (hv : v.wf n) : (zDE ok v b).den ν = (if ok then Value.tuple #[v.den ν, .bool b] else v.den ν) /\ (zDE ok v b).wf n := by
  cases ok
  · exact ⟨rfl, hv⟩
  · exact ⟨by simp [zDE, SV.den, SV.denL, BE.den], by simp [zDE, SV.wf, SV.wfL, hv]⟩
theorem zLR : ∀ {l l' : List SV}, zEg l l' = true -> SV.denL ν l = SV.denL ν l' /\ ∀ m, ((SV.denL ν l).zip (SV.denL ν l')).all (fun (x, y) => Instr.sameBits m x y) = true := by
  intro l
  induction l with
  | nil => intro l' h; cases l' with
    | nil => exact ⟨rfl, fun _ => rfl⟩
    | cons _ _ => simp [zEg] at h
  | cons x r ih =>
    intro l' h
    unfold zEg at h
    split at h
    · contradiction
    · rename_i k a r1 k' b r2 heq
      cases heq
      simp only [Bool.and_eq_true, decide_eq_true_eq] at h
      obtain ⟨rfl, rfl, h3⟩ := h
      obtain ⟨e1, e2⟩ := ih h3
      refine ⟨by simp only [SV.denL, e1], fun m => ?_⟩
      simp only [SV.denL, List.zip_cons_cons, List.all_cons, e2 m, Bool.and_true]
      cases m <;> simp [SV.den, IE.den, Instr.sameBits]
    · rename_i a r1 b r2 heq
      cases heq
      simp only [Bool.and_eq_true, beq_iff_eq] at h
      obtain ⟨rfl, h3⟩ := h
      obtain ⟨e1, e2⟩ := ih h3
      refine ⟨by simp only [SV.denL, e1], fun m => ?_⟩
      simp only [SV.denL, List.zip_cons_cons, List.all_cons, e2 m, Bool.and_true]
      cases m <;> simp [SV.den, BE.den, Instr.sameBits]
    · simp at h
theorem zMi {x y : SV} (h : zKI x y = true) : x.den ν = y.den ν /\ Instr.sameBits 10000 (y.den ν) (x.den ν) = true := by
  unfold zKI at h
  split at h
  · rename_i l l'
    obtain ⟨e1, e2⟩ := zLR (ν := ν) h
    refine ⟨by simp only [SV.den, e1], ?_⟩
    have := e2 9999
    rw [<- e1] at this
    simp only [SV.den, Instr.sameBits, <- e1]
    simpa using this
  · simp at h
theorem zPd {kt : TypeId} {key : SV} {n : Nat -> Prop} (hkw : key.wf n) (h : zIP P kt key = true) (e : Bool) (m : Nat) : (Instr.checkKey e (m + 1 + 1) kt (key.den ν)).run P w = .ok () w := by
  unfold zIP at h
  split at h
  · rename_i fs cs hu
    have leaf : ∀ (f : Field), zKn P f.type = true -> ∀ v : Value, (Instr.checkKey e (m + 1) f.type v).run P w = .ok () w := fun f h1 v => by
      unfold zKn at h1
      rw [Instr.checkKey, Sem.run_bind]
      split at h1
      · rename_i k hk; rw [run_underlying hk]; simp [Result.andThen, Sem.run, pure]
      · rename_i hk; rw [run_underlying hk]; simp [Result.andThen, Sem.run, pure]
      · rename_i hk; rw [run_underlying hk]; simp [Result.andThen, Sem.run, pure]
      · simp at h1
    generalize m + 1 = m1 at leaf
    have hl : ∀ (l : List Field), (l.all fun f => zKn P f.type && (zHm P f.type cs f.offset).isSome) = true ->
        (forIn l PUnit.unit fun (f : Field) (_ : PUnit) => (do
          if f.name ≠ "_" then Instr.checkKey e m1 f.type (<- part f.type (SV.denL ν cs).toArray f.offset)
          pure (ForInStep.yield PUnit.unit) : Sem (ForInStep PUnit))).run P w = .ok PUnit.unit w := by
      intro l
      induction l with
      | nil => intro _; rfl
      | cons f r ih =>
        intro hh
        simp only [List.all_cons, Bool.and_eq_true] at hh
        obtain ⟨⟨h1, h2⟩, h3⟩ := hh
        obtain ⟨v, hv⟩ := Option.isSome_iff_exists.1 h2
        have hp : (part f.type (SV.denL ν cs).toArray f.offset).run P w = .ok (v.den ν) w := by
          have := zEi (ν := ν) (w := w) (n := n) hv hkw
          exact this.1
        have hc := leaf f h1 (v.den ν)
        have ih3 := ih h3
        rw [List.forIn_cons, Sem.run_bind]
        by_cases hn : f.name = "_"
        · rw [if_neg (fun hx => hx hn)]
          exact ih3
        · rw [if_pos hn]
          simp only [bind_assoc]
          rw [Sem.run_bind, hp]
          simp only [Result.andThen]
          rw [Sem.run_bind, hc]
          exact ih3
    rw [Instr.checkKey, Sem.run_bind, run_underlying hu]
    have := hl fs.toList h
    rw [Array.forIn_toList] at this
    simp only [Result.andThen, SV.den]
    rw [Sem.run_bind]
    exact (congrArg (fun r => Result.andThen r _) this).trans rfl
  · simp at h
theorem zIl {kt : TypeId} {key : SV} {n : Nat -> Prop} (hkw : key.wf n) (h : zIP P kt key = true) (e : Bool) : (Instr.checkKey e 10000 kt (key.den ν)).run P w = .ok () w := zPd hkw h e 9998
theorem zBW {kt : TypeId} {key : SV} : ∀ {ks vs : List SV} {i b : Nat} {r : Option Nat}, zDx P kt key ks i = some r -> ks.length = vs.length ->
    (r = none -> (Instr.findAsking kt (key.den ν) (ents b (SV.denL ν ks) (SV.denL ν vs)) i).run P w = .ok none w) /\
      (∀ j, r = some j -> i <= j /\ ∃ v x, vs[j - i]? = some v /\ ks[j - i]? = some x /\ zKI key x = true /\ (Instr.findAsking kt (key.den ν) (ents b (SV.denL ν ks) (SV.denL ν vs)) i).run P w = .ok (some (j, v.den ν)) w)
  | [], [], i, b, r, h, _ => by
    simp only [zDx, Option.some.injEq] at h; subst h
    exact ⟨fun _ => rfl, fun j hj => (by cases hj)⟩
  | x :: ks, v :: vs, i, b, r, h, hl => by
    unfold zDx at h
    split at h
    · rename_i he
      have hq : (Op.equal kt (key.den ν) (x.den ν)).run P w = .ok true w := zDT 6 he 10000 (by omega)
      split at h
      · rename_i hs
        simp only [Option.some.injEq] at h; subst h
        refine ⟨fun hn => (by cases hn), fun j hj => ?_⟩
        simp only [Option.some.injEq] at hj; subst hj
        refine ⟨Nat.le_refl _, v, x, by simp, by simp, hs, ?_⟩
        simp only [SV.denL, ents, Instr.findAsking]
        rw [Sem.run_bind, hq]
        rfl
      · simp at h
    · rename_i he
      have hq : (Op.equal kt (key.den ν) (x.den ν)).run P w = .ok false w := zDT 6 he 10000 (by omega)
      obtain ⟨g1, g2⟩ := zBW (ks := ks) (vs := vs) (i := i + 1) (b := b + 1) (r := r) h (show ks.length = vs.length by simpa using hl)
      have step : ∀ o, (Instr.findAsking kt (key.den ν) (ents (b + 1) (SV.denL ν ks) (SV.denL ν vs)) (i + 1)).run P w = .ok o w -> (Instr.findAsking kt (key.den ν) (ents b (SV.denL ν (x :: ks)) (SV.denL ν (v :: vs))) i).run P w = .ok o w := fun o ho => by
        simp only [SV.denL, ents, Instr.findAsking]
        rw [Sem.run_bind, hq]
        exact ho
      refine ⟨fun hn => step _ (g1 hn), fun j hj => ?_⟩
      obtain ⟨e1, u, y, e2, e3, e4, e5⟩ := g2 j hj
      have e6 : j - i = (j - (i + 1)) + 1 := by omega
      exact ⟨by omega, u, y, by rw [e6]; simpa using e2, by rw [e6]; simpa using e3, e4, step _ e5⟩
    · simp at h
  | [], _ :: _, _, _, _, _, hl => by simp at hl
  | _ :: _, [], _, _, _, _, hl => by simp at hl
theorem zPS (h : TSat ν n σ a) (hobj : ∀ o x, σ.hp[o]? = some x -> zAN B ν n w o x) {t : TypeId} {x i : Operand} {ok : Bool} {p : Option BE} {v : SV} (hv : mapS P σ t x i ok = some (p, v)) :
    (Instr.lookup t (a.eval x) (a.eval i) ok).run P w = .ok (v.den ν) w /\ v.wf n /\ p = none := by
  unfold mapS at hv
  split at hv
  · rename_i kt et o key hu hx hi
    obtain ⟨x1, x2⟩ := zB h hx
    obtain ⟨k1, k2⟩ := zB h hi
    split at hv
    · rename_i z ks vs hz ho hck
      obtain ⟨z1, z2⟩ := zAZ (P := P) (ν := ν) (w := w) (n := n) hz
      obtain ⟨h1, h2, h3, h4, h5⟩ := hobj o _ ho
      have hwide : (match P.underlying kt with | some (.array _ _) | some (.struct _) => true | _ => false) = true := by
        unfold zIP at hck
        split at hck
        · rename_i hk; rw [hk]
        · simp at hck
      have u1 : (underlying t).run P w = .ok (.map kt et) w := by simp [underlying, program, hu, Sem.run, pure]
      have ck : ∀ e, (Instr.checkKey e 10000 kt (key.den ν)).run P w = .ok () w := fun e => zIl k2 hck e
      rw [x1, k1]
      simp only [SV.den]
      unfold Instr.lookup
      rw [Sem.run_bind, u1]
      simp only [Result.andThen]
      split at hv
      · rename_i j hf
        simp only [Option.map_eq_some_iff, Prod.mk.injEq] at hv
        obtain ⟨u, hu2, rfl, rfl⟩ := hv
        obtain ⟨_, u', x', e1, e2, e3, e4⟩ := (zBW (P := P) (ν := ν) (w := w) (b := 0) hf h5).2 j rfl
        rw [Nat.sub_zero] at e1
        rw [hu2] at e1; cases e1
        obtain ⟨t1, t2⟩ := zBG (ν := ν) (n := n) (ok := ok) (b := true) ((zz _ _).1 h4 u (List.mem_of_getElem? hu2))
        refine ⟨?_, t2, rfl⟩
        rw [t1]
        simp only [Sem.run_bind, Sem.run_pure, Result.andThen, MapKept.run_getObj_map h2, ck, run_findKey_eq w hwide, e4]
      · rename_i hf
        simp only [Option.some.injEq, Prod.mk.injEq] at hv
        obtain ⟨rfl, rfl⟩ := hv
        have e4 := (zBW (P := P) (ν := ν) (w := w) (b := 0) hf h5).1 rfl
        obtain ⟨t1, t2⟩ := zBG (ν := ν) (n := n) (ok := ok) (b := false) z2
        refine ⟨?_, t2, rfl⟩
        rw [t1]
        simp only [Sem.run_bind, Sem.run_pure, Result.andThen, MapKept.run_getObj_map h2, ck, run_findKey_eq w hwide, e4, z1]
      · simp at hv
    · simp at hv
  · simp at hv
theorem zLo (h : TSat ν n σ a) (hobj : ∀ o x, σ.hp[o]? = some x -> zAN B ν n w o x) {t : TypeId} {x i : Operand} {ok : Bool} {v : SV} (hv : zOB P σ t x i ok = some v) :
    (Instr.lookup t (a.eval x) (a.eval i) ok).run P w = .ok (v.den ν) w /\ v.wf n := by
  unfold zOB at hv
  split at hv
  · rename_i kt et xv k b hu hx hi
    obtain ⟨x1, x2⟩ := zB h hx
    obtain ⟨i1, _⟩ := zB h hi
    split at hv
    · rename_i k0 z hk hz
      obtain ⟨z1, z2⟩ := zAZ (P := P) (ν := ν) (w := w) (n := n) hz
      have u1 : (underlying t).run P w = .ok (.map kt et) w := by simp [underlying, program, hu, Sem.run, pure]
      have u2 : (underlying kt).run P w = .ok (.int k0) w := by simp [underlying, program, hk, Sem.run, pure]
      have ck0 : ∀ e m, (Instr.checkKey e (m + 1) kt (.int k b)).run P w = .ok () w := fun e m => by
        simp only [Instr.checkKey]
        rw [Sem.run_bind, u2]
        simp [Result.andThen, Sem.run, pure]
      have ck : ∀ e, (Instr.checkKey e 10000 kt (.int k b)).run P w = .ok () w := fun e => ck0 e 9999
      rw [x1, i1]
      simp only [SV.den, IE.den]
      unfold Instr.lookup
      rw [Sem.run_bind, u1]
      simp only [Result.andThen]
      split at hv
      · simp only [Option.some.injEq] at hv; subst hv
        obtain ⟨t1, t2⟩ := zBG (ν := ν) (n := n) (ok := ok) (b := false) z2
        refine ⟨?_, t2⟩
        rw [t1]
        simp only [SV.den]
        simp [Sem.run_bind, Sem.run_pure, Result.andThen, ck, Instr.findKey, u2, Instr.findNow, z1]
      · rename_i o
        split at hv
        · rename_i ks vs ho
          obtain ⟨h1, h2, h3, h4, h5⟩ := hobj o _ ho
          have g1 : (getObj (ν o).blk).run P w = .ok (.map (ents 0 (SV.denL ν ks) (SV.denL ν vs)).toArray ks.length) w := by
            simp [getObj, Sem.run, h2, pure]
          split at hv
          · rename_i j hf
            simp only [Option.map_eq_some_iff] at hv
            obtain ⟨u, hu', rfl⟩ := hv
            obtain ⟨e1, v', e2, _, e3⟩ := (zBu (ν := ν) (k0 := k0) (b := 0) hf h5).2 j rfl
            rw [Nat.sub_zero, hu'] at e2; cases e2
            obtain ⟨t1, t2⟩ := zBG (ν := ν) (n := n) (ok := ok) (b := true) ((zz _ _).1 h4 u (List.mem_of_getElem? hu'))
            refine ⟨?_, t2⟩
            rw [t1]
            simp only [SV.den]
            simp [Sem.run_bind, Sem.run_pure, Result.andThen, g1, ck, Instr.findKey, u2, e3]
          · rename_i hf
            simp only [Option.some.injEq] at hv; subst hv
            have e3 := (zBu (ν := ν) (k0 := k0) (b := 0) hf h5).1 rfl
            obtain ⟨t1, t2⟩ := zBG (ν := ν) (n := n) (ok := ok) (b := false) z2
            refine ⟨?_, t2⟩
            rw [t1]
            simp only [SV.den]
            simp [Sem.run_bind, Sem.run_pure, Result.andThen, g1, ck, Instr.findKey, u2, e3, z1]
          · simp at hv
        · simp at hv
      · simp at hv
    · simp at hv
  · simp at hv
theorem zGv {k k0 : IntKind} {e : IE} : ∀ {ks vs : List SV} {i b : Nat} {p : BE}, zN4 k e ks = some p -> p.den = true -> ks.length = vs.length ->
    Instr.findNow (.int k0) (.int k e.den) (ents b (SV.denL ν ks) (SV.denL ν vs)) i = some none
  | [], [], i, b, p, _, _, _ => rfl
  | x :: ks, v :: vs, i, b, p, h, hp, hl => by
    unfold zN4 at h
    split at h
    · rename_i heq; cases heq
    · rename_i heq
      cases heq
      split at h
      · rename_i hk
        subst hk
        simp only [Option.map_eq_some_iff] at h
        obtain ⟨q, hq, rfl⟩ := h
        rename_i _ b'
        simp only [BE.den, IE.den, cmpI] at hp
        cases hx : (e.den == b') with
        | true => simp [hx] at hp
        | false =>
          simp only [hx, cond_false] at hp
          have := zGv (k0 := k0) (ks := ks) (vs := vs) (i := i + 1) (b := b + 1) hq hp (by simpa using hl)
          simpa [SV.denL, SV.den, IE.den, ents, Instr.findNow, Instr.sameNow, hx] using this
      · simp at h
    · simp at h
  | [], _ :: _, _, _, _, _, _, hl => by simp at hl
  | _ :: _, [], _, _, _, _, _, hl => by simp at hl
theorem zKk (h : TSat ν n σ a) (hobj : ∀ o x, σ.hp[o]? = some x -> zAN B ν n w o x) {t : TypeId} {x i : Operand} {ok : Bool} {p : Option BE} {v : SV} (hv : zKl P σ t x i ok = some (p, v)) (hp : zAJ p) :
    (Instr.lookup t (a.eval x) (a.eval i) ok).run P w = .ok (v.den ν) w /\ v.wf n := by
  unfold zKl at hv
  split at hv
  · rename_i kt et o k e hu hx hi
    obtain ⟨x1, x2⟩ := zB h hx
    obtain ⟨i1, _⟩ := zB h hi
    split at hv
    · rename_i k0 z ks vs hk hz ho
      simp only [Option.map_eq_some_iff, Prod.mk.injEq] at hv
      obtain ⟨q, hq, rfl, rfl⟩ := hv
      obtain ⟨z1, z2⟩ := zAZ (P := P) (ν := ν) (w := w) (n := n) hz
      obtain ⟨h1, h2, h3, h4, h5⟩ := hobj o _ ho
      have u1 : (underlying t).run P w = .ok (.map kt et) w := by simp [underlying, program, hu, Sem.run, pure]
      have u2 : (underlying kt).run P w = .ok (.int k0) w := by simp [underlying, program, hk, Sem.run, pure]
      have ck0 : ∀ b m, (Instr.checkKey b (m + 1) kt (.int k e.den)).run P w = .ok () w := fun b m => by
        simp only [Instr.checkKey]
        rw [Sem.run_bind, u2]
        simp [Result.andThen, Sem.run, pure]
      have ck : ∀ b, (Instr.checkKey b 10000 kt (.int k e.den)).run P w = .ok () w := fun b => ck0 b 9999
      have g1 : (getObj (ν o).blk).run P w = .ok (.map (ents 0 (SV.denL ν ks) (SV.denL ν vs)).toArray ks.length) w := by
        simp [getObj, Sem.run, h2, pure]
      have e3 := zGv (ν := ν) (k0 := k0) (b := 0) (i := 0) hq hp h5
      obtain ⟨t1, t2⟩ := zBG (ν := ν) (n := n) (ok := ok) (b := false) z2
      refine ⟨?_, t2⟩
      rw [x1, i1, t1]
      simp only [SV.den]
      unfold Instr.lookup
      rw [Sem.run_bind, u1]
      simp only [Result.andThen]
      simp [Sem.run_bind, Sem.run_pure, Result.andThen, g1, ck, Instr.findKey, u2, e3, z1]
    · simp at hv
  · simp at hv
theorem zJy (h : TSat ν n σ a) (hobj : ∀ o x, σ.hp[o]? = some x -> zAN B ν n w o x)
    {o : Oper} {p : Option BE} {v : SV} (hv : zE1 P σ o.op = some (p, v)) (hp : zAJ p) :
    (execOp a.eval o).run P w = .ok (.value (v.den ν)) w /\ v.wf n := by
  unfold zE1 at hv
  split at hv
  · rename_i t x lo hi mx he
    split at hv
    · rename_i u l hh m hx hl hhi hm
      obtain ⟨x1, x2⟩ := zB h hx
      have l1 := zBZ h hl
      have h1 := zBZ h hhi
      have m1 := zBZ h hm
      split at hv
      · rename_i hu
        obtain ⟨b1, b2⟩ := zIx (P := P) (ν := ν) (w := w) (n := n) hu hv hp
        refine ⟨?_, b2⟩
        simp only [Option.map_none] at m1
        simp [execOp, he, x1, l1, h1, m1, b1]
      · obtain ⟨b1, b2⟩ := zIy hobj hv hp x2
        exact ⟨by simp [execOp, he, x1, l1, h1, m1, b1], b2⟩
    · simp at hv
  · rename_i t x i he
    split at hv
    · rename_i u u' hu hx hi
      obtain ⟨x1, _⟩ := zB h hx
      obtain ⟨i1, _⟩ := zB h hi
      obtain ⟨b1, b2⟩ := zIz (P := P) (ν := ν) (w := w) (n := n) hu hv hp
      exact ⟨by simp [execOp, he, x1, i1, b1], b2⟩
    · simp at hv
  · rename_i op t x y yt he
    split at hv
    · rename_i u u' ht hx hy
      obtain ⟨x1, _⟩ := zB h hx
      obtain ⟨y1, _⟩ := zB h hy
      obtain ⟨b1, b2, b3⟩ := zLF (P := P) (ν := ν) (w := w) (n := n) ht hv hp
      refine ⟨?_, b2⟩
      have hg : (eqGuard op t x y (u.den ν) (u'.den ν)).run P w = .ok () w := by
        cases op <;> first | (simp [eqGuard, Sem.run, pure]; done) | (exact absurd b3 (by decide))
      simp [execOp, he, x1, y1, b1, hg, pure]
    · simp at hv
  · rename_i t x i ok he
    split at hv
    · rename_i u hu
      simp only [Option.some.injEq, Prod.mk.injEq] at hv
      obtain ⟨rfl, rfl⟩ := hv
      obtain ⟨b1, b2⟩ := zLo h hobj hu
      exact ⟨by simp [execOp, he, b1], b2⟩
    · split at hv
      · rename_i r hr
        simp only [Option.some.injEq] at hv; subst hv
        obtain ⟨b1, b2⟩ := zKk h hobj hr hp
        exact ⟨by simp [execOp, he, b1], b2⟩
      · obtain ⟨b1, b2, _⟩ := zPS h hobj hv
        exact ⟨by simp [execOp, he, b1], b2⟩
  · rename_i c he
    split at hv
    · rename_i x hcal hargs
      have e0 : c.args = #[x] := by apply Array.ext'; simpa using hargs
      split at hv
      · rename_i t u ht hx
        split at hv
        · rename_i s hu hs
          simp only [Option.some.injEq, Prod.mk.injEq] at hv; obtain ⟨rfl, rfl⟩ := hv
          obtain ⟨x1, _⟩ := zB h hx
          rw [zDV hs] at x1
          refine ⟨?_, trivial⟩
          have e2 : (if zDU u = true then IE.lit (s.size : Int) else IE.var (s.size : Int)).den = (s.size : Int) := by split <;> rfl
          simp [execOp, he, resolve, hcal, e0, x1, invoke, builtin, Builtin.len_, ht, underlying, program, hu, SV.den, goInt, e2, Sem.run, pure]
        · simp at hv
      · simp at hv
    · simp at hv
  · simp at hv
theorem zNS (ν ν' : Nat -> Pl) {v : SV} (h : v.wf fun _ => False) : v.den ν' = v.den ν := zF5 (n := fun _ => False) (fun _ h => h.elim) v h
theorem zFP {hp : List SObj} (hobj : ∀ o x, hp[o]? = some x -> zAN B ν n w o x) {o : Nat} {vs : List SV} (h : zBI hp o = some vs) :
    (∀ i v, vs[i]? = some v -> w.cell? ⟨(ν o).blk, i, none⟩ = some (v.den ν)) /\ SV.wfL n vs := by
  unfold zBI at h
  split at h
  · rename_i vs' ty ho
    simp only [Option.some.injEq] at h; subst h
    obtain ⟨_, h2, h3⟩ := hobj o _ ho
    exact ⟨fun i v hv => by simp [World.cell?, h2, zX, hv], h3⟩
  · rename_i sz vs' ho
    simp only [Option.some.injEq] at h; subst h
    obtain ⟨_, h2, h3⟩ := hobj o _ ho
    exact ⟨fun i v hv => h2.cell i _ (by simp [zX, hv]), h3⟩
  · simp at h
theorem zTL {vs l : List SV} {off k : Nat} (h : zGs vs off k = some l) : l.length = k /\ (∀ i v, l[i]? = some v -> vs[off + i]? = some v) /\ ∀ p, SV.wfL p vs -> SV.wfL p l := by
  unfold zGs at h
  split at h
  · rename_i hle
    simp only [Option.some.injEq] at h; subst h
    refine ⟨by simp; omega, fun i v hv => ?_, fun p hp => ?_⟩
    · rw [List.getElem?_take] at hv
      split at hv
      · rwa [List.getElem?_drop] at hv
      · simp at hv
    · rw [zz] at *
      intro y hy
      exact hp y (List.mem_of_mem_drop (List.mem_of_mem_take hy))
  · simp at h
theorem zJd {o off : Nat} {vs : List SV} {t : TypeId} {d : TypeDesc} {i : TypeInfo} {v : SV} (hd : P.underlying t = some d) (hi : P.info? t = some i) (hcell : ∀ i v, vs[i]? = some v -> w.cell? ⟨(ν o).blk, i, none⟩ = some (v.den ν)) (hw : SV.wfL n vs)
    (hl : (if zD5 P t = true then (if off + i.size <= vs.length then some (SV.agg ((vs.drop off).take i.size)) else none) else vs[off]?) = some v) :
    (loadVar t ⟨(ν o).blk, off, none⟩).run P w = .ok (v.den ν) w /\ v.wf n := by
  have ha := zFj (P := P) w hd
  by_cases hg : zD5 P t = true
  · rw [if_pos hg] at hl
    rw [hg] at ha
    split at hl
    · rename_i hlen
      simp only [Option.some.injEq] at hl; subst hl
      refine ⟨?_, ?_⟩
      · have hc := run_loadCells_list (P := P) w ⟨(ν o).blk, off, none⟩ (SV.denL ν ((vs.drop off).take i.size)) (fun j u hu => by
          rw [zDz]
          simp only [zX, List.getElem?_map, Option.map_eq_some_iff] at hu
          obtain ⟨s, hs, rfl⟩ := hu
          refine hcell _ _ ?_
          rw [List.getElem?_take] at hs
          split at hs
          · rwa [List.getElem?_drop] at hs
          · simp at hs)
        have e : (SV.denL ν ((vs.drop off).take i.size)).length = i.size := by simp [zJ]; omega
        rw [e] at hc
        simp [loadVar, ha, sizeOf, typeInfo, program, hi, hc, SV.den, Sem.run, pure]
      · simp only [SV.wf]
        rw [zz] at *
        intro y hy
        exact hw y (List.mem_of_mem_drop (List.mem_of_mem_take hy))
    · simp at hl
  · rw [if_neg hg] at hl
    simp only [Bool.not_eq_true] at hg
    rw [hg] at ha
    have hc := hcell _ _ hl
    refine ⟨?_, (zz _ _).1 hw v (List.mem_of_getElem? hl)⟩
    simp [loadVar, ha, load, Sem.run, hc, pure]
theorem zRk {g : Nat} {vs : List SV} (h : ∃ t fz, w.heap[g]? = some (.cells (SV.denL nu0 vs).toArray t fz)) (i : Nat) (v : SV) (hv : vs[i]? = some v) : w.cell? ⟨g, i, none⟩ = some (v.den nu0) := by
  obtain ⟨t, fz, h⟩ := h
  simp [World.cell?, h, zX, hv]
theorem zJj : ∀ {hp : List SObj} (hobj : ∀ (o : Nat) (x : SObj), hp[o]? = some x -> ∃ o', zAN B ν n w o' x) {g : Nat} {vs : List SV}, zJk hp g = some vs -> (∀ i v, vs[i]? = some v -> w.cell? ⟨g, i, none⟩ = some (v.den nu0)) /\ SV.wfL (fun _ => False) vs
  | [], _, g, vs, h => by simp [zJk] at h
  | x :: r, hobj, g, vs, h => by
    have ih := fun h' => zJj (hp := r) (fun o y hy => hobj (o + 1) y (by simpa using hy)) (g := g) (vs := vs) h'
    obtain ⟨o', hx⟩ := hobj 0 x rfl
    cases x with
    | glob g' vs' =>
      simp only [zJk] at h
      split at h
      · rename_i e
        subst e
        simp only [Option.some.injEq] at h; subst h
        exact ⟨zRk hx.2.2.2.1, hx.2.2.2.2⟩
      · exact ih h
    | _ => exact ih h
theorem zFO {hp : List SObj} (hobj : ∀ o x, hp[o]? = some x -> zAN B ν n w o x) {sz : Nat} {x : SV} {len : Nat} {l : List SV} (h : zI6 hp sz x = some (len, l)) :
    ∃ b c, x.den ν = .slice b len c /\ (b = none -> len = 0) /\ (∀ ad, b = some ad -> (loadCells ad (len * sz)).run P w = .ok (SV.denL ν l).toArray w) /\ (Builtin.firstCells sz len (.slice b len c)).run P w = .ok (SV.denL ν l).toArray w /\ l.length = len * sz /\ SV.wfL n l := by
  have key : ∀ {o off : Nat} {vs : List SV} {c : Nat}, zBI hp o = some vs -> zGs vs off (len * sz) = some l ->
      (∀ ad, some (⟨(ν o).blk, off, none⟩ : Addr) = some ad -> (loadCells ad (len * sz)).run P w = .ok (SV.denL ν l).toArray w) /\ (Builtin.firstCells sz len (.slice (some ⟨(ν o).blk, off, none⟩) len c)).run P w = .ok (SV.denL ν l).toArray w /\ l.length = len * sz /\ SV.wfL n l := by
    intro o off vs c hk hp'
    obtain ⟨k1, k2⟩ := zFP hobj hk
    obtain ⟨p1, p2, p3⟩ := zTL hp'
    have hc := run_loadCells_list (P := P) w ⟨(ν o).blk, off, none⟩ (SV.denL ν l) (fun j u hu => by
      rw [zDz]
      simp only [zX, List.getElem?_map, Option.map_eq_some_iff] at hu
      obtain ⟨s, hs, rfl⟩ := hu
      exact k1 _ _ (p2 _ _ hs))
    rw [zJ, p1] at hc
    refine ⟨fun ad e => by cases e; exact hc, ?_, p1, p3 _ k2⟩
    simp only [Builtin.firstCells]; exact hc
  unfold zI6 at h
  split at h
  · simp only [Option.some.injEq, Prod.mk.injEq] at h
    obtain ⟨rfl, rfl⟩ := h
    exact ⟨none, 0, rfl, fun _ => rfl, fun _ e => (by cases e), by simp [Builtin.firstCells, SV.denL, Sem.run, pure], by simp, trivial⟩
  · split at h
    · rename_i hs
      subst hs
      split at h
      · rename_i vs hk
        simp only [Option.map_eq_some_iff, Prod.mk.injEq] at h
        obtain ⟨l', hl', rfl, rfl⟩ := h
        obtain ⟨a1, a2, a3, a4⟩ := key hk hl'
        exact ⟨_, _, rfl, fun e => (by cases e), a1, a2, a3, a4⟩
      · simp at h
    · simp at h
  · split at h
    · rename_i vs hk
      simp only [Option.map_eq_some_iff, Prod.mk.injEq] at h
      obtain ⟨l', hl', rfl, rfl⟩ := h
      obtain ⟨a1, a2, a3, a4⟩ := key hk hl'
      exact ⟨_, _, rfl, fun e => (by cases e), a1, a2, a3, a4⟩
    · simp at h
  · simp only [Option.some.injEq, Prod.mk.injEq] at h
    obtain ⟨rfl, rfl⟩ := h
    have h0 : ∀ ad : Addr, (loadCells ad 0).run P w = .ok #[] w := fun ad => by simp [loadCells, loadCellsFrom, Sem.run, pure]
    refine ⟨_, _, rfl, fun _ => rfl, fun ad e => by rw [Nat.zero_mul]; exact h0 ad, ?_, by simp, trivial⟩
    generalize (bif _ && _ then _ else _ : Option Addr) = q
    cases q with
    | none => simp [Builtin.firstCells, SV.denL, Sem.run, pure]
    | some ad => simp only [Builtin.firstCells, Nat.zero_mul]; exact h0 ad
  · simp at h
theorem zE9 : ∀ {l : List SV} {bs : List UInt8}, zCC l = some bs -> ∃ ns : List Int, SV.denL ν l = ns.map (Value.int .u8) /\ bs = ns.map fun n => UInt8.ofNat n.toNat
  | [], bs, h => by simp [zCC] at h; subst h; exact ⟨[], rfl, rfl⟩
  | v :: r, bs, h => by
    simp only [zCC] at h
    split at h
    · rename_i b l hb hl
      simp only [Option.some.injEq] at h; subst h
      obtain ⟨ns, h1, h2⟩ := zE9 hl
      unfold zNI at hb
      split at hb
      · rename_i e
        simp only [Option.some.injEq] at hb; subst hb
        exact ⟨e.den :: ns, by simp [SV.denL, SV.den, h1], by simp [h2]⟩
      · simp at hb
    · simp at h
theorem zG1 : ∀ {l : List SV} {bs : List UInt8}, zFt l = some bs -> zCC l = some bs
  | [], bs, h => by simpa [zFt, zCC] using h
  | v :: r, bs, h => by
    simp only [zFt] at h
    split at h
    · rename_i b l hb hl
      simp only [Option.some.injEq] at h; subst h
      have := zG1 hl
      unfold zRH at hb
      split at hb
      · simp only [Option.some.injEq] at hb; subst hb
        simp [zCC, zNI, this, IE.den]
      · simp at hb
    · simp at h
theorem zMI {hp : List SObj} (hobj : ∀ o x, hp[o]? = some x -> zAN B ν n w o x) {x : SV} {len : Nat} {l : List SV} (h : zI6 hp 1 x = some (len, l)) {bs : List UInt8} (hb : zCC l = some bs) :
    (Conv.bytesToString (x.den ν)).run P w = .ok (.string ⟨bs.toArray⟩) w /\ ∃ a l c, x.den ν = .slice a l c := by
  obtain ⟨b, c, h1, h2, h3, _, h5, _⟩ := zFO (P := P) hobj h
  obtain ⟨ns, n1, rfl⟩ := zE9 (ν := ν) hb
  rw [h1]
  refine ⟨?_, _, _, _, rfl⟩
  cases b with
  | none =>
    have h0 := h2 rfl
    subst h0
    have hl0 : l = [] := by simpa using h5
    subst hl0
    have : ns = [] := by simpa [SV.denL] using n1.symm
    subst this
    simp [Conv.bytesToString, Sem.run, pure, ByteArray.empty, ByteArray.emptyWithCapacity]
    try rfl
  | some ad =>
    have hc := h3 ad rfl
    rw [Nat.mul_one, n1] at hc
    rw [run_bytesToString (P := P) w ad len c ns hc, zGc]
    have e9 : ∀ L : Array UInt8, (⟨ByteArray.empty.data ++ L⟩ : ByteArray) = ⟨L⟩ := fun L => by
      have : ByteArray.empty.data = #[] := rfl
      rw [this, Array.empty_append]
    rw [e9]
theorem zKF {hp : List SObj} (hobj : ∀ o x, hp[o]? = some x -> zAN B ν n w o x) {t : TypeId} {o sz st len : Nat} {v : SV} {lo hi : Option SV} (h : zMf P hp t o sz st len lo hi = some v) (hx : n o) :
    (Instr.sliceAt t ((SV.sliceG o sz st len).den ν) (lo.map (SV.den ν)) (hi.map (SV.den ν)) none).run P w = .ok (v.den ν) w /\ v.wf n := by
  unfold zMf at h
  split at h
  · rename_i e hu
    have u1 : (underlying t).run P w = .ok (.slice e) w := by simp [underlying, program, hu, Sem.run, pure]
    split at h
    · rename_i inf sz' vs hi' ho
      have s1 : (sizeOf e).run P w = .ok inf.size w := by simp [sizeOf, typeInfo, program, hi', Sem.run, pure]
      obtain ⟨_, g2, _⟩ := hobj o _ ho
      split at h
      · rename_i hsz
        obtain ⟨hs1, hs2, hs3⟩ := hsz
        split at h
        · rename_i hh ll hhd hld
          split at h
          · rename_i hc
            obtain ⟨c1, c2, c3⟩ := hc
            simp only [Option.some.injEq] at h; subst h
            refine ⟨?_, hx⟩
            have hle := g2.le
            rw [zJ, hs2] at hle
            have hcap : st + hh <= (ν o).off := Nat.le_of_mul_le_mul_right (Nat.le_trans c2 hle) hs3
            have b1 : (hi = none /\ (none : Option SV) = none /\ hh = len) ∨ ∃ k e, hi = some (.int k e) /\ hh = e.den.toNat /\ 0 <= e.den /\ e.den <= (((ν o).off - st : Nat) : Int) := by
              split at hhd
              · simp only [Option.some.injEq] at hhd; exact .inl ⟨rfl, rfl, hhd.symm⟩
              · rename_i k hlit
                split at hhd
                · simp only [Option.some.injEq] at hhd
                  exact .inr ⟨k, .lit hlit, rfl, by simp [IE.den, hhd], by simpa [IE.den] using ‹0 <= hlit›, by simp only [IE.den]; omega⟩
                · simp at hhd
              · simp at hhd
            have b2 : (lo = none /\ ll = 0) ∨ ∃ k e, lo = some (.int k e) /\ ll = e.den.toNat /\ 0 <= e.den /\ e.den <= (hh : Int) := by
              split at hld
              · simp only [Option.some.injEq] at hld; exact .inl ⟨rfl, hld.symm⟩
              · rename_i k llit
                split at hld
                · simp only [Option.some.injEq] at hld
                  exact .inr ⟨k, .lit llit, rfl, by simp [IE.den, hld], by simpa [IE.den] using ‹0 <= llit›, by simp only [IE.den]; omega⟩
                · simp at hld
              · simp at hld
            have hb := zEr (P := P) (ν := ν) (w := w) (isS := true) (len := len) (cap := (ν o).off - st) (m := (ν o).off - st) (mx := none) (.inl ⟨rfl, rfl⟩) b1 b2
            simp only [SV.den, Instr.sliceAt]
            rw [Sem.run_bind, u1]
            simp only [Result.andThen, Instr.slice]
            rw [Sem.run_bind, u1]
            simp only [Result.andThen]
            simp only [Option.map_none] at hb
            rw [Sem.run_bind, hb]
            simp only [Result.andThen]
            rw [Sem.run_bind, s1]
            simp only [Result.andThen, Sem.run, pure, Option.map_some, Addr.add_lit]
            have e1 : (ν o).off - st - ll = (ν o).off - (st + ll) := by omega
            by_cases hz : ll = 0
            · subst hz
              by_cases h0 : (ν o).off - st = 0
              · simp [h0, e1]
              · simp [h0, e1, hs1]
            · have hlt : st + ll < (ν o).off := by
                rcases c3 with c3 | c3
                · exact absurd c3 hz
                · exact Nat.lt_of_mul_lt_mul_right (Nat.lt_of_lt_of_le c3 hle)
              have hne : ¬ ((ν o).off - st = ll) := by omega
              simp [hne, e1, hs1, Nat.add_mul]
          · simp at h
        · simp at h
      · simp at h
    · simp at h
  · simp at h
theorem zIO {dflt r : Nat} {x : Option SV} (h : zTU dflt x = some r) : (x = none /\ r = dflt) ∨ ∃ k e, x = some (.int k e) /\ r = e.den.toNat /\ 0 <= e.den /\ e.den = (r : Int) := by
  unfold zTU at h
  split at h
  · simp only [Option.some.injEq] at h; exact .inl ⟨rfl, h.symm⟩
  · rename_i k n
    split at h
    · rename_i hn
      simp only [Option.some.injEq] at h
      exact .inr ⟨k, .lit n, rfl, by simp [IE.den, h], by simpa [IE.den] using hn, by simp only [IE.den]; omega⟩
    · simp at h
  · simp at h
theorem zKG {t : TypeId} {o off : Nat} {v : SV} {lo hi : Option SV} (h : zMg P t o off lo hi = some v) (hx : n o) :
    (Instr.sliceAt t ((SV.ptr o off).den ν) (lo.map (SV.den ν)) (hi.map (SV.den ν)) none).run P w = .ok (v.den ν) w /\ v.wf n := by
  unfold zMg at h
  split at h
  · rename_i m e hu
    have u1 : (underlying t).run P w = .ok (.array m e) w := by simp [underlying, program, hu, Sem.run, pure]
    split at h
    · rename_i inf hh ll hi' h1 h2
      have s1 : (sizeOf e).run P w = .ok inf.size w := by simp [sizeOf, typeInfo, program, hi', Sem.run, pure]
      split at h
      · rename_i hc
        simp only [Option.some.injEq] at h; subst h
        refine ⟨?_, hx⟩
        have b1 : (hi = none /\ (none : Option SV) = none /\ hh = m) ∨ ∃ k e, hi = some (.int k e) /\ hh = e.den.toNat /\ 0 <= e.den /\ e.den <= (m : Int) := by
          rcases zIO h1 with ⟨r1, r2⟩ | ⟨k, e, r1, r2, r3, r4⟩
          · exact .inl ⟨r1, rfl, r2⟩
          · exact .inr ⟨k, e, r1, r2, r3, by omega⟩
        have b2 : (lo = none /\ ll = 0) ∨ ∃ k e, lo = some (.int k e) /\ ll = e.den.toNat /\ 0 <= e.den /\ e.den <= (hh : Int) := by
          rcases zIO h2 with ⟨r1, r2⟩ | ⟨k, e, r1, r2, r3, r4⟩
          · exact .inl ⟨r1, r2⟩
          · exact .inr ⟨k, e, r1, r2, r3, by omega⟩
        have hb := zEr (P := P) (ν := ν) (w := w) (isS := false) (len := m) (cap := m) (m := m) (mx := none) (.inl ⟨rfl, rfl⟩) b1 b2
        simp only [SV.den, Instr.sliceAt]
        rw [Sem.run_bind, u1]
        simp only [Result.andThen, Instr.sureAddr, Sem.run, pure]
        rw [Sem.run_bind]
        simp only [Sem.run, Result.andThen, pure]
        simp only [Option.map_none] at hb
        rw [Sem.run_bind, hb]
        simp only [Result.andThen]
        rw [Sem.run_bind, s1]
        simp only [Result.andThen, Sem.run, pure, zAF, Addr.add_lit]
        split <;> rfl
      · simp at h
    · simp at h
  · simp at h
theorem zJx (h : TSat ν n σ a) (hobj : ∀ o x, σ.hp[o]? = some x -> zAN B ν n w o x)
    {o : Oper} {p : Option BE} {v : SV} (hv : zEA P σ o.op = some (p, v)) (hp : zAJ p) :
    (execOp a.eval o).run P w = .ok (.value (v.den ν)) w /\ v.wf n := by
  unfold zEA at hv
  split at hv
  · rename_i t q he
    split at hv
    · rename_i ob off hq
      simp only [Option.map_eq_some_iff, Prod.mk.injEq] at hv
      obtain ⟨u, hu, rfl, rfl⟩ := hv
      obtain ⟨q1, _⟩ := zB h hq
      unfold zYf at hu
      split at hu
      · rename_i sz vs d i ho hd hi
        obtain ⟨k1, k2⟩ := zFP hobj (o := ob) (vs := vs) (by simp [zBI, ho])
        obtain ⟨l1, l2⟩ := zJd (P := P) hd hi k1 k2 hu
        exact ⟨by simp [execOp, he, q1, SV.den, Instr.loadAt, Instr.sureAddr, l1, Sem.run, pure], l2⟩
      · simp at hu
    · rename_i g off hq
      simp only [Option.map_eq_some_iff, Prod.mk.injEq] at hv
      obtain ⟨u, hu, rfl, rfl⟩ := hv
      obtain ⟨q1, _⟩ := zB h hq
      unfold zUR at hu
      split at hu
      · rename_i vs d i ho hd hi
        obtain ⟨k1, k2⟩ := zJj (fun o x hx => ⟨o, hobj o x hx⟩) ho
        obtain ⟨l1, l2⟩ := zJd (P := P) (ν := fun _ => ⟨g, 0, false⟩) (o := 0) (n := fun _ => False) hd hi (fun i v hv => (k1 i v hv).trans (congrArg some (zNS nu0 (fun _ => ⟨g, 0, false⟩) ((zz _ _).1 k2 v (List.mem_of_getElem? hv))).symm)) k2 hu
        refine ⟨?_, zDf (fun _ h => h.elim) _ l2⟩
        rw [zNS ν _ l2] at l1
        simp [execOp, he, q1, SV.den, Instr.loadAt, Instr.sureAddr, l1, Sem.run, pure]
      · simp at hu
    · simp at hv
  · rename_i t x i he
    split at hv
    · rename_i len e g off k m hu hx hi
      obtain ⟨x1, x2⟩ := zB h hx
      obtain ⟨i1, _⟩ := zB h hi
      split at hv
      · rename_i inf hinf
        split at hv
        · rename_i hc
          obtain ⟨c2, c3⟩ := hc
          simp only [Option.some.injEq, Prod.mk.injEq] at hv; obtain ⟨rfl, rfl⟩ := hv
          refine ⟨?_, trivial⟩
          simp [execOp, he, x1, i1, Instr.indexAt, asIntOf, underlying, program, hu, SV.den, IE.den, c2, c3, sizeOf, typeInfo, hinf, Sem.run, pure, Addr.add_lit, Instr.sureAddr]
        · simp at hv
      · simp at hv
    · rename_i e ob sz st len k m hu hx hi
      obtain ⟨x1, x2⟩ := zB h hx
      obtain ⟨i1, _⟩ := zB h hi
      split at hv
      · rename_i inf hinf
        split at hv
        · rename_i hc
          obtain ⟨c1, c2, c3⟩ := hc
          simp only [Option.some.injEq, Prod.mk.injEq] at hv; obtain ⟨rfl, rfl⟩ := hv
          refine ⟨?_, x2⟩
          have e1 : st * sz + m.toNat * inf.size = (st + m.toNat) * sz := by rw [c1, Nat.add_mul]
          simp [execOp, he, x1, i1, Instr.indexAt, asIntOf, underlying, program, hu, SV.den, IE.den, c2, c3, sizeOf, typeInfo, hinf, Sem.run, pure, Addr.add_lit, e1]
        · simp at hv
      · simp at hv
    · simp at hv
  · rename_i t x lo hi he
    split at hv
    · rename_i ob sz st len l hh hx hl hhi
      obtain ⟨x1, x2⟩ := zB h hx
      have l1 := zBZ h hl
      have h1 := zBZ h hhi
      simp only [Option.map_eq_some_iff, Prod.mk.injEq] at hv
      obtain ⟨u, hu, rfl, rfl⟩ := hv
      obtain ⟨b1, b2⟩ := zKF (P := P) hobj hu x2
      exact ⟨by simp [execOp, he, x1, l1, h1, b1], b2⟩
    · rename_i ob off l hh hx hl hhi
      obtain ⟨x1, x2⟩ := zB h hx
      have l1 := zBZ h hl
      have h1 := zBZ h hhi
      simp only [Option.map_eq_some_iff, Prod.mk.injEq] at hv
      obtain ⟨u, hu, rfl, rfl⟩ := hv
      obtain ⟨b1, b2⟩ := zKG (P := P) (w := w) (ν := ν) hu x2
      exact ⟨by simp [execOp, he, x1, l1, h1, b1], b2⟩
    · simp at hv
  · rename_i src dst x he
    split at hv
    · rename_i e u hs hd hx
      split at hv
      · rename_i hu8
        obtain ⟨x1, _⟩ := zB h hx
        split at hv
        · rename_i len l hl
          have main : ∀ bs, zCC l = some bs -> (execOp a.eval o).run P w = .ok (.value (.string ⟨bs.toArray⟩)) w := by
            intro bs hb
            obtain ⟨b1, ad, l', c, b3⟩ := zMI (P := P) hobj hl hb
            rw [b3] at b1
            have := run_convert_bytes_string w src dst e ad l' c hs hu8 hd
            rw [b1] at this
            simp [execOp, he, x1, b3, this, Sem.run, pure]
          split at hv
          · rename_i bs hb
            simp only [Option.some.injEq, Prod.mk.injEq] at hv; obtain ⟨rfl, rfl⟩ := hv
            exact ⟨main bs (zG1 hb), trivial⟩
          · simp only [Option.map_eq_some_iff, Prod.mk.injEq] at hv
            obtain ⟨bs, hb, rfl, rfl⟩ := hv
            exact ⟨main bs hb, trivial⟩
        · simp at hv
      · simp at hv
    · simp at hv
  · rename_i op t x y yt he
    split at hv
    · rename_i s s' ht hx hy
      obtain ⟨x1, _⟩ := zB h hx
      obtain ⟨y1, _⟩ := zB h hy
      split at hv
      · simp only [Option.some.injEq, Prod.mk.injEq] at hv; obtain ⟨rfl, rfl⟩ := hv
        refine ⟨?_, trivial⟩
        have hg : (eqGuard .eql t x y (.string s) (.string s')).run P w = .ok () w := by simp [eqGuard, Sem.run, pure]
        have hb : (binOp .eql t (.string s) (.string s')).run P w = .ok (.bool (s.data.toList == s'.data.toList)) w := by rw [binOp_string_eql, ByteArray.toList_eq, ByteArray.toList_eq]; rfl
        simp [execOp, he, x1, y1, SV.den, BE.den, hg, hb, pure]
      · simp only [Option.some.injEq, Prod.mk.injEq] at hv; obtain ⟨rfl, rfl⟩ := hv
        refine ⟨?_, trivial⟩
        have hg : (eqGuard .neq t x y (.string s) (.string s')).run P w = .ok () w := by simp [eqGuard, Sem.run, pure]
        have hb : (binOp .neq t (.string s) (.string s')).run P w = .ok (.bool !(s.data.toList == s'.data.toList)) w := by rw [binOp_string_neq, ByteArray.toList_eq, ByteArray.toList_eq]; rfl
        simp [execOp, he, x1, y1, SV.den, BE.den, hg, hb, pure]
      · simp at hv
    · simp at hv
  · rename_i c he
    split at hv
    · rename_i x hcal hargs
      have e0 : c.args = #[x] := by apply Array.ext'; simpa using hargs
      split at hv
      · rename_i t ob sz st len ht hx
        split at hv
        · rename_i e hu
          simp only [Option.some.injEq, Prod.mk.injEq] at hv; obtain ⟨rfl, rfl⟩ := hv
          obtain ⟨x1, _⟩ := zB h hx
          refine ⟨?_, trivial⟩
          simp [execOp, he, resolve, hcal, e0, x1, invoke, builtin, Builtin.len_, ht, underlying, program, hu, SV.den, goInt, IE.den, Sem.run, pure]
        · simp at hv
      · simp at hv
    · simp at hv
  · simp at hv
theorem zC3 (h : TSat ν n σ a) (hobj : ∀ o x, σ.hp[o]? = some x -> zAN B ν n w o x)
    {o : Oper} {p : Option BE} {v : SV} (hv : zHB P σ o.op = some (p, v)) (hp : zAJ p) :
    (execOp a.eval o).run P w = .ok (.value (v.den ν)) w /\ v.wf n := by
  unfold zHB at hv
  split at hv
  · rename_i r hr
    simp only [Option.some.injEq] at hv; subst hv
    exact zJ0 h (fun t o off v hl => zHU hl fun vs ty ho => ⟨(hobj o _ ho).2.1, (hobj o _ ho).2.2⟩) hr hp
  · split at hv
    · rename_i r hr
      simp only [Option.some.injEq] at hv; subst hv
      exact zJx h hobj hr hp
    · split at hv
      · rename_i r hr
        simp only [Option.some.injEq] at hv; subst hv
        exact zJz h hobj hr hp
      · exact zJy h hobj hv hp
theorem zB0 (h : Sat B ν σ a w) {o : Oper} {p : Option BE} {v : SV} (hv : zHB P σ o.op = some (p, v)) (hp : zAJ p) :
    (execOp a.eval o).run P w = .ok (.value (v.den ν)) w /\ v.wf (Live σ.hp) :=
  zC3 h.t h.hp.obj hv hp
theorem zOz (h : TSat ν n σ a) {o : Oper} {v : SV} (hv : zHB P { σ with hp := [] } o.op = some (none, v)) :
    (∀ w, (execOp a.eval o).run P w = .ok (.value (v.den ν)) w) /\ v.wf n := by
  have hT : TSat ν n { σ with hp := [] } a := ⟨h.tmps, h.wf⟩
  exact ⟨fun w => (zC3 (B := fun _ => False) (w := w) hT (fun o x hx => by simp at hx) hv trivial).1, (zC3 (B := fun _ => False) (w := default) hT (fun o x hx => by simp at hx) hv trivial).2⟩
end
end Go.Proofs.YtajcmjjgnbaahaaGreat.Sx
