/- Symbolic execution is sound: what turns memory; calls; code; whole functions. -/
import Derived.Test.YtajcmjjgnbaahaaGreatSx3
set_option linter.unusedVariables false
set_option linter.unusedSimpArgs false
namespace Go.Proofs.YtajcmjjgnbaahaaGreat.Sx
open Go Go.RowKit
theorem zb.trans {n n' : Nat -> Prop} {ν ν' ν'' : Nat -> Pl} (h : zb n ν ν') (h' : zb n' ν' ν'') (hn : ∀ o, n o -> n' o) : zb n ν ν'' :=
  fun o ho => (h' o (hn o ho)).trans (h o ho)
theorem zb.refl (n : Nat -> Prop) (ν : Nat -> Pl) : zb n ν ν := fun _ _ => rfl
def zSM (B : Nat -> Prop) (ν : Nat -> Pl) (hp : List SObj) (w : World) (K : SV -> List SObj -> Prop) : Ending -> World -> Prop := fun e w' =>
  ∃ ν' v hp', (∀ o, Live hp o -> Live hp' o) /\ zb (Live hp) ν ν' /\ e = .returned (v.den ν') /\ v.wf (Live hp') /\ z6 B ν' hp' w' /\ ze B w w' /\ K v hp'
def zZ (P : Program) (g : FuncId) (s : zl) : Prop :=
  ∀ B ν hp w args K, z6 B ν hp w -> zEy B w -> SV.wfL (Live hp) args -> s args hp K -> Calls P g (SV.denL ν args).toArray w (zSM B ν hp w K)
def zAr (P : Program) (g : FuncId) (F : zBN) : Prop :=
  ∀ args p v, F args = some (p, v) -> zAJ p -> SV.wfL (fun _ => False) args /\ v.wf (fun _ => False) /\ ∀ w, Calls P g (SV.denL nu0 args).toArray w fun e w' => e = .returned (v.den nu0) /\ Below w.heap.size w w'
def zNN (P : Program) (g : FuncId) : Cal -> Prop
  | .pure F => zAr P g F
  | .spec s _ => zZ P g s
def zO (P : Program) (Γ : FuncId -> Option Cal) : Prop := ∀ g c, Γ g = some c -> zNN P g c
theorem zGH (ν ν' : Nat -> Pl) {v : SV} (h : v.wf fun _ => False) : v.den ν' = v.den ν := zF5 (n := fun _ => False) (fun _ h => h.elim) v h
theorem zSW (ν ν' : Nat -> Pl) {l : List SV} (h : SV.wfL (fun _ => False) l) : SV.denL ν' l = SV.denL ν l := zy (n := fun _ => False) (fun _ h => h.elim) l h
theorem zAr.calls {P : Program} {g : FuncId} {F : zBN} (hF : zAr P g F) {args : List SV} {p : Option BE} {v : SV} (h : F args = some (p, v)) (hp : zAJ p) (ν : Nat -> Pl) (n : Nat -> Prop) (w : World) :
    v.wf n /\ Calls P g (SV.denL ν args).toArray w fun e w' => e = .returned (v.den ν) /\ Below w.heap.size w w' := by
  obtain ⟨h1, h2, h3⟩ := hF args p v h hp
  refine ⟨zDf (fun _ h => h.elim) v h2, ?_⟩
  rw [zSW nu0 ν h1, zGH nu0 ν h2]
  exact h3 w
section
variable {P : Program} {B : Nat -> Prop} {n : Nat -> Prop} {ν : Nat -> Pl} {σ : St} {a : Act} {w : World}
theorem zG3 {a w : World} (h : ze B a w) {b : Nat} (hb : ¬ B b) (c : Array Value) : ze B a (w.setRow b c) := by
  refine h.trans ⟨rfl, rfl, rfl, by simp [World.setRow], fun k hk => setRow_other w _ _ _ (fun e => hb (e ▸ hk))⟩
def bump (ν : Nat -> Pl) (n b : Nat) : Nat -> Pl := fun o => if o = n then ⟨b, 0, false⟩ else ν o
theorem zDN (ν : Nat -> Pl) (n b : Nat) : bump ν n b n = ⟨b, 0, false⟩ := by simp [bump]
theorem zPg (ν : Nat -> Pl) {p : Nat -> Prop} {n : Nat} (b : Nat) (hn : ¬ p n) : zb p ν (bump ν n b) := fun o ho => by
  have : o ≠ n := fun e => hn (e ▸ ho)
  simp [bump, this]
theorem zAN.mono {ν' : Nat -> Pl} {m : Nat -> Prop} {w' : World} {o : Nat} {x : SObj} (h : zAN B ν n w o x) (ho : x.alive = true -> n o) (hn : ∀ o, n o -> m o) (ha : zb n ν ν') (hsz : w.heap.size <= w'.heap.size)
    (hb : n o -> (x.owns (ν o) = true ∨ B (ν o).blk) -> (ν o).blk < w.heap.size -> w'.heap[(ν o).blk]? = w.heap[(ν o).blk]?) : zAN B ν' m w' o x := by
  cases x with
  | cells vs ty =>
    obtain ⟨h1, h2, h3⟩ := h
    have ho' := ho rfl
    refine ⟨by rw [ha o ho']; exact h1, ?_, zj hn vs h3⟩
    rw [ha o ho', hb ho' (.inl rfl) (Array.getElem?_eq_some_iff.1 h2).1, h2, zy ha vs h3]
  | dead => trivial
  | husk => trivial
  | map ks vs =>
    obtain ⟨h1, h2, h3, h4, h5⟩ := h
    have ho' := ho rfl
    refine ⟨by rw [ha o ho']; exact h1, ?_, zj hn ks h3, zj hn vs h4, h5⟩
    rw [ha o ho', hb ho' (.inl rfl) (Array.getElem?_eq_some_iff.1 h2).1, h2, zy ha ks h3, zy ha vs h4]
  | glob g vs =>
    obtain ⟨h0, h1, h2, h3, h4⟩ := h
    have ho' := ho rfl
    have hbl := hb ho' (.inr (by rw [h0]; exact h1)) (by rw [h0]; exact h2)
    rw [h0] at hbl
    refine ⟨by rw [ha o ho']; exact h0, h1, Nat.lt_of_lt_of_le h2 hsz, ?_, h4⟩
    obtain ⟨t, fz, e⟩ := h3
    exact ⟨t, fz, by rw [hbl]; exact e⟩
  | grown sz vs =>
    obtain ⟨h1, h2, h3⟩ := h
    have ho' := ho rfl
    have hbl := hb ho' (.inl rfl) h2.lt
    refine ⟨by rw [ha o ho']; exact h1, ?_, zj hn vs h3⟩
    rw [ha o ho', zy ha vs h3]
    exact ⟨Nat.lt_of_lt_of_le h2.lt hsz, h2.le, fun i v hi => by rw [World.cell?_of_block (w := w) hbl]; exact h2.cell i v hi, fun i hi => by rw [World.cell?_of_block (w := w) hbl]; exact h2.there i hi,
      fun i hi => by rw [World.frozen?_of_block (w := w) hbl]; exact h2.thawed i hi, fun e k m hk i hi => by rw [World.cell?_of_block (w := w) hbl]; exact h2.like e k m hk i hi, h2.small⟩
  | row own inp cols k =>
    have ho' := ho rfl
    have h' : zw B (ν o) w own inp cols k.den := h
    show zw B (ν' o) w' own inp cols k.den
    rw [ha o ho']
    have key : ∀ (e : Nat), e < k.den -> ∀ (j : Nat) (c : Col), cols[j]? = some c -> w'.heap[(ν o).blk]? = w.heap[(ν o).blk]? := by
      intro e he j c hc
      obtain ⟨v, hv, _⟩ := h'.cell e he j c hc
      have hnn : (inp && (ν o).nil) = false := by
        cases hx : (inp && (ν o).nil) with
        | false => rfl
        | true => have := h'.empty hx; omega
      refine hb ho' ?_ (World.block_lt_of_cell? w _ hv)
      cases hw : own with
      | true => exact .inl (by simp [SObj.owns, hnn])
      | false => exact .inr (h'.hi hnn hw)
    refine ⟨h'.empty, fun h1 h2 => ⟨(h'.lo h1 h2).1, Nat.lt_of_lt_of_le (h'.lo h1 h2).2 hsz⟩, h'.hi, ?_, ?_⟩
    · intro e he j c hc
      rw [World.cell?_of_block (w := w) (key e he j c hc)]
      exact h'.cell e he j c hc
    · intro hown e he j hj
      rw [World.frozen?_of_block (w := w) (key e he j _ (List.getElem?_eq_getElem hj))]
      exact h'.thawed hown e he j hj
theorem zBQ {hp : List SObj} {o : Nat} {x : SObj} (hx : hp[o]? = some x) : x.alive = true -> Live hp o := fun e => ⟨x, hx, e⟩
theorem zRT {hp hp' : List SObj} (h : z6 B ν hp w) (hB : zEy B w) {x : SObj} {obj : Obj} {w0 : World} (h0 : w0.heap = w.heap) {k : Nat} (hk : ¬ Live hp k)
    (hat : hp'[k]? = some x) (hoth : ∀ o x, o ≠ k -> hp'[o]? = some x -> hp[o]? = some x ∨ x = .dead) (hkeep : ∀ o, Live hp o -> hp'[o]? = hp[o]?)
    (hnew : (∀ o, Live hp o -> Live hp' o) -> zb (Live hp) ν (bump ν k w.heap.size) -> zAN B (bump ν k w.heap.size) (Live hp') (w0.alloc obj) k x) :
    z6 B (bump ν k w.heap.size) hp' (w0.alloc obj) /\ (∀ o, Live hp o -> Live hp' o) /\ zb (Live hp) ν (bump ν k w.heap.size) := by
  have ha : zb (Live hp) ν (bump ν k w.heap.size) := zPg ν w.heap.size hk
  have hl : ∀ o, Live hp o -> Live hp' o := fun o ho => by
    obtain ⟨x, hx, e⟩ := ho
    exact ⟨x, by rw [hkeep o ⟨x, hx, e⟩]; exact hx, e⟩
  have hback : ∀ o, zAc (bump ν k w.heap.size) hp' o -> o ≠ k -> zAc ν hp o := fun o ho hne => by
    obtain ⟨x, hx, e⟩ := ho
    have e' : bump ν k w.heap.size o = ν o := by simp [bump, hne]
    rcases hoth o _ hne hx with h1 | h1
    · exact ⟨x, h1, by rw [<- e']; exact e⟩
    · subst h1; simp [SObj.owns] at e
  have hold : ∀ b, b < w.heap.size -> (w0.alloc obj).heap[b]? = w.heap[b]? := fun b hb => by
    rw [heap_alloc_old _ _ (by rw [h0]; exact hb), h0]
  refine ⟨⟨?_, ?_⟩, hl, ha⟩
  · intro o x ho
    by_cases he : o = k
    · subst he
      rw [hat] at ho
      cases ho
      exact hnew hl ha
    · rcases hoth o x he ho with h1 | h1
      · exact (h.obj o x h1).mono (zBQ h1) hl ha (by simp [h0]) (fun _ _ hlt => hold _ hlt)
      · subst h1; trivial
  · intro o o' ho ho' e
    unfold bump at e
    by_cases h1 : o = k
    · by_cases h2 : o' = k
      · rw [h1, h2]
      · have h3 := h.size o' (hback o' ho' h2)
        simp only [h1, if_pos, if_neg h2] at e; omega
    · by_cases h2 : o' = k
      · have h3 := h.size o (hback o ho h1)
        simp only [h2, if_pos, if_neg h1] at e; omega
      · simp only [if_neg h1, if_neg h2] at e
        exact h.apart o o' (hback o ho h1) (hback o' ho' h2) e
theorem zYl {hp hp' : List SObj} (h : z6 B ν hp w) (hB : zEy B w) {vs : List SV} (hw : SV.wfL (Live hp) vs) (ty : TypeId) {k : Nat} (hk : ¬ Live hp k)
    (hat : hp'[k]? = some (.cells vs ty)) (hoth : ∀ o x, o ≠ k -> hp'[o]? = some x -> hp[o]? = some x ∨ x = .dead) (hkeep : ∀ o, Live hp o -> hp'[o]? = hp[o]?) :
    z6 B (bump ν k w.heap.size) hp' (w.alloc (.cells (SV.denL ν vs).toArray ty)) /\ (∀ o, Live hp o -> Live hp' o) /\ zb (Live hp) ν (bump ν k w.heap.size) := by
  refine zRT h hB rfl hk hat hoth hkeep fun hl ha => ?_
  refine ⟨by rw [zDN]; exact hB.top, ?_, zj hl vs hw⟩
  rw [zDN, heap_alloc_new, zy ha vs hw]
theorem zEM {hp : List SObj} {o : Nat} (h : Live hp o) : o < hp.length := by
  obtain ⟨x, hx, _⟩ := h
  exact (List.getElem?_eq_some_iff.1 hx).1
theorem zIt {hp : List SObj} (h : z6 B ν hp w) (hB : zEy B w) {x : SObj} {obj : Obj} {w0 : World} (h0 : w0.heap = w.heap)
    (hnew : (∀ o, Live hp o -> Live (hp ++ [x]) o) -> zb (Live hp) ν (bump ν hp.length w.heap.size) -> zAN B (bump ν hp.length w.heap.size) (Live (hp ++ [x])) (w0.alloc obj) hp.length x) :
    z6 B (bump ν hp.length w.heap.size) (hp ++ [x]) (w0.alloc obj) /\ (∀ o, Live hp o -> Live (hp ++ [x]) o) /\ zb (Live hp) ν (bump ν hp.length w.heap.size) := by
  refine zRT h hB h0 (fun hl => absurd (zEM hl) (by omega)) (by simp) ?_ ?_ hnew
  · intro o x hne hx
    rw [List.getElem?_append] at hx
    split at hx
    · exact .inl hx
    · rename_i hlt
      have : o = hp.length := by
        have := (List.getElem?_eq_some_iff.1 hx).1
        simp at this; omega
      exact absurd this hne
  · intro o ho
    exact List.getElem?_append_left (zEM ho)
theorem zT8 {hp : List SObj} (h : z6 B ν hp w) (hB : zEy B w) {vs : List SV} (hw : SV.wfL (Live hp) vs) (ty : TypeId) :
    z6 B (bump ν hp.length w.heap.size) (hp ++ [.cells vs ty]) (w.alloc (.cells (SV.denL ν vs).toArray ty)) /\ (∀ o, Live hp o -> Live (hp ++ [.cells vs ty]) o) /\ zb (Live hp) ν (bump ν hp.length w.heap.size) := by
  refine zIt h hB rfl fun hl ha => ?_
  refine ⟨by rw [zDN]; exact hB.top, ?_, zj hl vs hw⟩
  rw [zDN, heap_alloc_new, zy ha vs hw]
theorem zAL (h : Sat B ν σ a w) {hp : List SObj} {ν' : Nat -> Pl} {w' : World} (hl : ∀ o, Live σ.hp o -> Live hp o) (ha : zb (Live σ.hp) ν ν') (hs : z6 B ν' hp w') (hb : ze B w w') :
    Sat B ν' { σ with hp := hp } a w' := by
  refine ⟨?_, zj hl _ h.wf, h.defers, hs, h.base.mono hb.size⟩
  rw [h.tmps]
  exact congrArg List.toArray (zy ha _ h.wf).symm
theorem zLJ {hp : List SObj} {x : SObj} (h : z6 B ν hp w) {t : TypeId} {o off : Nat} {v : SV} (hv : v.wf (Live hp)) (hs : zNc P hp t o off v = some x) :
    ∃ w', (storeVar t ⟨(ν o).blk, off, none⟩ (v.den ν)).run P w = .ok () w' /\ z6 B ν (zS hp o x) w' /\ (∀ o', Live hp o' -> Live (zS hp o x) o') /\ ze B w w' := by
  unfold zNc at hs
  split at hs
  · rename_i vs ty i ho hi
    split at hs
    · rename_i hc
      obtain ⟨c1, c2, c3⟩ := hc
      simp only [Option.some.injEq] at hs; subst hs
      obtain ⟨hB, hb, hw⟩ := h.obj o _ ho
      have hlt : o < hp.length := (List.getElem?_eq_some_iff.1 ho).1
      have hrun := run_storeCells_at (P := P) (ν o).blk off ty (SV.denL ν v.cells) 0 _ w hb (by simp [zJ]; omega) (fun x hx => by
        rw [zX] at hx
        obtain ⟨s, hs, rfl⟩ := List.mem_map.1 hx
        exact zFI ν (List.all_eq_true.1 c3 s hs))
      have e3 : ((SV.denL ν vs).toArray.toList.take (off + 0) ++ SV.denL ν v.cells ++ (SV.denL ν vs).toArray.toList.drop (off + 0 + (SV.denL ν v.cells).length)).toArray = (SV.denL ν (zo vs off v.cells)).toArray := by
        rw [zDm _ _ _ (by omega)]
        simp [zX, List.map_take, List.map_drop]
      rw [e3] at hrun
      have hlo : Live hp o := ⟨_, ho, rfl⟩
      have hl : ∀ o', Live hp o' ↔ Live (zS hp o (.cells (zo vs off v.cells) ty)) o' := by
        intro o'
        unfold Live
        rw [zP]
        by_cases he : o' = o
        · subst he
          simp only [List.getElem?_set_self hlt]
          exact ⟨fun _ => ⟨_, rfl, rfl⟩, fun _ => ⟨_, ho, rfl⟩⟩
        · rw [List.getElem?_set_ne (by omega)]
      have hown : ∀ o', zAc ν (zS hp o (.cells (zo vs off v.cells) ty)) o' -> zAc ν hp o' := by
        intro o' ⟨y, hy, e⟩
        rw [zP] at hy
        by_cases he : o' = o
        · subst he; exact ⟨_, ho, rfl⟩
        · rw [List.getElem?_set_ne (by omega)] at hy; exact ⟨y, hy, e⟩
      refine ⟨w.setRow (ν o).blk (SV.denL ν (zo vs off v.cells)).toArray, ?_, ?_, fun o' h' => (hl o').1 h', zG3 (ze.refl B w) hB _⟩
      · unfold storeVar
        have e1 : (v.den ν).cells = (SV.denL ν v.cells).toArray := zAb ν v
        have e2 : (sizeOf t).run P w = .ok i.size w := by simp [sizeOf, typeInfo, program, hi, Sem.run, pure]
        rw [Sem.run_bind, e2]
        simp only [Result.andThen, e1, List.size_toArray, zJ, c1, ne_eq, not_true_eq_false, if_false]
        exact hrun
      · refine ⟨?_, fun o1 o2 h1 h2 e => h.apart o1 o2 (hown o1 h1) (hown o2 h2) e⟩
        intro o' x hx
        by_cases he : o' = o
        · subst he
          rw [zP] at hx
          simp only [List.getElem?_set_self hlt, Option.some.injEq] at hx
          subst hx
          exact ⟨hB, setRow_heap w _ _ _ _ _ hb, zj (fun o h => (hl o).1 h) _ (zCq _ _ _ (zCR hv) hw)⟩
        · rw [zP, List.getElem?_set_ne (by omega)] at hx
          refine (h.obj o' x hx).mono (zBQ hx) (fun o h => (hl o).1 h) (zb.refl _ _) (by simp [World.setRow]) (fun hlo' hor _ => ?_)
          refine setRow_other w _ _ _ (fun e => ?_)
          rcases hor with h1 | h1
          · exact he (h.apart o' o ⟨x, hx, h1⟩ ⟨_, ho, rfl⟩ e)
          · have hB' : ¬ B (ν o).blk := hB
            exact hB' (e ▸ h1)
    · simp at hs
  · simp at hs
theorem zDA (h : Sat B ν σ a w) {c : Call} {g : FuncId} {args : List SV} (hc : zBi P σ c = some (g, args)) (he : zKw P g = true) (rt : TypeId) :
    (do let d <- resolve a.eval c rt; invoke d.target d.args : Sem Next).run P w = .ok (.enter g (SV.denL ν args).toArray) w /\ SV.wfL (Live σ.hp) args := by
  have hent : ∀ xs, (callFunc g xs).run P w = .ok (.enter g xs) w := by
    intro xs
    unfold zKw at he
    split at he
    · rename_i fn hf
      simp only [Bool.and_eq_true, Bool.not_eq_true', beq_eq_false_iff_ne, ne_eq] at he
      obtain ⟨h1, h2⟩ := he
      cases hb : fn.body with
      | none => simp [hb] at h2
      | some b => simp [callFunc, program, Sem.run, hf, h1, hb, pure]
    · simp at he
  unfold zBi at hc
  split at hc
  · rename_i vs hvs
    obtain ⟨a1, a2⟩ := zCa h.t hvs
    have e1 : c.args.map a.eval = (SV.denL ν vs).toArray := Array.ext' (by simpa using a1)
    split at hc
    · rename_i f hcal
      split at hc
      · rename_i fi ca hf
        rename_i g'
        simp only [Option.some.injEq, Prod.mk.injEq] at hc
        obtain ⟨rfl, rfl⟩ := hc
        obtain ⟨f1, f2⟩ := zB h.t hf
        simp only [SV.wf] at f2
        refine ⟨?_, zBF (zBF f2.1 a2) f2.2⟩
        rw [Sem.run_bind]
        simp only [resolve, hcal, f1, SV.den, Deferred.ofValue, e1]
        simp only [Sem.run, pure, Result.andThen, invoke]
        rw [hent]
        simp [zBE]
      · simp at hc
    · rename_i r name hcal
      split at hc
      · rename_i t v hr
        obtain ⟨r1, r2⟩ := zB h.t hr
        simp only [SV.wf] at r2
        split at hc
        · rename_i i hi
          split at hc
          · rename_i m hm
            split at hc
            · rename_i hp
              have hpath : m.path.toList = [] := by
                have : m.path = #[] := by simpa using hp
                simp [this]
              have fin : ∀ g' pr, m.func = some (g', pr) -> (receiverAt t (.val (v.den ν)) pr (some ((name.splitOn ".").getLastD name))).run P w = .ok (v.den ν) w -> g' = g -> args = v :: vs ->
                  (do let d <- resolve a.eval c rt; invoke d.target d.args : Sem Next).run P w = .ok (.enter g (SV.denL ν args).toArray) w /\ SV.wfL (Live σ.hp) args := by
                intro g' pr hfu hrec hg ha
                subst hg; subst ha
                refine ⟨?_, r2, a2⟩
                rw [Sem.run_bind]
                simp only [resolve, hcal, r1, SV.den, e1]
                simp only [Sem.run, pure, Result.andThen, invoke]
                have e3 : (#[Value.iface t (v.den ν)] ++ (SV.denL ν vs).toArray)[0]? = some (Value.iface t (v.den ν)) := by simp
                have e4 : (#[Value.iface t (v.den ν)] ++ (SV.denL ν vs).toArray).extract 1 (#[Value.iface t (v.den ν)] ++ (SV.denL ν vs).toArray).size = (SV.denL ν vs).toArray := by
                  apply Array.ext'
                  simp
                simp only [e3, e4]
                unfold callMethod
                have hti : (typeInfo t).run P w = .ok i w := by simp [typeInfo, program, hi, Sem.run, pure]
                have hmeth : ∀ fuel, (method (fuel + 1) t (v.den ν) name).run P w = .ok (g', v.den ν) w := by
                  intro fuel
                  unfold method
                  rw [Sem.run_bind, hti]
                  simp only [Result.andThen]
                  simp only [hm, hpath, hp, if_true]
                  rw [Sem.run_bind]
                  simp only [follow, Sem.run, pure, Result.andThen, hfu]
                  rw [Sem.run_bind, hrec]
                  rfl
                have hfuel : ∃ fuel, P.types.size + Made.depth = fuel + 1 := by
                  have hd : 0 < Made.depth := by decide
                  exact ⟨P.types.size + Made.depth - 1, by omega⟩
                obtain ⟨fuel, hfuel⟩ := hfuel
                simp only []
                rw [Sem.run_bind]
                have : (program).run P w = .ok P w := rfl
                rw [this]
                simp only [Result.andThen, hfuel]
                rw [Sem.run_bind, hmeth]
                simp only [Result.andThen]
                rw [hent]
                simp [SV.denL]
              have ul : ∀ d, P.underlying t = some d -> (underlying t).run P w = .ok d w := fun d hd => by simp [underlying, program, Sem.run, hd, pure]
              split at hc
              · rename_i g' x hfu hu
                simp only [Option.some.injEq, Prod.mk.injEq] at hc
                exact fin g' true hfu (by simp [receiverAt, ul _ hu, Place.get, Sem.run, pure]) hc.1 hc.2.symm
              · simp at hc
              · rename_i g' d hnp hfu hu
                simp only [Option.some.injEq, Prod.mk.injEq] at hc
                refine fin g' false hfu ?_ hc.1 hc.2.symm
                have hnp' : ∀ e, d ≠ .pointer e := fun e he => by subst he; exact hnp e rfl
                cases d <;> first | exact absurd rfl (hnp' _) | simp [receiverAt, ul _ hu, Place.get, Sem.run, pure]
              · simp at hc
            · simp at hc
          · simp at hc
        · simp at hc
      · simp at hc
    · simp at hc
  · simp at hc
end
end Go.Proofs.YtajcmjjgnbaahaaGreat.Sx
