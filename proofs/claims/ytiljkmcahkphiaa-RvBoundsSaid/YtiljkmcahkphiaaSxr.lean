/- Symbolic execution is sound: what turns rows of open length. -/
import Derived.Test.YtiljkmcahkphiaaSx4
import Derived.ArgAppend
namespace Go.Proofs.Ytiljkmcahkphiaa.Sx
open Go Go.RowKit
set_option linter.unusedVariables false
set_option linter.unusedSimpArgs false

section
variable {P : Program} {Γ : FuncId → Option Cal} {B : Nat} {n : Nat → Prop} {ν : Nat → Pl} {σ : St} {a : Act} {w : World}

/-- What follows is so for whatever fits. -/
def Follows (B : Nat) (ν : Nat → Pl) (hp : List SObj) (w : World) (K : St → Prop) (next : Act → World → Prop) : Prop :=
  ∀ ν' σ' a' w', (∀ o, Live hp o → Live σ'.hp o) → Agree (Live hp) ν ν' → Sat B ν' σ' a' w' → Below B w w' → K σ' → next a' w'

theorem Follows.later {hp : List SObj} {K : St → Prop} {next : Act → World → Prop} (h : Follows B ν hp w K next) {ν' : Nat → Pl} {hp' : List SObj} {w' : World}
    (hl : ∀ o, Live hp o → Live hp' o) (ha : Agree (Live hp) ν ν') (hb : Below B w w') : Follows B ν' hp' w' K next :=
  fun ν'' σ'' a'' w'' hl' ha' hs hb' hk => h ν'' σ'' a'' w'' (fun o ho => hl' o (hl o ho)) (ha.trans ha' hl) hs (hb.trans hb') hk

theorem put_hp (σ : St) (d : Option Nat) (v : SV) : (σ.put d v).hp = σ.hp := by cases d <;> rfl

theorem layK_sat (h : Sat B ν σ a w) {vs : List SV} (hv : SV.wfL (Live σ.hp) vs) (e : TypeId) (k : Option Nat) (d : Option Nat) (f : Nat → SV) (g : Nat → Value)
    (hf : ∀ (ν : Nat → Pl) b, (f b).den ν = g (ν b).blk) (hw : ∀ (p : Nat → Prop) b, p b → (f b).wf p) {K : St → Prop} {next : Act → World → Prop} (hn : Follows B ν σ.hp w K next)
    (hk : layK σ k (.cells vs e) d f K) : next (a.put d (g w.heap.size)) (w.alloc (.cells (SV.denL ν vs).toArray e)) := by
  have hb : Below B w (w.alloc (.cells (SV.denL ν vs).toArray e)) := (Below.refl B w).alloc h.base _
  have main : ∀ b hp', SatHp B (bump ν b w.heap.size) hp' (w.alloc (.cells (SV.denL ν vs).toArray e)) → (∀ o, Live σ.hp o → Live hp' o) → Agree (Live σ.hp) ν (bump ν b w.heap.size) → Live hp' b →
      K (St.put { σ with hp := hp' } d (f b)) → next (a.put d (g w.heap.size)) (w.alloc (.cells (SV.denL ν vs).toArray e)) := by
    intro b hp' hs hlv ha hl hk
    have h2 : Sat B _ { σ with hp := hp' } a (w.alloc (.cells (SV.denL ν vs).toArray e)) := sat_grow h hlv ha hs hb
    have h3 := put_sat h2 d (v := f b) (hw _ _ hl)
    have := hn _ _ _ _ (by rw [put_hp]; exact hlv) ha h3 hb hk
    rw [hf, bump_at] at this
    exact this
  unfold layK at hk
  rw [fObj_eq] at hk
  simp only [putH_eq] at hk
  split at hk
  · obtain ⟨hs, hlv, ha⟩ := alloc_hp h.hp h.base hv e
    exact main _ _ hs hlv ha ⟨.cells vs e, by simp, rfl⟩ hk
  · rename_i b
    split at hk
    · rename_i hd
      have hlt : b < σ.hp.length := (List.getElem?_eq_some_iff.1 hd).1
      have hnl : ¬ Live σ.hp b := fun ⟨_, hx, e⟩ => by rw [hd] at hx; cases hx; cases e
      have hat : (setAt σ.hp b (.cells vs e))[b]? = some (.cells vs e) := by rw [setAt_set]; simp [hlt]
      obtain ⟨hs, hlv, ha⟩ := lay_hp h.hp h.base hv e hnl hat (fun o x hne hx => by
          rw [setAt_set, List.getElem?_set_ne (by omega)] at hx; exact .inl hx) (fun o ho => by
          rw [setAt_set, List.getElem?_set_ne (fun e => hnl (by rw [e]; exact ho))])
      exact main _ _ hs hlv ha ⟨_, hat, rfl⟩ hk
    · exact nomatch hk

theorem hp_below {hp : List SObj} {w' : World} (h : SatHp B ν hp w) (hb : Below w.heap.size w w') : SatHp B ν hp w' :=
  ⟨fun o x ho => (h.obj o x ho).mono (live_of ho) (fun _ h => h) (Agree.refl _ _) hb.size (fun _ _ hlt => hb.block _ hlt), h.apart⟩

theorem run_newRow (e : TypeId) (cs : Array Value) : (newRow e cs).run P w = .ok ⟨w.heap.size, 0, none⟩ (w.alloc (.cells cs e)) := rfl


theorem var_den (k : Nat) : (NE.var k).den = k := rfl
theorem askP_iff {p : Option BE} {K : Prop} (h : askP p K) : Holds p ∧ K := by
  cases p with
  | none => exact ⟨trivial, h⟩
  | some p => exact h

/-- A row's cells, one behind the other. -/
def cellsAt (w : World) (b off k : Nat) : List Value := (List.range k).map fun t => (w.cell? ⟨b, off + t, none⟩).getD .nilFunc

theorem cellsAt_length (w : World) (b off k : Nat) : (cellsAt w b off k).length = k := by simp [cellsAt]
theorem cellsAt_get {b off k t : Nat} {v : Value} (ht : t < k) (hv : w.cell? ⟨b, off + t, none⟩ = some v) : (cellsAt w b off k)[t]? = some v := by
  simp [cellsAt, List.getElem?_range ht, hv]

/-- Elements from a place on, as cells of a list. -/
structure Elems (cols : List Col) (m sz : Nat) (l : List Value) : Prop where
  len : l.length = m * sz
  wide : cols.length = sz
  get : ∀ (e : Nat), e < m → ∀ (j : Nat) (c : Col), cols[j]? = some c → ∃ v, l[e * sz + j]? = some v ∧ c.holds e v
  one : ∀ v ∈ l, v.oneCell' = true

theorem mul_lt {e j m sz : Nat} (he : e < m) (hj : j < sz) : e * sz + j < m * sz := by
  have : (e + 1) * sz ≤ m * sz := Nat.mul_le_mul_right sz he
  rw [Nat.add_mul] at this; omega

theorem elems_one {cols : List Col} {m sz : Nat} {l : List Value} (hl : l.length = m * sz) (hc : cols.length = sz) (hg : ∀ e, e < m → ∀ (j : Nat) (c : Col), cols[j]? = some c → ∃ v, l[e * sz + j]? = some v ∧ c.holds e v) : Elems cols m sz l := by
  refine ⟨hl, hc, hg, fun v hv => ?_⟩
  obtain ⟨i, hi⟩ := List.mem_iff_getElem?.1 hv
  have hlt : i < m * sz := by have := (List.getElem?_eq_some_iff.1 hi).1; omega
  have hz : 0 < sz := by
    rcases Nat.eq_zero_or_pos sz with h0 | h0
    · subst h0; omega
    · exact h0
  have h1 : i / sz < m := (Nat.div_lt_iff_lt_mul hz).2 hlt
  have h2 : i % sz < cols.length := by rw [hc]; exact Nat.mod_lt _ hz
  obtain ⟨u, hu, hh⟩ := hg (i / sz) h1 (i % sz) _ (List.getElem?_eq_getElem h2)
  rw [Nat.mul_comm, Nat.div_add_mod] at hu
  rw [hi] at hu
  cases hu
  exact hh.1

theorem view_elems {x : SV} {sz : Nat} {hp : List SObj} (hobj : ∀ o x, hp[o]? = some x → ObjSat B ν n w o x) {inp : Bool} {o : Nat} {cols : List Col} {m st len cap : NE} (h : slView hp sz x = some (inp, o, cols, m, st, len, cap)) (hle : st.den + len.den ≤ m.den) :
    ∃ l, Elems (cols.map fun c => c.shift st.den) len.den sz l ∧ (Builtin.firstCells sz len.den (x.den ν)).run P w = .ok l.toArray w := by
  obtain ⟨d1, d2, d3, _, d4⟩ := slView_sound hobj h
  rw [d1]
  cases hb : (inp && (ν o).nil) with
  | true =>
    have h0 : len.den = 0 := by have := d3 hb; omega
    refine ⟨[], ⟨by simp [h0], by simp [d2], by simp [h0], by simp⟩, by simp [Builtin.firstCells, Sem.run, pure]⟩
  | false =>
    have hlen : (cellsAt w (ν o).blk ((ν o).base inp + st.den * sz) (len.den * sz)).length = len.den * sz := cellsAt_length ..
    have hget : ∀ e, e < len.den → ∀ (j : Nat) (c : Col), (cols.map fun c => c.shift st.den)[j]? = some c → ∃ v, w.cell? ⟨(ν o).blk, (ν o).base inp + st.den * sz + (e * sz + j), none⟩ = some v ∧ c.holds e v := by
      intro e he j c hj
      rw [List.getElem?_map, Option.map_eq_some_iff] at hj
      obtain ⟨c0, hc0, rfl⟩ := hj
      obtain ⟨v, v1, v2⟩ := d4 (st.den + e) (by omega) j c0 hc0
      refine ⟨v, ?_, ?_⟩
      · rw [← v1, Nat.add_mul]; simp [Nat.add_assoc]
      · cases c0 <;> exact v2
    have hE : Elems (cols.map fun c => c.shift st.den) len.den sz (cellsAt w (ν o).blk ((ν o).base inp + st.den * sz) (len.den * sz)) := by
      refine elems_one hlen (by simp [d2]) fun e he j c hj => ?_
      obtain ⟨v, v1, v2⟩ := hget e he j c hj
      have hjs : j < sz := by
        have := (List.getElem?_eq_some_iff.1 hj).1
        simpa [d2] using this
      exact ⟨v, cellsAt_get (mul_lt he hjs) v1, v2⟩
    refine ⟨_, hE, ?_⟩
    simp only [cond_false]
    refine run_firstCells_some (P := P) w sz len.den _ len.den cap.den _ hlen fun t v hv => ?_
    rw [add_addr]
    have htl : t < len.den * sz := by have := (List.getElem?_eq_some_iff.1 hv).1; omega
    have hz : 0 < sz := by
      rcases Nat.eq_zero_or_pos sz with h0 | h0
      · subst h0; omega
      · exact h0
    have h1 : t / sz < len.den := (Nat.div_lt_iff_lt_mul hz).2 htl
    have h2 : t % sz < (cols.map fun c => c.shift st.den).length := by rw [List.length_map, d2]; exact Nat.mod_lt _ hz
    obtain ⟨u, u1, _⟩ := hget (t / sz) h1 (t % sz) _ (List.getElem?_eq_getElem h2)
    rw [show t / sz * sz + t % sz = t by rw [Nat.mul_comm (t / sz) sz]; exact Nat.div_add_mod t sz] at u1
    rw [cellsAt_get htl u1] at hv
    cases hv
    exact u1

theorem zeroCol_shift (v : SV) (s e : Nat) : (zeroCol v).den e = (zeroCol v).den s := by
  cases v <;> rfl

theorem zeroCols_sound {e : TypeId} {zs : List Col} (h : zeroCols P e = some zs) : ∃ i z, P.info? e = some i ∧ i.zero = some z ∧ z.cells.size = i.size ∧ zs.length = i.size ∧ 0 < i.size ∧
    ∀ (j : Nat) (c : Col), zs[j]? = some c → ∀ e', ∃ v, z.cells[j]? = some v ∧ c.holds e' v := by
  unfold zeroCols at h
  split at h
  · rename_i z i hz hi
    split at h
    · rename_i hc
      obtain ⟨c1, c2, c3⟩ := hc
      simp only [Option.some.injEq] at h; subst h
      unfold zeroOf at hz
      rw [hi] at hz
      simp only at hz
      split at hz
      · rename_i v hv
        obtain ⟨e1, e2⟩ := ofValue_sound nu0 (fun _ => False) hz
        have hcs : v.cells = (SV.denL nu0 z.cells).toArray := by rw [← e1]; exact cells_den _ _
        refine ⟨i, v, hi, hv, by rw [hcs]; simp [denL_length, c1], by simp [c1], c3, ?_⟩
        intro j c hj e'
        rw [List.getElem?_map, Option.map_eq_some_iff] at hj
        obtain ⟨s, hs, rfl⟩ := hj
        have hone : s.one = true := List.all_eq_true.1 c2 s (List.mem_of_getElem? hs)
        refine ⟨s.den fun _ => ⟨0, 0, false⟩, by rw [hcs]; simp [denL_map, hs], one_den _ hone, ?_⟩
        cases s <;> simp [zeroCol, Col.den, SV.den]
      · simp at hz
    · simp at h
  · simp at h

theorem src_sound {hp : List SObj} (hobj : ∀ o x, hp[o]? = some x → ObjSat B ν n w o x) {sz : Nat} {zs bs : List Col} {x : SV} {p : Option BE} {m : NE} (h : srcOf hp sz zs x = some (p, bs, m)) (hp' : Holds p) (hzs : zs.length = sz) :
    ∃ l, Elems bs m.den sz l ∧ (Builtin.firstCells sz m.den (x.den ν)).run P w = .ok l.toArray w ∧ (∃ b c, x.den ν = .slice b m.den c) := by
  unfold srcOf at h
  split at h
  · simp only [Option.some.injEq, Prod.mk.injEq] at h
    obtain ⟨rfl, rfl, rfl⟩ := h
    refine ⟨[], ⟨by simp [lit_den], hzs, by simp [lit_den], by simp⟩, by simp [Builtin.firstCells, SV.den, Sem.run, pure], none, 0, rfl⟩
  · split at h
    · rename_i inp o cols k st len cap hv
      simp only [Option.map_eq_some_iff, Prod.mk.injEq] at h
      obtain ⟨q, hq, rfl, rfl, rfl⟩ := h
      have hask := askB_holds hq hp'
      rw [leNE_den, two_nat] at hask
      obtain ⟨l, l1, l2⟩ := view_elems (P := P) hobj hv (of_decide_eq_true hask)
      obtain ⟨d1, _⟩ := slView_sound hobj hv
      exact ⟨l, l1, l2, _, _, d1⟩
    · simp at h

theorem blt_of {a b : Nat} (h : a < b) : Nat.blt a b = true := by rw [Nat.blt_eq]; exact h
theorem blt_not {a b : Nat} (h : ¬ a < b) : Nat.blt a b = false := by
  cases hx : Nat.blt a b with
  | false => rfl
  | true => rw [Nat.blt_eq] at hx; exact absurd hx h

theorem app_holds {a b z c : Col} {la lb : Nat} (h : a.app la b lb z = some c) (e : Nat) (v : Value) :
    (e < la → a.holds e v → c.holds e v) ∧ (¬ e < la → e < la + lb → b.holds (e - la) v → c.holds e v) ∧ (¬ e < la → ¬ e < la + lb → z.holds e v → c.holds e v) := by
  cases a <;> cases b <;> cases z <;> simp only [Col.app] at h <;> try (simp at h; done)
  · split at h
    · rename_i hk
      obtain ⟨rfl, rfl⟩ := hk
      simp only [Option.some.injEq] at h; subst h
      refine ⟨fun h1 h2 => ?_, fun h1 h2 h3 => ?_, fun h1 h2 h3 => ?_⟩
      · simpa [Col.holds, Col.den, blt_of h1] using h2
      · simpa [Col.holds, Col.den, blt_not h1, blt_of h2] using h3
      · simpa [Col.holds, Col.den, blt_not h1, blt_not h2] using h3
    · simp at h
  all_goals
    simp only [Option.some.injEq] at h; subst h
    refine ⟨fun h1 h2 => ?_, fun h1 h2 h3 => ?_, fun h1 h2 h3 => ?_⟩
    · simpa [Col.holds, Col.den, blt_of h1] using h2
    · simpa [Col.holds, Col.den, blt_not h1, blt_of h2] using h3
    · simpa [Col.holds, Col.den, blt_not h1, blt_not h2] using h3

theorem appCols_get {la lb : Nat} : ∀ {as bs zs cs : List Col}, appCols la lb as bs zs = some cs → cs.length = as.length ∧ ∀ (j : Nat) (c : Col), cs[j]? = some c → ∃ a b z, as[j]? = some a ∧ bs[j]? = some b ∧ zs[j]? = some z ∧ a.app la b lb z = some c
  | [], [], [], cs, h => by simp [appCols] at h; subst h; simp
  | a :: as, b :: bs, z :: zs, cs, h => by
    unfold appCols at h
    split at h
    · rename_i c l hc hl
      simp only [Option.some.injEq] at h; subst h
      obtain ⟨h1, h2⟩ := appCols_get hl
      refine ⟨by simp [h1], fun j c' hj => ?_⟩
      cases j with
      | zero => simp at hj; subst hj; exact ⟨a, b, z, rfl, rfl, rfl, hc⟩
      | succ j => exact h2 j c' (by simpa using hj)
    · simp at h
  | [], _ :: _, _, cs, h => by simp [appCols] at h
  | [], [], _ :: _, cs, h => by simp [appCols] at h
  | _ :: _, [], _, cs, h => by simp [appCols] at h
  | _ :: _, _ :: _, [], cs, h => by simp [appCols] at h

/-- Columns put one behind the other are the cells put so. -/
theorem app_sound {la lb sz cap : Nat} {as bs zs cs : List Col} {la' lb' : List Value} {z : Value} (h : appCols la lb as bs zs = some cs) (ha : Elems as la sz la') (hb : Elems bs lb sz lb') (hz : z.cells.size = sz)
    (hzc : ∀ (j : Nat) (c : Col), zs[j]? = some c → ∀ e', ∃ v, z.cells[j]? = some v ∧ c.holds e' v) (hcap : la + lb ≤ cap) (hsz : 0 < sz) :
    Elems cs cap sz (la' ++ lb' ++ (Builtin.zeroCells z.cells (cap - (la + lb))).toList) := by
  obtain ⟨hlen, hget⟩ := appCols_get h
  have hzl : (Builtin.zeroCells z.cells (cap - (la + lb))).toList.length = (cap - (la + lb)) * sz := by simp [Builtin.zeroCells, hz]
  have hsum : la * sz + lb * sz + (cap - (la + lb)) * sz = cap * sz := by rw [← Nat.add_mul, ← Nat.add_mul]; congr 1; omega
  refine elems_one (by simp only [List.length_append, ha.len, hb.len, hzl]; omega) (by rw [hlen, ha.wide]) fun e he j c hj => ?_
  obtain ⟨a, b, zc, h1, h2, h3, h4⟩ := hget j c hj
  have hjs : j < sz := by rw [← ha.wide]; exact (List.getElem?_eq_some_iff.1 h1).1
  by_cases e1 : e < la
  · obtain ⟨v, v1, v2⟩ := ha.get e e1 j a h1
    refine ⟨v, ?_, ?_⟩
    · rw [List.append_assoc, List.getElem?_append_left (by rw [ha.len]; exact mul_lt e1 hjs)]; exact v1
    · exact (app_holds h4 e v).1 e1 v2
  · by_cases e2 : e < la + lb
    · obtain ⟨v, v1, v2⟩ := hb.get (e - la) (by omega) j b h2
      have hidx : e * sz + j = la * sz + ((e - la) * sz + j) := by
        rw [← Nat.add_assoc, ← Nat.add_mul]; congr 2; omega
      refine ⟨v, ?_, ?_⟩
      · rw [List.append_assoc, hidx, List.getElem?_append_right (by rw [ha.len]; omega), ha.len, Nat.add_sub_cancel_left,
          List.getElem?_append_left (by rw [hb.len]; exact mul_lt (by omega) hjs)]
        exact v1
      · exact (app_holds h4 e v).2.1 e1 e2 v2
    · obtain ⟨v, v1, v2⟩ := hzc j zc h3 e
      have hidx : e * sz + j = (la * sz + lb * sz) + ((e - (la + lb)) * sz + j) := by
        rw [← Nat.add_mul, ← Nat.add_assoc, ← Nat.add_mul]; congr 2; omega
      refine ⟨v, ?_, ?_⟩
      · rw [hidx, List.getElem?_append_right (by simp only [List.length_append, ha.len, hb.len]; omega)]
        simp only [List.length_append, ha.len, hb.len, Nat.add_sub_cancel_left]
        have hlt : (e - (la + lb)) * sz + j < (cap - (la + lb)) * sz := mul_lt (by omega) hjs
        have hmod : ((e - (la + lb)) * sz + j) % sz = j := by rw [Nat.mul_comm, Nat.mul_add_mod]; exact Nat.mod_eq_of_lt hjs
        simp only [Builtin.zeroCells, Array.toList_map, Array.toList_range, List.getElem?_map, hz, List.getElem?_range hlt, Option.map_some, hmod]
        simp [Array.getElem!_eq_getD, Array.getD_eq_getD_getElem?, v1]
      · exact (app_holds h4 e v).2.2 e1 e2 v2

theorem setCells_size (b : Nat) : ∀ (vs : List Value) (o : Nat) (w : World), (w.setCells b o vs).heap.size = w.heap.size
  | [], _, _ => rfl
  | v :: r, o, w => by rw [World.setCells, setCells_size b r]; simp
theorem setCells_other (b : Nat) {k : Nat} (hk : k ≠ b) : ∀ (vs : List Value) (o : Nat) (w : World), (w.setCells b o vs).heap[k]? = w.heap[k]?
  | [], _, _ => rfl
  | v :: r, o, w => by
    rw [World.setCells, setCells_other b hk r]
    exact Below.heap_setCell w _ v k hk
theorem setCells_below {B b : Nat} (hb : B ≤ b) : ∀ (vs : List Value) (o : Nat) (w : World), Below B w (w.setCells b o vs)
  | [], _, w => Below.refl B w
  | v :: r, o, w => by
    rw [World.setCells]
    exact ((Below.refl B w).setCell (p := ⟨b, o, none⟩) hb v).trans (setCells_below hb r (o + 1) _)

/-- A row's content is exchanged. -/
theorem row_hp {hp : List SObj} (h : SatHp B ν hp w) {o : Nat} {inp : Bool} {cols cs : List Col} {m : NE} (ho : hp[o]? = some (.row true inp cols m)) {w' : World} (hr : RowSat B (ν o) w' true inp cs m.den)
    (hs : w'.heap.size = w.heap.size) (hk : ∀ k, (k ≠ (ν o).blk ∨ (inp && (ν o).nil) = true) → w'.heap[k]? = w.heap[k]?) :
    SatHp B ν (setAt hp o (.row true inp cs m)) w' ∧ ∀ o', Live hp o' → Live (setAt hp o (.row true inp cs m)) o' := by
  have hlt : o < hp.length := (List.getElem?_eq_some_iff.1 ho).1
  have hl : ∀ o', Live hp o' ↔ Live (setAt hp o (.row true inp cs m)) o' := by
    intro o'
    unfold Live
    rw [setAt_set]
    by_cases he : o' = o
    · subst he
      simp only [List.getElem?_set_self hlt]
      exact ⟨fun _ => ⟨_, rfl, rfl⟩, fun _ => ⟨_, ho, rfl⟩⟩
    · rw [List.getElem?_set_ne (by omega)]
  have hown : ∀ o', Owned ν (setAt hp o (.row true inp cs m)) o' → Owned ν hp o' := by
    intro o' ⟨y, hy, e⟩
    rw [setAt_set] at hy
    by_cases he : o' = o
    · subst he
      simp only [List.getElem?_set_self hlt, Option.some.injEq] at hy
      subst hy
      exact ⟨_, ho, e⟩
    · rw [List.getElem?_set_ne (by omega)] at hy; exact ⟨y, hy, e⟩
  refine ⟨⟨?_, fun o1 o2 h1 h2 e => h.apart o1 o2 (hown o1 h1) (hown o2 h2) e⟩, fun o' h' => (hl o').1 h'⟩
  intro o' x hx
  by_cases he : o' = o
  · subst he
    rw [setAt_set] at hx
    simp only [List.getElem?_set_self hlt, Option.some.injEq] at hx
    subst hx
    exact hr
  · rw [setAt_set, List.getElem?_set_ne (by omega)] at hx
    refine (h.obj o' x hx).mono (live_of hx) (fun o h => (hl o).1 h) (Agree.refl _ _) (by omega) (fun hlo' hor _ => ?_)
    refine hk _ ?_
    cases hn : (inp && (ν o).nil) with
    | true => exact .inr rfl
    | false =>
      left
      intro e
      rcases hor with h1 | h1
      · exact he (h.apart o' o ⟨x, hx, h1⟩ ⟨_, ho, by simp [SObj.owns, hn]⟩ e)
      · have hB' := (RowSat.lo (h.obj o _ ho) hn rfl).1
        omega

theorem overCols_get {lo m : Nat} : ∀ {as bs cs : List Col}, overCols lo m as bs = some cs → cs.length = as.length ∧ ∀ (j : Nat) (c : Col), cs[j]? = some c → ∃ a b, as[j]? = some a ∧ bs[j]? = some b ∧ a.over lo b m = some c
  | [], [], cs, h => by simp [overCols] at h; subst h; simp
  | a :: as, b :: bs, cs, h => by
    unfold overCols at h
    split at h
    · rename_i c l hc hl
      simp only [Option.some.injEq] at h; subst h
      obtain ⟨h1, h2⟩ := overCols_get hl
      refine ⟨by simp [h1], fun j c' hj => ?_⟩
      cases j with
      | zero => simp at hj; subst hj; exact ⟨a, b, rfl, rfl, hc⟩
      | succ j => exact h2 j c' (by simpa using hj)
    · simp at h
  | [], _ :: _, cs, h => by simp [overCols] at h
  | _ :: _, [], cs, h => by simp [overCols] at h

theorem over_holds {a b c : Col} {lo m : Nat} (h : a.over lo b m = some c) (e : Nat) (v : Value) :
    (lo ≤ e → e < lo + m → b.holds (e - lo) v → c.holds e v) ∧ (¬ (lo ≤ e ∧ e < lo + m) → a.holds e v → c.holds e v) := by
  have e1 : lo ≤ e → e < lo + m → (Nat.ble lo e && Nat.blt e (lo + m)) = true := fun h1 h2 => by
    rw [blt_of h2, Nat.ble_eq_true_of_le h1]; rfl
  have e2 : ¬ (lo ≤ e ∧ e < lo + m) → (Nat.ble lo e && Nat.blt e (lo + m)) = false := fun h1 => by
    by_cases h2 : e < lo + m
    · have h3 : ¬ lo ≤ e := fun h => h1 ⟨h, h2⟩
      have : Nat.ble lo e = false := by
        cases hx : Nat.ble lo e with
        | false => rfl
        | true => exact absurd (Nat.le_of_ble_eq_true hx) h3
      simp [this]
    · simp [blt_not h2]
  cases a <;> cases b <;> simp only [Col.over] at h <;> try (simp at h; done)
  · split at h
    · rename_i hk
      subst hk
      simp only [Option.some.injEq] at h; subst h
      refine ⟨fun h1 h2 h3 => ?_, fun h1 h2 => ?_⟩
      · simpa [Col.holds, Col.den, e1 h1 h2] using h3
      · simpa [Col.holds, Col.den, e2 h1] using h2
    · simp at h
  all_goals
    simp only [Option.some.injEq] at h; subst h
    refine ⟨fun h1 h2 h3 => ?_, fun h1 h2 => ?_⟩
    · simpa [Col.holds, Col.den, e1 h1 h2] using h3
    · simpa [Col.holds, Col.den, e2 h1] using h2

theorem over_row {p : Pl} {inp : Bool} {cols bs cs : List Col} {m lo k sz : Nat} {news : List Value} (hr : RowSat B p w true inp cols m) (hsz : cols.length = sz) (hE : Elems bs k sz news) (hc : overCols lo k cols bs = some cs) (hle : lo + k ≤ m) :
    (∀ j, j < news.length → (w.cell? ⟨p.blk, p.base inp + lo * sz + j, none⟩).isSome = true) ∧ (∀ j, j < news.length → w.frozen? ⟨p.blk, p.base inp + lo * sz + j, none⟩ = false) ∧
    RowSat B p (w.setCells p.blk (p.base inp + lo * sz) news) true inp cs m := by
  subst hsz
  obtain ⟨g1, g2⟩ := overCols_get hc
  have hidx : ∀ t, t < news.length → 0 < cols.length ∧ t / cols.length < k ∧ t % cols.length < cols.length ∧ p.base inp + lo * cols.length + t = p.base inp + ((lo + t / cols.length) * cols.length + t % cols.length) := by
    intro t ht
    rw [hE.len] at ht
    have hz : 0 < cols.length := by
      rcases Nat.eq_zero_or_pos cols.length with h0 | h0
      · rw [h0] at ht; omega
      · exact h0
    refine ⟨hz, (Nat.div_lt_iff_lt_mul hz).2 ht, Nat.mod_lt _ hz, ?_⟩
    rw [Nat.add_mul, Nat.add_assoc (lo * cols.length), show t / cols.length * cols.length + t % cols.length = t by rw [Nat.mul_comm (t / _)]; exact Nat.div_add_mod t _, Nat.add_assoc]
  have hsome : ∀ j, j < news.length → (w.cell? ⟨p.blk, p.base inp + lo * cols.length + j, none⟩).isSome = true := by
    intro t ht
    obtain ⟨_, h1, h2, h3⟩ := hidx t ht
    obtain ⟨v, hv, _⟩ := hr.cell (lo + t / cols.length) (by omega) _ _ (List.getElem?_eq_getElem h2)
    rw [h3, hv]; rfl
  refine ⟨hsome, fun t ht => ?_, ⟨hr.empty, fun h1 h2 => ?_, hr.hi, ?_, ?_⟩⟩
  · obtain ⟨_, h1, h2, h3⟩ := hidx t ht
    rw [h3]
    exact hr.thawed rfl _ (by omega) _ h2
  · rw [setCells_size]; exact hr.lo h1 h2
  · intro e he j c hj
    obtain ⟨a, b, ha, hb, hov⟩ := g2 j c hj
    have hjs : j < cols.length := (List.getElem?_eq_some_iff.1 ha).1
    rw [g1]
    by_cases hin : lo ≤ e ∧ e < lo + k
    · obtain ⟨v, v1, v2⟩ := hE.get (e - lo) (by omega) j b hb
      have hlt : (e - lo) * cols.length + j < news.length := by rw [hE.len]; exact mul_lt (by omega) hjs
      have e3 : p.base inp + (e * cols.length + j) = p.base inp + lo * cols.length + ((e - lo) * cols.length + j) := by
        have e4 : e * cols.length = lo * cols.length + (e - lo) * cols.length := by rw [← Nat.add_mul]; congr 1; omega
        omega
      refine ⟨v, ?_, (over_holds hov e v).1 hin.1 hin.2 v2⟩
      rw [e3, World.cell?_setCells_in _ _ _ _ hsome _ hlt]
      rw [List.getElem?_eq_getElem hlt] at v1
      exact v1
    · obtain ⟨v, v1, v2⟩ := hr.cell e he j a ha
      refine ⟨v, ?_, (over_holds hov e v).2 hin v2⟩
      rw [World.cell?_setCells_out _ _ _ _ _ (fun _ _ => ?_)]
      · exact v1
      · simp only [hE.len]
        by_cases h1 : e < lo
        · left
          have := mul_lt h1 hjs
          omega
        · right
          have h2 : lo + k ≤ e := by omega
          have := Nat.mul_le_mul_right cols.length h2
          rw [Nat.add_mul] at this
          omega
  · intro _ e he j hj
    rw [World.frozen?_setCells, g1]
    exact hr.thawed rfl e he j (by rw [← g1]; exact hj)

theorem put1_holds {c c' : Col} {i : Nat} {s : SV} (h : SV.put1 c i s = some c') (e : Nat) (v : Value) :
    (e ≠ i → c.holds e v → c'.holds e v) ∧ (∀ ν : Nat → Pl, c'.holds i (s.den ν)) := by
  have e1 : e ≠ i → Nat.beq e i = false := fun h1 => by
    cases hx : Nat.beq e i with
    | false => rfl
    | true => exact absurd (Nat.eq_of_beq_eq_true hx) h1
  have e2 : Nat.beq i i = true := Nat.beq_refl i
  unfold SV.put1 at h
  split at h
  · split at h
    · rename_i hk
      subst hk
      simp only [Option.some.injEq] at h; subst h
      exact ⟨fun h1 h2 => by simpa [Col.holds, Col.den, e1 h1] using h2, fun ν => by simp [Col.holds, Col.den, e2, SV.den, Value.oneCell']⟩
    · simp at h
  · simp only [Option.some.injEq] at h; subst h
    exact ⟨fun h1 h2 => by simpa [Col.holds, Col.den, e1 h1] using h2, fun ν => by simp [Col.holds, Col.den, e2, SV.den, Value.oneCell']⟩
  · simp only [Option.some.injEq] at h; subst h
    exact ⟨fun h1 h2 => by simpa [Col.holds, Col.den, e1 h1] using h2, fun ν => by simp [Col.holds, Col.den, e2, SV.den, Value.oneCell']⟩
  · simp only [Option.some.injEq] at h; subst h
    exact ⟨fun h1 h2 => by simpa [Col.holds, Col.den, e1 h1] using h2, fun ν => by simp [Col.holds, Col.den, e2, SV.den, Value.oneCell']⟩
  · simp at h

theorem putCols_get {i : Nat} : ∀ {vs : List SV} {cols : List Col} {c : Nat} {cs : List Col}, putCols i cols c vs = some cs → cs.length = cols.length ∧ (vs = [] ∨ c + vs.length ≤ cols.length) ∧ (∀ v ∈ vs, ∀ ν : Nat → Pl, (v.den ν).oneCell' = true) ∧
    ∀ (j : Nat) (c' : Col), cs[j]? = some c' → ∃ c0, cols[j]? = some c0 ∧ (∀ e v, e ≠ i → c0.holds e v → c'.holds e v) ∧ (∀ (t : Nat) (s : SV), j = c + t → vs[t]? = some s → ∀ ν : Nat → Pl, c'.holds i (s.den ν)) ∧
      ((j < c ∨ c + vs.length ≤ j) → ∀ v, c0.holds i v → c'.holds i v)
  | [], cols, c, cs, h => by
    simp [putCols] at h; subst h
    exact ⟨rfl, .inl rfl, by simp, fun j c' hj => ⟨c', hj, fun _ _ _ h => h, by simp, fun _ _ h => h⟩⟩
  | v :: r, cols, c, cs, h => by
    unfold putCols at h
    split at h
    · rename_i col hcol
      split at h
      · rename_i col' hp
        obtain ⟨h1, h2, h3, h4⟩ := putCols_get h
        rw [setAt_length] at h1 h2
        have hlt : c < cols.length := (List.getElem?_eq_some_iff.1 hcol).1
        refine ⟨h1, .inr ?_, ?_, ?_⟩
        · rcases h2 with h2 | h2
          · subst h2; simp; omega
          · simp; omega
        · intro u hu ν
          rcases List.mem_cons.1 hu with rfl | hu
          · exact ((put1_holds hp i .nilFunc).2 ν).1
          · exact h3 u hu ν
        · intro j c' hj
          obtain ⟨c0, g1, g2, g3, g4⟩ := h4 j c' hj
          rw [setAt_set] at g1
          by_cases hjc : j = c
          · subst hjc
            rw [List.getElem?_set_self hlt] at g1
            cases g1
            refine ⟨col, hcol, fun e v he hh => g2 e v he ((put1_holds hp e v).1 he hh), fun t s ht hs ν => ?_, fun hor => ?_⟩
            · have : t = 0 := by omega
              subst this
              simp at hs; subst hs
              exact g4 (.inl (by omega)) _ ((put1_holds hp i .nilFunc).2 ν)
            · simp at hor; omega
          · rw [List.getElem?_set_ne (by omega)] at g1
            refine ⟨c0, g1, g2, fun t s ht hs ν => ?_, fun hor v hv => ?_⟩
            · cases t with
              | zero => omega
              | succ t => exact g3 t s (by omega) (by simpa using hs) ν
            · refine g4 ?_ v hv
              simp at hor
              omega
      · simp at h
    · simp at h

theorem put_row {p : Pl} {inp : Bool} {cols cs : List Col} {m i c sz : Nat} {vs : List SV} (hr : RowSat B p w true inp cols m) (hsz : cols.length = sz) (hc : putCols i cols c vs = some cs) (hi : i < m) (ν : Nat → Pl) :
    (∀ j, j < vs.length → (w.cell? ⟨p.blk, p.base inp + (i * sz + c) + j, none⟩).isSome = true) ∧ (∀ j, j < vs.length → w.frozen? ⟨p.blk, p.base inp + (i * sz + c) + j, none⟩ = false) ∧
    RowSat B p (w.setCells p.blk (p.base inp + (i * sz + c)) (SV.denL ν vs)) true inp cs m := by
  subst hsz
  obtain ⟨g1, g2, g3, g4⟩ := putCols_get hc
  have hb : ∀ t, t < vs.length → c + t < cols.length := fun t ht => by
    rcases g2 with g2 | g2
    · subst g2; simp at ht
    · omega
  have hsome : ∀ j, j < vs.length → (w.cell? ⟨p.blk, p.base inp + (i * cols.length + c) + j, none⟩).isSome = true := by
    intro t ht
    obtain ⟨v, hv, _⟩ := hr.cell i hi _ _ (List.getElem?_eq_getElem (hb t ht))
    rw [show p.base inp + (i * cols.length + c) + t = p.base inp + (i * cols.length + (c + t)) by omega, hv]; rfl
  refine ⟨hsome, fun t ht => ?_, ⟨hr.empty, fun h1 h2 => ?_, hr.hi, ?_, ?_⟩⟩
  · rw [show p.base inp + (i * cols.length + c) + t = p.base inp + (i * cols.length + (c + t)) by omega]
    exact hr.thawed rfl i hi _ (hb t ht)
  · rw [setCells_size]; exact hr.lo h1 h2
  · intro e he j c' hj
    obtain ⟨c0, k1, k2, k3, k4⟩ := g4 j c' hj
    have hjs : j < cols.length := (List.getElem?_eq_some_iff.1 k1).1
    rw [g1]
    by_cases hin : e = i ∧ c ≤ j ∧ j < c + vs.length
    · obtain ⟨rfl, h2, h3⟩ := hin
      have hlt : j - c < (SV.denL ν vs).length := by rw [denL_length]; omega
      have hlt' : j - c < vs.length := by omega
      refine ⟨(vs[j - c]).den ν, ?_, k3 (j - c) _ (by omega) (List.getElem?_eq_getElem hlt') ν⟩
      rw [show p.base inp + (e * cols.length + j) = p.base inp + (e * cols.length + c) + (j - c) by omega,
        World.cell?_setCells_in _ _ _ _ (by rw [denL_length]; exact hsome) _ hlt]
      simp [denL_map]
    · obtain ⟨v, v1, v2⟩ := hr.cell e he j c0 k1
      refine ⟨v, ?_, ?_⟩
      · rw [World.cell?_setCells_out _ _ _ _ _ (fun _ _ => ?_)]
        · exact v1
        · simp only [denL_length]
          by_cases h1 : e = i
          · subst h1
            by_cases h2 : c ≤ j
            · right; have : ¬ j < c + vs.length := fun h => hin ⟨rfl, h2, h⟩; omega
            · left; omega
          · by_cases h0 : vs.length = 0
            · by_cases h2 : e * cols.length + j < i * cols.length + c
              · left; omega
              · right; omega
            · have hc0 := hb (vs.length - 1) (by omega)
              rcases Nat.lt_or_gt_of_ne h1 with h2 | h2
              · left
                have := mul_lt h2 hjs
                omega
              · right
                have := mul_lt h2 (show c + (vs.length - 1) < cols.length from hc0)
                omega
      · by_cases h1 : e = i
        · subst h1
          refine k4 ?_ v v2
          by_cases h2 : c ≤ j
          · right; have : ¬ j < c + vs.length := fun h => hin ⟨rfl, h2, h⟩; omega
          · left; omega
        · exact k2 e v h1 v2
  · intro _ e he j hj
    rw [World.frozen?_setCells, g1]
    exact hr.thawed rfl e he j (by rw [← g1]; exact hj)

theorem storeE_sound (h : Sat B ν σ a w) {d : Option Nat} {t : TypeId} {inp : Bool} {o sz : Nat} {i : NE} {c : Nat} {v : SV} {K : St → Prop} (hx : sxStoreE P σ d t inp o sz i c v K) {next : Act → World → Prop} (hn : Follows B ν σ.hp w K next) :
    ∃ w', (storeVar t ⟨(ν o).blk, (ν o).base inp + (i.den * sz + c), none⟩ (v.den ν)).run P w = .ok () w' ∧ next (a.put d undef) w' := by
  unfold sxStoreE at hx
  split at hx
  · rename_i inp' cols m inf ho hi
    split at hx
    · rename_i hc
      obtain ⟨rfl, hsz, hlen⟩ := hc
      split at hx
      · rename_i p cs hp hcs
        obtain ⟨hp1, hk⟩ := askP_iff hx
        have hlt := askB_holds hp hp1
        rw [leNE_den, two_nat, lit_den] at hlt
        have hlt' : i.den < m.den := of_decide_eq_true hlt
        have hr : RowSat B (ν o) w true inp' cols m.den := h.hp.obj o _ ho
        have hnn : (inp' && (ν o).nil) = false := by
          cases hb : (inp' && (ν o).nil) with
          | false => rfl
          | true => have := hr.empty hb; omega
        obtain ⟨s1, s2, s3⟩ := put_row hr hsz hcs hlt' ν
        obtain ⟨_, _, g3, _⟩ := putCols_get hcs
        have hst := run_storeCells_cells (P := P) (ν o).blk ((ν o).base inp' + (i.den * sz + c)) (SV.denL ν v.cells) 0 w (by simpa [denL_length] using s1) (by simpa [denL_length] using s2)
          (fun x hx => by rw [denL_map] at hx; obtain ⟨s, hs, rfl⟩ := List.mem_map.1 hx; exact g3 s hs ν)
        simp only [Nat.add_zero] at hst
        obtain ⟨hs', hl'⟩ := row_hp h.hp ho s3 (setCells_size _ _ _ _) (fun k hk => by
          rcases hk with hk | hk
          · exact setCells_other _ hk _ _ _
          · rw [hnn] at hk; cases hk)
        have hbel : Below B w (w.setCells (ν o).blk ((ν o).base inp' + (i.den * sz + c)) (SV.denL ν v.cells)) := setCells_below (hr.lo hnn rfl).1 _ _ _
        refine ⟨w.setCells (ν o).blk ((ν o).base inp' + (i.den * sz + c)) (SV.denL ν v.cells), ?_, ?_⟩
        · unfold storeVar
          have e1 : (v.den ν).cells = (SV.denL ν v.cells).toArray := cells_den ν v
          have e2 : (sizeOf t).run P w = .ok inf.size w := by simp [sizeOf, typeInfo, program, hi, Sem.run, pure]
          rw [Sem.run_bind, e2]
          simp only [Result.andThen, e1, List.size_toArray, denL_length, hlen, ne_eq, not_true_eq_false, if_false]
          exact hst
        · rw [putH_eq] at hk
          have h2 : Sat B ν { σ with hp := setAt σ.hp o (.row true inp' cs m) } a _ := sat_grow h hl' (Agree.refl _ _) hs' hbel
          have h3 := put_sat h2 d (v := SV.undef) (by simp [SV.undef, SV.wf, SV.wfL])
          have := hn _ _ _ _ (by rw [put_hp]; exact hl') (Agree.refl _ _) h3 hbel hk
          simpa [SV.den, SV.undef, SV.denL, undef] using this
      · exact nomatch hx
    · exact nomatch hx
  · exact nomatch hx

theorem hobj_drew {hp : List SObj} (h : SatHp B ν hp w) : ∀ o x, hp[o]? = some x → ObjSat B ν (Live hp) w.drew o x :=
  fun o x hx => (h.obj o x hx).mono (live_of hx) (fun _ h => h) (Agree.refl _ _) (by simp) (fun _ _ _ => rfl)

theorem below_drew' (B : Nat) (w : World) : Below B w w.drew := (Below.refl B w).drew

theorem run_app_grow (t ty e : TypeId) (i : TypeInfo) (z : Value) (ht : P.underlying t = some (.slice e)) (hi : P.info? e = some i) (hz : i.zero = some z)
    (base b : Option Addr) (sLen sCap n c : Nat) (olds news : List Value) (hfo : (Builtin.firstCells i.size sLen (.slice base sLen sCap)).run P w.drew = .ok olds.toArray w.drew)
    (hf : (Builtin.firstCells i.size n (.slice b n c)).run P w.drew = .ok news.toArray w.drew)
    (hg : sCap < sLen + n) (h63 : ((sLen + n : Nat) : Int) ≤ 9223372036854775807) (hfit : Builtin.nextslicecap (sLen + n) sCap * i.bytes ≤ 281474976710656) :
    (Builtin.append_ #[t, t] ty #[.slice base sLen sCap, .slice b n c]).run P w =
      .ok (.slice (some ⟨w.heap.size, 0, none⟩) (sLen + n) (grownCap w (sLen + n) sCap e))
        (w.drew.alloc (.cells (olds ++ news ++ (Builtin.zeroCells z.cells (grownCap w (sLen + n) sCap e - (sLen + n))).toList).toArray e)) := by
  have hn : ¬ (sLen + n ≤ sCap) := by omega
  have h63' : ¬ (9223372036854775807 < ((sLen : Int) + (n : Int))) := by omega
  have h48' : ¬ (281474976710656 < Builtin.nextslicecap (sLen + n) sCap * i.bytes) := by omega
  simp [Builtin.append_, run_underlying ht, sizeOf, typeInfo, zeroValue, hi, hz, Builtin.lenOf, hn, h63', h48', Question.forced, hf, hfo, newRow, grownCap]
  congr 2
  apply Array.ext'
  simp [List.append_assoc]

theorem run_app_room (t ty e : TypeId) (i : TypeInfo) (ht : P.underlying t = some (.slice e)) (hi : P.info? e = some i)
    (blk off : Nat) (b : Option Addr) (sLen sCap n c : Nat) (news : List Value) (hf : (Builtin.firstCells i.size n (.slice b n c)).run P w = .ok news.toArray w) {w' : World}
    (hroom : sLen + n ≤ sCap) (hst : (storeCells ⟨blk, off + sLen * i.size, none⟩ news).run P w = .ok () w') :
    (Builtin.append_ #[t, t] ty #[.slice (some ⟨blk, off, none⟩) sLen sCap, .slice b n c]).run P w = .ok (.slice (some ⟨blk, off, none⟩) (sLen + n) sCap) w' := by
  simp [Builtin.append_, run_underlying ht, sizeOf, typeInfo, hi, Builtin.lenOf, hroom, hf, Addr.add_lit, hst]

theorem run_app_none (t ty e : TypeId) (i : TypeInfo) (ht : P.underlying t = some (.slice e)) (hi : P.info? e = some i)
    (b : Option Addr) (sLen sCap n c : Nat) (news : List Value) (hf : (Builtin.firstCells i.size n (.slice b n c)).run P w = .ok news.toArray w)
    (hroom : sLen + n ≤ sCap) :
    (Builtin.append_ #[t, t] ty #[.slice none sLen sCap, .slice b n c]).run P w = .ok (.slice none (sLen + n) sCap) w := by
  simp [Builtin.append_, run_underlying ht, sizeOf, typeInfo, hi, Builtin.lenOf, hroom, hf]

theorem twoWays_iff {p : BE} {A C : Prop} (h : twoWays p A C) : (p.den = true → A) ∧ (p.den = false → C) := by
  unfold twoWays at h
  split at h
  · exact ⟨fun _ => h, fun hc => (by cases hc)⟩
  · exact ⟨fun hc => (by cases hc), fun _ => h⟩
  · exact h

/-- A new row behind the others. -/
theorem new_row (h : Sat B ν σ a w) {cs : List Col} {m sz : Nat} {cells : Array Value} {e : TypeId} {w0 : World} (h0 : w0.heap = w.heap) (hb0 : Below B w w0) (hE : Elems cs m sz cells.toList) (d : Option Nat) (st len cap : NE) (mm : NE) (hm : mm.den = m)
    {K : St → Prop} {next : Act → World → Prop} (hn : Follows B ν σ.hp w K next)
    (hk : putH σ (σ.hp ++ [.row true false cs mm]) d (.sliceE false σ.hp.length sz st len cap) K) :
    next (a.put d (.slice (some ⟨w.heap.size, st.den * sz, none⟩) len.den cap.den)) (w0.alloc (.cells cells e)) := by
  rw [putH_eq] at hk
  have hsz0 : w0.heap.size = w.heap.size := by rw [h0]
  have hrow : RowSat B ⟨w.heap.size, 0, false⟩ (w0.alloc (.cells cells e)) true false cs mm.den := by
    have hc : ∀ i v, cells[i]? = some v → (w0.alloc (.cells cells e)).cell? ⟨w.heap.size, i, none⟩ = some v := fun i v hv => by
      rw [← hsz0]; simp [hv]
    refine ⟨by simp, fun _ _ => ⟨h.base, by simp [hsz0]⟩, fun _ hx => (by cases hx), ?_, ?_⟩
    · intro e' he j c hj
      rw [hm] at he
      obtain ⟨v, v1, v2⟩ := hE.get e' he j c hj
      refine ⟨v, ?_, v2⟩
      simp only [Pl.base, cond_false, Nat.zero_add]
      rw [hE.wide]
      exact hc _ _ (by rw [← Array.getElem?_toList]; exact v1)
    · intro _ e' he j hj
      simp only [Pl.base, cond_false, Nat.zero_add]
      rw [← hsz0]
      simp
  obtain ⟨hs, hl, ha⟩ := alloc_obj (x := .row true false cs mm) (obj := .cells cells e) h.hp h.base h0 (fun _ _ => by
    show RowSat B (bump ν σ.hp.length w.heap.size σ.hp.length) _ true false cs mm.den
    rw [bump_at]; exact hrow)
  have hbel : Below B w (w0.alloc (.cells cells e)) := hb0.alloc (by rw [hsz0]; exact h.base) _
  have h2 : Sat B _ { σ with hp := σ.hp ++ [.row true false cs mm] } a _ := sat_grow h hl ha hs hbel
  have hlv : Live (σ.hp ++ [.row true false cs mm]) σ.hp.length := ⟨.row true false cs mm, by simp, rfl⟩
  have h3 := put_sat h2 d (v := .sliceE false σ.hp.length sz st len cap) hlv
  have := hn _ _ _ _ (by rw [put_hp]; exact hl) ha h3 hbel hk
  simpa [SV.den, bump_at, Pl.base] using this

theorem append_sound (h : Sat B ν σ a w) {d : Option Nat} {t t2 ty : TypeId} {s x : SV} (hsw : s.wf (Live σ.hp)) {K : St → Prop} (hx : sxAppend P t t2 σ d s x K) {next : Act → World → Prop} (hn : Follows B ν σ.hp w K next) :
    ∃ v w', (Builtin.append_ #[t, t2] ty #[s.den ν, x.den ν]).run P w = .ok v w' ∧ next (a.put d v) w' := by
  unfold sxAppend at hx
  split at hx
  · rename_i e hu
    split at hx
    · rename_i inf zs hi hzs
      obtain ⟨i', z, hi', hz, z1, z2, z3, z4⟩ := zeroCols_sound hzs
      rw [hi] at hi'; cases hi'
      split at hx
      · rename_i ht2
        obtain ⟨ht2, hb0⟩ := ht2
        subst ht2
        split at hx
        · rename_i p bs m hsrc
          obtain ⟨hp, hk⟩ := askP_iff hx
          obtain ⟨news, n1, n2, b, c, n3⟩ := src_sound (P := P) h.hp.obj hsrc hp z2
          obtain ⟨news', n1', n2', _⟩ := src_sound (P := P) (hobj_drew h.hp) hsrc hp z2
          rw [n3] at n2 n2' ⊢
          have grow : ∀ (base : Option Addr) (sLen sCap : Nat) (olds : List Value) (as : List Col) (need : NE), Elems as sLen inf.size olds → (Builtin.firstCells inf.size sLen (.slice base sLen sCap)).run P w.drew = .ok olds.toArray w.drew →
              sCap < sLen + m.den → need.den = sLen + m.den → growK σ d inf.size inf.bytes (appCols sLen m.den as bs zs) need K →
              ∃ v w', (Builtin.append_ #[t2, t2] ty #[.slice base sLen sCap, .slice b m.den c]).run P w = .ok v w' ∧ next (a.put d v) w' := by
            intro base sLen sCap olds as need hE hfo hg hneed hgk
            unfold growK at hgk
            split at hgk
            · rename_i cs hcs
              obtain ⟨hby, hgk⟩ := hgk
              rw [hneed] at hby hgk
              have h63 : sLen + m.den ≤ 9223372036854775807 := by
                have := Nat.le_mul_of_pos_right (sLen + m.den) hb0
                omega
              have hfit : Builtin.nextslicecap (sLen + m.den) sCap * inf.bytes ≤ 281474976710656 := growslice_fits hg hby
              have hr := run_app_grow (P := P) (w := w) t2 ty e inf z hu hi hz base b sLen sCap m.den c olds news' hfo n2' hg (by omega) hfit
              have hge := grownCap_ge w (sLen + m.den) sCap e
              have hle : grownCap w (sLen + m.den) sCap e ≤ 9223372036854775807 := by
                have := grownCap_le_maxLen w (sLen + m.den) sCap e (by simp only [maxLen]; omega)
                simpa [maxLen] using this
              refine ⟨_, _, hr, ?_⟩
              have hE' := app_sound hcs hE n1' z1 z4 hge z3
              have := new_row h (w0 := w.drew) rfl (below_drew' B w) (cells := (olds ++ news' ++ (Builtin.zeroCells z.cells (grownCap w (sLen + m.den) sCap e - (sLen + m.den))).toList).toArray) (e := e) (by simpa [var_den] using hE') d (.lit 0) need (.var (grownCap w (sLen + m.den) sCap e)) (.var (grownCap w (sLen + m.den) sCap e)) rfl hn (hgk _ hge hle)
              simpa [lit_den, var_den, hneed] using this
            · exact nomatch hgk
          split at hk
          · obtain ⟨k1, k2⟩ := twoWays_iff hk
            rw [leNE_den, lit_den] at k1 k2
            by_cases hm : m.den ≤ 0
            · have hm0 : m.den = 0 := by omega
              have hk' := k1 (by simp [hm0])
              rw [putK_eq] at hk'
              have hr := run_app_none (P := P) (w := w) t2 ty e inf hu hi b 0 0 m.den c news n2 (by omega)
              refine ⟨_, _, hr, ?_⟩
              have h3 := put_sat h d (v := .nils) trivial
              have := hn _ _ _ _ (by rw [put_hp]; exact fun _ h => h) (Agree.refl _ _) h3 (Below.refl _ _) hk'
              simpa [SV.den, hm0] using this
            · have hk' := k2 (by simp; omega)
              exact grow none 0 0 [] zs m ⟨by simp, z2, by simp, by simp⟩ (by simp [Builtin.firstCells, Sem.run, pure]) (by omega) (by omega) hk'
          · split at hk
            · rename_i inp o cols k st len cap hv
              split at hk
              · rename_i q hq
                obtain ⟨hq1, hk⟩ := askP_iff hk
                have hle := askB_holds hq hq1
                rw [leNE_den, two_nat] at hle
                have hle' := of_decide_eq_true hle
                obtain ⟨d1, d2, d3, _, _⟩ := slView_sound h.hp.obj hv
                obtain ⟨k1, k2⟩ := twoWays_iff hk
                rw [leNE_den, two_nat] at k1 k2
                by_cases hroom : len.den + m.den ≤ cap.den
                · have hk' := k1 (by simpa using hroom)
                  unfold roomK at hk'
                  split at hk'
                  · rename_i inp' cols' mm ho
                    split at hk'
                    · rename_i hc
                      obtain ⟨rfl, hsz⟩ := hc
                      split at hk'
                      · rename_i p' cs hp' hcs
                        obtain ⟨hq2, hk'⟩ := askP_iff hk'
                        have hcap := askB_holds hp' hq2
                        rw [leNE_den, two_nat] at hcap
                        have hcap' := of_decide_eq_true hcap
                        have hr : RowSat B (ν o) w true inp' cols' mm.den := h.hp.obj o _ ho
                        obtain ⟨s1, s2, s3⟩ := over_row hr hsz n1 hcs (by omega)
                        have hlo : Live σ.hp o := ⟨_, ho, rfl⟩
                        rw [putH_eq] at hk'
                        rw [d1]
                        cases hnn : (inp' && (ν o).nil) with
                        | true =>
                          have hm0 := hr.empty hnn
                          have hm1 : m.den = 0 := by omega
                          have hnews : news = [] := by have := n1.len; rw [hm1] at this; simpa using this
                          rw [hnews] at s3
                          have hrun := run_app_none (P := P) (w := w) t2 ty e inf hu hi b len.den cap.den m.den c news n2 hroom
                          refine ⟨_, _, hrun, ?_⟩
                          obtain ⟨hs', hl'⟩ := row_hp h.hp ho s3 rfl (fun _ _ => rfl)
                          have h2 : Sat B ν { σ with hp := setAt σ.hp o (.row true inp' cs mm) } a w := sat_grow h hl' (Agree.refl _ _) hs' (Below.refl _ _)
                          have h3 := put_sat h2 d (v := .sliceE inp' o inf.size st (NE.two (· + ·) len m) cap) (hl' o hlo)
                          have := hn _ _ _ _ (by rw [put_hp]; exact hl') (Agree.refl _ _) h3 (Below.refl _ _) hk'
                          simpa [SV.den, hnn, two_nat] using this
                        | false =>
                          have hst := run_storeCells_cells (P := P) (ν o).blk ((ν o).base inp' + (st.den + len.den) * inf.size) news 0 w (by simpa using s1) (by simpa using s2) n1.one
                          simp only [Nat.add_zero] at hst
                          have hrun := run_app_room (P := P) (w := w) t2 ty e inf hu hi (ν o).blk ((ν o).base inp' + st.den * inf.size) b len.den cap.den m.den c news n2 hroom (w' := w.setCells (ν o).blk ((ν o).base inp' + (st.den + len.den) * inf.size) news)
                            (by rw [Nat.add_assoc, ← Nat.add_mul]; exact hst)
                          have hbel : Below B w (w.setCells (ν o).blk ((ν o).base inp' + (st.den + len.den) * inf.size) news) := setCells_below (hr.lo hnn rfl).1 _ _ _
                          refine ⟨_, _, hrun, ?_⟩
                          obtain ⟨hs', hl'⟩ := row_hp h.hp ho s3 (setCells_size _ _ _ _) (fun k hk => by
                            rcases hk with hk | hk
                            · exact setCells_other _ hk _ _ _
                            · rw [hnn] at hk; cases hk)
                          have h2 : Sat B ν { σ with hp := setAt σ.hp o (.row true inp' cs mm) } a _ := sat_grow h hl' (Agree.refl _ _) hs' hbel
                          have h3 := put_sat h2 d (v := .sliceE inp' o inf.size st (NE.two (· + ·) len m) cap) (hl' o hlo)
                          have := hn _ _ _ _ (by rw [put_hp]; exact hl') (Agree.refl _ _) h3 hbel hk'
                          simpa [SV.den, hnn, two_nat] using this
                      · exact nomatch hk'
                    · exact nomatch hk'
                  · exact nomatch hk'
                · have hk' := k2 (by simpa using hroom)
                  obtain ⟨olds, o1, o2⟩ := view_elems (P := P) (hobj_drew h.hp) hv hle'
                  rw [d1] at o2
                  rw [d1]
                  exact grow _ len.den cap.den olds _ _ o1 o2 (by omega) (two_nat _ _ _) hk'
              · exact nomatch hk
            · exact nomatch hk
        · exact nomatch hx
      · exact nomatch hx
    · exact nomatch hx
  · exact nomatch hx

theorem make_sound (h : Sat B ν σ a w) {d : Option Nat} {t : TypeId} {kl kc : IntKind} {len cap : IE} {K : St → Prop} (hx : sxMake P σ d t len cap K) {next : Act → World → Prop} (hn : Follows B ν σ.hp w K next) :
    ∃ v w', (Instr.makeSlice t (.int kl len.den) (.int kc cap.den)).run P w = .ok v w' ∧ next (a.put d v) w' := by
  unfold sxMake at hx
  split at hx
  · rename_i e hu
    split at hx
    · rename_i inf zs hi hzs
      obtain ⟨i', z, hi', hz, z1, z2, z3, z4⟩ := zeroCols_sound hzs
      rw [hi] at hi'; cases hi'
      split at hx
      · rename_i hb
        split at hx
        · rename_i p hp
          obtain ⟨hp1, hk⟩ := askP_iff hx
          have hq := askB_holds hp hp1
          have hden : (makeAsk inf.bytes len cap).den = decide (0 ≤ len.den ∧ len.den ≤ cap.den ∧ cap.den * (inf.bytes : Int) ≤ 281474976710656) := by
            cases len <;> cases cap <;> rfl
          rw [hden] at hq
          obtain ⟨q1, q2, q3⟩ := of_decide_eq_true hq
          have hcb : cap.den ≤ cap.den * (inf.bytes : Int) := by
            have h1 : (1 : Int) ≤ (inf.bytes : Int) := by omega
            have := Int.mul_le_mul_of_nonneg_left h1 (show 0 ≤ cap.den by omega)
            omega
          have hr := run_make (P := P) w t e inf z hu hi hz kl kc len.den cap.den q1 q2 (by rw [Int.mul_comm]; exact q3) (by omega)
          refine ⟨_, _, hr, ?_⟩
          have hE : Elems zs cap.den.toNat inf.size (madeCells z.cells (cap.den.toNat * inf.size)).toList := by
            refine elems_one (by simp [madeCells]) z2 fun e' he j c hj => ?_
            obtain ⟨v, v1, v2⟩ := z4 j c hj e'
            have hjs : j < inf.size := by have := (List.getElem?_eq_some_iff.1 hj).1; omega
            refine ⟨v, ?_, v2⟩
            have hmod : (e' * inf.size + j) % inf.size = j := by rw [Nat.mul_comm, Nat.mul_add_mod]; exact Nat.mod_eq_of_lt hjs
            simp only [madeCells, Array.toList_map, Array.toList_range, List.getElem?_map, z1, List.getElem?_range (mul_lt he hjs), Option.map_some, hmod]
            simp [Array.getElem!_eq_getD, Array.getD_eq_getD_getElem?, v1]
          have := new_row h (w0 := w) rfl (Below.refl B w) (e := e) hE d (.lit 0) len.nat cap.nat cap.nat (nat_den _) hn hk
          simpa [lit_den, nat_den] using this
        · exact nomatch hx
      · exact nomatch hx
    · exact nomatch hx
  · exact nomatch hx

theorem row_sound (h : Sat B ν σ a w) {o : Oper} {k : Option Nat} {K : St → Prop} {p : Prop} (hx : sxRow P k o σ K = some p) (hp : p) {next : Act → World → Prop} {Q : Exit → Act → World → Prop}
    (hn : Follows B ν σ.hp w K next) : o.wp P a w next Q := by
  unfold Oper.wp
  unfold sxRow at hx
  split at hx
  · rename_i t pp x he
    split at hx
    · rename_i inp ob sz i c v hpe hve
      simp only [Option.some.injEq] at hx; subst hx
      obtain ⟨p1, _⟩ := eval_sound h.t hpe
      obtain ⟨v1, v2⟩ := eval_sound h.t hve
      obtain ⟨w', s1, s2⟩ := storeE_sound h hp hn
      have hr : (execOp a.eval o).run P w = .ok .skip w' := by
        simp only [execOp, he, p1, v1, SV.den, Instr.storeAt, Instr.sureAddr]
        rw [Sem.run_bind, Sem.run_bind]
        simp only [Sem.run, pure, Result.andThen]
        rw [s1]
      rw [hr, Oper.upon_skip]
      exact s2
    · simp at hx
  · rename_i t len cap he
    split at hx
    · rename_i kl l kc c hl hc
      simp only [Option.some.injEq] at hx; subst hx
      obtain ⟨l1, _⟩ := eval_sound h.t hl
      obtain ⟨c1, _⟩ := eval_sound h.t hc
      obtain ⟨v, w', m1, m2⟩ := make_sound (kl := kl) (kc := kc) h hp hn
      have hr : (execOp a.eval o).run P w = .ok (.value v) w' := by
        simp only [execOp, he, l1, c1, SV.den]
        rw [Sem.run_bind, m1]
        rfl
      rw [hr, Oper.upon_value]
      exact m2
    · simp at hx
  · rename_i t parts he
    split at hx
    · rename_i e hparts hu
      split at hx
      · rename_i inf zs hi hzs
        simp only [Option.some.injEq] at hx; subst hx
        obtain ⟨i', z, hi', hz, z1, z2, z3, z4⟩ := zeroCols_sound hzs
        rw [hi] at hi'; cases hi'
        have u1 : (underlying t).run P w = .ok (.slice e) w := by simp [underlying, program, Sem.run, hu, pure]
        have s1 : (sizeOf e).run P w = .ok inf.size w := by simp [sizeOf, typeInfo, program, hi, Sem.run, pure]
        have hp0 : parts = #[] := by apply Array.ext'; simpa using hparts
        have hr : (execOp a.eval o).run P w = .ok (.value (.slice (some ⟨w.heap.size, 0, none⟩) 0 0)) (w.alloc (.cells #[] e)) := by
          simp only [execOp, he, Instr.buildSlice]
          rw [Sem.run_bind, Sem.run_bind, u1]
          simp only [Result.andThen]
          rw [Sem.run_bind, s1]
          simp [hp0, Instr.fill, Result.andThen, Sem.run, pure, run_newRow]
          have : Array.range 0 = #[] := by apply Array.ext'; simp
          rw [this, Array.map_empty]
        rw [hr, Oper.upon_value]
        have := new_row h (w0 := w) rfl (Below.refl B w) (cells := #[]) (e := e) (cs := zs) (m := 0) (sz := inf.size) ⟨by simp, z2, by simp, by simp⟩ o.dst (.lit 0) (.lit 0) (.lit 0) (.lit 0) rfl hn hp
        simpa [lit_den] using this
      · simp at hx
    · simp at hx
  · rename_i c he
    split at hx
    · rename_i s x t t2 hcal hargs htys
      split at hx
      · rename_i s' x' hs hx'
        simp only [Option.some.injEq] at hx; subst hx
        obtain ⟨s1, s2⟩ := eval_sound h.t hs
        obtain ⟨x1, _⟩ := eval_sound h.t hx'
        obtain ⟨v, w', m1, m2⟩ := append_sound (ty := o.type) h s2 hp hn
        have e0 : c.args = #[s, x] := by apply Array.ext'; simpa using hargs
        have e1 : c.argTypes = #[t, t2] := by apply Array.ext'; simpa using htys
        have hr : (execOp a.eval o).run P w = .ok (.value v) w' := by
          simp [execOp, he, resolve, hcal, e0, e1, s1, x1, invoke, builtin, m1]
        rw [hr, Oper.upon_value]
        exact m2
      · simp at hx
    · simp at hx
  · simp at hx
end
end Go.Proofs.Ytiljkmcahkphiaa.Sx
