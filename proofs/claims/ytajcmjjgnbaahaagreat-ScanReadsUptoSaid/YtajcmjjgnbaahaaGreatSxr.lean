/- Symbolic execution is sound: what turns rows of open length. -/
import Derived.Test.YtajcmjjgnbaahaaGreatSx4
import Derived.ArgAppend
import Derived.MapKept
import Derived.WideKeyRuns
import Derived.Laws.IdiomStrings
set_option linter.unusedVariables false
set_option linter.unusedSimpArgs false
namespace Go.Proofs.YtajcmjjgnbaahaaGreat.Sx
open Go Go.RowKit
section
variable {P : Program} {Γ : FuncId -> Option Cal} {B : Nat -> Prop} {n : Nat -> Prop} {ν : Nat -> Pl} {σ : St} {a : Act} {w : World}
def zAC (B : Nat -> Prop) (ν : Nat -> Pl) (hp : List SObj) (w : World) (K : St -> Prop) (next : Act -> World -> Prop) : Prop :=
 ∀ ν' σ' a' w', (∀ o, Live hp o -> Live σ'.hp o) -> zb (Live hp) ν ν' -> Sat B ν' σ' a' w' -> ze B w w' -> K σ' -> next a' w'
theorem zAC.later {hp : List SObj} {K : St -> Prop} {next : Act -> World -> Prop} (h : zAC B ν hp w K next) {ν' : Nat -> Pl} {hp' : List SObj} {w' : World}
  (hl : ∀ o, Live hp o -> Live hp' o) (ha : zb (Live hp) ν ν') (hb : ze B w w') : zAC B ν' hp' w' K next :=
 fun ν'' σ'' a'' w'' hl' ha' hs hb' hk => h ν'' σ'' a'' w'' (fun o ho => hl' o (hl o ho)) (ha.trans ha' hl) hs (hb.trans hb') hk
theorem zAR (σ : St) (d : Option Nat) (v : SV) : (σ.put d v).hp = σ.hp := by cases d <;> rfl
theorem zHV (h : Sat B ν σ a w) {vs : List SV} (hv : SV.wfL (Live σ.hp) vs) (e : TypeId) (k : Option Nat) (d : Option Nat) (f : Nat -> SV) (g : Nat -> Value)
  (hf : ∀ (ν : Nat -> Pl) b, (f b).den ν = g (ν b).blk) (hw : ∀ (p : Nat -> Prop) b, p b -> (f b).wf p) {K : St -> Prop} {next : Act -> World -> Prop} (hn : zAC B ν σ.hp w K next)
  (hk : layK σ k (.cells vs e) d f K) : next (a.put d (g w.heap.size)) (w.alloc (.cells (SV.denL ν vs).toArray e)) := by
 have hb : ze B w (w.alloc (.cells (SV.denL ν vs).toArray e)) := (ze.refl B w).alloc h.base _
 have main : ∀ b hp', z6 B (bump ν b w.heap.size) hp' (w.alloc (.cells (SV.denL ν vs).toArray e)) -> (∀ o, Live σ.hp o -> Live hp' o) -> zb (Live σ.hp) ν (bump ν b w.heap.size) -> Live hp' b ->
   K (St.put { σ with hp := hp' } d (f b)) -> next (a.put d (g w.heap.size)) (w.alloc (.cells (SV.denL ν vs).toArray e)) := by
  intro b hp' hs hlv ha hl hk
  have h2 : Sat B _ { σ with hp := hp' } a (w.alloc (.cells (SV.denL ν vs).toArray e)) := zAL h hlv ha hs hb
  have h3 := z0 h2 d (v := f b) (hw _ _ hl)
  have := hn _ _ _ _ (by rw [zAR]; exact hlv) ha h3 hb hk
  rw [hf, zDN] at this
  exact this
 unfold layK at hk
 rw [zCu] at hk
 simp only [zA2] at hk
 split at hk
 ·obtain ⟨hs, hlv, ha⟩ := zT8 h.hp h.base hv e
  exact main _ _ hs hlv ha ⟨.cells vs e, by simp, rfl⟩ hk
 ·rename_i b
  split at hk
  ·rename_i hd
   have hlt : b < σ.hp.length := (List.getElem?_eq_some_iff.1 hd).1
   have hnl : ¬ Live σ.hp b := fun ⟨_, hx, e⟩ => by rw [hd] at hx; cases hx; cases e
   have hat : (zS σ.hp b (.cells vs e))[b]? = some (.cells vs e) := by rw [zP]; simp [hlt]
   obtain ⟨hs, hlv, ha⟩ := zYl h.hp h.base hv e hnl hat (fun o x hne hx => by
     rw [zP, List.getElem?_set_ne (by omega)] at hx; exact .inl hx) (fun o ho => by
     rw [zP, List.getElem?_set_ne (fun e => hnl (by rw [e]; exact ho))])
   exact main _ _ hs hlv ha ⟨_, hat, rfl⟩ hk
  ·exact nomatch hk
theorem zKr {hp : List SObj} {w' : World} (h : z6 B ν hp w) (hb : Below w.heap.size w w') : z6 B ν hp w' :=
 ⟨fun o x ho => (h.obj o x ho).mono (zBQ ho) (fun _ h => h) (zb.refl _ _) hb.size (fun _ _ hlt => hb.block _ hlt), h.apart⟩
theorem zO4 (e : TypeId) (cs : Array Value) : (newRow e cs).run P w = .ok ⟨w.heap.size, 0, none⟩ (w.alloc (.cells cs e)) := rfl
theorem zCi (k : Nat) : (NE.var k).den = k := rfl
theorem zCd {p : Option BE} {K : Prop} (h : askP p K) : zAJ p /\ K := by
 cases p with
 | none => exact ⟨trivial, h⟩
 | some p => exact h
def zGg (w : World) (b off k : Nat) : List Value := (List.range k).map fun t => (w.cell? ⟨b, off + t, none⟩).getD .nilFunc
theorem zI8 (w : World) (b off k : Nat) : (zGg w b off k).length = k := by simp [zGg]
theorem zIm {b off k t : Nat} {v : Value} (ht : t < k) (hv : w.cell? ⟨b, off + t, none⟩ = some v) : (zGg w b off k)[t]? = some v := by
 simp [zGg, List.getElem?_range ht, hv]
structure zGD (cols : List Col) (m sz : Nat) (l : List Value) : Prop where
 len : l.length = m * sz
 wide : cols.length = sz
 get : ∀ (e : Nat), e < m -> ∀ (j : Nat) (c : Col), cols[j]? = some c -> ∃ v, l[e * sz + j]? = some v /\ c.holds e v
 one : ∀ v ∈ l, v.oneCell' = true
theorem zE5 {e j m sz : Nat} (he : e < m) (hj : j < sz) : e * sz + j < m * sz := by
 have : (e + 1) * sz <= m * sz := Nat.mul_le_mul_right sz he
 rw [Nat.add_mul] at this; omega
theorem zF3 {cols : List Col} {m sz : Nat} {l : List Value} (hl : l.length = m * sz) (hc : cols.length = sz) (hg : ∀ e, e < m -> ∀ (j : Nat) (c : Col), cols[j]? = some c -> ∃ v, l[e * sz + j]? = some v /\ c.holds e v) : zGD cols m sz l := by
 refine ⟨hl, hc, hg, fun v hv => ?_⟩
 obtain ⟨i, hi⟩ := List.mem_iff_getElem?.1 hv
 have hlt : i < m * sz := by have := (List.getElem?_eq_some_iff.1 hi).1; omega
 have hz : 0 < sz := by
  rcases Nat.eq_zero_or_pos sz with h0 | h0
  ·subst h0; omega
  ·exact h0
 have h1 : i / sz < m := (Nat.div_lt_iff_lt_mul hz).2 hlt
 have h2 : i % sz < cols.length := by rw [hc]; exact Nat.mod_lt _ hz
 obtain ⟨u, hu, hh⟩ := hg (i / sz) h1 (i % sz) _ (List.getElem?_eq_getElem h2)
 rw [Nat.mul_comm, Nat.div_add_mod] at hu
 rw [hi] at hu
 cases hu
 exact hh.1
theorem zGJ {x : SV} {sz : Nat} {hp : List SObj} (hobj : ∀ o x, hp[o]? = some x -> zAN B ν n w o x) {inp : Bool} {o : Nat} {cols : List Col} {m st len cap : NE} (h : zHq hp sz x = some (inp, o, cols, m, st, len, cap)) (hle : st.den + len.den <= m.den) :
  ∃ l, zGD (cols.map fun c => c.shift st.den) len.den sz l /\ (Builtin.firstCells sz len.den (x.den ν)).run P w = .ok l.toArray w := by
 obtain ⟨d1, d2, d3, _, d4⟩ := zBc hobj h
 rw [d1]
 cases hb : (inp && (ν o).nil) with
 | true =>
  have h0 : len.den = 0 := by have := d3 hb; omega
  refine ⟨[], ⟨by simp [h0], by simp [d2], by simp [h0], by simp⟩, by simp [Builtin.firstCells, Sem.run, pure]⟩
 | false =>
  have hlen : (zGg w (ν o).blk ((ν o).base inp + st.den * sz) (len.den * sz)).length = len.den * sz := zI8 ..
  have hget : ∀ e, e < len.den -> ∀ (j : Nat) (c : Col), (cols.map fun c => c.shift st.den)[j]? = some c -> ∃ v, w.cell? ⟨(ν o).blk, (ν o).base inp + st.den * sz + (e * sz + j), none⟩ = some v /\ c.holds e v := by
   intro e he j c hj
   rw [List.getElem?_map, Option.map_eq_some_iff] at hj
   obtain ⟨c0, hc0, rfl⟩ := hj
   obtain ⟨v, v1, v2⟩ := d4 (st.den + e) (by omega) j c0 hc0
   refine ⟨v, ?_, ?_⟩
   ·rw [<- v1, Nat.add_mul]; simp [Nat.add_assoc]
   ·cases c0 <;> exact v2
  have hE : zGD (cols.map fun c => c.shift st.den) len.den sz (zGg w (ν o).blk ((ν o).base inp + st.den * sz) (len.den * sz)) := by
   refine zF3 hlen (by simp [d2]) fun e he j c hj => ?_
   obtain ⟨v, v1, v2⟩ := hget e he j c hj
   have hjs : j < sz := by
    have := (List.getElem?_eq_some_iff.1 hj).1
    simpa [d2] using this
   exact ⟨v, zIm (zE5 he hjs) v1, v2⟩
  refine ⟨_, hE, ?_⟩
  simp only [cond_false]
  refine run_firstCells_some (P := P) w sz len.den _ len.den cap.den _ hlen fun t v hv => ?_
  rw [zDz]
  have htl : t < len.den * sz := by have := (List.getElem?_eq_some_iff.1 hv).1; omega
  have hz : 0 < sz := by
   rcases Nat.eq_zero_or_pos sz with h0 | h0
   ·subst h0; omega
   ·exact h0
  have h1 : t / sz < len.den := (Nat.div_lt_iff_lt_mul hz).2 htl
  have h2 : t % sz < (cols.map fun c => c.shift st.den).length := by rw [List.length_map, d2]; exact Nat.mod_lt _ hz
  obtain ⟨u, u1, _⟩ := hget (t / sz) h1 (t % sz) _ (List.getElem?_eq_getElem h2)
  rw [show t / sz * sz + t % sz = t by rw [Nat.mul_comm (t / sz) sz]; exact Nat.div_add_mod t sz] at u1
  rw [zIm htl u1] at hv
  cases hv
  exact u1
theorem zDD {e : TypeId} {zs : List Col} (h : zFV P e = some zs) : ∃ i z, P.info? e = some i /\ i.zero = some z /\ z.cells.size = i.size /\ zs.length = i.size /\ 0 < i.size /\
  ∀ (j : Nat) (c : Col), zs[j]? = some c -> ∀ e', ∃ v, z.cells[j]? = some v /\ c.holds e' v := by
 unfold zFV at h
 split at h
 ·rename_i z i hz hi
  split at h
  ·rename_i hc
   obtain ⟨c1, c2, c3⟩ := hc
   simp only [Option.some.injEq] at h; subst h
   unfold zBA at hz
   rw [hi] at hz
   simp only at hz
   split at hz
   ·rename_i v hv
    obtain ⟨e1, e2⟩ := zCY nu0 (fun _ => False) hz
    have hcs : v.cells = (SV.denL nu0 z.cells).toArray := by rw [<- e1]; exact zAb _ _
    refine ⟨i, v, hi, hv, by rw [hcs]; simp [zJ, c1], by simp [c1], c3, ?_⟩
    intro j c hj e'
    rw [List.getElem?_map, Option.map_eq_some_iff] at hj
    obtain ⟨s, hs, rfl⟩ := hj
    have hone : s.one = true := List.all_eq_true.1 c2 s (List.mem_of_getElem? hs)
    refine ⟨s.den fun _ => ⟨0, 0, false⟩, by rw [hcs]; simp [zX, hs], zFI _ hone, ?_⟩
    cases s <;> simp [zPn, Col.den, SV.den]
   ·simp at hz
  ·simp at h
 ·simp at h
theorem zLK {hp : List SObj} (hobj : ∀ o x, hp[o]? = some x -> zAN B ν n w o x) {sz : Nat} {zs bs : List Col} {x : SV} {p : Option BE} {m : NE} (h : zU6 hp sz zs x = some (p, bs, m)) (hp' : zAJ p) (hzs : zs.length = sz) :
  ∃ l, zGD bs m.den sz l /\ (Builtin.firstCells sz m.den (x.den ν)).run P w = .ok l.toArray w /\ (∃ b c, x.den ν = .slice b m.den c) := by
 unfold zU6 at h
 split at h
 ·simp only [Option.some.injEq, Prod.mk.injEq] at h
  obtain ⟨rfl, rfl, rfl⟩ := h
  refine ⟨[], ⟨by simp [zAF], hzs, by simp [zAF], by simp⟩, by simp [Builtin.firstCells, SV.den, Sem.run, pure], none, 0, rfl⟩
 ·split at h
  ·rename_i inp o cols k st len cap hv
   simp only [Option.map_eq_some_iff, Prod.mk.injEq] at h
   obtain ⟨q, hq, rfl, rfl, rfl⟩ := h
   have hask := zAI hq hp'
   rw [zBs, zAa] at hask
   obtain ⟨l, l1, l2⟩ := zGJ (P := P) hobj hv (of_decide_eq_true hask)
   obtain ⟨d1, _⟩ := zBc hobj hv
   exact ⟨l, l1, l2, _, _, d1⟩
  ·simp at h
theorem zE8 {a b : Nat} (h : a < b) : Nat.blt a b = true := by rw [Nat.blt_eq]; exact h
theorem zB5 {a b : Nat} (h : ¬ a < b) : Nat.blt a b = false := by
 cases hx : Nat.blt a b with
 | false => rfl
 | true => rw [Nat.blt_eq] at hx; exact absurd hx h
theorem zIq {a b z c : Col} {la lb : Nat} (h : a.app la b lb z = some c) (e : Nat) (v : Value) :
  (e < la -> a.holds e v -> c.holds e v) /\ (¬ e < la -> e < la + lb -> b.holds (e - la) v -> c.holds e v) /\ (¬ e < la -> ¬ e < la + lb -> z.holds e v -> c.holds e v) := by
 cases a <;> cases b <;> cases z <;> simp only [Col.app] at h <;> try (simp at h; done)
 ·split at h
  ·rename_i hk
   obtain ⟨rfl, rfl⟩ := hk
   simp only [Option.some.injEq] at h; subst h
   refine ⟨fun h1 h2 => ?_, fun h1 h2 h3 => ?_, fun h1 h2 h3 => ?_⟩
   ·simpa [Col.holds, Col.den, zE8 h1] using h2
   ·simpa [Col.holds, Col.den, zB5 h1, zE8 h2] using h3
   ·simpa [Col.holds, Col.den, zB5 h1, zB5 h2] using h3
  ·simp at h
 all_goals
  simp only [Option.some.injEq] at h; subst h
  refine ⟨fun h1 h2 => ?_, fun h1 h2 h3 => ?_, fun h1 h2 h3 => ?_⟩
  ·simpa [Col.holds, Col.den, zE8 h1] using h2
  ·simpa [Col.holds, Col.den, zB5 h1, zE8 h2] using h3
  ·simpa [Col.holds, Col.den, zB5 h1, zB5 h2] using h3
theorem zIr {la lb : Nat} : ∀ {as bs zs cs : List Col}, zAk la lb as bs zs = some cs -> cs.length = as.length /\ ∀ (j : Nat) (c : Col), cs[j]? = some c -> ∃ a b z, as[j]? = some a /\ bs[j]? = some b /\ zs[j]? = some z /\ a.app la b lb z = some c
 | [], [], [], cs, h => by simp [zAk] at h; subst h; simp
 | a :: as, b :: bs, z :: zs, cs, h => by
  unfold zAk at h
  split at h
  ·rename_i c l hc hl
   simp only [Option.some.injEq] at h; subst h
   obtain ⟨h1, h2⟩ := zIr hl
   refine ⟨by simp [h1], fun j c' hj => ?_⟩
   cases j with
   | zero => simp at hj; subst hj; exact ⟨a, b, z, rfl, rfl, rfl, hc⟩
   | succ j => exact h2 j c' (by simpa using hj)
  ·simp at h
 | [], _ :: _, _, cs, h => by simp [zAk] at h
 | [], [], _ :: _, cs, h => by simp [zAk] at h
 | _ :: _, [], _, cs, h => by simp [zAk] at h
 | _ :: _, _ :: _, [], cs, h => by simp [zAk] at h
theorem zMM {la lb sz cap : Nat} {as bs zs cs : List Col} {la' lb' : List Value} {z : Value} (h : zAk la lb as bs zs = some cs) (ha : zGD as la sz la') (hb : zGD bs lb sz lb') (hz : z.cells.size = sz)
  (hzc : ∀ (j : Nat) (c : Col), zs[j]? = some c -> ∀ e', ∃ v, z.cells[j]? = some v /\ c.holds e' v) (hcap : la + lb <= cap) (hsz : 0 < sz) :
  zGD cs cap sz (la' ++ lb' ++ (Builtin.zeroCells z.cells (cap - (la + lb))).toList) := by
 obtain ⟨hlen, hget⟩ := zIr h
 have hzl : (Builtin.zeroCells z.cells (cap - (la + lb))).toList.length = (cap - (la + lb)) * sz := by simp [Builtin.zeroCells, hz]
 have hsum : la * sz + lb * sz + (cap - (la + lb)) * sz = cap * sz := by rw [<- Nat.add_mul, <- Nat.add_mul]; congr 1; omega
 refine zF3 (by simp only [List.length_append, ha.len, hb.len, hzl]; omega) (by rw [hlen, ha.wide]) fun e he j c hj => ?_
 obtain ⟨a, b, zc, h1, h2, h3, h4⟩ := hget j c hj
 have hjs : j < sz := by rw [<- ha.wide]; exact (List.getElem?_eq_some_iff.1 h1).1
 by_cases e1 : e < la
 ·obtain ⟨v, v1, v2⟩ := ha.get e e1 j a h1
  refine ⟨v, ?_, ?_⟩
  ·rw [List.append_assoc, List.getElem?_append_left (by rw [ha.len]; exact zE5 e1 hjs)]; exact v1
  ·exact (zIq h4 e v).1 e1 v2
 ·by_cases e2 : e < la + lb
  ·obtain ⟨v, v1, v2⟩ := hb.get (e - la) (by omega) j b h2
   have hidx : e * sz + j = la * sz + ((e - la) * sz + j) := by
    rw [<- Nat.add_assoc, <- Nat.add_mul]; congr 2; omega
   refine ⟨v, ?_, ?_⟩
   ·rw [List.append_assoc, hidx, List.getElem?_append_right (by rw [ha.len]; omega), ha.len, Nat.add_sub_cancel_left,
     List.getElem?_append_left (by rw [hb.len]; exact zE5 (by omega) hjs)]
    exact v1
   ·exact (zIq h4 e v).2.1 e1 e2 v2
  ·obtain ⟨v, v1, v2⟩ := hzc j zc h3 e
   have hidx : e * sz + j = (la * sz + lb * sz) + ((e - (la + lb)) * sz + j) := by
    rw [<- Nat.add_mul, <- Nat.add_assoc, <- Nat.add_mul]; congr 2; omega
   refine ⟨v, ?_, ?_⟩
   ·rw [hidx, List.getElem?_append_right (by simp only [List.length_append, ha.len, hb.len]; omega)]
    simp only [List.length_append, ha.len, hb.len, Nat.add_sub_cancel_left]
    have hlt : (e - (la + lb)) * sz + j < (cap - (la + lb)) * sz := zE5 (by omega) hjs
    have hmod : ((e - (la + lb)) * sz + j) % sz = j := by rw [Nat.mul_comm, Nat.mul_add_mod]; exact Nat.mod_eq_of_lt hjs
    simp only [Builtin.zeroCells, Array.toList_map, Array.toList_range, List.getElem?_map, hz, List.getElem?_range hlt, Option.map_some, hmod]
    simp [Array.getElem!_eq_getD, Array.getD_eq_getD_getElem?, v1]
   ·exact (zIq h4 e v).2.2 e1 e2 v2
theorem zAt (b : Nat) : ∀ (vs : List Value) (o : Nat) (w : World), (w.setCells b o vs).heap.size = w.heap.size
 | [], _, _ => rfl
 | v :: r, o, w => by rw [World.setCells, zAt b r]; simp
theorem zA0 (b : Nat) {k : Nat} (hk : k ≠ b) : ∀ (vs : List Value) (o : Nat) (w : World), (w.setCells b o vs).heap[k]? = w.heap[k]?
 | [], _, _ => rfl
 | v :: r, o, w => by
  rw [World.setCells, zA0 b hk r]
  exact Below.heap_setCell w _ v k hk
theorem zA1 {b : Nat} (hb : ¬ B b) : ∀ (vs : List Value) (o : Nat) (w : World), ze B w (w.setCells b o vs)
 | [], _, w => ze.refl B w
 | v :: r, o, w => by
  rw [World.setCells]
  exact ((ze.refl B w).setCell (p := ⟨b, o, none⟩) hb v).trans (zA1 hb r (o + 1) _)
theorem zQV {hp : List SObj} (h : z6 B ν hp w) {o : Nat} {inp : Bool} {cols cs : List Col} {m : NE} (ho : hp[o]? = some (.row true inp cols m)) {w' : World} (hr : zw B (ν o) w' true inp cs m.den)
  (hs : w'.heap.size = w.heap.size) (hk : ∀ k, (k ≠ (ν o).blk ∨ (inp && (ν o).nil) = true) -> w'.heap[k]? = w.heap[k]?) :
  z6 B ν (zS hp o (.row true inp cs m)) w' /\ ∀ o', Live hp o' -> Live (zS hp o (.row true inp cs m)) o' := by
 have hlt : o < hp.length := (List.getElem?_eq_some_iff.1 ho).1
 have hl : ∀ o', Live hp o' ↔ Live (zS hp o (.row true inp cs m)) o' := by
  intro o'
  unfold Live
  rw [zP]
  by_cases he : o' = o
  ·subst he
   simp only [List.getElem?_set_self hlt]
   exact ⟨fun _ => ⟨_, rfl, rfl⟩, fun _ => ⟨_, ho, rfl⟩⟩
  ·rw [List.getElem?_set_ne (by omega)]
 have hown : ∀ o', zAc ν (zS hp o (.row true inp cs m)) o' -> zAc ν hp o' := by
  intro o' ⟨y, hy, e⟩
  rw [zP] at hy
  by_cases he : o' = o
  ·subst he
   simp only [List.getElem?_set_self hlt, Option.some.injEq] at hy
   subst hy
   exact ⟨_, ho, e⟩
  ·rw [List.getElem?_set_ne (by omega)] at hy; exact ⟨y, hy, e⟩
 refine ⟨⟨?_, fun o1 o2 h1 h2 e => h.apart o1 o2 (hown o1 h1) (hown o2 h2) e⟩, fun o' h' => (hl o').1 h'⟩
 intro o' x hx
 by_cases he : o' = o
 ·subst he
  rw [zP] at hx
  simp only [List.getElem?_set_self hlt, Option.some.injEq] at hx
  subst hx
  exact hr
 ·rw [zP, List.getElem?_set_ne (by omega)] at hx
  refine (h.obj o' x hx).mono (zBQ hx) (fun o h => (hl o).1 h) (zb.refl _ _) (by omega) (fun hlo' hor _ => ?_)
  refine hk _ ?_
  cases hn : (inp && (ν o).nil) with
  | true => exact .inr rfl
  | false =>
   left
   intro e
   rcases hor with h1 | h1
   ·exact he (h.apart o' o ⟨x, hx, h1⟩ ⟨_, ho, by simp [SObj.owns, hn]⟩ e)
   ·have hB' := (zw.lo (h.obj o _ ho) hn rfl).1
    exact hB' (e ▸ h1)
theorem zGt {lo m : Nat} : ∀ {as bs cs : List Col}, zB8 lo m as bs = some cs -> cs.length = as.length /\ ∀ (j : Nat) (c : Col), cs[j]? = some c -> ∃ a b, as[j]? = some a /\ bs[j]? = some b /\ a.over lo b m = some c
 | [], [], cs, h => by simp [zB8] at h; subst h; simp
 | a :: as, b :: bs, cs, h => by
  unfold zB8 at h
  split at h
  ·rename_i c l hc hl
   simp only [Option.some.injEq] at h; subst h
   obtain ⟨h1, h2⟩ := zGt hl
   refine ⟨by simp [h1], fun j c' hj => ?_⟩
   cases j with
   | zero => simp at hj; subst hj; exact ⟨a, b, rfl, rfl, hc⟩
   | succ j => exact h2 j c' (by simpa using hj)
  ·simp at h
 | [], _ :: _, cs, h => by simp [zB8] at h
 | _ :: _, [], cs, h => by simp [zB8] at h
theorem zJX {a b c : Col} {lo m : Nat} (h : a.over lo b m = some c) (e : Nat) (v : Value) :
  (lo <= e -> e < lo + m -> b.holds (e - lo) v -> c.holds e v) /\ (¬ (lo <= e /\ e < lo + m) -> a.holds e v -> c.holds e v) := by
 have e1 : lo <= e -> e < lo + m -> (Nat.ble lo e && Nat.blt e (lo + m)) = true := fun h1 h2 => by
  rw [zE8 h2, Nat.ble_eq_true_of_le h1]; rfl
 have e2 : ¬ (lo <= e /\ e < lo + m) -> (Nat.ble lo e && Nat.blt e (lo + m)) = false := fun h1 => by
  by_cases h2 : e < lo + m
  ·have h3 : ¬ lo <= e := fun h => h1 ⟨h, h2⟩
   have : Nat.ble lo e = false := by
    cases hx : Nat.ble lo e with
    | false => rfl
    | true => exact absurd (Nat.le_of_ble_eq_true hx) h3
   simp [this]
  ·simp [zB5 h2]
 cases a <;> cases b <;> simp only [Col.over] at h <;> try (simp at h; done)
 ·split at h
  ·rename_i hk
   subst hk
   simp only [Option.some.injEq] at h; subst h
   refine ⟨fun h1 h2 h3 => ?_, fun h1 h2 => ?_⟩
   ·simpa [Col.holds, Col.den, e1 h1 h2] using h3
   ·simpa [Col.holds, Col.den, e2 h1] using h2
  ·simp at h
 all_goals
  simp only [Option.some.injEq] at h; subst h
  refine ⟨fun h1 h2 h3 => ?_, fun h1 h2 => ?_⟩
  ·simpa [Col.holds, Col.den, e1 h1 h2] using h3
  ·simpa [Col.holds, Col.den, e2 h1] using h2
theorem zNw {p : Pl} {inp : Bool} {cols bs cs : List Col} {m lo k sz : Nat} {news : List Value} (hr : zw B p w true inp cols m) (hsz : cols.length = sz) (hE : zGD bs k sz news) (hc : zB8 lo k cols bs = some cs) (hle : lo + k <= m) :
  (∀ j, j < news.length -> (w.cell? ⟨p.blk, p.base inp + lo * sz + j, none⟩).isSome = true) /\ (∀ j, j < news.length -> w.frozen? ⟨p.blk, p.base inp + lo * sz + j, none⟩ = false) /\
  zw B p (w.setCells p.blk (p.base inp + lo * sz) news) true inp cs m := by
 subst hsz
 obtain ⟨g1, g2⟩ := zGt hc
 have hidx : ∀ t, t < news.length -> 0 < cols.length /\ t / cols.length < k /\ t % cols.length < cols.length /\ p.base inp + lo * cols.length + t = p.base inp + ((lo + t / cols.length) * cols.length + t % cols.length) := by
  intro t ht
  rw [hE.len] at ht
  have hz : 0 < cols.length := by
   rcases Nat.eq_zero_or_pos cols.length with h0 | h0
   ·rw [h0] at ht; omega
   ·exact h0
  refine ⟨hz, (Nat.div_lt_iff_lt_mul hz).2 ht, Nat.mod_lt _ hz, ?_⟩
  rw [Nat.add_mul, Nat.add_assoc (lo * cols.length), show t / cols.length * cols.length + t % cols.length = t by rw [Nat.mul_comm (t / _)]; exact Nat.div_add_mod t _, Nat.add_assoc]
 have hsome : ∀ j, j < news.length -> (w.cell? ⟨p.blk, p.base inp + lo * cols.length + j, none⟩).isSome = true := by
  intro t ht
  obtain ⟨_, h1, h2, h3⟩ := hidx t ht
  obtain ⟨v, hv, _⟩ := hr.cell (lo + t / cols.length) (by omega) _ _ (List.getElem?_eq_getElem h2)
  rw [h3, hv]; rfl
 refine ⟨hsome, fun t ht => ?_, ⟨hr.empty, fun h1 h2 => ?_, hr.hi, ?_, ?_⟩⟩
 ·obtain ⟨_, h1, h2, h3⟩ := hidx t ht
  rw [h3]
  exact hr.thawed rfl _ (by omega) _ h2
 ·rw [zAt]; exact hr.lo h1 h2
 ·intro e he j c hj
  obtain ⟨a, b, ha, hb, hov⟩ := g2 j c hj
  have hjs : j < cols.length := (List.getElem?_eq_some_iff.1 ha).1
  rw [g1]
  by_cases hin : lo <= e /\ e < lo + k
  ·obtain ⟨v, v1, v2⟩ := hE.get (e - lo) (by omega) j b hb
   have hlt : (e - lo) * cols.length + j < news.length := by rw [hE.len]; exact zE5 (by omega) hjs
   have e3 : p.base inp + (e * cols.length + j) = p.base inp + lo * cols.length + ((e - lo) * cols.length + j) := by
    have e4 : e * cols.length = lo * cols.length + (e - lo) * cols.length := by rw [<- Nat.add_mul]; congr 1; omega
    omega
   refine ⟨v, ?_, (zJX hov e v).1 hin.1 hin.2 v2⟩
   rw [e3, World.cell?_setCells_in _ _ _ _ hsome _ hlt]
   rw [List.getElem?_eq_getElem hlt] at v1
   exact v1
  ·obtain ⟨v, v1, v2⟩ := hr.cell e he j a ha
   refine ⟨v, ?_, (zJX hov e v).2 hin v2⟩
   rw [World.cell?_setCells_out _ _ _ _ _ (fun _ _ => ?_)]
   ·exact v1
   ·simp only [hE.len]
    by_cases h1 : e < lo
    ·left
     have := zE5 h1 hjs
     omega
    ·right
     have h2 : lo + k <= e := by omega
     have := Nat.mul_le_mul_right cols.length h2
     rw [Nat.add_mul] at this
     omega
 ·intro _ e he j hj
  rw [World.frozen?_setCells, g1]
  exact hr.thawed rfl e he j (by rw [<- g1]; exact hj)
theorem zGT {c c' : Col} {i : Nat} {s : SV} (h : SV.put1 c i s = some c') (e : Nat) (v : Value) :
  (e ≠ i -> c.holds e v -> c'.holds e v) /\ (∀ ν : Nat -> Pl, c'.holds i (s.den ν)) := by
 have e1 : e ≠ i -> Nat.beq e i = false := fun h1 => by
  cases hx : Nat.beq e i with
  | false => rfl
  | true => exact absurd (Nat.eq_of_beq_eq_true hx) h1
 have e2 : Nat.beq i i = true := Nat.beq_refl i
 unfold SV.put1 at h
 split at h
 ·split at h
  ·rename_i hk
   subst hk
   simp only [Option.some.injEq] at h; subst h
   exact ⟨fun h1 h2 => by simpa [Col.holds, Col.den, e1 h1] using h2, fun ν => by simp [Col.holds, Col.den, e2, SV.den, Value.oneCell']⟩
  ·simp at h
 ·simp only [Option.some.injEq] at h; subst h
  exact ⟨fun h1 h2 => by simpa [Col.holds, Col.den, e1 h1] using h2, fun ν => by simp [Col.holds, Col.den, e2, SV.den, Value.oneCell']⟩
 ·simp only [Option.some.injEq] at h; subst h
  exact ⟨fun h1 h2 => by simpa [Col.holds, Col.den, e1 h1] using h2, fun ν => by simp [Col.holds, Col.den, e2, SV.den, Value.oneCell']⟩
 ·simp only [Option.some.injEq] at h; subst h
  exact ⟨fun h1 h2 => by simpa [Col.holds, Col.den, e1 h1] using h2, fun ν => by simp [Col.holds, Col.den, e2, SV.den, Value.oneCell']⟩
 ·simp at h
theorem zFG {i : Nat} : ∀ {vs : List SV} {cols : List Col} {c : Nat} {cs : List Col}, zGS i cols c vs = some cs -> cs.length = cols.length /\ (vs = [] ∨ c + vs.length <= cols.length) /\ (∀ v ∈ vs, ∀ ν : Nat -> Pl, (v.den ν).oneCell' = true) /\
  ∀ (j : Nat) (c' : Col), cs[j]? = some c' -> ∃ c0, cols[j]? = some c0 /\ (∀ e v, e ≠ i -> c0.holds e v -> c'.holds e v) /\ (∀ (t : Nat) (s : SV), j = c + t -> vs[t]? = some s -> ∀ ν : Nat -> Pl, c'.holds i (s.den ν)) /\
   ((j < c ∨ c + vs.length <= j) -> ∀ v, c0.holds i v -> c'.holds i v)
 | [], cols, c, cs, h => by
  simp [zGS] at h; subst h
  exact ⟨rfl, .inl rfl, by simp, fun j c' hj => ⟨c', hj, fun _ _ _ h => h, by simp, fun _ _ h => h⟩⟩
 | v :: r, cols, c, cs, h => by
  unfold zGS at h
  split at h
  ·rename_i col hcol
   split at h
   ·rename_i col' hp
    obtain ⟨h1, h2, h3, h4⟩ := zFG h
    rw [zt] at h1 h2
    have hlt : c < cols.length := (List.getElem?_eq_some_iff.1 hcol).1
    refine ⟨h1, .inr ?_, ?_, ?_⟩
    ·rcases h2 with h2 | h2
     ·subst h2; simp; omega
     ·simp; omega
    ·intro u hu ν
     rcases List.mem_cons.1 hu with rfl | hu
     ·exact ((zGT hp i .nilFunc).2 ν).1
     ·exact h3 u hu ν
    ·intro j c' hj
     obtain ⟨c0, g1, g2, g3, g4⟩ := h4 j c' hj
     rw [zP] at g1
     by_cases hjc : j = c
     ·subst hjc
      rw [List.getElem?_set_self hlt] at g1
      cases g1
      refine ⟨col, hcol, fun e v he hh => g2 e v he ((zGT hp e v).1 he hh), fun t s ht hs ν => ?_, fun hor => ?_⟩
      ·have : t = 0 := by omega
       subst this
       simp at hs; subst hs
       exact g4 (.inl (by omega)) _ ((zGT hp i .nilFunc).2 ν)
      ·simp at hor; omega
     ·rw [List.getElem?_set_ne (by omega)] at g1
      refine ⟨c0, g1, g2, fun t s ht hs ν => ?_, fun hor v hv => ?_⟩
      ·cases t with
       | zero => omega
       | succ t => exact g3 t s (by omega) (by simpa using hs) ν
      ·refine g4 ?_ v hv
       simp at hor
       omega
   ·simp at h
  ·simp at h
theorem zVb {p : Pl} {inp : Bool} {cols cs : List Col} {m i c sz : Nat} {vs : List SV} (hr : zw B p w true inp cols m) (hsz : cols.length = sz) (hc : zGS i cols c vs = some cs) (hi : i < m) (ν : Nat -> Pl) :
  (∀ j, j < vs.length -> (w.cell? ⟨p.blk, p.base inp + (i * sz + c) + j, none⟩).isSome = true) /\ (∀ j, j < vs.length -> w.frozen? ⟨p.blk, p.base inp + (i * sz + c) + j, none⟩ = false) /\
  zw B p (w.setCells p.blk (p.base inp + (i * sz + c)) (SV.denL ν vs)) true inp cs m := by
 subst hsz
 obtain ⟨g1, g2, g3, g4⟩ := zFG hc
 have hb : ∀ t, t < vs.length -> c + t < cols.length := fun t ht => by
  rcases g2 with g2 | g2
  ·subst g2; simp at ht
  ·omega
 have hsome : ∀ j, j < vs.length -> (w.cell? ⟨p.blk, p.base inp + (i * cols.length + c) + j, none⟩).isSome = true := by
  intro t ht
  obtain ⟨v, hv, _⟩ := hr.cell i hi _ _ (List.getElem?_eq_getElem (hb t ht))
  rw [show p.base inp + (i * cols.length + c) + t = p.base inp + (i * cols.length + (c + t)) by omega, hv]; rfl
 refine ⟨hsome, fun t ht => ?_, ⟨hr.empty, fun h1 h2 => ?_, hr.hi, ?_, ?_⟩⟩
 ·rw [show p.base inp + (i * cols.length + c) + t = p.base inp + (i * cols.length + (c + t)) by omega]
  exact hr.thawed rfl i hi _ (hb t ht)
 ·rw [zAt]; exact hr.lo h1 h2
 ·intro e he j c' hj
  obtain ⟨c0, k1, k2, k3, k4⟩ := g4 j c' hj
  have hjs : j < cols.length := (List.getElem?_eq_some_iff.1 k1).1
  rw [g1]
  by_cases hin : e = i /\ c <= j /\ j < c + vs.length
  ·obtain ⟨rfl, h2, h3⟩ := hin
   have hlt : j - c < (SV.denL ν vs).length := by rw [zJ]; omega
   have hlt' : j - c < vs.length := by omega
   refine ⟨(vs[j - c]).den ν, ?_, k3 (j - c) _ (by omega) (List.getElem?_eq_getElem hlt') ν⟩
   rw [show p.base inp + (e * cols.length + j) = p.base inp + (e * cols.length + c) + (j - c) by omega,
    World.cell?_setCells_in _ _ _ _ (by rw [zJ]; exact hsome) _ hlt]
   simp [zX]
  ·obtain ⟨v, v1, v2⟩ := hr.cell e he j c0 k1
   refine ⟨v, ?_, ?_⟩
   ·rw [World.cell?_setCells_out _ _ _ _ _ (fun _ _ => ?_)]
    ·exact v1
    ·simp only [zJ]
     by_cases h1 : e = i
     ·subst h1
      by_cases h2 : c <= j
      ·right; have : ¬ j < c + vs.length := fun h => hin ⟨rfl, h2, h⟩; omega
      ·left; omega
     ·by_cases h0 : vs.length = 0
      ·by_cases h2 : e * cols.length + j < i * cols.length + c
       ·left; omega
       ·right; omega
      ·have hc0 := hb (vs.length - 1) (by omega)
       rcases Nat.lt_or_gt_of_ne h1 with h2 | h2
       ·left
        have := zE5 h2 hjs
        omega
       ·right
        have := zE5 h2 (show c + (vs.length - 1) < cols.length from hc0)
        omega
   ·by_cases h1 : e = i
    ·subst h1
     refine k4 ?_ v v2
     by_cases h2 : c <= j
     ·right; have : ¬ j < c + vs.length := fun h => hin ⟨rfl, h2, h⟩; omega
     ·left; omega
    ·exact k2 e v h1 v2
 ·intro _ e he j hj
  rw [World.frozen?_setCells, g1]
  exact hr.thawed rfl e he j (by rw [<- g1]; exact hj)
theorem zLI (h : Sat B ν σ a w) {d : Option Nat} {t : TypeId} {inp : Bool} {o sz : Nat} {i : NE} {c : Nat} {v : SV} {K : St -> Prop} (hx : zJ2 P σ d t inp o sz i c v K) {next : Act -> World -> Prop} (hn : zAC B ν σ.hp w K next) :
  ∃ w', (storeVar t ⟨(ν o).blk, (ν o).base inp + (i.den * sz + c), none⟩ (v.den ν)).run P w = .ok () w' /\ next (a.put d undef) w' := by
 unfold zJ2 at hx
 split at hx
 ·rename_i inp' cols m inf ho hi
  split at hx
  ·rename_i hc
   obtain ⟨rfl, hsz, hlen⟩ := hc
   split at hx
   ·rename_i p cs hp hcs
    obtain ⟨hp1, hk⟩ := zCd hx
    have hlt := zAI hp hp1
    rw [zBs, zAa, zAF] at hlt
    have hlt' : i.den < m.den := of_decide_eq_true hlt
    have hr : zw B (ν o) w true inp' cols m.den := h.hp.obj o _ ho
    have hnn : (inp' && (ν o).nil) = false := by
     cases hb : (inp' && (ν o).nil) with
     | false => rfl
     | true => have := hr.empty hb; omega
    obtain ⟨s1, s2, s3⟩ := zVb hr hsz hcs hlt' ν
    obtain ⟨_, _, g3, _⟩ := zFG hcs
    have hst := run_storeCells_cells (P := P) (ν o).blk ((ν o).base inp' + (i.den * sz + c)) (SV.denL ν v.cells) 0 w (by simpa [zJ] using s1) (by simpa [zJ] using s2)
     (fun x hx => by rw [zX] at hx; obtain ⟨s, hs, rfl⟩ := List.mem_map.1 hx; exact g3 s hs ν)
    simp only [Nat.add_zero] at hst
    obtain ⟨hs', hl'⟩ := zQV h.hp ho s3 (zAt _ _ _ _) (fun k hk => by
     rcases hk with hk | hk
     ·exact zA0 _ hk _ _ _
     ·rw [hnn] at hk; cases hk)
    have hbel : ze B w (w.setCells (ν o).blk ((ν o).base inp' + (i.den * sz + c)) (SV.denL ν v.cells)) := zA1 (hr.lo hnn rfl).1 _ _ _
    refine ⟨w.setCells (ν o).blk ((ν o).base inp' + (i.den * sz + c)) (SV.denL ν v.cells), ?_, ?_⟩
    ·unfold storeVar
     have e1 : (v.den ν).cells = (SV.denL ν v.cells).toArray := zAb ν v
     have e2 : (sizeOf t).run P w = .ok inf.size w := by simp [sizeOf, typeInfo, program, hi, Sem.run, pure]
     rw [Sem.run_bind, e2]
     simp only [Result.andThen, e1, List.size_toArray, zJ, hlen, ne_eq, not_true_eq_false, if_false]
     exact hst
    ·rw [zA2] at hk
     have h2 : Sat B ν { σ with hp := zS σ.hp o (.row true inp' cs m) } a _ := zAL h hl' (zb.refl _ _) hs' hbel
     have h3 := z0 h2 d (v := SV.undef) (by simp [SV.undef, SV.wf, SV.wfL])
     have := hn _ _ _ _ (by rw [zAR]; exact hl') (zb.refl _ _) h3 hbel hk
     simpa [SV.den, SV.undef, SV.denL, undef] using this
   ·exact nomatch hx
  ·exact nomatch hx
 ·exact nomatch hx
theorem zDW {hp : List SObj} (h : z6 B ν hp w) : ∀ o x, hp[o]? = some x -> zAN B ν (Live hp) w.drew o x :=
 fun o x hx => (h.obj o x hx).mono (zBQ hx) (fun _ h => h) (zb.refl _ _) (by simp) (fun _ _ _ => rfl)
theorem zCy (B : Nat -> Prop) (w : World) : ze B w w.drew := (ze.refl B w).drew
theorem zGo (t ty e : TypeId) (i : TypeInfo) (z : Value) (ht : P.underlying t = some (.slice e)) (hi : P.info? e = some i) (hz : i.zero = some z)
  (base b : Option Addr) (sLen sCap n c : Nat) (olds news : List Value) (hfo : (Builtin.firstCells i.size sLen (.slice base sLen sCap)).run P w.drew = .ok olds.toArray w.drew)
  (hf : (Builtin.firstCells i.size n (.slice b n c)).run P w.drew = .ok news.toArray w.drew)
  (hg : sCap < sLen + n) (h63 : ((sLen + n : Nat) : Int) <= 9223372036854775807) (hfit : Builtin.nextslicecap (sLen + n) sCap * i.bytes <= 281474976710656) :
  (Builtin.append_ #[t, t] ty #[.slice base sLen sCap, .slice b n c]).run P w =
   .ok (.slice (some ⟨w.heap.size, 0, none⟩) (sLen + n) (grownCap w (sLen + n) sCap e))
    (w.drew.alloc (.cells (olds ++ news ++ (Builtin.zeroCells z.cells (grownCap w (sLen + n) sCap e - (sLen + n))).toList).toArray e)) := by
 have hn : ¬ (sLen + n <= sCap) := by omega
 have h63' : ¬ (9223372036854775807 < ((sLen : Int) + (n : Int))) := by omega
 have h48' : ¬ (281474976710656 < Builtin.nextslicecap (sLen + n) sCap * i.bytes) := by omega
 simp [Builtin.append_, run_underlying ht, sizeOf, typeInfo, zeroValue, hi, hz, Builtin.lenOf, hn, h63', h48', Question.forced, hf, hfo, newRow, grownCap]
 congr 2
 apply Array.ext'
 simp [List.append_assoc]
theorem zGn (t ty e : TypeId) (i : TypeInfo) (ht : P.underlying t = some (.slice e)) (hi : P.info? e = some i)
  (blk off : Nat) (b : Option Addr) (sLen sCap n c : Nat) (news : List Value) (hf : (Builtin.firstCells i.size n (.slice b n c)).run P w = .ok news.toArray w) {w' : World}
  (hroom : sLen + n <= sCap) (hst : (storeCells ⟨blk, off + sLen * i.size, none⟩ news).run P w = .ok () w') :
  (Builtin.append_ #[t, t] ty #[.slice (some ⟨blk, off, none⟩) sLen sCap, .slice b n c]).run P w = .ok (.slice (some ⟨blk, off, none⟩) (sLen + n) sCap) w' := by
 simp [Builtin.append_, run_underlying ht, sizeOf, typeInfo, hi, Builtin.lenOf, hroom, hf, Addr.add_lit, hst]
theorem zC6 (t ty e : TypeId) (i : TypeInfo) (ht : P.underlying t = some (.slice e)) (hi : P.info? e = some i)
  (b : Option Addr) (sLen sCap n c : Nat) (news : List Value) (hf : (Builtin.firstCells i.size n (.slice b n c)).run P w = .ok news.toArray w)
  (hroom : sLen + n <= sCap) :
  (Builtin.append_ #[t, t] ty #[.slice none sLen sCap, .slice b n c]).run P w = .ok (.slice none (sLen + n) sCap) w := by
 simp [Builtin.append_, run_underlying ht, sizeOf, typeInfo, hi, Builtin.lenOf, hroom, hf]
theorem zHj {p : BE} {A C : Prop} (h : zGK p A C) : (p.den = true -> A) /\ (p.den = false -> C) := by
 unfold zGK at h
 split at h
 ·exact ⟨fun _ => h, fun hc => (by cases hc)⟩
 ·exact ⟨fun hc => (by cases hc), fun _ => h⟩
 ·exact h
theorem zIH (h : Sat B ν σ a w) {cs : List Col} {m sz : Nat} {cells : Array Value} {e : TypeId} {w0 : World} (h0 : w0.heap = w.heap) (hb0 : ze B w w0) (hE : zGD cs m sz cells.toList) (d : Option Nat) (st len cap : NE) (mm : NE) (hm : mm.den = m)
  {K : St -> Prop} {next : Act -> World -> Prop} (hn : zAC B ν σ.hp w K next) (inp : Bool) {fz : Nat × Nat} (hfz : ∀ i, i < m * sz -> (w0.alloc (.cells cells e fz)).frozen? ⟨w.heap.size, i, none⟩ = false)
  (hk : putH σ (σ.hp ++ [.row true inp cs mm]) d (.sliceE inp σ.hp.length sz st len cap) K) :
  next (a.put d (.slice (some ⟨w.heap.size, st.den * sz, none⟩) len.den cap.den)) (w0.alloc (.cells cells e fz)) := by
 rw [zA2] at hk
 have hsz0 : w0.heap.size = w.heap.size := by rw [h0]
 have hbase : Pl.base ⟨w.heap.size, 0, false⟩ inp = 0 := by cases inp <;> rfl
 have hrow : zw B ⟨w.heap.size, 0, false⟩ (w0.alloc (.cells cells e fz)) true inp cs mm.den := by
  have hc : ∀ i v, cells[i]? = some v -> (w0.alloc (.cells cells e fz)).cell? ⟨w.heap.size, i, none⟩ = some v := fun i v hv => by
   have hat : (w0.alloc (.cells cells e fz)).heap[w0.heap.size]? = some (.cells cells e fz) := by
    exact heap_alloc_new _ _
   rw [<- hsz0]
   unfold World.cell?
   simp only [hat]
   simp [hv]
  refine ⟨by simp, fun _ _ => ⟨h.base.top, by simp [hsz0]⟩, fun _ hx => (by cases hx), ?_, ?_⟩
  ·intro e' he j c hj
   rw [hm] at he
   obtain ⟨v, v1, v2⟩ := hE.get e' he j c hj
   refine ⟨v, ?_, v2⟩
   rw [hbase, Nat.zero_add, hE.wide]
   exact hc _ _ (by rw [<- Array.getElem?_toList]; exact v1)
  ·intro _ e' he j hj
   rw [hbase, Nat.zero_add]
   rw [hm] at he
   refine hfz _ ?_
   rw [hE.wide] at *
   exact zE5 he hj
 obtain ⟨hs, hl, ha⟩ := zIt (x := .row true inp cs mm) (obj := .cells cells e fz) h.hp h.base h0 (fun _ _ => by
  show zw B (bump ν σ.hp.length w.heap.size σ.hp.length) _ true inp cs mm.den
  rw [zDN]; exact hrow)
 have hbel : ze B w (w0.alloc (.cells cells e fz)) := hb0.alloc (h.base.mono (by omega)) _
 have h2 : Sat B _ { σ with hp := σ.hp ++ [.row true inp cs mm] } a _ := zAL h hl ha hs hbel
 have hlv : Live (σ.hp ++ [.row true inp cs mm]) σ.hp.length := ⟨.row true inp cs mm, by simp, rfl⟩
 have h3 := z0 h2 d (v := .sliceE inp σ.hp.length sz st len cap) hlv
 have := hn _ _ _ _ (by rw [zAR]; exact hl) ha h3 hbel hk
 cases inp <;> simpa [SV.den, zDN, Pl.base] using this
theorem zFa {w0 : World} {k : Nat} (hk : w0.heap.size = k) (cells : Array Value) (e : TypeId) (i : Nat) : (w0.alloc (.cells cells e)).frozen? ⟨k, i, none⟩ = false := by
 subst hk; simp
def zJu (as : List Col) : Unk where
 i := fun j e => match as[j]? with | some (.int _ g) => (g e).den | _ => 0
 b := fun j e => match as[j]? with | some (.bool g) => (g e).den | _ => false
 s := fun j e => match as[j]? with | some (.str g) => g e | _ => .empty
 v := fun j e => match as[j]? with | some (.val g) => g e | _ => .nilFunc
theorem zHi {U : Unk} : ∀ {zs : List Col} {j0 j : Nat} {c : Col}, (zCj U j0 zs)[j]? = some c -> ∃ z, zs[j]? = some z /\ c = zJD U (j0 + j) z
 | [], _, _, _, h => by simp [zCj] at h
 | z :: zs, j0, 0, c, h => by simp [zCj] at h; exact ⟨z, rfl, h.symm⟩
 | z :: zs, j0, j + 1, c, h => by
  obtain ⟨z', h1, h2⟩ := zHi (zs := zs) (j0 := j0 + 1) (j := j) (by simpa [zCj] using h)
  exact ⟨z', by simpa using h1, by rw [h2]; congr 1; omega⟩
theorem zPu {as : List Col} {j : Nat} {c : Col} (h : as[j]? = some c) (e : Nat) (v : Value) (hv : c.holds e v) : (zJD (zJu as) j c).holds e v := by
 refine ⟨hv.1, ?_⟩
 cases c <;> simp_all [zJD, zJu, Col.holds, Col.den, IE.den, BE.den]
theorem zT7 {as : List Col} {j : Nat} {a b z c : Col} {la lb : Nat} (ha : as[j]? = some a) (h : a.app la b lb (zJD (zJu as) j z) = some c) :
  ∃ c', a.over la b lb = some c' /\ ∀ e v, c'.holds e v -> c.holds e v := by
 have bl : ∀ e, e < la -> Nat.ble la e = false := fun e he => by
  cases hx : Nat.ble la e with
  | false => rfl
  | true => have := Nat.le_of_ble_eq_true hx; omega
 have bl2 : ∀ e, ¬ e < la -> Nat.ble la e = true := fun e he => Nat.ble_eq_true_of_le (by omega)
 cases a <;> cases b <;> cases z <;> simp only [zJD, Col.app] at h <;> try (simp at h; done)
 ·split at h
  ·rename_i hk
   obtain ⟨rfl, rfl⟩ := hk
   simp only [Option.some.injEq] at h; subst h
   refine ⟨_, by simp only [Col.over, if_true]; rfl, fun e v hv => ?_⟩
   by_cases e1 : e < la
   ·simpa [Col.holds, Col.den, zE8 e1, bl e e1] using hv
   ·by_cases e2 : e < la + lb
    ·simpa [Col.holds, Col.den, zB5 e1, zE8 e2, bl2 e e1] using hv
    ·simpa [Col.holds, Col.den, zB5 e1, zB5 e2, zJu, ha, IE.den] using hv
  ·simp at h
 all_goals
  simp only [Option.some.injEq] at h; subst h
  refine ⟨_, by simp only [Col.over]; rfl, fun e v hv => ?_⟩
  by_cases e1 : e < la
  ·simpa [Col.holds, Col.den, zE8 e1, bl e e1] using hv
  ·by_cases e2 : e < la + lb
   ·simpa [Col.holds, Col.den, zB5 e1, zE8 e2, bl2 e e1] using hv
   ·simpa [Col.holds, Col.den, zB5 e1, zB5 e2, zJu, ha, BE.den] using hv
theorem zG8 {as0 : List Col} {la lb : Nat} : ∀ {as bs zs cs : List Col} {j0 : Nat}, (∀ j a, as[j]? = some a -> as0[j0 + j]? = some a) -> zAk la lb as bs (zCj (zJu as0) j0 zs) = some cs ->
  ∃ cs', zB8 la lb as bs = some cs' /\ cs'.length = cs.length /\ ∀ (j : Nat) (c : Col), cs[j]? = some c -> ∃ c', cs'[j]? = some c' /\ ∀ e v, c'.holds e v -> c.holds e v
 | [], [], [], cs, j0, _, h => by simp [zAk, zCj] at h; subst h; exact ⟨[], rfl, rfl, by simp⟩
 | a :: as, b :: bs, z :: zs, cs, j0, hat, h => by
  simp only [zCj, zAk] at h
  split at h
  ·rename_i c l hc hl
   simp only [Option.some.injEq] at h; subst h
   obtain ⟨c', o1, o2⟩ := zT7 (hat 0 a rfl) hc
   obtain ⟨l', o3, o4, o5⟩ := zG8 (j0 := j0 + 1) (fun j a hj => by have := hat (j + 1) a (by simpa using hj); rwa [show j0 + 1 + j = j0 + (j + 1) by omega]) hl
   refine ⟨c' :: l', by simp [zB8, o1, o3], by simp [o4], fun j x hx => ?_⟩
   cases j with
   | zero => simp at hx; subst hx; exact ⟨c', rfl, o2⟩
   | succ j => exact o5 j x (by simpa using hx)
  ·simp at h
 | [], _ :: _, _, cs, _, _, h => by simp [zAk] at h
 | [], [], _ :: _, cs, _, _, h => by simp [zAk, zCj] at h
 | _ :: _, [], _, cs, _, _, h => by simp [zAk] at h
 | _ :: _, _ :: _, [], cs, _, _, h => by simp [zAk, zCj] at h
theorem zNk {p : Pl} {own inp : Bool} {cols cs : List Col} {m k : Nat} (hr : zw B p w own inp cols m) (hk : k <= m) (hl : cs.length = cols.length)
  (hc : ∀ (j : Nat) (c : Col), cs[j]? = some c -> ∃ c', cols[j]? = some c' /\ ∀ e v, c'.holds e v -> c.holds e v) : zw B p w own inp cs k := by
 refine ⟨fun h => by have := hr.empty h; omega, hr.lo, hr.hi, fun e he j c hj => ?_, fun ho e he j hj => ?_⟩
 ·obtain ⟨c', h1, h2⟩ := hc j c hj
  obtain ⟨v, v1, v2⟩ := hr.cell e (by omega) j c' h1
  exact ⟨v, by rw [hl]; exact v1, h2 e v v2⟩
 ·rw [hl]; exact hr.thawed ho e (by omega) j (by omega)
theorem zQp {hp : List SObj} (h : z6 B ν hp w) {o sz : Nat} {x : SObj} {inp : Bool} {cols : List Col} {m : NE} (ho : hp[o]? = some x) (hv : zAB sz x = some (inp, cols, m)) (hm : zII hp o = true) :
  zw B (ν o) w true inp cols m.den /\ x.owns (ν o) = !(inp && (ν o).nil) /\ x.alive = true := by
 unfold zII at hm
 rw [ho] at hm
 cases x with
 | dead => simp at hm
 | husk => simp at hm
 | map ks vs => simp at hm
 | grown sz vs => simp at hm
 | glob g vs => simp at hm
 | row own inp' cols' m' =>
  simp only [zAB] at hv
  split at hv
  ·simp only [Option.some.injEq, Prod.mk.injEq] at hv
   obtain ⟨rfl, rfl, rfl⟩ := hv
   cases own with
   | false => simp at hm
   | true =>
    have hr : zw B (ν o) w true inp' cols' m'.den := h.obj o _ ho
    exact ⟨hr, by simp [SObj.owns], rfl⟩
  ·simp at hv
 | cells vs ty =>
  obtain ⟨v1, v2, v3⟩ := zDO hv (h.obj o _ ho)
  obtain ⟨h1, h2, h3⟩ := h.obj o _ ho
  have hi : inp = false := by
   simp only [zAB] at hv
   split at hv
   ·simp at hv
   ·simp only [Option.some.injEq, Prod.mk.injEq] at hv; exact hv.1.symm
  subst hi
  refine ⟨⟨by simp, fun _ _ => ⟨h1, (Array.getElem?_eq_some_iff.1 h2).1⟩, fun _ hx => (by cases hx), ?_, ?_⟩, by simp [SObj.owns], rfl⟩
  ·rw [v1]; exact v3
  ·intro _ e he j hj
   simp [World.frozen?, h2]
theorem zN7 {hp : List SObj} (h : z6 B ν hp w) {o : Nat} {x : SObj} (ho : hp[o]? = some x) (hal : x.alive = true) {inp : Bool} {cs : List Col} {m : NE} {w' : World} (hr : zw B (ν o) w' true inp cs m.den)
  (hs : w'.heap.size = w.heap.size) (hk : ∀ k, (k ≠ (ν o).blk ∨ (inp && (ν o).nil) = true) -> w'.heap[k]? = w.heap[k]?) (hown : x.owns (ν o) = !(inp && (ν o).nil)) :
  z6 B (fun i => if i = hp.length then ν o else ν i) (zS hp o .husk ++ [.row true inp cs m]) w' /\ (∀ o', Live hp o' -> Live (zS hp o .husk ++ [.row true inp cs m]) o') /\
   zb (Live hp) ν (fun i => if i = hp.length then ν o else ν i) := by
 have hlt : o < hp.length := (List.getElem?_eq_some_iff.1 ho).1
 have hlen : (zS hp o .husk).length = hp.length := zt _ _ _
 have at_old : ∀ i, i < hp.length -> i ≠ o -> (zS hp o .husk ++ [.row true inp cs m])[i]? = hp[i]? := fun i hi hne => by
  rw [List.getElem?_append_left (by omega), zP, List.getElem?_set_ne (by omega)]
 have at_o : (zS hp o .husk ++ [.row true inp cs m])[o]? = some .husk := by
  rw [List.getElem?_append_left (by omega), zP, List.getElem?_set_self hlt]
 have at_new : (zS hp o .husk ++ [.row true inp cs m])[hp.length]? = some (.row true inp cs m) := by
  rw [List.getElem?_append_right (by omega), hlen]; simp
 have at_no : ∀ i, hp.length < i -> (zS hp o .husk ++ [.row true inp cs m])[i]? = none := fun i hi => by
  rw [List.getElem?_eq_none]; simp [hlen]; omega
 have hl : ∀ o', Live hp o' -> Live (zS hp o .husk ++ [.row true inp cs m]) o' := fun o' ⟨y, hy, e⟩ => by
  have hlt' : o' < hp.length := (List.getElem?_eq_some_iff.1 hy).1
  by_cases he : o' = o
  ·subst he; exact ⟨.husk, at_o, rfl⟩
  ·exact ⟨y, by rw [at_old o' hlt' he]; exact hy, e⟩
 have ha : zb (Live hp) ν (fun i => if i = hp.length then ν o else ν i) := fun o' ho' => by
  have := zEM ho'
  simp only [show ¬ o' = hp.length by omega, if_false]
 have hback : ∀ i, zAc (fun i => if i = hp.length then ν o else ν i) (zS hp o .husk ++ [.row true inp cs m]) i -> (i = hp.length /\ (inp && (ν o).nil) = false) ∨ (i < hp.length /\ i ≠ o /\ zAc ν hp i) := by
  rintro i ⟨y, hy, e⟩
  rcases Nat.lt_trichotomy i hp.length with hi | hi | hi
  ·by_cases he : i = o
   ·subst he; rw [at_o] at hy; cases hy; simp [SObj.owns] at e
   ·rw [at_old i hi he] at hy
    simp only [show ¬ i = hp.length by omega, if_false] at e
    exact .inr ⟨hi, he, y, hy, e⟩
  ·subst hi
   rw [at_new] at hy; cases hy
   simp [SObj.owns] at e
   refine .inl ⟨rfl, ?_⟩
   cases hi2 : inp <;> cases hn2 : (ν o).nil <;> simp_all
  ·rw [at_no i hi] at hy; cases hy
 have oo : (inp && (ν o).nil) = false -> zAc ν hp o := fun hn => ⟨x, ho, by rw [hown, hn]; rfl⟩
 refine ⟨⟨?_, ?_⟩, hl, ha⟩
 ·intro i y hy
  rcases Nat.lt_trichotomy i hp.length with hi | hi | hi
  ·by_cases he : i = o
   ·subst he; rw [at_o] at hy; cases hy; trivial
   ·rw [at_old i hi he] at hy
    refine (h.obj i y hy).mono (zBQ hy) hl ha (by omega) (fun hlo' hor _ => ?_)
    refine hk _ ?_
    cases hn : (inp && (ν o).nil) with
    | true => exact .inr rfl
    | false =>
     left
     intro e
     rcases hor with h1 | h1
     ·exact he (h.apart i o ⟨y, hy, h1⟩ (oo hn) e)
     ·have hB' := (zw.lo hr hn rfl).1
      exact hB' (e ▸ h1)
  ·subst hi
   rw [at_new] at hy; cases hy
   show zw B (if hp.length = hp.length then ν o else ν hp.length) w' true inp cs m.den
   rw [if_pos rfl]; exact hr
  ·rw [at_no i hi] at hy; cases hy
 ·intro o1 o2 h1 h2 e
  rcases hback o1 h1 with ⟨c1, n1⟩ | ⟨c1, d1, w1⟩ <;> rcases hback o2 h2 with ⟨c2, n2⟩ | ⟨c2, d2, w2⟩
  ·omega
  ·simp only [c1, if_true, show ¬ o2 = hp.length by omega, if_false] at e
   exact absurd (h.apart o o2 (oo n1) w2 e) (Ne.symm d2)
  ·simp only [c2, if_true, show ¬ o1 = hp.length by omega, if_false] at e
   exact absurd (h.apart o1 o w1 (oo n2) e) d1
  ·simp only [show ¬ o1 = hp.length by omega, show ¬ o2 = hp.length by omega, if_false] at e
   exact h.apart o1 o2 w1 w2 e
theorem zKq {hp0 : List SObj} (h : z6 B ν hp0 w) {o : Nat} {x : SObj} (ho : hp0[o]? = some x) : z6 B ν (zS hp0 o .husk) w /\ ∀ o', Live hp0 o' -> Live (zS hp0 o .husk) o' := by
 have hlt : o < hp0.length := (List.getElem?_eq_some_iff.1 ho).1
 have hl : ∀ o', Live hp0 o' -> Live (zS hp0 o .husk) o' := fun o' ⟨y, hy, e⟩ => by
  by_cases he : o' = o
  ·subst he; exact ⟨.husk, by rw [zP, List.getElem?_set_self hlt], rfl⟩
  ·exact ⟨y, by rw [zP, List.getElem?_set_ne (by omega)]; exact hy, e⟩
 have hown : ∀ o', zAc ν (zS hp0 o .husk) o' -> zAc ν hp0 o' := fun o' ⟨y, hy, e⟩ => by
  rw [zP] at hy
  by_cases he : o' = o
  ·subst he; rw [List.getElem?_set_self hlt] at hy; cases hy; simp [SObj.owns] at e
  ·rw [List.getElem?_set_ne (by omega)] at hy; exact ⟨y, hy, e⟩
 refine ⟨⟨fun o' y hy => ?_, fun o1 o2 h1 h2 e => h.apart o1 o2 (hown o1 h1) (hown o2 h2) e⟩, hl⟩
 rw [zP] at hy
 by_cases he : o' = o
 ·subst he; rw [List.getElem?_set_self hlt] at hy; cases hy; trivial
 ·rw [List.getElem?_set_ne (by omega)] at hy
  exact (h.obj o' y hy).mono (zBQ hy) hl (zb.refl _ _) (Nat.le_refl _) (fun _ _ _ => rfl)
theorem zMC {cols : List Col} {m sz : Nat} {l : List Value} (h : zGD (cols.map fun c => c.shift 0) m sz l) : zGD cols m sz l := by
 refine ⟨h.len, by simpa using h.wide, fun e he j c hj => ?_, h.one⟩
 obtain ⟨v, v1, v2⟩ := h.get e he j (c.shift 0) (by simp [hj])
 refine ⟨v, v1, ?_⟩
 cases c <;> simpa [Col.shift, Col.holds, Col.den] using v2
theorem zKi {hp : List SObj} {o : Nat} {st len m cap k : NE} {q : Option BE} (h : zHT hp o st len m cap k = some q) : zII hp o = true /\ st = .lit 0 /\ askB (leNE cap k) = some q := by
 unfold zHT at h
 split at h
 ·rename_i h1 _
  exact ⟨h1, rfl, h⟩
 ·simp at h
theorem zVx {hp : List SObj} (h : z6 B ν hp w) (cs : List Col) : z6 B (fun i => if i = hp.length then ⟨0, 0, true⟩ else ν i) (hp ++ [.row true true cs (.var 0)]) w /\
  (∀ o', Live hp o' -> Live (hp ++ [.row true true cs (.var 0)]) o') /\ zb (Live hp) ν (fun i => if i = hp.length then ⟨0, 0, true⟩ else ν i) := by
 have hl : ∀ o', Live hp o' -> Live (hp ++ [.row true true cs (.var 0)]) o' := fun o' ⟨y, hy, e⟩ => ⟨y, by rw [List.getElem?_append_left (List.getElem?_eq_some_iff.1 hy).1]; exact hy, e⟩
 have ha : zb (Live hp) ν (fun i => if i = hp.length then ⟨0, 0, true⟩ else ν i) := fun o' ho' => by
  have := zEM ho'
  simp only [show ¬ o' = hp.length by omega, if_false]
 have cs_ : ∀ i y, (hp ++ [.row true true cs (.var 0)])[i]? = some y -> (i < hp.length /\ hp[i]? = some y) ∨ (i = hp.length /\ y = .row true true cs (.var 0)) := fun i y hy => by
  rw [List.getElem?_append] at hy
  split at hy
  ·rename_i hi; exact .inl ⟨hi, hy⟩
  ·rename_i hi
   have h0 : i - hp.length < 1 := by simpa using (List.getElem?_eq_some_iff.1 hy).1
   have h1 : i - hp.length = 0 := by omega
   rw [h1] at hy
   simp at hy
   exact .inr ⟨by omega, hy.symm⟩
 have hback : ∀ i, zAc (fun i => if i = hp.length then ⟨0, 0, true⟩ else ν i) (hp ++ [.row true true cs (.var 0)]) i -> i < hp.length /\ zAc ν hp i := by
  rintro i ⟨y, hy, e⟩
  rcases cs_ i y hy with ⟨h1, h2⟩ | ⟨h1, rfl⟩
  ·simp only [show ¬ i = hp.length by omega, if_false] at e
   exact ⟨h1, y, h2, e⟩
  ·simp [h1, SObj.owns] at e
 refine ⟨⟨?_, ?_⟩, hl, ha⟩
 ·intro i y hy
  rcases cs_ i y hy with ⟨h1, h2⟩ | ⟨h1, rfl⟩
  ·exact (h.obj i y h2).mono (zBQ h2) hl ha (Nat.le_refl _) (fun _ _ _ => rfl)
  ·show zw B (if i = hp.length then ⟨0, 0, true⟩ else ν i) w true true cs 0
   rw [if_pos h1]
   exact ⟨fun _ => rfl, fun h => (by simp at h), fun h => (by simp at h), fun e he => absurd he (by omega), fun _ e he => absurd he (by omega)⟩
 ·intro o1 o2 h1 h2 e
  obtain ⟨c1, w1⟩ := hback o1 h1
  obtain ⟨c2, w2⟩ := hback o2 h2
  simp only [show ¬ o1 = hp.length by omega, show ¬ o2 = hp.length by omega, if_false] at e
  exact h.apart o1 o2 w1 w2 e
set_option maxHeartbeats 1600000 in
theorem zML (h : Sat B ν σ a w) {d : Option Nat} {t t2 ty : TypeId} {s x : SV} (hsw : s.wf (Live σ.hp)) {K : St -> Prop} (hx : zKD P t t2 σ d s x K) {next : Act -> World -> Prop} (hn : zAC B ν σ.hp w K next) :
  ∃ v w', (Builtin.append_ #[t, t2] ty #[s.den ν, x.den ν]).run P w = .ok v w' /\ next (a.put d v) w' := by
 unfold zKD at hx
 split at hx
 ·rename_i e hu
  split at hx
  ·rename_i inf zs hi hzs
   obtain ⟨i', z, hi', hz, z1, z2, z3, z4⟩ := zDD hzs
   rw [hi] at hi'; cases hi'
   split at hx
   ·rename_i ht2
    obtain ⟨ht2, hb0⟩ := ht2
    subst ht2
    split at hx
    ·rename_i p bs m hsrc
     obtain ⟨hp, hk⟩ := zCd hx
     obtain ⟨news, n1, n2, b, c, n3⟩ := zLK (P := P) h.hp.obj hsrc hp z2
     obtain ⟨news', n1', n2', _⟩ := zLK (P := P) (zDW h.hp) hsrc hp z2
     rw [n3] at n2 n2' ⊢
     have grow : ∀ (base : Option Addr) (sLen sCap : Nat) (olds : List Value) (as : List Col) (need : NE), zGD as sLen inf.size olds -> (Builtin.firstCells inf.size sLen (.slice base sLen sCap)).run P w.drew = .ok olds.toArray w.drew ->
       sCap < sLen + m.den -> need.den = sLen + m.den -> zRj σ d inf.size inf.bytes (zAk sLen m.den as bs zs) need K ->
       ∃ v w', (Builtin.append_ #[t2, t2] ty #[.slice base sLen sCap, .slice b m.den c]).run P w = .ok v w' /\ next (a.put d v) w' := by
      intro base sLen sCap olds as need hE hfo hg hneed hgk
      unfold zRj at hgk
      split at hgk
      ·rename_i cs hcs
       obtain ⟨hby, hgk⟩ := hgk
       rw [hneed] at hby hgk
       have h63 : sLen + m.den <= 9223372036854775807 := by
        have := Nat.le_mul_of_pos_right (sLen + m.den) hb0
        omega
       have hfit : Builtin.nextslicecap (sLen + m.den) sCap * inf.bytes <= 281474976710656 := growslice_fits hg hby
       have hr := zGo (P := P) (w := w) t2 ty e inf z hu hi hz base b sLen sCap m.den c olds news' hfo n2' hg (by omega) hfit
       have hge := grownCap_ge w (sLen + m.den) sCap e
       have hle : grownCap w (sLen + m.den) sCap e <= 9223372036854775807 := by
        have := grownCap_le_maxLen w (sLen + m.den) sCap e (by simp only [maxLen]; omega)
        simpa [maxLen] using this
       refine ⟨_, _, hr, ?_⟩
       have hE' := zMM hcs hE n1' z1 z4 hge z3
       have := zIH h (w0 := w.drew) rfl (zCy B w) (cells := (olds ++ news' ++ (Builtin.zeroCells z.cells (grownCap w (sLen + m.den) sCap e - (sLen + m.den))).toList).toArray) (e := e) (by simpa [zCi] using hE') d (.lit 0) need (.var (grownCap w (sLen + m.den) sCap e)) (.var (grownCap w (sLen + m.den) sCap e)) rfl hn false (fun _ _ => zFa rfl _ _ _) (hgk _ hge hle)
       simpa [zAF, zCi, hneed] using this
      ·exact nomatch hgk
     have mgrow : ∀ (hp1 : List SObj) (inp : Bool) (base : Option Addr) (sLen sCap : Nat) (olds : List Value) (as : List Col) (len need : NE), z6 B ν hp1 w -> (∀ o, Live σ.hp o -> Live hp1 o) -> len.den = sLen -> zGD as sLen inf.size olds ->
       (Builtin.firstCells inf.size sLen (.slice base sLen sCap)).run P w.drew = .ok olds.toArray w.drew ->
       sCap < sLen + m.den -> need.den = sLen + m.den -> zQ9 σ d inf.size inf.bytes inp hp1 as bs zs len m need K ->
       ∃ v w', (Builtin.append_ #[t2, t2] ty #[.slice base sLen sCap, .slice b m.den c]).run P w = .ok v w' /\ next (a.put d v) w' := by
      intro hp1 inp base sLen sCap olds as len need hs1 hl1 hlen hE hfo hg hneed hgk
      obtain ⟨hby, hgk⟩ := hgk
      rw [hneed] at hby hgk
      have h63 : sLen + m.den <= 9223372036854775807 := by
       have := Nat.le_mul_of_pos_right (sLen + m.den) hb0
       omega
      have hfit : Builtin.nextslicecap (sLen + m.den) sCap * inf.bytes <= 281474976710656 := growslice_fits hg hby
      have hr := zGo (P := P) (w := w) t2 ty e inf z hu hi hz base b sLen sCap m.den c olds news' hfo n2' hg (by omega) hfit
      have hge := grownCap_ge w (sLen + m.den) sCap e
      have hle : grownCap w (sLen + m.den) sCap e <= 9223372036854775807 := by
       have := grownCap_le_maxLen w (sLen + m.den) sCap e (by simp only [maxLen]; omega)
       simpa [maxLen] using this
      have hgk := hgk (zJu zs) _ hge hle
      rw [hlen] at hgk
      split at hgk
      ·rename_i cs hcs
       refine ⟨_, _, hr, ?_⟩
       have hE' := zMM hcs hE n1' z1 (fun j c hj e' => by
        obtain ⟨zc, q1, rfl⟩ := zHi hj
        obtain ⟨v, v1, v2⟩ := z4 j zc q1 e'
        rw [Nat.zero_add]
        exact ⟨v, v1, zPu q1 e' v v2⟩) hge z3
       have h1 : Sat B ν { σ with hp := hp1 } a w := zAL h hl1 (zb.refl _ _) hs1 (ze.refl _ _)
       have := zIH h1 (w0 := w.drew) rfl (zCy B w) (cells := (olds ++ news' ++ (Builtin.zeroCells z.cells (grownCap w (sLen + m.den) sCap e - (sLen + m.den))).toList).toArray) (e := e) (by simpa [zCi] using hE') d (.lit 0) need (.var (grownCap w (sLen + m.den) sCap e)) (.var (grownCap w (sLen + m.den) sCap e)) rfl
        (hn.later hl1 (zb.refl _ _) (ze.refl _ _)) inp (fun _ _ => zFa rfl _ _ _) hgk
       simpa [zAF, zCi, hneed] using this
      ·exact nomatch hgk
     split at hk
     ·have old : zGK (leNE m (.lit 0)) (putK σ d .nils K) (zRj σ d inf.size inf.bytes (zAk 0 m.den zs bs zs) m K) -> ∃ v w', (Builtin.append_ #[t2, t2] ty #[SV.nils.den ν, .slice b m.den c]).run P w = .ok v w' /\ next (a.put d v) w' := by
       intro hk
       obtain ⟨k1, k2⟩ := zHj hk
       rw [zBs, zAF] at k1 k2
       by_cases hm : m.den <= 0
       ·have hm0 : m.den = 0 := by omega
        have hk' := k1 (by simp [hm0])
        rw [zDG] at hk'
        have hr := zC6 (P := P) (w := w) t2 ty e inf hu hi b 0 0 m.den c news n2 (by omega)
        refine ⟨_, _, hr, ?_⟩
        have h3 := z0 h d (v := .nils) trivial
        have := hn _ _ _ _ (by rw [zAR]; exact fun _ h => h) (zb.refl _ _) h3 (ze.refl _ _) hk'
        simpa [SV.den, hm0] using this
       ·have hk' := k2 (by simp; omega)
        exact grow none 0 0 [] zs m ⟨by simp, z2, by simp, by simp⟩ (by simp [Builtin.firstCells, Sem.run, pure]) (by omega) (by omega) hk'
      split at hk
      ·exact old hk
      ·by_cases hm : m.den <= 0
       ·have hm0 : m.den = 0 := by omega
        have hr := zC6 (P := P) (w := w) t2 ty e inf hu hi b 0 0 m.den c news n2 (by omega)
        refine ⟨_, _, hr, ?_⟩
        have hgk := hk.2 (zJu zs) 0 (by omega) (by omega)
        split at hgk
        ·rename_i cs hcs
         rw [zA2] at hgk
         have hs1 : z6 B (fun i => if i = σ.hp.length then ⟨0, 0, true⟩ else ν i) (σ.hp ++ [.row true true cs (.var 0)]) w /\ (∀ o', Live σ.hp o' -> Live (σ.hp ++ [.row true true cs (.var 0)]) o') /\ zb (Live σ.hp) ν (fun i => if i = σ.hp.length then ⟨0, 0, true⟩ else ν i) :=
          zVx h.hp cs
         have h2 : Sat B _ { σ with hp := σ.hp ++ [.row true true cs (.var 0)] } a w := zAL h hs1.2.1 hs1.2.2 hs1.1 (ze.refl _ _)
         have hlv : Live (σ.hp ++ [.row true true cs (.var 0)]) σ.hp.length := ⟨.row true true cs (.var 0), by simp, rfl⟩
         have h3 := z0 h2 d (v := .sliceE true σ.hp.length inf.size (.lit 0) m (.var 0)) hlv
         have := hn _ _ _ _ (by rw [zAR]; exact hs1.2.1) hs1.2.2 h3 (ze.refl _ _) hgk
         simpa [SV.den, hm0, zCi] using this
        ·exact nomatch hgk
       ·exact mgrow σ.hp true none 0 0 [] zs (.lit 0) m h.hp (fun _ h => h) rfl ⟨by simp, z2, by simp, by simp⟩ (by simp [Builtin.firstCells, Sem.run, pure]) (by omega) (by omega) hk
     ·split at hk
      ·rename_i inp o cols k st len cap hv
       split at hk
       ·rename_i q hq
        obtain ⟨hq1, hk⟩ := zCd hk
        cases hma : zHT σ.hp o st len m cap k with
        | some q2 =>
         rw [hma] at hk
         obtain ⟨hmo, rfl, hq2⟩ := zKi hma
         obtain ⟨hq2', hk⟩ := zCd (show askP q2 _ from hk)
         obtain ⟨hq3, hk⟩ := zCd hk
         have hle := zAI hq hq1
         rw [zBs, zAa] at hle
         have hle' := of_decide_eq_true hle
         have hcap := zAI hq2 hq2'
         rw [zBs] at hcap
         have hcap' := of_decide_eq_true hcap
         have hc63 : cap.den <= 9223372036854775807 := by
          cases cap with
          | lit n =>
           simp only [zSC] at hq3
           split at hq3
           ·simp only [NE.den]; omega
           ·simp [zAJ, BE.den] at hq3
          | var n => simpa [zSC, zAJ, BE.den, NE.den] using hq3
         obtain ⟨d1, d2, d3, ⟨x0, ho, hvw⟩, _⟩ := zBc h.hp.obj hv
         obtain ⟨hr, hxo, hal⟩ := zQp h.hp ho hvw hmo
         rw [zAF] at hle' d1
         by_cases hroom : len.den + m.den <= cap.den
         ·have hgk := hk.2 (zJu cols) cap.den (by rw [zAa]; exact hroom) hc63
          split at hgk
          ·rename_i cs hcs
           obtain ⟨cs', w1, w2, w3⟩ := zG8 (as0 := cols) (j0 := 0) (fun j a hj => by rw [Nat.zero_add]; exact hj) hcs
           obtain ⟨s1, s2, s3⟩ := zNw hr d2 n1 w1 (by omega)
           rw [zA2] at hgk
           rw [d1]
           have hlen' : (zS σ.hp o .husk).length = σ.hp.length := zt _ _ _
           cases hnn : (inp && (ν o).nil) with
           | true =>
            have hm0 := hr.empty hnn
            have hm1 : m.den = 0 := by omega
            have hnews : news = [] := by have := n1.len; rw [hm1] at this; simpa using this
            rw [hnews] at s3
            have hrun := zC6 (P := P) (w := w) t2 ty e inf hu hi b len.den cap.den m.den c news n2 hroom
            refine ⟨_, _, hrun, ?_⟩
            obtain ⟨hs', hl', ha'⟩ := zN7 h.hp ho hal (m := .var cap.den) (zNk s3 (by rw [zCi]; omega) w2.symm w3) rfl (fun _ _ => rfl) hxo
            have h2 : Sat B _ { σ with hp := zS σ.hp o .husk ++ [.row true inp cs (.var cap.den)] } a w := zAL h hl' ha' hs' (ze.refl _ _)
            have hlv : Live (zS σ.hp o .husk ++ [.row true inp cs (.var cap.den)]) (zS σ.hp o .husk).length := ⟨.row true inp cs (.var cap.den), by simp, rfl⟩
            have h3 := z0 h2 d (v := .sliceE inp (zS σ.hp o .husk).length inf.size (.lit 0) (NE.two (· + ·) len m) (.var cap.den)) hlv
            have := hn _ _ _ _ (by rw [zAR]; exact hl') ha' h3 (ze.refl _ _) hgk
            simpa [SV.den, hnn, zAa, hlen', zCi, zAF] using this
           | false =>
            have hst := run_storeCells_cells (P := P) (ν o).blk ((ν o).base inp + len.den * inf.size) news 0 w (by simpa using s1) (by simpa using s2) n1.one
            simp only [Nat.add_zero] at hst
            have hrun := zGn (P := P) (w := w) t2 ty e inf hu hi (ν o).blk ((ν o).base inp + 0 * inf.size) b len.den cap.den m.den c news n2 hroom (w' := w.setCells (ν o).blk ((ν o).base inp + len.den * inf.size) news)
             (by rw [Nat.zero_mul, Nat.add_zero]; exact hst)
            have hbel : ze B w (w.setCells (ν o).blk ((ν o).base inp + len.den * inf.size) news) := zA1 (hr.lo hnn rfl).1 _ _ _
            refine ⟨_, _, hrun, ?_⟩
            obtain ⟨hs', hl', ha'⟩ := zN7 h.hp ho hal (m := .var cap.den) (zNk s3 (by rw [zCi]; omega) w2.symm w3) (zAt _ _ _ _) (fun k hk => by
             rcases hk with hk | hk
             ·exact zA0 _ hk _ _ _
             ·rw [hnn] at hk; cases hk) hxo
            have h2 : Sat B _ { σ with hp := zS σ.hp o .husk ++ [.row true inp cs (.var cap.den)] } a _ := zAL h hl' ha' hs' hbel
            have hlv : Live (zS σ.hp o .husk ++ [.row true inp cs (.var cap.den)]) (zS σ.hp o .husk).length := ⟨.row true inp cs (.var cap.den), by simp, rfl⟩
            have h3 := z0 h2 d (v := .sliceE inp (zS σ.hp o .husk).length inf.size (.lit 0) (NE.two (· + ·) len m) (.var cap.den)) hlv
            have := hn _ _ _ _ (by rw [zAR]; exact hl') ha' h3 hbel hgk
            simpa [SV.den, hnn, zAa, hlen', zCi, zAF] using this
          ·exact nomatch hgk
         ·obtain ⟨olds, o1, o2⟩ := zGJ (P := P) (zDW h.hp) hv (by rw [zAF]; exact hle')
          rw [d1] at o2
          rw [d1]
          obtain ⟨hs1, hl1⟩ := zKq h.hp ho
          exact mgrow _ inp _ len.den cap.den olds cols len _ hs1 hl1 rfl (zMC o1) o2 (by omega) (zAa _ _ _) hk
        | none =>
         rw [hma] at hk
         replace hk : zGK _ _ _ := hk
         have hle := zAI hq hq1
         rw [zBs, zAa] at hle
         have hle' := of_decide_eq_true hle
         obtain ⟨d1, d2, d3, _, _⟩ := zBc h.hp.obj hv
         obtain ⟨k1, k2⟩ := zHj hk
         rw [zBs, zAa] at k1 k2
         by_cases hroom : len.den + m.den <= cap.den
         ·have hk' := k1 (by simpa using hroom)
          unfold zXi at hk'
          split at hk'
          ·rename_i inp' cols' mm ho
           split at hk'
           ·rename_i hc
            obtain ⟨rfl, hsz⟩ := hc
            split at hk'
            ·rename_i p' cs hp' hcs
             obtain ⟨hq2, hk'⟩ := zCd hk'
             have hcap := zAI hp' hq2
             rw [zBs, zAa] at hcap
             have hcap' := of_decide_eq_true hcap
             have hr : zw B (ν o) w true inp' cols' mm.den := h.hp.obj o _ ho
             obtain ⟨s1, s2, s3⟩ := zNw hr hsz n1 hcs (by omega)
             have hlo : Live σ.hp o := ⟨_, ho, rfl⟩
             rw [zA2] at hk'
             rw [d1]
             cases hnn : (inp' && (ν o).nil) with
             | true =>
              have hm0 := hr.empty hnn
              have hm1 : m.den = 0 := by omega
              have hnews : news = [] := by have := n1.len; rw [hm1] at this; simpa using this
              rw [hnews] at s3
              have hrun := zC6 (P := P) (w := w) t2 ty e inf hu hi b len.den cap.den m.den c news n2 hroom
              refine ⟨_, _, hrun, ?_⟩
              obtain ⟨hs', hl'⟩ := zQV h.hp ho s3 rfl (fun _ _ => rfl)
              have h2 : Sat B ν { σ with hp := zS σ.hp o (.row true inp' cs mm) } a w := zAL h hl' (zb.refl _ _) hs' (ze.refl _ _)
              have h3 := z0 h2 d (v := .sliceE inp' o inf.size st (NE.two (· + ·) len m) cap) (hl' o hlo)
              have := hn _ _ _ _ (by rw [zAR]; exact hl') (zb.refl _ _) h3 (ze.refl _ _) hk'
              simpa [SV.den, hnn, zAa] using this
             | false =>
              have hst := run_storeCells_cells (P := P) (ν o).blk ((ν o).base inp' + (st.den + len.den) * inf.size) news 0 w (by simpa using s1) (by simpa using s2) n1.one
              simp only [Nat.add_zero] at hst
              have hrun := zGn (P := P) (w := w) t2 ty e inf hu hi (ν o).blk ((ν o).base inp' + st.den * inf.size) b len.den cap.den m.den c news n2 hroom (w' := w.setCells (ν o).blk ((ν o).base inp' + (st.den + len.den) * inf.size) news)
               (by rw [Nat.add_assoc, <- Nat.add_mul]; exact hst)
              have hbel : ze B w (w.setCells (ν o).blk ((ν o).base inp' + (st.den + len.den) * inf.size) news) := zA1 (hr.lo hnn rfl).1 _ _ _
              refine ⟨_, _, hrun, ?_⟩
              obtain ⟨hs', hl'⟩ := zQV h.hp ho s3 (zAt _ _ _ _) (fun k hk => by
               rcases hk with hk | hk
               ·exact zA0 _ hk _ _ _
               ·rw [hnn] at hk; cases hk)
              have h2 : Sat B ν { σ with hp := zS σ.hp o (.row true inp' cs mm) } a _ := zAL h hl' (zb.refl _ _) hs' hbel
              have h3 := z0 h2 d (v := .sliceE inp' o inf.size st (NE.two (· + ·) len m) cap) (hl' o hlo)
              have := hn _ _ _ _ (by rw [zAR]; exact hl') (zb.refl _ _) h3 hbel hk'
              simpa [SV.den, hnn, zAa] using this
            ·exact nomatch hk'
           ·exact nomatch hk'
          ·exact nomatch hk'
         ·have hk' := k2 (by simpa using hroom)
          obtain ⟨olds, o1, o2⟩ := zGJ (P := P) (zDW h.hp) hv hle'
          rw [d1] at o2
          rw [d1]
          exact grow _ len.den cap.den olds _ _ o1 o2 (by omega) (zAa _ _ _) hk'
       ·exact nomatch hk
      ·exact nomatch hk
    ·exact nomatch hx
   ·exact nomatch hx
  ·exact nomatch hx
 ·exact nomatch hx
theorem zPT (h : Sat B ν σ a w) {d : Option Nat} {t : TypeId} {kl kc : IntKind} {len cap : IE} {K : St -> Prop} (hx : zP5 P σ d t len cap K) {next : Act -> World -> Prop} (hn : zAC B ν σ.hp w K next) :
  ∃ v w', (Instr.makeSlice t (.int kl len.den) (.int kc cap.den)).run P w = .ok v w' /\ next (a.put d v) w' := by
 unfold zP5 at hx
 split at hx
 ·rename_i e hu
  split at hx
  ·rename_i inf zs hi hzs
   obtain ⟨i', z, hi', hz, z1, z2, z3, z4⟩ := zDD hzs
   rw [hi] at hi'; cases hi'
   split at hx
   ·rename_i hb
    split at hx
    ·rename_i p hp
     obtain ⟨hp1, hk⟩ := zCd hx
     have hq := zAI hp hp1
     have hden : (zRD inf.bytes len cap).den = decide (0 <= len.den /\ len.den <= cap.den /\ cap.den * (inf.bytes : Int) <= 281474976710656) := by
      cases len <;> cases cap <;> rfl
     rw [hden] at hq
     obtain ⟨q1, q2, q3⟩ := of_decide_eq_true hq
     have hcb : cap.den <= cap.den * (inf.bytes : Int) := by
      have h1 : (1 : Int) <= (inf.bytes : Int) := by omega
      have := Int.mul_le_mul_of_nonneg_left h1 (show 0 <= cap.den by omega)
      omega
     have hr := run_make (P := P) w t e inf z hu hi hz kl kc len.den cap.den q1 q2 (by rw [Int.mul_comm]; exact q3) (by omega)
     refine ⟨_, _, hr, ?_⟩
     have hE : zGD zs cap.den.toNat inf.size (madeCells z.cells (cap.den.toNat * inf.size)).toList := by
      refine zF3 (by simp [madeCells]) z2 fun e' he j c hj => ?_
      obtain ⟨v, v1, v2⟩ := z4 j c hj e'
      have hjs : j < inf.size := by have := (List.getElem?_eq_some_iff.1 hj).1; omega
      refine ⟨v, ?_, v2⟩
      have hmod : (e' * inf.size + j) % inf.size = j := by rw [Nat.mul_comm, Nat.mul_add_mod]; exact Nat.mod_eq_of_lt hjs
      simp only [madeCells, Array.toList_map, Array.toList_range, List.getElem?_map, z1, List.getElem?_range (zE5 he hjs), Option.map_some, hmod]
      simp [Array.getElem!_eq_getD, Array.getD_eq_getD_getElem?, v1]
     have := zIH h (w0 := w) rfl (ze.refl B w) (e := e) hE d (.lit 0) len.nat cap.nat cap.nat (zFL _) hn false (fun _ _ => zFa rfl _ _ _) hk
     simpa [zAF, zFL] using this
    ·exact nomatch hx
   ·exact nomatch hx
  ·exact nomatch hx
 ·exact nomatch hx
theorem zCc : ∀ (ks vs : List Value) (i j : Nat), ks.length = vs.length -> (ents i ks vs)[j]? = match ks[j]?, vs[j]? with | some k, some v => some ⟨k, v, i + j⟩ | _, _ => none
 | [], [], i, j, _ => by simp [ents]
 | k :: ks, v :: vs, i, 0, _ => by simp [ents]
 | k :: ks, v :: vs, i, j + 1, h => by
  simp only [ents, List.getElem?_cons_succ]
  rw [zCc ks vs (i + 1) j (by simpa using h)]
  have : i + 1 + j = i + (j + 1) := by omega
  rw [this]
 | [], _ :: _, _, _, h => by simp at h
 | _ :: _, [], _, _, h => by simp at h
theorem zIf : ∀ (ks vs : List Value) (i : Nat), ks.length = vs.length -> (ents i ks vs).length = ks.length
 | [], [], i, _ => rfl
 | k :: ks, v :: vs, i, h => by simp [ents, zIf ks vs (i + 1) (by simpa using h)]
 | [], _ :: _, _, h => by simp at h
 | _ :: _, [], _, h => by simp at h
theorem zIe : ∀ (ks vs : List Value) (i : Nat) (k v : Value), ks.length = vs.length -> ents i (ks ++ [k]) (vs ++ [v]) = ents i ks vs ++ [⟨k, v, i + ks.length⟩]
 | [], [], i, k, v, _ => by simp [ents]
 | a :: ks, b :: vs, i, k, v, h => by
  simp only [List.cons_append, ents, List.length_cons]
  rw [zIe ks vs (i + 1) k v (by simpa using h)]
  have : i + 1 + ks.length = i + (ks.length + 1) := by omega
  rw [this]
 | [], _ :: _, _, _, _, h => by simp at h
 | _ :: _, [], _, _, _, h => by simp at h
theorem zM2 {hp : List SObj} (h : z6 B ν hp w) {o : Nat} {ks vs ks' vs' : List SV} (ho : hp[o]? = some (.map ks vs)) (h3 : SV.wfL (Live hp) ks') (h4 : SV.wfL (Live hp) vs') (h5 : ks'.length = vs'.length) :
  z6 B ν (zS hp o (.map ks' vs')) { w with heap := w.heap.setIfInBounds (ν o).blk (.map (ents 0 (SV.denL ν ks') (SV.denL ν vs')).toArray ks'.length) } /\ (∀ o', Live hp o' -> Live (zS hp o (.map ks' vs')) o') /\
   ze B w { w with heap := w.heap.setIfInBounds (ν o).blk (.map (ents 0 (SV.denL ν ks') (SV.denL ν vs')).toArray ks'.length) } := by
 have hlt : o < hp.length := (List.getElem?_eq_some_iff.1 ho).1
 obtain ⟨b1, b2, _⟩ := h.obj o _ ho
 obtain ⟨c1, c2⟩ := MapKept.heap_set (o' := .map (ents 0 (SV.denL ν ks') (SV.denL ν vs')).toArray ks'.length) b2
 have hl : ∀ o', Live hp o' -> Live (zS hp o (.map ks' vs')) o' := fun o' ⟨y, hy, e⟩ => by
  by_cases he : o' = o
  ·subst he; exact ⟨.map ks' vs', by rw [zP, List.getElem?_set_self hlt], rfl⟩
  ·exact ⟨y, by rw [zP, List.getElem?_set_ne (by omega)]; exact hy, e⟩
 have hown : ∀ o', zAc ν (zS hp o (.map ks' vs')) o' -> zAc ν hp o' := fun o' ⟨y, hy, e⟩ => by
  rw [zP] at hy
  by_cases he : o' = o
  ·subst he; exact ⟨_, ho, rfl⟩
  ·rw [List.getElem?_set_ne (by omega)] at hy; exact ⟨y, hy, e⟩
 refine ⟨⟨fun o' y hy => ?_, fun o1 o2 h1 h2 e => h.apart o1 o2 (hown o1 h1) (hown o2 h2) e⟩, hl, rfl, rfl, rfl, by simp, fun k hk => c2 k (fun e => b1 (e ▸ hk))⟩
 rw [zP] at hy
 by_cases he : o' = o
 ·subst he
  rw [List.getElem?_set_self hlt] at hy; cases hy
  exact ⟨b1, c1, zj hl _ h3, zj hl _ h4, h5⟩
 ·rw [List.getElem?_set_ne (by omega)] at hy
  refine (h.obj o' y hy).mono (zBQ hy) hl (zb.refl _ _) (by simp) (fun hlo' hor _ => c2 _ (fun e => ?_))
  rcases hor with h1 | h1
  ·exact he (h.apart o' o ⟨y, hy, h1⟩ ⟨_, ho, rfl⟩ e)
  ·exact b1 (e ▸ h1)
theorem zGY (σ : St) (ob : Nat) (d : Option Nat) (x : SObj) (K : St -> Prop) : zGZ σ ob d x K = putH σ (zS σ.hp ob x) d SV.undef K := zCu x _
theorem zGy (h : Sat B ν σ a w) {o : Oper} {t : TypeId} {m ky x : Operand} {K : St -> Prop} {p : Prop} (he : o.op = .mapUpdate t m ky x ∨ o.op = .insert t m ky x)
  (hx : (match P.underlying t, σ.eval m, σ.eval ky, σ.eval x with
  | some (.map kt _), some (.mapv ob), some (.int kk (.lit b)), some v =>
   match P.underlying kt, σ.hp[ob]? with
   | some (.int k0), some (.map ks vs) =>
    if k0 ≠ kk then none else
    match zEQ kk b ks 0 with
    | some (some j) => some (zGZ σ ob o.dst (.map ks (zS vs j v)) K)
    | some none => some (zGZ σ ob o.dst (.map (ks ++ [.int kk (.lit b)]) (vs ++ [v])) K)
    | none => none
   | _, _ => none
  | _, _, _, _ => none) = some p) (hp : p) {next : Act -> World -> Prop} {Q : Exit -> Act -> World -> Prop} (hn : zAC B ν σ.hp w K next) : Oper.upon P o a next Q ((execOp a.eval o).run P w) := by
 split at hx
 ·rename_i kt et ob kk b v hu hm hky hxe
  split at hx
  ·rename_i k0 ks vs hk ho
   split at hx
   ·simp at hx
   ·rename_i hkk
    have hkk : k0 = kk := Decidable.of_not_not hkk
    subst hkk
    obtain ⟨m1, _⟩ := zB h.t hm
    obtain ⟨k1, _⟩ := zB h.t hky
    obtain ⟨x1, x2⟩ := zB h.t hxe
    obtain ⟨h1, h2, h3, h4, h5⟩ := h.hp.obj ob _ ho
    have isk : MapKept.IsKey (.int k0) (.int k0 b) := rfl
    have fin : ∀ ks' vs', SV.wfL (Live σ.hp) ks' -> SV.wfL (Live σ.hp) vs' -> ks'.length = vs'.length -> putH σ (zS σ.hp ob (.map ks' vs')) o.dst SV.undef K ->
      (Instr.mapUpdate t (.map (some (ν ob).blk)) (.int k0 b) (v.den ν)).run P w = .ok () { w with heap := w.heap.setIfInBounds (ν ob).blk (.map (ents 0 (SV.denL ν ks') (SV.denL ν vs')).toArray ks'.length) } ->
      Oper.upon P o a next Q ((execOp a.eval o).run P w) := by
     intro ks' vs' w1 w2 w3 hk hrun
     have hr : (execOp a.eval o).run P w = .ok .skip { w with heap := w.heap.setIfInBounds (ν ob).blk (.map (ents 0 (SV.denL ν ks') (SV.denL ν vs')).toArray ks'.length) } := by
      rcases he with he | he <;>
      ·simp only [execOp, he, m1, k1, x1, SV.den, IE.den]
       rw [Sem.run_bind, hrun]
       rfl
     rw [hr, Oper.upon_skip]
     obtain ⟨hs, hl, hb⟩ := zM2 h.hp ho w1 w2 w3
     rw [zA2] at hk
     have g2 : Sat B ν { σ with hp := zS σ.hp ob (.map ks' vs') } a _ := zAL h hl (zb.refl _ _) hs hb
     have g3 := z0 g2 o.dst (v := SV.undef) (by simp [SV.undef, SV.wf, SV.wfL])
     have := hn _ _ _ _ (by rw [zAR]; exact hl) (zb.refl _ _) g3 hb hk
     simpa [SV.den, SV.undef, SV.denL, undef] using this
    have hlen : (SV.denL ν ks).length = (SV.denL ν vs).length := by simp [zJ, h5]
    split at hx
    ·rename_i j hf
     simp only [Option.some.injEq] at hx; subst hx
     obtain ⟨_, u, e1, e2, e3⟩ := (zBu (ν := ν) (k0 := k0) (b := 0) hf h5).2 j rfl
     rw [Nat.sub_zero] at e1 e2
     have hj : j < vs.length := (List.getElem?_eq_some_iff.1 e1).1
     refine fin ks (zS vs j v) h3 (by
      rw [zz, zP]
      intro y hy
      rcases List.mem_or_eq_of_mem_set hy with hy | rfl
      ·exact (zz _ _).1 h4 y hy
      ·exact x2) (by rw [zt]; exact h5) (by rw [zGY] at hp; exact hp) ?_
     have hkj : (SV.denL ν ks)[j]? = some (.int k0 b) := by simp [zX, e2, SV.den, IE.den]
     have hat : (ents 0 (SV.denL ν ks) (SV.denL ν vs)).toArray[j]? = some ⟨.int k0 b, u.den ν, j⟩ := by
      rw [List.getElem?_toArray, zCc _ _ _ _ hlen, hkj]
      simp [zX, e1]
     have hmod : ((ents 0 (SV.denL ν ks) (SV.denL ν vs)).toArray.modify j fun e => { e with key := .int k0 b, val := v.den ν }) = (ents 0 (SV.denL ν ks) (SV.denL ν (zS vs j v))).toArray := by
      apply Array.ext'
      apply List.ext_getElem?
      intro i
      have hlen' : (SV.denL ν ks).length = (SV.denL ν (zS vs j v)).length := by simp [zJ, h5, zt]
      rw [Array.getElem?_toList, Array.getElem?_modify]
      simp only [List.getElem?_toArray]
      rw [zCc _ _ _ _ hlen, zCc _ _ _ _ hlen', zP, zX ν (vs.set j v), List.map_set]
      by_cases hij : j = i
      ·subst hij
       rw [if_pos rfl, hkj]
       simp [zX, e1, hj]
      ·rw [if_neg hij, List.getElem?_set_ne hij, <- zX]
     simp only [Instr.mapUpdate, Sem.run_bind, run_underlying hu, MapKept.run_getObj_map h2, MapKept.run_checkKey hk isk, MapKept.run_findKey hk e3, Result.andThen, hat, Option.map_some, Option.getD_some, MapKept.run_keyThatStays isk]
     rw [MapKept.run_setObj_map _ h2, hmod]
    ·rename_i hf
     simp only [Option.some.injEq] at hx; subst hx
     have e3 := (zBu (ν := ν) (k0 := k0) (b := 0) hf h5).1 rfl
     refine fin (ks ++ [.int k0 (.lit b)]) (vs ++ [v]) (zBF h3 ⟨by simp [SV.wf], trivial⟩) (zBF h4 ⟨x2, trivial⟩) (by simp [h5]) (by rw [zGY] at hp; exact hp) ?_
     have hpush : ((ents 0 (SV.denL ν ks) (SV.denL ν vs)).toArray.push { key := .int k0 b, val := v.den ν, born := ks.length }) = (ents 0 (SV.denL ν (ks ++ [.int k0 (.lit b)])) (SV.denL ν (vs ++ [v]))).toArray := by
      simp only [zBE, SV.denL, SV.den, IE.den]
      rw [zIe _ _ _ _ _ hlen]
      simp [zJ]
     simp only [Instr.mapUpdate, Sem.run_bind, run_underlying hu, MapKept.run_getObj_map h2, MapKept.run_checkKey hk isk, MapKept.run_findKey hk e3, Result.andThen]
     rw [MapKept.run_setObj_map _ h2, hpush]
     simp
    ·simp at hx
  ·simp at hx
 ·simp at hx
theorem zIJ (σ : St) (ob : Nat) (d : Option Nat) (x : SObj) (v : SV) (K : St -> Prop) : zKj σ ob d x v K = putH σ (zS σ.hp ob x) d v K := zCu x _
theorem zNE (h : Sat B ν σ a w) {o : Oper} {t : TypeId} {m ky : Operand} {K : St -> Prop} {p : Prop} (he : o.op = .mapEntry t m ky)
  (hx : zMZ P t m ky o.dst σ K = some p) (hp : p) {next : Act -> World -> Prop} {Q : Exit -> Act -> World -> Prop} (hn : zAC B ν σ.hp w K next) : Oper.upon P o a next Q ((execOp a.eval o).run P w) := by
 unfold zMZ at hx
 split at hx
 ·rename_i kt et ob key hu hm hky
  split at hx
  ·rename_i z ks vs hz ho hck
   obtain ⟨m1, _⟩ := zB h.t hm
   obtain ⟨k1, k2⟩ := zB h.t hky
   obtain ⟨z1, z2⟩ := zAZ (P := P) (ν := ν) (w := w) (n := Live σ.hp) hz
   obtain ⟨h1, h2, h3, h4, h5⟩ := h.hp.obj ob _ ho
   have hlen : (SV.denL ν ks).length = (SV.denL ν vs).length := by simp [zJ, h5]
   have hwide : (match P.underlying kt with | some (.array _ _) | some (.struct _) => true | _ => false) = true := by
    unfold zIP at hck
    split at hck
    ·rename_i hk; rw [hk]
    ·simp at hck
   have fin : ∀ ks' vs' (v : SV), SV.wfL (Live σ.hp) ks' -> SV.wfL (Live σ.hp) vs' -> ks'.length = vs'.length -> v.wf (Live σ.hp) -> putH σ (zS σ.hp ob (.map ks' vs')) o.dst v K ->
     (Instr.mapEntry t (.map (some (ν ob).blk)) (key.den ν)).run P w = .ok (v.den ν) { w with heap := w.heap.setIfInBounds (ν ob).blk (.map (ents 0 (SV.denL ν ks') (SV.denL ν vs')).toArray ks'.length) } ->
     Oper.upon P o a next Q ((execOp a.eval o).run P w) := by
    intro ks' vs' v w1 w2 w3 w4 hk hrun
    have hr : (execOp a.eval o).run P w = .ok (.value (v.den ν)) { w with heap := w.heap.setIfInBounds (ν ob).blk (.map (ents 0 (SV.denL ν ks') (SV.denL ν vs')).toArray ks'.length) } := by
     simp only [execOp, he, m1, k1, SV.den]
     rw [Sem.run_bind, hrun]
     rfl
    rw [hr, Oper.upon_value]
    obtain ⟨hs, hl, hb⟩ := zM2 h.hp ho w1 w2 w3
    rw [zA2] at hk
    have g2 : Sat B ν { σ with hp := zS σ.hp ob (.map ks' vs') } a _ := zAL h hl (zb.refl _ _) hs hb
    have g3 := z0 g2 o.dst (v := v) (zDf hl _ w4)
    exact hn _ _ _ _ (by rw [zAR]; exact hl) (zb.refl _ _) g3 hb hk
   split at hx
   ·rename_i j hf
    split at hx
    ·rename_i v hv
     simp only [Option.some.injEq] at hx; subst hx
     obtain ⟨_, u, x, e1, e2, e3, e4⟩ := (zBW (P := P) (ν := ν) (w := w) (b := 0) hf h5).2 j rfl
     rw [Nat.sub_zero] at e1 e2
     rw [hv] at e1; cases e1
     obtain ⟨s1, s2⟩ := zMi (ν := ν) e3
     have hj : j < vs.length := (List.getElem?_eq_some_iff.1 hv).1
     refine fin ks vs (.tuple [v, .int .i64 (.lit j)]) h3 h4 h5 ⟨(zz _ _).1 h4 v (List.mem_of_getElem? hv), trivial, trivial⟩ (by rw [zIJ] at hp; exact hp) ?_
     have hkj : (SV.denL ν ks)[j]? = some (key.den ν) := by simp [zX, e2, s1]
     have hat : (ents 0 (SV.denL ν ks) (SV.denL ν vs)).toArray[j]? = some ⟨key.den ν, v.den ν, j⟩ := by
      rw [List.getElem?_toArray, zCc _ _ _ _ hlen, hkj]
      simp [zX, hv]
     have hks : (Instr.keyThatStays (key.den ν) (key.den ν)).run P w = .ok (key.den ν) w := by
      rw [<- s1] at s2
      simp [Instr.keyThatStays, s2, Sem.run, pure]
     have hmod : ((ents 0 (SV.denL ν ks) (SV.denL ν vs)).toArray.modify j fun e => { e with key := key.den ν }) = (ents 0 (SV.denL ν ks) (SV.denL ν vs)).toArray := by
      apply Array.ext'
      apply List.ext_getElem?
      intro i
      rw [Array.getElem?_toList, Array.getElem?_modify]
      by_cases hij : j = i
      ·subst hij
       rw [if_pos rfl, hat]
       rw [List.getElem?_toArray] at hat
       exact hat.symm
      ·rw [if_neg hij]; simp
     simp only [Instr.mapEntry, Sem.run_bind, run_underlying hu, MapKept.run_getObj_map h2, zIl k2 hck, run_findKey_eq w hwide, e4, Result.andThen, hat, Option.map_some, Option.getD_some, hks]
     rw [MapKept.run_setObj_map _ h2, hmod]
     simp [SV.den, SV.denL, IE.den, goInt, Sem.run, pure]
    ·simp at hx
   ·rename_i hf
    simp only [Option.some.injEq] at hx; subst hx
    have e3 := (zBW (P := P) (ν := ν) (w := w) (b := 0) hf h5).1 rfl
    refine fin (ks ++ [key]) (vs ++ [z]) (.tuple [z, .int .i64 (.lit ks.length)]) (zBF h3 ⟨k2, trivial⟩) (zBF h4 ⟨z2, trivial⟩) (by simp [h5]) ⟨z2, trivial, trivial⟩ (by rw [zIJ] at hp; exact hp) ?_
    have hpush : ((ents 0 (SV.denL ν ks) (SV.denL ν vs)).toArray.push { key := key.den ν, val := z.den ν, born := ks.length }) = (ents 0 (SV.denL ν (ks ++ [key])) (SV.denL ν (vs ++ [z]))).toArray := by
     simp only [zBE, SV.denL]
     rw [zIe _ _ _ _ _ hlen]
     simp [zJ]
    simp only [Instr.mapEntry, Sem.run_bind, run_underlying hu, MapKept.run_getObj_map h2, zIl k2 hck, run_findKey_eq w hwide, e3, Result.andThen, z1]
    rw [MapKept.run_setObj_map _ h2, hpush]
    simp [SV.den, SV.denL, IE.den, goInt, Sem.run, pure]
   ·simp at hx
  ·simp at hx
 ·simp at hx
theorem zHI (h : Sat B ν σ a w) {o : Oper} {t : TypeId} {m s x : Operand} {K : St -> Prop} {p : Prop} (he : o.op = .entryStore t m s x)
  (hx : zEC m s x o.dst σ K = some p) (hp : p) {next : Act -> World -> Prop} {Q : Exit -> Act -> World -> Prop} (hn : zAC B ν σ.hp w K next) : Oper.upon P o a next Q ((execOp a.eval o).run P w) := by
 unfold zEC at hx
 split at hx
 ·rename_i ob kk j v hm hs hxe
  split at hx
  ·rename_i ks vs ho
   split at hx
   ·rename_i hj
    simp only [Option.some.injEq] at hx; subst hx
    obtain ⟨m1, _⟩ := zB h.t hm
    obtain ⟨s1, _⟩ := zB h.t hs
    obtain ⟨x1, x2⟩ := zB h.t hxe
    obtain ⟨h1, h2, h3, h4, h5⟩ := h.hp.obj ob _ ho
    have hlen : (SV.denL ν ks).length = (SV.denL ν vs).length := by simp [zJ, h5]
    have w2 : SV.wfL (Live σ.hp) (zS vs j v) := by
     rw [zz, zP]
     intro y hy
     rcases List.mem_or_eq_of_mem_set hy with hy | rfl
     ·exact (zz _ _).1 h4 y hy
     ·exact x2
    have hkj : ∃ kv, (SV.denL ν ks)[j]? = some kv := ⟨_, List.getElem?_eq_getElem (by rw [zJ]; omega)⟩
    obtain ⟨kv, hkj⟩ := hkj
    have hvj : vs[j]? = some vs[j] := List.getElem?_eq_getElem hj
    have hidx : (ents 0 (SV.denL ν ks) (SV.denL ν vs)).toArray.findIdx? (fun e => (e.born : Int) == (Int.ofNat j)) = some j := by
     rw [List.findIdx?_toArray, List.findIdx?_eq_some_iff_getElem]
     have hl := zIf (SV.denL ν ks) (SV.denL ν vs) 0 hlen
     refine ⟨by rw [hl, zJ]; omega, ?_, fun i hi => ?_⟩
     ·have := zCc (SV.denL ν ks) (SV.denL ν vs) 0 j hlen
      rw [hkj, show (SV.denL ν vs)[j]? = some (vs[j].den ν) by simp [zX, hj]] at this
      rw [List.getElem?_eq_some_iff] at this
      obtain ⟨q, hq⟩ := this
      rw [hq]; simp
     ·have hi' : i < ks.length := by omega
      have := zCc (SV.denL ν ks) (SV.denL ν vs) 0 i hlen
      rw [show (SV.denL ν ks)[i]? = some (ks[i].den ν) by simp [zX, hi'], show (SV.denL ν vs)[i]? = some ((vs[i]'(by omega)).den ν) by rw [zX, List.getElem?_map, List.getElem?_eq_getElem (by omega)]; rfl] at this
      rw [List.getElem?_eq_some_iff] at this
      obtain ⟨q, hq⟩ := this
      rw [hq]; simp; omega
    have hmod : ((ents 0 (SV.denL ν ks) (SV.denL ν vs)).toArray.modify j fun e => { e with val := v.den ν }) = (ents 0 (SV.denL ν ks) (SV.denL ν (zS vs j v))).toArray := by
     apply Array.ext'
     apply List.ext_getElem?
     intro i
     have hlen' : (SV.denL ν ks).length = (SV.denL ν (zS vs j v)).length := by simp [zJ, h5, zt]
     rw [Array.getElem?_toList, Array.getElem?_modify]
     simp only [List.getElem?_toArray]
     rw [zCc _ _ _ _ hlen, zCc _ _ _ _ hlen', zP, zX ν (vs.set j v), List.map_set]
     by_cases hij : j = i
     ·subst hij
      rw [if_pos rfl, hkj]
      simp [zX, hj]
     ·rw [if_neg hij, List.getElem?_set_ne hij, <- zX]
    obtain ⟨hs', hl, hb⟩ := zM2 h.hp ho h3 w2 (by rw [zt]; exact h5)
    have hrun : (Instr.entryStore t (.map (some (ν ob).blk)) (.int kk (Int.ofNat j)) (v.den ν)).run P w = .ok () { w with heap := w.heap.setIfInBounds (ν ob).blk (.map (ents 0 (SV.denL ν ks) (SV.denL ν (zS vs j v))).toArray ks.length) } := by
     have ha : (asInt (.int kk (Int.ofNat j))).run P w = .ok (Int.ofNat j) w := rfl
     simp only [Instr.entryStore, Sem.run_bind, MapKept.run_getObj_map h2, Result.andThen, ha, hidx]
     rw [MapKept.run_setObj_map _ h2, hmod]
    have hr : (execOp a.eval o).run P w = .ok .skip { w with heap := w.heap.setIfInBounds (ν ob).blk (.map (ents 0 (SV.denL ν ks) (SV.denL ν (zS vs j v))).toArray ks.length) } := by
     simp only [execOp, he, m1, s1, x1, SV.den, IE.den]
     rw [Sem.run_bind, hrun]
     rfl
    rw [hr, Oper.upon_skip]
    rw [zGY, zA2] at hp
    have g2 : Sat B ν { σ with hp := zS σ.hp ob (.map ks (zS vs j v)) } a _ := zAL h hl (zb.refl _ _) hs' hb
    have g3 := z0 g2 o.dst (v := SV.undef) (by simp [SV.undef, SV.wf, SV.wfL])
    have := hn _ _ _ _ (by rw [zAR]; exact hl) (zb.refl _ _) g3 hb hp
    simpa [SV.den, SV.undef, SV.denL, undef] using this
   ·simp at hx
  ·simp at hx
 ·simp at hx
theorem zYG {hp : List SObj} (h : z6 B ν hp w) {o : Nat} {x : SObj} (ho : hp[o]? = some x) (hal : x.alive = true) {inp : Bool} {cs : List Col} {m : NE} (hown : x.owns (ν o) = !(inp && (ν o).nil)) {w' : World} (hr : zw B (ν o) w' true inp cs m.den)
  (hs : w'.heap.size = w.heap.size) (hk : ∀ k, (k ≠ (ν o).blk ∨ (inp && (ν o).nil) = true) -> w'.heap[k]? = w.heap[k]?) :
  z6 B ν (zS hp o (.row true inp cs m)) w' /\ ∀ o', Live hp o' -> Live (zS hp o (.row true inp cs m)) o' := by
 have hlt : o < hp.length := (List.getElem?_eq_some_iff.1 ho).1
 have hl : ∀ o', Live hp o' ↔ Live (zS hp o (.row true inp cs m)) o' := by
  intro o'
  unfold Live
  rw [zP]
  by_cases he : o' = o
  ·subst he
   simp only [List.getElem?_set_self hlt]
   exact ⟨fun _ => ⟨_, rfl, rfl⟩, fun _ => ⟨_, ho, hal⟩⟩
  ·rw [List.getElem?_set_ne (by omega)]
 have hown' : ∀ o', zAc ν (zS hp o (.row true inp cs m)) o' -> zAc ν hp o' := by
  intro o' ⟨y, hy, e⟩
  rw [zP] at hy
  by_cases he : o' = o
  ·subst he
   simp only [List.getElem?_set_self hlt, Option.some.injEq] at hy
   subst hy
   exact ⟨_, ho, by rw [hown]; simpa [SObj.owns] using e⟩
  ·rw [List.getElem?_set_ne (by omega)] at hy; exact ⟨y, hy, e⟩
 refine ⟨⟨?_, fun o1 o2 h1 h2 e => h.apart o1 o2 (hown' o1 h1) (hown' o2 h2) e⟩, fun o' h' => (hl o').1 h'⟩
 intro o' y hx
 by_cases he : o' = o
 ·subst he
  rw [zP] at hx
  simp only [List.getElem?_set_self hlt, Option.some.injEq] at hx
  subst hx
  exact hr
 ·rw [zP, List.getElem?_set_ne (by omega)] at hx
  refine (h.obj o' y hx).mono (zBQ hx) (fun o h => (hl o).1 h) (zb.refl _ _) (by omega) (fun hlo' hor _ => ?_)
  refine hk _ ?_
  cases hn : (inp && (ν o).nil) with
  | true => exact .inr rfl
  | false =>
   left
   intro e
   rcases hor with h1 | h1
   ·exact he (h.apart o' o ⟨y, hx, h1⟩ ⟨_, ho, by rw [hown, hn]; rfl⟩ e)
   ·have hB' := (zw.lo hr hn rfl).1
    exact hB' (e ▸ h1)
theorem zO9 (h : Sat B ν σ a w) {o : Oper} {k : Option Nat} {K : St -> Prop} {p : Prop} (hx : zNa P k o σ K = some p) (hp : p) {next : Act -> World -> Prop} {Q : Exit -> Act -> World -> Prop}
  (hn : zAC B ν σ.hp w K next) : o.wp P a w next Q := by
 unfold Oper.wp
 unfold zNa at hx
 split at hx
 ·rename_i t pp x he
  split at hx
  ·rename_i inp ob sz i c v hpe hve
   simp only [Option.some.injEq] at hx; subst hx
   obtain ⟨p1, _⟩ := zB h.t hpe
   obtain ⟨v1, v2⟩ := zB h.t hve
   obtain ⟨w', s1, s2⟩ := zLI h hp hn
   have hr : (execOp a.eval o).run P w = .ok .skip w' := by
    simp only [execOp, he, p1, v1, SV.den, Instr.storeAt, Instr.sureAddr]
    rw [Sem.run_bind, Sem.run_bind]
    simp only [Sem.run, pure, Result.andThen]
    rw [s1]
   rw [hr, Oper.upon_skip]
   exact s2
  ·simp at hx
 ·rename_i t len cap he
  split at hx
  ·rename_i kl l kc c hl hc
   simp only [Option.some.injEq] at hx; subst hx
   obtain ⟨l1, _⟩ := zB h.t hl
   obtain ⟨c1, _⟩ := zB h.t hc
   obtain ⟨v, w', m1, m2⟩ := zPT (kl := kl) (kc := kc) h hp hn
   have hr : (execOp a.eval o).run P w = .ok (.value v) w' := by
    simp only [execOp, he, l1, c1, SV.den]
    rw [Sem.run_bind, m1]
    rfl
   rw [hr, Oper.upon_value]
   exact m2
  ·simp at hx
 ·rename_i t parts he
  split at hx
  ·rename_i e hparts hu
   split at hx
   ·rename_i inf zs hi hzs
    simp only [Option.some.injEq] at hx; subst hx
    obtain ⟨i', z, hi', hz, z1, z2, z3, z4⟩ := zDD hzs
    rw [hi] at hi'; cases hi'
    have u1 : (underlying t).run P w = .ok (.slice e) w := by simp [underlying, program, Sem.run, hu, pure]
    have s1 : (sizeOf e).run P w = .ok inf.size w := by simp [sizeOf, typeInfo, program, hi, Sem.run, pure]
    have hp0 : parts = #[] := by apply Array.ext'; simpa using hparts
    have hr : (execOp a.eval o).run P w = .ok (.value (.slice (some ⟨w.heap.size, 0, none⟩) 0 0)) (w.alloc (.cells #[] e)) := by
     simp only [execOp, he, Instr.buildSlice]
     rw [Sem.run_bind, Sem.run_bind, u1]
     simp only [Result.andThen]
     rw [Sem.run_bind, s1]
     simp [hp0, Instr.fill, Result.andThen, Sem.run, pure, zO4]
     have : Array.range 0 = #[] := by apply Array.ext'; simp
     rw [this, Array.map_empty]
    rw [hr, Oper.upon_value]
    have := zIH h (w0 := w) rfl (ze.refl B w) (cells := #[]) (e := e) (cs := zs) (m := 0) (sz := inf.size) ⟨by simp, z2, by simp, by simp⟩ o.dst (.lit 0) (.lit 0) (.lit 0) (.lit 0) rfl hn false (fun _ _ => zFa rfl _ _ _) hp
    simpa [zAF] using this
   ·simp at hx
  ·simp at hx
 ·rename_i c he
  split at hx
  ·rename_i s x t t2 hcal hargs htys
   split at hx
   ·rename_i s' x' hs hx'
    simp only [Option.some.injEq] at hx; subst hx
    obtain ⟨s1, s2⟩ := zB h.t hs
    obtain ⟨x1, _⟩ := zB h.t hx'
    obtain ⟨v, w', m1, m2⟩ := zML (ty := o.type) h s2 hp hn
    have e0 : c.args = #[s, x] := by apply Array.ext'; simpa using hargs
    have e1 : c.argTypes = #[t, t2] := by apply Array.ext'; simpa using htys
    have hr : (execOp a.eval o).run P w = .ok (.value v) w' := by
     simp [execOp, he, resolve, hcal, e0, e1, s1, x1, invoke, builtin, m1]
    rw [hr, Oper.upon_value]
    exact m2
   ·simp at hx
  ·simp at hx
 ·rename_i t he
  split at hx
  ·simp only [Option.some.injEq] at hx; subst hx
   rw [zA2] at hp
   have hr : (execOp a.eval o).run P w = .ok (.value (.map (some w.heap.size))) (w.alloc (.map #[] 0)) := by
    simp only [execOp, he, Option.map_none]
    rfl
   rw [hr, Oper.upon_value]
   obtain ⟨hs, hl, ha⟩ := zIt (x := .map [] []) (obj := .map #[] 0) h.hp h.base (w0 := w) rfl (fun _ _ => by
    refine ⟨by rw [zDN]; exact h.base.top, ?_, trivial, trivial, rfl⟩
    rw [zDN, heap_alloc_new]; rfl)
   have hbel : ze B w (w.alloc (.map #[] 0)) := (ze.refl B w).alloc h.base _
   have h2 : Sat B _ { σ with hp := σ.hp ++ [.map [] []] } a _ := zAL h hl ha hs hbel
   have hlv : Live (σ.hp ++ [.map [] []]) σ.hp.length := ⟨.map [] [], by simp, rfl⟩
   have h3 := z0 h2 o.dst (v := .mapv σ.hp.length) hlv
   have := hn _ _ _ _ (by rw [zAR]; exact hl) ha h3 hbel hp
   simpa [SV.den, zDN] using this
  ·simp at hx
 ·rename_i t m ky x he
  exact zGy h (he := .inl he) hx hp hn
 ·rename_i t m ky x he
  exact zGy h (he := .inr he) hx hp hn
 ·rename_i t m ky he
  exact zNE h he hx hp hn
 ·rename_i t m s x he
  exact zHI h he hx hp hn
 ·rename_i src dst x he
  split at hx
  ·rename_i e v hs hd hxe
   split at hx
   ·rename_i s he8 hsv
    simp only [Option.some.injEq] at hx; subst hx
    obtain ⟨x1, _⟩ := zB h.t hxe
    rw [zDV hsv] at x1
    have hge := grownCap_ge w s.size 0 e
    have hle : grownCap w s.size 0 e <= 9223372036854775807 := by
     have := grownCap_le_maxLen w s.size 0 e (by simp only [maxLen]; omega)
     simpa [maxLen] using this
    have hk := hp.2 _ hge hle
    have hr : (execOp a.eval o).run P w = .ok (.value (.slice (some ⟨w.heap.size, 0, none⟩) s.size (grownCap w s.size 0 e))) (w.drew.alloc (.cells (bytesRow s (grownCap w s.size 0 e)) e ((bytesRow s (grownCap w s.size 0 e)).size, (bytesRow s (grownCap w s.size 0 e)).size + 1))) := by
     simp only [execOp, he, x1]
     rw [Sem.run_bind, run_bytes_of_string w src dst e s hs hd he8]
     rfl
    rw [hr, Oper.upon_value]
    have hbs : (bytesRow s (grownCap w s.size 0 e)).size = grownCap w s.size 0 e := by
     have : s.data.size = s.size := rfl
     simp [bytesRow, this]; omega
    have := zIH h (w0 := w.drew) rfl (zCy B w) (cells := bytesRow s (grownCap w s.size 0 e)) (e := e) (m := grownCap w s.size 0 e) (sz := 1) (cs := [.int .u8 (if zDU v then fun e => .lit (zDc s e) else fun e => .var (zDc s e))])
     (zF3 (by simpa using hbs) rfl fun e' he' j c hj => by
      cases j with
      | zero =>
       simp at hj; subst hj
       refine ⟨.int .u8 (zDc s e'), ?_, rfl, ?_⟩
       ·simp only [Nat.mul_one, Nat.add_zero, bytesRow, Array.toList_append, Array.toList_map, Array.toList_replicate]
        by_cases hlt : e' < s.size
        ·have hlt' : e' < s.data.size := hlt
         rw [List.getElem?_append_left (by simpa using hlt')]
         simp only [List.getElem?_map, Array.getElem?_toList, Array.getElem?_eq_getElem hlt', Option.map_some, zDc, Option.getD_some]
        ·have hlt' : ¬ e' < s.data.size := hlt
         have hsz : s.data.size = s.size := rfl
         rw [List.getElem?_append_right (by simp; omega)]
         have : e' - s.data.size < grownCap w s.size 0 e - s.size := by omega
         have hno : s.data[e']? = none := Array.getElem?_eq_none (by omega)
         have hz : zDc s e' = 0 := by simp [zDc, hno]
         rw [hz]
         have : e' - s.size < grownCap w s.size 0 e - s.size := by omega
         simp [List.getElem?_replicate, hsz, this]
       ·simp only [Col.den]
        split <;> rfl
      | succ j => simp at hj) o.dst (.lit 0) (if zDU v then .lit s.size else .var s.size) (.var (grownCap w s.size 0 e)) (.var (grownCap w s.size 0 e)) rfl hn false (fz := ((bytesRow s (grownCap w s.size 0 e)).size, (bytesRow s (grownCap w s.size 0 e)).size + 1)) (fun i hi => by
       have hd : (w.drew).heap.size = w.heap.size := rfl
       rw [<- hd]
       rw [Nat.mul_one] at hi
       have : ¬ grownCap w s.size 0 e <= i := by omega
       have hat : (w.drew.alloc (.cells (bytesRow s (grownCap w s.size 0 e)) e ((bytesRow s (grownCap w s.size 0 e)).size, (bytesRow s (grownCap w s.size 0 e)).size + 1))).heap[w.drew.heap.size]? = some (.cells (bytesRow s (grownCap w s.size 0 e)) e ((bytesRow s (grownCap w s.size 0 e)).size, (bytesRow s (grownCap w s.size 0 e)).size + 1)) := by
        exact heap_alloc_new _ _
       unfold World.frozen?
       rw [hat]
       simp only [hbs]
       simp
       omega) hk
    rw [zHN] at this
    simpa [zAF, zCi] using this
   ·simp at hx
  ·rename_i e0 e ob off len cap hs hd hxe
   split at hx
   ·rename_i vs ty he8 ho
    split at hx
    ·rename_i cols m hv
     split at hx
     ·rename_i hsd
      subst hsd
      simp only [Option.some.injEq] at hx; subst hx
      obtain ⟨x1, x2⟩ := zB h.t hxe
      obtain ⟨r1, r2, r3⟩ := zQp h.hp ho hv (by simp [zII, ho])
      obtain ⟨g1, g2, g3⟩ := h.hp.obj ob _ ho
      have hw : (w.freeze ⟨(ν ob).blk, (SV.denL ν vs).length, none⟩ 1).heap[(ν ob).blk]? = some (.cells (SV.denL ν vs).toArray ty ((SV.denL ν vs).length, (SV.denL ν vs).length + 1)) := by
       simp [World.freeze, Array.getElem?_modify, g2]
      have hr : (execOp a.eval o).run P w = .ok (.value (.slice (some ⟨(ν ob).blk, off, none⟩) len.den cap.den)) (w.freeze ⟨(ν ob).blk, (SV.denL ν vs).length, none⟩ 1) := by
       simp only [execOp, he, x1, SV.den]
       rw [Sem.run_bind]
       have hsh : w.shape? (ν ob).blk = some (ty, (SV.denL ν vs).length) := by simp [World.shape?, g2]
       have u1 : (underlying src).run P w = .ok (.slice e) w := by simp [underlying, program, Sem.run, hd, pure]
       have u2 : (underlying e).run P w = .ok (.int .u8) w := by simp [underlying, program, Sem.run, he8, pure]
       have : (convert src src (.slice (some ⟨(ν ob).blk, off, none⟩) len.den cap.den)).run P w = .ok (.slice (some ⟨(ν ob).blk, off, none⟩) len.den cap.den) (w.freeze ⟨(ν ob).blk, (SV.denL ν vs).length, none⟩ 1) := by
        simp [convert, u1, u2, markStringish, hsh]
       rw [this]; rfl
      rw [hr, Oper.upon_value]
      have hm : m.den = vs.length := by
       simp only [zAB] at hv
       split at hv
       ·simp at hv
       ·simp only [Option.some.injEq, Prod.mk.injEq] at hv
        obtain ⟨_, _, rfl⟩ := hv
        simp [NE.den]
      have hc1 : cols.length = 1 := by
       simp only [zAB] at hv
       split at hv
       ·simp at hv
       ·simp only [Option.some.injEq, Prod.mk.injEq] at hv
        obtain ⟨_, rfl, _⟩ := hv
        simp
      have hlen : (SV.denL ν vs).length = vs.length := zJ ν vs
      have hrs : zw B (ν ob) (w.freeze ⟨(ν ob).blk, (SV.denL ν vs).length, none⟩ 1) true false cols m.den := by
       refine ⟨r1.empty, fun h1 h2 => ⟨(r1.lo h1 h2).1, ?_⟩, fun _ h => (by cases h), fun e' he' j c hj => ?_, fun _ e' he' j hj => ?_⟩
       ·have := (r1.lo h1 h2).2; simpa [World.freeze] using this
       ·obtain ⟨v, v1, v2⟩ := r1.cell e' he' j c hj
        refine ⟨v, ?_, v2⟩
        rw [<- v1]
        simp only [World.cell?, hw, g2]
       ·simp only [World.frozen?, hw, Pl.base, hc1, Nat.mul_one, cond_false]
        rw [hm] at he'
        simp
        omega
      have hk : ∀ k, (k ≠ (ν ob).blk ∨ (false && (ν ob).nil) = true) -> (w.freeze ⟨(ν ob).blk, (SV.denL ν vs).length, none⟩ 1).heap[k]? = w.heap[k]? := by
       intro k hk
       have hk' : ¬ (ν ob).blk = k := by
        rcases hk with hk | hk
        ·exact fun e => hk e.symm
        ·simp at hk
       simp only [World.freeze]
       rw [if_neg (by decide)]
       simp [Array.getElem?_modify, hk']
      obtain ⟨s1, s2⟩ := zYG (inp := false) (cs := cols) (m := m) h.hp ho r3 r2 hrs (by simp [World.freeze]) hk
      have hbel : ze B w (w.freeze ⟨(ν ob).blk, (SV.denL ν vs).length, none⟩ 1) := by
       refine ⟨rfl, rfl, rfl, by simp [World.freeze], fun k hb => hk k (.inl fun e => g1 (e ▸ hb))⟩
      have h2 : Sat B ν { σ with hp := zS σ.hp ob (.row true false cols m) } a (w.freeze ⟨(ν ob).blk, (SV.denL ν vs).length, none⟩ 1) := zAL h s2 (zb.refl _ _) s1 hbel
      have hlv : SV.wf (Live (zS σ.hp ob (.row true false cols m))) (.sliceE false ob 1 (.lit off) len cap) := s2 _ x2
      have h3 := z0 h2 o.dst (v := .sliceE false ob 1 (.lit off) len cap) hlv
      rw [zA2] at hp
      have := hn _ _ _ _ (by rw [zAR]; exact s2) (zb.refl _ _) h3 hbel hp
      simpa [SV.den, Pl.base, zAF] using this
     ·simp at hx
    ·simp at hx
   ·simp at hx
  ·simp at hx
 ·simp at hx
end
end Go.Proofs.YtajcmjjgnbaahaaGreat.Sx
