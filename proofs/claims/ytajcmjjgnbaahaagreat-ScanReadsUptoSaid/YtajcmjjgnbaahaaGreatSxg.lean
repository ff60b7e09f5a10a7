/- Symbolic execution is sound: what turns rows that have grown by so many known cells. -/
import Derived.Test.YtajcmjjgnbaahaaGreatSxr
set_option linter.unusedVariables false
set_option linter.unusedSimpArgs false
namespace Go.Proofs.YtajcmjjgnbaahaaGreat.Sx
open Go Go.RowKit
section
variable {P : Program} {Γ : FuncId -> Option Cal} {B : Nat -> Prop} {n : Nat -> Prop} {ν : Nat -> Pl} {σ : St} {a : Act} {w : World}
theorem zHW {hp : List SObj} (h : z6 B ν hp w) {w' : World} (hsz : w.heap.size <= w'.heap.size) (hk : ∀ k, k < w.heap.size -> ((∃ o, zAc ν hp o /\ (ν o).blk = k) ∨ B k) -> w'.heap[k]? = w.heap[k]?) : z6 B ν hp w' :=
 ⟨fun o x ho => (h.obj o x ho).mono (zBQ ho) (fun _ h => h) (zb.refl _ _) hsz (fun _ hor hlt => hk _ hlt (hor.imp (fun hw => ⟨o, ⟨x, ho, hw⟩, rfl⟩) id)), h.apart⟩
def lay (ν : Nat -> Pl) (k : Nat) (p : Pl) : Nat -> Pl := fun i => if i = k then p else ν i
theorem zRU (ν : Nat -> Pl) (k : Nat) (p : Pl) : lay ν k p k = p := by simp [lay]
theorem zXA {hp : List SObj} (h : z6 B ν hp w) {y : SObj} {p : Pl} (hfree : ∀ o, zAc ν hp o -> (ν o).blk ≠ p.blk)
  (hy : (∀ o, Live hp o -> Live (hp ++ [y]) o) -> zb (Live hp) ν (lay ν hp.length p) -> zAN B (lay ν hp.length p) (Live (hp ++ [y])) w hp.length y) :
  z6 B (lay ν hp.length p) (hp ++ [y]) w /\ (∀ o, Live hp o -> Live (hp ++ [y]) o) /\ zb (Live hp) ν (lay ν hp.length p) := by
 have ha : zb (Live hp) ν (lay ν hp.length p) := fun o ho => by
  have := zEM ho
  simp [lay, show o ≠ hp.length by omega]
 have hl : ∀ o, Live hp o -> Live (hp ++ [y]) o := fun o ho => by
  have hlt := zEM ho
  obtain ⟨x, hx, e⟩ := ho
  exact ⟨x, by rw [List.getElem?_append_left hlt]; exact hx, e⟩
 have hat : ∀ o x, (hp ++ [y])[o]? = some x -> (o < hp.length /\ hp[o]? = some x) ∨ (o = hp.length /\ x = y) := fun o x hx => by
  rw [List.getElem?_append] at hx
  split at hx
  ·rename_i hlt; exact .inl ⟨hlt, hx⟩
  ·rename_i hge
   have h1 : o - hp.length < 1 := by simpa using (List.getElem?_eq_some_iff.1 hx).1
   have h0 : o - hp.length = 0 := by omega
   rw [h0] at hx
   simp at hx
   exact .inr ⟨by omega, hx.symm⟩
 have hown : ∀ o, zAc (lay ν hp.length p) (hp ++ [y]) o -> o = hp.length ∨ (o < hp.length /\ zAc ν hp o) := fun o ⟨x, hx, e⟩ => by
  rcases hat o x hx with ⟨h1, h2⟩ | ⟨h1, _⟩
  ·refine .inr ⟨h1, x, h2, ?_⟩
   simpa [lay, show o ≠ hp.length by omega] using e
  ·exact .inl h1
 refine ⟨⟨fun o x hx => ?_, fun o o' ho ho' e => ?_⟩, hl, ha⟩
 ·rcases hat o x hx with ⟨h1, h2⟩ | ⟨rfl, rfl⟩
  ·exact (h.obj o x h2).mono (zBQ h2) hl ha (Nat.le_refl _) (fun _ _ _ => rfl)
  ·exact hy hl ha
 ·rcases hown o ho with h1 | ⟨h1, h2⟩ <;> rcases hown o' ho' with h3 | ⟨h3, h4⟩
  ·omega
  ·simp only [lay, h1, if_true, show o' ≠ hp.length by omega, if_false] at e
   exact absurd e.symm (hfree o' h4)
  ·simp only [lay, h3, if_true, show o ≠ hp.length by omega, if_false] at e
   exact absurd e (hfree o h2)
  ·simp only [lay, show o ≠ hp.length by omega, show o' ≠ hp.length by omega, if_false] at e
   exact h.apart o o' h2 h4 e
theorem zMh {hp : List SObj} (h : z6 B ν hp w) {o : Nat} {x y : SObj} (ho : hp[o]? = some x) (hal : x.alive = true) (hown : x.owns (ν o) = true) (hya : y.alive = true) {w' : World}
  (hs : w.heap.size <= w'.heap.size) (hk : ∀ k, k ≠ (ν o).blk -> w'.heap[k]? = w.heap[k]?) (hy : (∀ o', Live hp o' -> Live (zS hp o y) o') -> zAN B ν (Live (zS hp o y)) w' o y) :
  z6 B ν (zS hp o y) w' /\ ∀ o', Live hp o' -> Live (zS hp o y) o' := by
 have hlt : o < hp.length := (List.getElem?_eq_some_iff.1 ho).1
 have hl : ∀ o', Live hp o' -> Live (zS hp o y) o' := fun o' ⟨z, hz, e⟩ => by
  by_cases he : o' = o
  ·subst he; exact ⟨y, by rw [zP, List.getElem?_set_self hlt], hya⟩
  ·exact ⟨z, by rw [zP, List.getElem?_set_ne (by omega)]; exact hz, e⟩
 have hback : ∀ o', zAc ν (zS hp o y) o' -> zAc ν hp o' := fun o' ⟨z, hz, e⟩ => by
  rw [zP] at hz
  by_cases he : o' = o
  ·subst he; exact ⟨x, ho, hown⟩
  ·rw [List.getElem?_set_ne (by omega)] at hz; exact ⟨z, hz, e⟩
 refine ⟨⟨fun o' z hz => ?_, fun o1 o2 h1 h2 e => h.apart o1 o2 (hback o1 h1) (hback o2 h2) e⟩, hl⟩
 rw [zP] at hz
 by_cases he : o' = o
 ·subst he
  rw [List.getElem?_set_self hlt] at hz; cases hz
  exact hy hl
 ·rw [List.getElem?_set_ne (by omega)] at hz
  refine (h.obj o' z hz).mono (zBQ hz) hl (zb.refl _ _) hs (fun _ hor _ => hk _ fun e => ?_)
  rcases hor with h1 | h1
  ·exact he (h.apart o' o ⟨z, hz, h1⟩ ⟨x, ho, hown⟩ e)
  ·exact h.low o ⟨x, ho, hown⟩ (e ▸ h1)
theorem zLv {hp : List SObj} (h : z6 B ν hp w) {o : Nat} {x : SObj} (ho : hp[o]? = some x) (hown : x.owns (ν o) = true) : ∀ o', zAc ν (zS hp o .husk) o' -> (ν o').blk ≠ (ν o).blk := by
 intro o' ⟨z, hz, e⟩ he
 have hlt : o < hp.length := (List.getElem?_eq_some_iff.1 ho).1
 rw [zP] at hz
 by_cases hx : o' = o
 ·subst hx; rw [List.getElem?_set_self hlt] at hz; cases hz; simp [SObj.owns] at e
 ·rw [List.getElem?_set_ne (by omega)] at hz
  exact hx (h.apart o' o ⟨z, hz, e⟩ ⟨x, ho, hown⟩ he)
theorem zEp (h : Sat B ν σ a w) {hp1 : List SObj} {w' : World} (h1 : z6 B ν hp1 w') (hl1 : ∀ o, Live σ.hp o -> Live hp1 o) (hb : ze B w w') {p : Pl} (hlow : ¬ B p.blk) (hfree : ∀ o, zAc ν hp1 o -> (ν o).blk ≠ p.blk)
  {sz len : Nat} {cs : List SV} (hw : SV.wfL (Live hp1) cs) (hg : zFU w' p sz (SV.denL ν cs)) {d : Option Nat} {K : St -> Prop} {next : Act -> World -> Prop} (hn : zAC B ν σ.hp w K next) (hk : zBq σ d sz hp1 cs len K) :
  next (a.put d (.slice (some ⟨p.blk, 0, none⟩) len p.off)) w' := by
 unfold zBq at hk
 rw [zCu, zA2] at hk
 obtain ⟨s1, s2, s3⟩ := zXA h1 (y := .grown sz cs) (p := p) hfree fun hl ha => by
  refine ⟨by rw [zRU]; exact hlow, ?_, zj hl _ hw⟩
  rw [zRU, zy ha cs hw]; exact hg
 have hl2 : ∀ o, Live σ.hp o -> Live (hp1 ++ [.grown sz cs]) o := fun o ho => s2 o (hl1 o ho)
 have ha2 : zb (Live σ.hp) ν (lay ν hp1.length p) := fun o ho => s3 o (hl1 o ho)
 have h2 : Sat B _ { σ with hp := hp1 ++ [.grown sz cs] } a w' := zAL h hl2 ha2 s1 hb
 have hlv : Live (hp1 ++ [.grown sz cs]) hp1.length := ⟨.grown sz cs, by simp, rfl⟩
 have h3 := z0 h2 d (v := .sliceG hp1.length sz 0 len) hlv
 have := hn _ _ _ _ (by rw [zAR]; exact hl2) ha2 h3 hb hk
 simpa [SV.den, zRU] using this
theorem zKK (t t2 ty e : TypeId) (d2 : TypeDesc) (i : TypeInfo) (z : Value) (ht : P.underlying t = some (.slice e)) (hi : P.info? e = some i) (hz : i.zero = some z) (ht2 : P.underlying t2 = some d2) (hd2 : ∀ k, d2 ≠ .int k)
  (base : Option Addr) (sLen sCap n : Nat) (x : Value) (hlen : ∀ w : World, (Builtin.lenOf x).run P w = .ok n w) (olds news : List Value) (hfo : (Builtin.firstCells i.size sLen (.slice base sLen sCap)).run P w.drew = .ok olds.toArray w.drew)
  (hf : (Builtin.firstCells i.size n x).run P w.drew = .ok news.toArray w.drew)
  (hg : sCap < sLen + n) (h63 : ((sLen + n : Nat) : Int) <= 9223372036854775807) (hfit : Builtin.nextslicecap (sLen + n) sCap * i.bytes <= 281474976710656) :
  (Builtin.append_ #[t, t2] ty #[.slice base sLen sCap, x]).run P w =
   .ok (.slice (some ⟨w.heap.size, 0, none⟩) (sLen + n) (grownCap w (sLen + n) sCap e))
    (w.drew.alloc (.cells (olds ++ news ++ (Builtin.zeroCells z.cells (grownCap w (sLen + n) sCap e - (sLen + n))).toList).toArray e)) := by
 have hn : ¬ (sLen + n <= sCap) := by omega
 have h63' : ¬ (9223372036854775807 < ((sLen : Int) + (n : Int))) := by omega
 have h48' : ¬ (281474976710656 < Builtin.nextslicecap (sLen + n) sCap * i.bytes) := by omega
 have hzero : (match d2 with | .int _ => true | _ => false) = false := by cases d2 <;> first | rfl | exact absurd rfl (hd2 _)
 simp [Builtin.append_, run_underlying ht, run_underlying ht2, hzero, sizeOf, typeInfo, zeroValue, hi, hz, hlen, hn, h63', h48', Question.forced, hf, hfo, newRow, grownCap]
 congr 2
 apply Array.ext'
 simp [List.append_assoc]
theorem zCW (t t2 ty e : TypeId) (d2 : TypeDesc) (i : TypeInfo) (ht : P.underlying t = some (.slice e)) (hi : P.info? e = some i) (ht2 : P.underlying t2 = some d2) (hd2 : ∀ k, d2 ≠ .int k)
  (blk off sLen sCap n : Nat) (x : Value) (hlen : ∀ w : World, (Builtin.lenOf x).run P w = .ok n w) (news : List Value) (hf : (Builtin.firstCells i.size n x).run P w = .ok news.toArray w) {w' : World}
  (hroom : sLen + n <= sCap) (hst : (storeCells ⟨blk, off + sLen * i.size, none⟩ news).run P w = .ok () w') :
  (Builtin.append_ #[t, t2] ty #[.slice (some ⟨blk, off, none⟩) sLen sCap, x]).run P w = .ok (.slice (some ⟨blk, off, none⟩) (sLen + n) sCap) w' := by
 have hzero : (match d2 with | .int _ => true | _ => false) = false := by cases d2 <;> first | rfl | exact absurd rfl (hd2 _)
 simp [Builtin.append_, run_underlying ht, run_underlying ht2, hzero, sizeOf, typeInfo, hi, hlen, hroom, hf, Addr.add_lit, hst]
theorem zKJ (t t2 ty e : TypeId) (d2 : TypeDesc) (i : TypeInfo) (ht : P.underlying t = some (.slice e)) (hi : P.info? e = some i) (ht2 : P.underlying t2 = some d2) (hd2 : ∀ k, d2 ≠ .int k)
  (sLen sCap n : Nat) (x : Value) (hlen : ∀ w : World, (Builtin.lenOf x).run P w = .ok n w) (news : List Value) (hf : (Builtin.firstCells i.size n x).run P w = .ok news.toArray w)
  (hroom : sLen + n <= sCap) :
  (Builtin.append_ #[t, t2] ty #[.slice none sLen sCap, x]).run P w = .ok (.slice none (sLen + n) sCap) w := by
 have hzero : (match d2 with | .int _ => true | _ => false) = false := by cases d2 <;> first | rfl | exact absurd rfl (hd2 _)
 simp [Builtin.append_, run_underlying ht, run_underlying ht2, hzero, sizeOf, typeInfo, hi, hlen, hroom, hf]
theorem zG0 {hp : List SObj} (hobj : ∀ o x, hp[o]? = some x -> zAN B ν n w o x) {sz : Nat} {e t t2 : TypeId} (ht : P.underlying t = some (.slice e)) {x : SV} {m : Nat} {l : List SV} (h : zOF P hp sz e t t2 x = some (m, l)) :
  (∃ d2, P.underlying t2 = some d2 /\ ∀ k, d2 ≠ .int k) /\ (∀ w : World, (Builtin.lenOf (x.den ν)).run P w = .ok m w) /\ (Builtin.firstCells sz m (x.den ν)).run P w = .ok (SV.denL ν l).toArray w /\ l.length = m * sz /\ SV.wfL n l := by
 have old : ∀ x, (if t2 = t then zI6 hp sz x else none) = some (m, l) -> (∃ d2, P.underlying t2 = some d2 /\ ∀ k, d2 ≠ .int k) /\ (∀ w : World, (Builtin.lenOf (x.den ν)).run P w = .ok m w) /\ (Builtin.firstCells sz m (x.den ν)).run P w = .ok (SV.denL ν l).toArray w /\ l.length = m * sz /\ SV.wfL n l := by
  intro x hx0
  split at hx0
  ·rename_i e2
   obtain ⟨b, c, h1, h2, h3, h4, h5, h6⟩ := zFO (P := P) hobj hx0
   rw [h1, e2]
   exact ⟨⟨_, ht, by simp⟩, fun w => by simp [Builtin.lenOf, Sem.run, pure], h4, h5, h6⟩
  ·simp at hx0
 unfold zOF at h
 split at h
 ·rename_i s
  split at h
  ·rename_i h1 h2
   split at h
   ·rename_i hs
    subst hs
    simp only [Option.some.injEq, Prod.mk.injEq] at h
    obtain ⟨rfl, rfl⟩ := h
    refine ⟨⟨_, h1, by simp⟩, fun w => by simp [Builtin.lenOf, SV.den, Sem.run, pure], ?_, ?_, ?_⟩
    ·simp only [SV.den, Builtin.firstCells, Sem.run_pure]
     congr 1
     have he : (s.extract 0 s.size).data = s.data := by
      have : s.extract 0 s.size = s := by simp
      rw [this]
     rw [he]
     apply Array.ext'
     simp [zBX, zX, SV.den, IE.den]
    ·simp [zBX]
    ·rw [zz]
     intro v hv
     simp only [zBX, List.mem_map] at hv
     obtain ⟨b, _, rfl⟩ := hv
     trivial
   ·simp at h
  ·simp at h
 ·exact old _ h
theorem zMw {l : List SV} (h : l.all SV.one = true) : ∀ v ∈ SV.denL ν l, v.oneCell' = true := by
 intro v hv
 rw [zX] at hv
 obtain ⟨s, hs, rfl⟩ := List.mem_map.1 hv
 exact zFI ν (List.all_eq_true.1 h s hs)
theorem zHb {e : TypeId} {inf : TypeInfo} (hi : P.info? e = some inf) {z : SV} (hz : zBA P e = some z) : ∃ zv, inf.zero = some zv /\ zv.cells.size = z.cells.length /\ (∀ ν : Nat -> Pl, z.den ν = zv) /\ (∀ p, z.wf p) := by
 unfold zBA at hz
 rw [hi] at hz
 simp only at hz
 split at hz
 ·rename_i v hv
  have hs := fun ν : Nat -> Pl => fun p => zCY ν p hz
  have h1 := (hs nu0 (fun _ => True)).1
  refine ⟨v, hv, ?_, fun ν => (hs ν fun _ => True).1, fun p => (hs nu0 p).2⟩
  have := zAb nu0 z
  rw [h1] at this
  rw [this]; simp [zJ]
 ·simp at hz
theorem zJo {z : Array Value} {n : Nat} {v : Value} (h : v ∈ Builtin.zeroCells z n) : v ∈ z.toList := by
 unfold Builtin.zeroCells at h
 simp only [Array.mem_map, Array.mem_range] at h
 obtain ⟨i, hi, rfl⟩ := h
 have hpos : 0 < z.size := by
  rcases Nat.eq_zero_or_pos z.size with h0 | h0
  ·rw [h0, Nat.mul_zero] at hi; omega
  ·exact h0
 have hlt : i % z.size < z.size := Nat.mod_lt _ hpos
 rw [getElem!_pos z _ hlt]
 exact Array.mem_toList_iff.2 (Array.getElem_mem hlt)
theorem zEn (ν : Nat -> Pl) {v : SV} (h : v.one = true) {k : IntKind} {n : Int} (e : v.den ν = .int k n) : v.kind = some k := by
 cases v <;> simp_all [SV.one, SV.den, SV.kind]
theorem zOj (ν : Nat -> Pl) {v : SV} {k : IntKind} (h : v.kind = some k) : ∃ n, v.den ν = .int k n := by
 cases v <;> simp_all [SV.den, SV.kind]
theorem zCV {k : Option IntKind} : ∀ {l : List SV}, zBk k l = true -> ∀ v ∈ l, v.kind = k
 | [], _, v, hv => by simp at hv
 | u :: r, h, v, hv => by
  simp only [zBk, Bool.and_eq_true, decide_eq_true_eq] at h
  rcases List.mem_cons.1 hv with rfl | hv
  ·exact h.1
  ·exact zCV h.2 v hv
theorem zEN (ν : Nat -> Pl) {k : IntKind} {l : List SV} (h : ∀ v ∈ l, v.kind = some k) : ∀ v ∈ SV.denL ν l, ∃ m, v = .int k m := by
 intro v hv
 rw [zX] at hv
 obtain ⟨s, hs, rfl⟩ := List.mem_map.1 hv
 exact zOj ν (h s hs)
theorem zPm (ν : Nat -> Pl) {sz : Nat} {z : SV} {l : List SV} (h1 : l.all SV.one = true) (h : zDK sz z l = true) (hs : sz = 1) {k : IntKind} {n : Int} (h0 : (SV.denL ν l)[0]? = some (.int k n)) :
  (∀ v ∈ SV.denL ν l, ∃ m, v = .int k m) /\ ∀ v ∈ (z.den ν).cells.toList, ∃ m, v = .int k m := by
 subst hs
 cases l with
 | nil => simp [SV.denL] at h0
 | cons u r =>
  simp only [SV.denL, List.getElem?_cons_zero, Option.some.injEq] at h0
  have hu : u.kind = some k := zEn ν (by simpa using (List.all_eq_true.1 h1 u (List.mem_cons_self ..))) h0
  simp only [zDK, Nat.beq_eq_true_eq, Bool.or_eq_true, Bool.not_eq_true'] at h
  rcases h with h | h
  ·simp at h
  ·split at h
   ·rename_i c hc
    simp only [Bool.and_eq_true] at h
    have hk : c.kind = some k := (zCV h.2 u (List.mem_cons_self ..)).symm.trans hu
    refine ⟨zEN ν fun v hv => (zCV h.2 v hv).trans hk, ?_⟩
    rw [zAb, hc]
    exact zEN ν (l := [c]) (by simpa using hk)
   ·simp at h
theorem zD2 {k : Option IntKind} : ∀ {l l' : List SV}, zBk k l = true -> zBk k l' = true -> zBk k (l ++ l') = true
 | [], _, _, h => h
 | u :: r, l', h, h' => by
  simp only [zBk, Bool.and_eq_true, List.cons_append] at h ⊢
  exact ⟨h.1, zD2 h.2 h'⟩
theorem zI7 {sz : Nat} {z : SV} {l l' : List SV} (h : zDK sz z l = true) (h' : zDK sz z l' = true) : zDK sz z (l ++ l') = true := by
 unfold zDK at h h' ⊢
 cases hb : Nat.beq sz 1 with
 | false => rfl
 | true =>
  rw [hb] at h h'
  simp only [Bool.not_true, Bool.false_or] at h h' ⊢
  split
  ·rename_i c hc
   rw [hc] at h h'
   simp only [Bool.and_eq_true] at h h' ⊢
   exact ⟨h.1, zD2 h.2 h'.2⟩
  ·rename_i hc
   split at h
   ·rename_i c hc'; exact absurd hc' (hc c)
   ·simp at h
theorem zRg (ν : Nat -> Pl) {sz : Nat} {vs xs : List SV} (h : zDX sz vs xs = true) (hs : sz = 1) : ∃ u r, vs = u :: r /\ u.one = true /\ ∀ v ∈ xs, v.kind = u.kind := by
 subst hs
 simp only [zDX, Bool.or_eq_true, Bool.not_eq_true'] at h
 rcases h with h | h
 ·simp at h
 ·split at h
  ·rename_i u r
   simp only [Bool.and_eq_true] at h
   exact ⟨u, r, rfl, h.1, zCV h.2⟩
  ·simp at h
theorem zDw (h : Sat B ν σ a w) {t t2 ty e : TypeId} {inf : TypeInfo} {zv : Value} (hu : P.underlying t = some (.slice e)) (hi : P.info? e = some inf) (hz : inf.zero = some zv) (hzs : zv.cells.size = inf.size) (hb0 : 0 < inf.bytes) (hb1 : inf.bytes <= 1000)
  {x : Value} {m : Nat} (hx : (∃ d2, P.underlying t2 = some d2 /\ ∀ k, d2 ≠ .int k) /\ (∀ w : World, (Builtin.lenOf x).run P w = .ok m w)) (hm : m <= 1000000) {base : Option Addr} {sLen sCap : Nat} (hsl : sLen <= 1000000) (hg : sCap < sLen + m) {olds news : List SV}
  (hfo : (Builtin.firstCells inf.size sLen (.slice base sLen sCap)).run P w.drew = .ok (SV.denL ν olds).toArray w.drew) (hf : (Builtin.firstCells inf.size m x).run P w.drew = .ok (SV.denL ν news).toArray w.drew)
  (l1 : olds.length = sLen * inf.size) (l2 : news.length = m * inf.size) (w1 : SV.wfL (Live σ.hp) olds) (w2 : SV.wfL (Live σ.hp) news)
  (hkd : inf.size = 1 -> ∀ k n, (SV.denL ν (olds ++ news))[0]? = some (.int k n) -> (∀ v ∈ SV.denL ν (olds ++ news), ∃ m, v = .int k m) /\ ∀ v ∈ zv.cells.toList, ∃ m, v = .int k m)
  {d : Option Nat} {K : St -> Prop} {next : Act -> World -> Prop} (hn : zAC B ν σ.hp w K next) (hk : zBq σ d inf.size σ.hp (olds ++ news) (sLen + m) K) :
  ∃ v w', (Builtin.append_ #[t, t2] ty #[.slice base sLen sCap, x]).run P w = .ok v w' /\ next (a.put d v) w' := by
 obtain ⟨⟨d2, q1, q2⟩, q3⟩ := hx
 have hby : (sLen + m) * inf.bytes <= 140737488355328 := by
  have : (sLen + m) * inf.bytes <= 2000000 * 1000 := Nat.mul_le_mul (by omega) hb1
  omega
 have hfit : Builtin.nextslicecap (sLen + m) sCap * inf.bytes <= 281474976710656 := growslice_fits hg hby
 have hr := zKK (P := P) (w := w) t t2 ty e d2 inf zv hu hi hz q1 q2 base sLen sCap m x q3 (SV.denL ν olds) (SV.denL ν news) hfo hf hg (by omega) hfit
 refine ⟨_, _, hr, ?_⟩
 have hge := grownCap_ge w (sLen + m) sCap e
 have hsm : grownCap w (sLen + m) sCap e <= 9223372036854775807 := by
  have := grownCap_le_maxLen w (sLen + m) sCap e (by simp only [maxLen]; omega)
  simpa [maxLen] using this
 generalize grownCap w (sLen + m) sCap e = cap at *
 let C := (SV.denL ν olds ++ SV.denL ν news ++ (Builtin.zeroCells zv.cells (cap - (sLen + m))).toList).toArray
 have hCs : C.size = cap * inf.size := by
  simp only [C, List.size_toArray, List.length_append, zJ, l1, l2, Array.length_toList, Builtin.zeroCells, Array.size_map, Array.size_range, hzs]
  rw [<- Nat.add_mul, <- Nat.add_mul]; congr 1; omega
 have hat : (w.drew.alloc (.cells C e)).heap[w.heap.size]? = some (.cells C e (0, 0)) := heap_alloc_new w.drew _
 have hbel : ze B w (w.drew.alloc (.cells C e)) := (zCy B w).alloc (h.base.mono (Nat.le_refl _)) _
 have h1 : z6 B ν σ.hp (w.drew.alloc (.cells C e)) := zHW h.hp hbel.size fun k hk _ => heap_alloc_old w.drew _ hk
 have hgr : zFU (w.drew.alloc (.cells C e)) ⟨w.heap.size, cap, false⟩ inf.size (SV.denL ν (olds ++ news)) := by
  refine ⟨by simp, ?_, fun i v hv => ?_, fun i hlt => ?_, fun i hlt => ?_, fun e1 k n h0 i hlt => ?_, hsm⟩
  ·simp only [zJ, List.length_append, l1, l2]
   rw [<- Nat.add_mul]; exact Nat.mul_le_mul_right _ hge
  ·simp only [World.cell?, hat]
   have : C[i]? = some v := by
    simp only [C, List.getElem?_toArray]
    rw [zBE] at hv
    rw [List.getElem?_append_left (List.getElem?_eq_some_iff.1 hv).1]; exact hv
   simpa using this
  ·simp only [World.cell?, hat]
   have : i < C.size := by rw [hCs]; exact hlt
   simp [this]
  ·exact zFa rfl _ _ _
  ·obtain ⟨k1, k2⟩ := hkd e1 k n h0
   simp only [World.cell?, hat]
   have hiC : i < C.size := by rw [hCs, e1, Nat.mul_one]; exact hlt
   have hmem : ∀ v ∈ C, ∃ m, v = .int k m := fun v hv => by
    simp only [C, List.mem_toArray, List.mem_append] at hv
    rcases hv with (hv | hv) | hv
    ·exact k1 v (by rw [zBE]; exact List.mem_append_left _ hv)
    ·exact k1 v (by rw [zBE]; exact List.mem_append_right _ hv)
    ·exact k2 v (zJo (Array.mem_toList_iff.1 hv))
   obtain ⟨m, hm⟩ := hmem C[i] (Array.getElem_mem hiC)
   exact ⟨m, by simp [hiC, hm]⟩
 have := zEp h h1 (fun _ h => h) hbel (p := ⟨w.heap.size, cap, false⟩) h.base.top (fun o ho e => by
  have h2 := h.hp.size o ho
  have e' : (ν o).blk = w.heap.size := e
  omega) (zBF w1 w2) hgr hn hk
 exact this
theorem zLz {p : Pl} {sz : Nat} {l cs : List Value} {off : Nat} (hg : zFU w p sz l) (ho : off <= l.length) (hle : off + cs.length <= p.off * sz) (h1 : ∀ v ∈ cs, v.oneCell' = true)
  (hkd : sz = 1 -> ∀ k n, (l.take off ++ cs ++ l.drop (off + cs.length))[0]? = some (.int k n) -> (∃ m, l[0]? = some (.int k m)) /\ ∀ v ∈ cs, ∃ m, v = .int k m) :
  (storeCells ⟨p.blk, off, none⟩ cs).run P w = .ok () (w.setCells p.blk off cs) /\ zFU (w.setCells p.blk off cs) p sz (l.take off ++ cs ++ l.drop (off + cs.length)) := by
 have hsome : ∀ j, j < cs.length -> (w.cell? ⟨p.blk, off + j, none⟩).isSome = true := fun j hj => hg.there _ (by omega)
 have hst := run_storeCells_cells (P := P) p.blk off cs 0 w (by simpa using hsome) (by intro j hj; simpa using hg.thawed (off + j) (by omega)) h1
 simp only [Nat.add_zero] at hst
 refine ⟨hst, ⟨by rw [zAt]; exact hg.lt, ?_, fun i v hv => ?_, fun i hi => ?_, fun i hi => ?_, fun e1 k n h0 i hi => ?_, hg.small⟩⟩
 ·have := hg.le
  simp only [List.length_append, List.length_take, List.length_drop]
  omega
 ·rw [List.append_assoc] at hv
  by_cases hi : i < off
  ·rw [World.cell?_setCells_out _ _ _ _ _ (fun _ _ => .inl hi)]
   rw [List.getElem?_append_left (by simp; omega), List.getElem?_take_of_lt hi] at hv
   exact hg.cell i v hv
  ·rw [List.getElem?_append_right (by simp; omega)] at hv
   have e1 : (l.take off).length = off := by simp; omega
   rw [e1] at hv
   by_cases hi2 : i - off < cs.length
   ·rw [List.getElem?_append_left hi2, List.getElem?_eq_getElem hi2] at hv
    cases hv
    have := World.cell?_setCells_in p.blk cs off w hsome (i - off) hi2
    rw [show off + (i - off) = i by omega] at this
    exact this
   ·rw [List.getElem?_append_right (by omega), List.getElem?_drop] at hv
    rw [World.cell?_setCells_out _ _ _ _ _ (fun _ _ => .inr (by simp only; omega))]
    rw [show off + cs.length + (i - off - cs.length) = i by omega] at hv
    exact hg.cell i v hv
 ·by_cases hin : off <= i /\ i < off + cs.length
  ·have := World.cell?_setCells_in p.blk cs off w hsome (i - off) (by omega)
   rw [show off + (i - off) = i by omega] at this
   rw [this]; rfl
  ·rw [World.cell?_setCells_out _ _ _ _ _ (fun _ _ => by simp only; omega)]
   exact hg.there i hi
 ·rw [World.frozen?_setCells]; exact hg.thawed i hi
 ·obtain ⟨⟨m0, k1⟩, k2⟩ := hkd e1 k n h0
  by_cases hin : off <= i /\ i < off + cs.length
  ·have := World.cell?_setCells_in p.blk cs off w hsome (i - off) (by omega)
   rw [show off + (i - off) = i by omega] at this
   obtain ⟨m, hm⟩ := k2 _ (List.getElem_mem (show i - off < cs.length by omega))
   exact ⟨m, by rw [this, <- hm]⟩
  ·rw [World.cell?_setCells_out _ _ _ _ _ (fun _ _ => by simp only; omega)]
   exact hg.like e1 k m0 k1 i hi
theorem zLa (ν : Nat -> Pl) {sz off : Nat} {vs xs : List SV} (h1 : xs.all SV.one = true) (h : zDX sz vs xs = true) : sz = 1 -> ∀ k n, ((SV.denL ν vs).take off ++ SV.denL ν xs ++ (SV.denL ν vs).drop (off + (SV.denL ν xs).length))[0]? = some (.int k n) -> (∃ m, (SV.denL ν vs)[0]? = some (.int k m)) /\ ∀ v ∈ SV.denL ν xs, ∃ m, v = .int k m := by
 intro hs k n h0
 obtain ⟨u, r, rfl, hu, hx⟩ := zRg ν h hs
 have key : u.kind = some k -> (∃ m, (SV.denL ν (u :: r))[0]? = some (.int k m)) /\ ∀ v ∈ SV.denL ν xs, ∃ m, v = .int k m := fun hk => by
  obtain ⟨m, hm⟩ := zOj ν hk
  exact ⟨⟨m, by simp [SV.denL, hm]⟩, zEN ν fun v hv => (hx v hv).trans hk⟩
 refine key ?_
 cases off with
 | succ o =>
  simp only [SV.denL, List.take_succ_cons, List.cons_append, List.getElem?_cons_zero, Option.some.injEq] at h0
  exact zEn ν hu h0
 | zero =>
  cases xs with
  | nil =>
   simp only [SV.denL, List.take_zero, List.nil_append, List.length_nil, Nat.add_zero, List.drop_zero, List.getElem?_cons_zero, Option.some.injEq] at h0
   exact zEn ν hu h0
  | cons x r' =>
   simp only [SV.denL, List.take_zero, List.nil_append, List.cons_append, List.getElem?_cons_zero, Option.some.injEq] at h0
   rw [<- hx x (List.mem_cons_self ..)]
   exact zEn ν (by simpa using (List.all_eq_true.1 h1 x (List.mem_cons_self ..))) h0
theorem zSA {hp : List SObj} (h : z6 B ν hp w) {o off : Nat} {vs cs : List SV} {ty : TypeId} (ho : hp[o]? = some (.cells vs ty)) (hle : off + cs.length <= vs.length) (h1 : cs.all SV.one = true) (hw : SV.wfL (Live hp) cs) :
  ∃ w', (storeCells ⟨(ν o).blk, off, none⟩ (SV.denL ν cs)).run P w = .ok () w' /\ z6 B ν (zS hp o (.cells (zo vs off cs) ty)) w' /\ (∀ o', Live hp o' -> Live (zS hp o (.cells (zo vs off cs) ty)) o') /\ ze B w w' := by
 obtain ⟨hB, hb, hwv⟩ := h.obj o _ ho
 have hrun := run_storeCells_at (P := P) (ν o).blk off ty (SV.denL ν cs) 0 _ w hb (by simp [zJ]; omega) (zMw h1)
 have e3 : ((SV.denL ν vs).toArray.toList.take (off + 0) ++ SV.denL ν cs ++ (SV.denL ν vs).toArray.toList.drop (off + 0 + (SV.denL ν cs).length)).toArray = (SV.denL ν (zo vs off cs)).toArray := by
  rw [zDm _ _ _ (by omega)]
  simp [zX, List.map_take, List.map_drop]
 rw [e3] at hrun
 obtain ⟨s1, s2⟩ := zMh h (y := .cells (zo vs off cs) ty) (w' := w.setRow (ν o).blk (SV.denL ν (zo vs off cs)).toArray) ho rfl rfl rfl (by simp [World.setRow]) (fun k hk => setRow_other w _ _ _ hk) (fun hl =>
  ⟨hB, setRow_heap w _ _ _ _ _ hb, zj hl _ (zCq _ _ _ hw hwv)⟩)
 exact ⟨_, by simpa using hrun, s1, s2, zG3 (ze.refl B w) hB _⟩
theorem zK4 (h : Sat B ν σ a w) {d : Option Nat} {t t2 ty : TypeId} {s x : SV} (hsw : s.wf (Live σ.hp)) {K : St -> Prop} {q : Prop} (hx : zHn P t t2 σ d s x K = some q) (hq : q) {next : Act -> World -> Prop} (hn : zAC B ν σ.hp w K next) :
  ∃ v w', (Builtin.append_ #[t, t2] ty #[s.den ν, x.den ν]).run P w = .ok v w' /\ next (a.put d v) w' := by
 unfold zHn at hx
 split at hx
 ·rename_i e hu
  split at hx
  ·rename_i inf z hi hz
   obtain ⟨zv, z1, z2, z3, z4⟩ := zHb hi hz
   split at hx
   ·rename_i hc
    obtain ⟨c1, c2, c3, c4⟩ := hc
    split at hx
    ·rename_i m xs hsrc
     obtain ⟨⟨d2, p1, p2⟩, p3, p4, p5, p6⟩ := zG0 (n := Live σ.hp) h.hp.obj hu hsrc
     obtain ⟨_, _, p4', _, _⟩ := zG0 (n := Live σ.hp) (w := w.drew) (zDW h.hp) hu hsrc
     split at hx
     ·rename_i hc2
      obtain ⟨g1, g2, g3, g4⟩ := hc2
      have hzk : inf.size = 1 -> ∀ k n, (SV.denL ν ([] ++ xs))[0]? = some (.int k n) -> (∀ v ∈ SV.denL ν ([] ++ xs), ∃ m, v = .int k m) /\ ∀ v ∈ zv.cells.toList, ∃ m, v = .int k m := fun e1 k n h0 => by
       have := zPm ν g1 g4 e1 h0
       rw [z3] at this
       exact this
      split at hx
      ·rename_i hm
       subst hm
       have hxs : xs = [] := by rw [Nat.zero_mul] at p5; simpa using p5
       subst hxs
       split at hx
       ·simp only [Option.some.injEq] at hx; subst hx
        rw [zDG] at hq
        refine ⟨_, _, zKJ (P := P) (w := w) t t2 ty e d2 inf hu hi p1 p2 0 0 0 _ p3 _ p4 (by omega), ?_⟩
        have h3 := z0 h d (v := .nils) trivial
        have := hn _ _ _ _ (by rw [zAR]; exact fun _ h => h) (zb.refl _ _) h3 (ze.refl _ _) hq
        simpa [SV.den] using this
       ·rename_i o sz st len
        split at hx
        ·rename_i r sz' vs hl ho
         split at hx
         ·rename_i hss
          subst hss
          simp only [Option.some.injEq] at hx; subst hx
          rw [zDG] at hq
          obtain ⟨_, g, _⟩ := h.hp.obj o _ ho
          have hle := g.le
          rw [zJ] at hle
          have hin : sz' = inf.size /\ (st + len) * inf.size <= vs.length := by
           simp only [zI6, zBI, ho] at hl
           split at hl
           ·rename_i e1
            refine ⟨e1, ?_⟩
            simp only [Option.map_eq_some_iff] at hl
            obtain ⟨l', hl', _⟩ := hl
            unfold zGs at hl'
            split at hl'
            ·rename_i hle'; rw [Nat.add_mul]; exact hle'
            ·simp at hl'
           ·simp at hl
          obtain ⟨e1, e2⟩ := hin
          subst e1
          have hcap : st + len <= (ν o).off := Nat.le_of_mul_le_mul_right (Nat.le_trans e2 hle) c2
          have hst : (storeCells ⟨(ν o).blk, st * inf.size + len * inf.size, none⟩ []).run P w = .ok () w := by simp [storeCells, Sem.run, pure]
          refine ⟨_, _, zCW (P := P) (w := w) t t2 ty e d2 inf hu hi p1 p2 (ν o).blk (st * inf.size) len ((ν o).off - st) 0 _ p3 [] p4 (by omega) hst, ?_⟩
          have h3 := z0 h d (v := .sliceG o inf.size st len) hsw
          have := hn _ _ _ _ (by rw [zAR]; exact fun _ h => h) (zb.refl _ _) h3 (ze.refl _ _) hq
          simpa [SV.den] using this
         ·simp at hx
        ·simp at hx
       ·rename_i o off len cap
        split at hx
        ·rename_i hle
         simp only [Option.some.injEq] at hx; subst hx
         rw [zDG] at hq
         have hst : (storeCells ⟨(ν o).blk, off + len * inf.size, none⟩ []).run P w = .ok () w := by simp [storeCells, Sem.run, pure]
         refine ⟨_, _, zCW (P := P) (w := w) t t2 ty e d2 inf hu hi p1 p2 (ν o).blk off len cap 0 _ p3 [] p4 (by omega) hst, ?_⟩
         have h3 := z0 h d (v := .slice o off (.lit len) (.lit cap)) hsw
         have := hn _ _ _ _ (by rw [zAR]; exact fun _ h => h) (zb.refl _ _) h3 (ze.refl _ _) hq
         simpa [SV.den, zAF] using this
        ·simp at hx
       ·simp at hx
      ·rename_i hm
       split at hx
       ·simp only [Option.some.injEq] at hx; subst hx
        have hk : zBq σ d inf.size σ.hp ([] ++ xs) (0 + m) K := by simpa using hq
        exact zDw h hu hi z1 (by omega) c3 g3 ⟨⟨d2, p1, p2⟩, p3⟩ g2 (base := none) (sLen := 0) (sCap := 0) (by omega) (by omega) (olds := []) (by simp [Builtin.firstCells, SV.denL, Sem.run, pure]) p4' (by simp) p5 trivial p6 hzk hn hk
       ·rename_i o sz st
        simp only [Option.some.injEq] at hx; subst hx
        have hk : zBq σ d inf.size σ.hp ([] ++ xs) (0 + m) K := by simpa using hq
        exact zDw h hu hi z1 (by omega) c3 g3 ⟨⟨d2, p1, p2⟩, p3⟩ g2 (sLen := 0) (sCap := 0) (by omega) (by omega) (olds := []) (by simp [Builtin.firstCells, SV.denL, loadCells, loadCellsFrom, Sem.run, pure]) p4' (by simp) p5 trivial p6 hzk hn hk
       ·rename_i o sz len
        split at hx
        ·rename_i sz' vs ho
         split at hx
         ·rename_i hc3
          obtain ⟨e1, e2, e3, e4, e4b⟩ := hc3
          subst e1 e2
          simp only [Option.some.injEq] at hx; subst hx
          obtain ⟨hB, g, hwv⟩ := h.hp.obj o _ ho
          obtain ⟨hs1, hl1⟩ := zKq h.hp ho
          have hfree := zLv h.hp ho rfl
          have hle := g.le
          rw [zJ, e3] at hle
          have hlen : len <= (ν o).off := Nat.le_of_mul_le_mul_right hle c2
          simp only [SV.den, Nat.zero_mul, Nat.sub_zero]
          by_cases hroom : len + m <= (ν o).off
          ·have hle2 : len * inf.size + (SV.denL ν xs).length <= (ν o).off * inf.size := by
            rw [zJ, p5, <- Nat.add_mul]; exact Nat.mul_le_mul_right _ hroom
           obtain ⟨r1, r2⟩ := zLz (P := P) g (off := len * inf.size) (cs := SV.denL ν xs) (by rw [zJ, e3]; exact Nat.le_refl _) hle2 (zMw g1) (zLa ν g1 e4b)
           have e5 : (SV.denL ν vs).take (len * inf.size) ++ SV.denL ν xs ++ (SV.denL ν vs).drop (len * inf.size + (SV.denL ν xs).length) = SV.denL ν (vs ++ xs) := by
            rw [zBE, List.take_of_length_le (by rw [zJ, e3]; exact Nat.le_refl _), List.drop_eq_nil_of_le (by rw [zJ, e3]; omega), List.append_nil]
           rw [e5] at r2
           refine ⟨_, _, zCW (P := P) (w := w) t t2 ty e d2 inf hu hi p1 p2 (ν o).blk 0 len (ν o).off m _ p3 _ p4 hroom (by rw [Nat.zero_add]; exact r1), ?_⟩
           have hbel : ze B w (w.setCells (ν o).blk (len * inf.size) (SV.denL ν xs)) := zA1 hB _ _ _
           have h1 : z6 B ν (zS σ.hp o .husk) (w.setCells (ν o).blk (len * inf.size) (SV.denL ν xs)) := zHW hs1 hbel.size fun k _ hor => zA0 _ (fun e => by
            subst e
            rcases hor with ⟨o', ho', e'⟩ | hb'
            ·exact hfree o' ho' e'
            ·exact hB hb') _ _ _
           have := zEp h h1 hl1 hbel (p := ν o) hB hfree (zj hl1 _ (zBF hwv p6)) r2 hn hq
           simpa using this
          ·have hg : (ν o).off < len + m := by omega
           obtain ⟨k1, k2⟩ := zFP (n := Live σ.hp) (w := w.drew) (zDW h.hp) (o := o) (vs := vs) (by simp [zBI, ho])
           have hfo : (Builtin.firstCells inf.size len (.slice (some ⟨(ν o).blk, 0, none⟩) len (ν o).off)).run P w.drew = .ok (SV.denL ν vs).toArray w.drew := by
            have hc := run_loadCells_list (P := P) w.drew ⟨(ν o).blk, 0, none⟩ (SV.denL ν vs) (fun j u hu => by
             rw [zDz]
             simp only [zX, List.getElem?_map, Option.map_eq_some_iff] at hu
             obtain ⟨s, hs, rfl⟩ := hu
             rw [Nat.zero_add]
             exact k1 _ _ hs)
            rw [zJ, e3] at hc
            simp only [Builtin.firstCells]; exact hc
           have hh : Sat B ν { σ with hp := zS σ.hp o .husk } a w := zAL h hl1 (zb.refl _ _) hs1 (ze.refl _ _)
           have := zDw hh (ty := ty) hu hi z1 (by omega) c3 g3 ⟨⟨d2, p1, p2⟩, p3⟩ g2 e4 hg hfo p4' e3 p5 (zj hl1 _ hwv) (zj hl1 _ p6) (fun e1 k n h0 => by
            obtain ⟨u, r, hvs, hu, hx⟩ := zRg ν e4b e1
            subst hvs
            simp only [List.cons_append, SV.denL, List.getElem?_cons_zero, Option.some.injEq] at h0
            have hk := zEn ν hu h0
            have hnew := zEN ν (k := k) fun v hv => (hx v hv).trans hk
            refine ⟨fun v hv => ?_, ?_⟩
            ·rw [zBE] at hv
             rcases List.mem_append.1 hv with hv | hv
             ·obtain ⟨i, hi, rfl⟩ := List.mem_iff_getElem.1 hv
              have hi' : i < (ν o).off := by
               rw [zJ, e3] at hi
               rw [e1, Nat.mul_one] at hi
               omega
              obtain ⟨m', hm'⟩ := g.like e1 k n (by simp only [SV.denL, List.getElem?_cons_zero, h0]) i hi'
              have := g.cell i _ (List.getElem?_eq_getElem hi)
              rw [hm'] at this
              exact ⟨m', (Option.some.inj this).symm⟩
             ·exact hnew v hv
            ·have hx0 : xs ≠ [] := fun h => by rw [h] at p5; simp at p5; rw [e1] at p5; omega
             cases xs with
             | nil => exact absurd rfl hx0
             | cons x xr =>
              obtain ⟨m', hm'⟩ := hnew (x.den ν) (by simp [SV.denL])
              have := (zPm ν g1 g4 e1 (k := k) (n := m') (by simp [SV.denL, hm'])).2
              rw [z3] at this
              exact this) (hn.later hl1 (zb.refl _ _) (ze.refl _ _)) hq
           exact this
         ·simp at hx
        ·simp at hx
       ·rename_i o off len cap
        split at hx
        ·rename_i vs ty' ho
         simp only [SV.den, zAF]
         split at hx
         ·rename_i hroom
          split at hx
          ·rename_i hle
           simp only [Option.some.injEq] at hx; subst hx
           rw [zCu, zA2] at hq
           have hle2 : off + len * inf.size + xs.length <= vs.length := by
            rw [p5]
            have : (len + m) * inf.size <= cap * inf.size := Nat.mul_le_mul_right _ hroom
            rw [Nat.add_mul] at this; omega
           obtain ⟨w', r1, r2, r3, r4⟩ := zSA (P := P) h.hp ho hle2 g1 p6
           refine ⟨_, _, zCW (P := P) (w := w) t t2 ty e d2 inf hu hi p1 p2 (ν o).blk off len cap m _ p3 _ p4 hroom r1, ?_⟩
           have h2 : Sat B ν { σ with hp := zS σ.hp o (.cells (zo vs (off + len * inf.size) xs) ty') } a w' := zAL h r3 (zb.refl _ _) r2 r4
           have h3 := z0 h2 d (v := .slice o off (.lit (len + m)) (.lit cap)) (r3 o ⟨_, ho, rfl⟩)
           have := hn _ _ _ _ (by rw [zAR]; exact r3) (zb.refl _ _) h3 r4 hq
           simpa [SV.den, zAF] using this
          ·simp at hx
         ·rename_i hroom
          split at hx
          ·rename_i hc4
           obtain ⟨e1, e2⟩ := hc4
           split at hx
           ·rename_i l hl
            by_cases hlk : l.all SV.one = true /\ zDK inf.size z l = true
            case neg => rw [if_neg hlk] at hx; simp at hx
            rw [if_pos hlk] at hx
            simp only [Option.some.injEq] at hx; subst hx
            have hls : zI6 σ.hp inf.size (.slice o off (.lit len) (.lit cap)) = some (len, l) := by simp [zI6, zBI, ho, hl]
            obtain ⟨b, c, f1, f2, f3, f4, f5, f6⟩ := zFO (P := P) (ν := ν) (n := Live σ.hp) (w := w.drew) (zDW h.hp) hls
            simp only [SV.den, zAF, Value.slice.injEq] at f1
            obtain ⟨rfl, _, rfl⟩ := f1
            exact zDw h hu hi z1 (by omega) c3 g3 ⟨⟨d2, p1, p2⟩, p3⟩ g2 e1 (by omega) f4 p4' f5 p5 f6 p6 (fun e1 k n h0 => by
             have hall : (l ++ xs).all SV.one = true := by rw [List.all_append, hlk.1, g1]; rfl
             have hkk : zDK inf.size z (l ++ xs) = true := zI7 hlk.2 g4
             have := zPm ν hall hkk e1 h0
             rw [z3] at this
             exact this) hn hq
           ·simp at hx
          ·simp at hx
        ·simp at hx
       ·simp at hx
     ·simp at hx
    ·simp at hx
   ·simp at hx
  ·simp at hx
 ·simp at hx
theorem zGl (s : ByteArray) (i : Nat) (v : Value) (h : (SV.denL ν (zBX s))[i]? = some v) : ∃ hi : i < s.data.size, v = .int .u8 (s.data[i].toNat : Int) := by
 simp only [zBX, zX, List.map_map, List.getElem?_map, Option.map_eq_some_iff] at h
 obtain ⟨b, hb, rfl⟩ := h
 obtain ⟨h1, h2⟩ := List.getElem?_eq_some_iff.1 hb
 have h1' : i < s.data.size := by simpa using h1
 refine ⟨h1', ?_⟩
 simp only [Array.getElem_toList] at h2
 simp [SV.den, IE.den, <- h2]
theorem zMH (s : ByteArray) (cap i : Nat) (h : i < (bytesRow s cap).size) : ∃ m, (bytesRow s cap)[i] = .int .u8 m := by
 have hm : (bytesRow s cap)[i] ∈ bytesRow s cap := Array.getElem_mem h
 simp only [bytesRow, Array.mem_append, Array.mem_map, Array.mem_replicate] at hm
 rcases hm with ⟨b, _, hb⟩ | ⟨_, hb⟩
 ·exact ⟨_, hb.symm⟩
 ·exact ⟨_, hb⟩
theorem zO8 (h : Sat B ν σ a w) {o : Oper} {k : Option Nat} {K : St -> Prop} {p : Prop} (hx : zNZ P k o σ K = some p) (hp : p) {next : Act -> World -> Prop} {Q : Exit -> Act -> World -> Prop}
  (hn : zAC B ν σ.hp w K next) : o.wp P a w next Q := by
 unfold Oper.wp
 unfold zNZ at hx
 split at hx
 ·rename_i t pp x he
  split at hx
  ·rename_i ob off v hpe hve
   split at hx
   ·rename_i sz vs i ho hi
    split at hx
    ·rename_i hc
     obtain ⟨c1, c2, c3, c4⟩ := hc
     simp only [Option.some.injEq] at hx; subst hx
     rw [zCu, zA2] at hp
     obtain ⟨p1, _⟩ := zB h.t hpe
     obtain ⟨v1, v2⟩ := zB h.t hve
     obtain ⟨hB, g, hwv⟩ := h.hp.obj ob _ ho
     have hle := g.le
     rw [zJ] at hle
     obtain ⟨r1, r2⟩ := zLz (P := P) g (off := off) (cs := SV.denL ν v.cells) (by rw [zJ]; omega) (by rw [zJ]; omega) (zMw c3) (zLa ν c3 c4)
     have e5 : (SV.denL ν vs).take off ++ SV.denL ν v.cells ++ (SV.denL ν vs).drop (off + (SV.denL ν v.cells).length) = SV.denL ν (zo vs off v.cells) := by
      rw [zDm _ _ _ (by omega)]
      simp [zX, List.map_take, List.map_drop]
     rw [e5] at r2
     have hbel : ze B w (w.setCells (ν ob).blk off (SV.denL ν v.cells)) := zA1 hB _ _ _
     obtain ⟨s1, s2⟩ := zMh h.hp (y := .grown sz (zo vs off v.cells)) (w' := w.setCells (ν ob).blk off (SV.denL ν v.cells)) ho rfl rfl rfl hbel.size (fun k hk => zA0 _ hk _ _ _) (fun hl =>
      ⟨hB, r2, zj hl _ (zCq _ _ _ (zCR v2) hwv)⟩)
     have hr : (execOp a.eval o).run P w = .ok .skip (w.setCells (ν ob).blk off (SV.denL ν v.cells)) := by
      simp only [execOp, he, p1, v1, SV.den, Instr.storeAt, Instr.sureAddr]
      rw [Sem.run_bind, Sem.run_bind]
      simp only [Sem.run, pure, Result.andThen]
      have e1 : (v.den ν).cells = (SV.denL ν v.cells).toArray := zAb ν v
      have e2 : (sizeOf t).run P w = .ok i.size w := by simp [sizeOf, typeInfo, program, hi, Sem.run, pure]
      have : (storeVar t ⟨(ν ob).blk, off, none⟩ (v.den ν)).run P w = .ok () (w.setCells (ν ob).blk off (SV.denL ν v.cells)) := by
       unfold storeVar
       rw [Sem.run_bind, e2]
       simp only [Result.andThen, e1, List.size_toArray, zJ, c1, ne_eq, not_true_eq_false, if_false]
       exact r1
      rw [this]
     rw [hr, Oper.upon_skip]
     have h2 : Sat B ν { σ with hp := zS σ.hp ob (.grown sz (zo vs off v.cells)) } a _ := zAL h s2 (zb.refl _ _) s1 hbel
     have h3 := z0 h2 o.dst (v := SV.undef) trivial
     have := hn _ _ _ _ (by rw [zAR]; exact s2) (zb.refl _ _) h3 hbel hp
     exact this
    ·simp at hx
   ·simp at hx
  ·simp at hx
 ·rename_i t len cap he
  split at hx
  ·rename_i kl l kc c e hl hc hu
   split at hx
   ·rename_i inf z hi hz
    obtain ⟨zv, z1, z2, z3, z4⟩ := zHb hi hz
    split at hx
    ·rename_i hcc
     obtain ⟨c1, c2, c3, c4, c5, c6, c7, c8⟩ := hcc
     simp only [Option.some.injEq] at hx; subst hx
     obtain ⟨l1, _⟩ := zB h.t hl
     obtain ⟨cc1, _⟩ := zB h.t hc
     have hmul : (inf.bytes : Int) * c <= 281474976710656 := by
      have h1 : (inf.bytes : Int) * c <= 1000 * 4096 := Int.mul_le_mul (by omega) c3 (by omega) (by omega)
      omega
     have hrm := run_make (P := P) w t e inf zv hu hi z1 kl kc l c c1 c2 hmul (by omega)
     have hr : (execOp a.eval o).run P w = .ok (.value (.slice (some ⟨w.heap.size, 0, none⟩) l.toNat c.toNat)) (w.alloc (.cells (madeCells zv.cells (c.toNat * inf.size)) e)) := by
      simp only [execOp, he, l1, cc1, SV.den, IE.den]
      rw [Sem.run_bind, hrm]
      rfl
     rw [hr, Oper.upon_value]
     have hgd : ∀ j : Nat, SV.wf (fun _ => False) (z.cells.getD j SV.undef) := fun j => by
      rw [List.getD_eq_getElem?_getD]
      cases hj : z.cells[j]? with
      | none => simp [SV.undef, SV.wf, SV.wfL]
      | some u => exact (zz _ _).1 (zCR (z4 _)) u (List.mem_of_getElem? hj)
     have hwz : SV.wfL (Live σ.hp) ((List.range (c.toNat * inf.size)).map fun j => z.cells.getD (j % inf.size) SV.undef) := by
      rw [zz]
      intro u hu
      obtain ⟨j, _, rfl⟩ := List.mem_map.1 hu
      exact zDf (fun _ h => h.elim) _ (hgd _)
     have hden : (SV.denL ν ((List.range (c.toNat * inf.size)).map fun j => z.cells.getD (j % inf.size) SV.undef)).toArray = madeCells zv.cells (c.toNat * inf.size) := by
      apply Array.ext'
      have hzc : zv.cells = (SV.denL ν z.cells).toArray := by rw [<- z3 ν]; exact zAb ν z
      simp only [madeCells, Array.toList_map, Array.toList_range, zX, List.map_map, hzc, List.size_toArray, List.length_map, c6]
      refine List.map_congr_left fun j hj => ?_
      have hpos : 0 < inf.size := by
       rcases Nat.eq_zero_or_pos inf.size with h0 | h0
       ·rw [h0, Nat.mul_zero] at c8; omega
       ·exact h0
      have hlt : j % inf.size < z.cells.length := by rw [c6]; exact Nat.mod_lt _ hpos
      simp [Function.comp, List.getD_eq_getElem?_getD, List.getElem?_eq_getElem hlt, Array.getElem!_eq_getD, Array.getD_eq_getD_getElem?]
     have hlay := zHV h hwz e k o.dst (fun b => .slice b 0 (.lit l.toNat) (.lit c.toNat)) (fun b => .slice (some ⟨b, 0, none⟩) l.toNat c.toNat) (fun _ _ => rfl) (fun _ _ hp => hp) hn hp
     rw [hden] at hlay
     exact hlay
    ·simp at hx
   ·simp at hx
  ·simp at hx
 ·rename_i c he
  split at hx
  ·rename_i s x t t2 hcal hargs htys
   split at hx
   ·rename_i s' x' hs hx'
    obtain ⟨s1, s2⟩ := zB h.t hs
    obtain ⟨x1, _⟩ := zB h.t hx'
    obtain ⟨v, w', m1, m2⟩ := zK4 (ty := o.type) h s2 hx hp hn
    have e0 : c.args = #[s, x] := by apply Array.ext'; simpa using hargs
    have e1 : c.argTypes = #[t, t2] := by apply Array.ext'; simpa using htys
    have hr : (execOp a.eval o).run P w = .ok (.value v) w' := by
     simp [execOp, he, resolve, hcal, e0, e1, s1, x1, invoke, builtin, m1]
    rw [hr, Oper.upon_value]
    exact m2
   ·simp at hx
  ·simp at hx
 ·rename_i src dst x he
  split at hx
  ·rename_i e s hs hd hxe
   split at hx
   ·rename_i he8
    split at hx
    ·rename_i hsz
     simp only [Option.some.injEq] at hx; subst hx
     obtain ⟨x1, _⟩ := zB h.t hxe
     simp only [SV.den] at x1
     have hge := grownCap_ge w s.size 0 e
     have hr : (execOp a.eval o).run P w = .ok (.value (.slice (some ⟨w.heap.size, 0, none⟩) s.size (grownCap w s.size 0 e))) (w.drew.alloc (.cells (bytesRow s (grownCap w s.size 0 e)) e ((bytesRow s (grownCap w s.size 0 e)).size, (bytesRow s (grownCap w s.size 0 e)).size + 1))) := by
      simp only [execOp, he, x1]
      rw [Sem.run_bind, run_bytes_of_string w src dst e s hs hd he8]
      rfl
     rw [hr, Oper.upon_value]
     have hsm : grownCap w s.size 0 e <= 9223372036854775807 := by
      have := grownCap_le_maxLen w s.size 0 e (by simp only [maxLen]; omega)
      simpa [maxLen] using this
     generalize grownCap w s.size 0 e = cap at *
     have hds : s.data.size = s.size := rfl
     have hbs : (bytesRow s cap).size = cap := by simp [bytesRow, hds]; omega
     have hat : (w.drew.alloc (.cells (bytesRow s cap) e ((bytesRow s cap).size, (bytesRow s cap).size + 1))).heap[w.heap.size]? = some (.cells (bytesRow s cap) e ((bytesRow s cap).size, (bytesRow s cap).size + 1)) := heap_alloc_new w.drew _
     have hbel : ze B w (w.drew.alloc (.cells (bytesRow s cap) e ((bytesRow s cap).size, (bytesRow s cap).size + 1))) := (zCy B w).alloc (h.base.mono (Nat.le_refl _)) _
     have h1 : z6 B ν σ.hp (w.drew.alloc (.cells (bytesRow s cap) e ((bytesRow s cap).size, (bytesRow s cap).size + 1))) := zHW h.hp hbel.size fun k hk _ => heap_alloc_old w.drew _ hk
     have hgr : zFU (w.drew.alloc (.cells (bytesRow s cap) e ((bytesRow s cap).size, (bytesRow s cap).size + 1))) ⟨w.heap.size, cap, false⟩ 1 (SV.denL ν (zBX s)) := by
      refine ⟨by simp, ?_, fun i v hv => ?_, fun i hlt => ?_, fun i hlt => ?_, fun _ k n h0 i hlt => ?_, hsm⟩
      ·have : (SV.denL ν (zBX s)).length = s.size := by rw [zJ]; simp [zBX]
       rw [this]; simp only []; omega
      ·obtain ⟨h2, rfl⟩ := zGl s i v hv
       simp only [World.cell?, hat]
       have := bytesRow_at s cap i h2
       simpa using this
      ·simp only [World.cell?, hat]
       simp only [Nat.mul_one] at hlt
       have : i < (bytesRow s cap).size := by rw [hbs]; exact hlt
       simp [this]
      ·unfold World.frozen?
       rw [show (w.drew.alloc (.cells (bytesRow s cap) e ((bytesRow s cap).size, (bytesRow s cap).size + 1))).heap[(⟨w.heap.size, i, none⟩ : Addr).block]? = _ from hat]
       simp only [Nat.mul_one] at hlt
       simp only [hbs]
       simp
       omega
      ·obtain ⟨_, h2⟩ := zGl s 0 _ h0
       obtain ⟨rfl, _⟩ := Value.int.inj h2
       simp only [World.cell?, hat]
       have hi : i < (bytesRow s cap).size := by rw [hbs]; exact hlt
       obtain ⟨m, hm⟩ := zMH s cap i hi
       exact ⟨m, by simp [hi, hm]⟩
     have hws : SV.wfL (Live σ.hp) (zBX s) := by
      rw [zz]
      intro v hv
      simp only [zBX, List.mem_map] at hv
      obtain ⟨b, _, rfl⟩ := hv
      trivial
     exact zEp h h1 (fun _ h => h) hbel (p := ⟨w.heap.size, cap, false⟩) h.base.top (fun o ho e => by
      have h2 := h.hp.size o ho
      have e' : (ν o).blk = w.heap.size := e
      omega) hws hgr hn hp
    ·simp at hx
   ·simp at hx
  ·rename_i e0 e ob len cap hs hd hxe
   split at hx
   ·rename_i vs ty he8 ho
    split at hx
    ·rename_i hc
     obtain ⟨rfl, c2, c3, c4, c5, c6⟩ := hc
     simp only [Option.some.injEq] at hx; subst hx
     obtain ⟨x1, x2⟩ := zB h.t hxe
     obtain ⟨g1, g2, g3⟩ := h.hp.obj ob _ ho
     have hlen : (SV.denL ν vs).length = len := by rw [zJ, c2]
     have hw : (w.freeze ⟨(ν ob).blk, (SV.denL ν vs).length, none⟩ 1).heap[(ν ob).blk]? = some (.cells (SV.denL ν vs).toArray ty ((SV.denL ν vs).length, (SV.denL ν vs).length + 1)) := by
      simp [World.freeze, Array.getElem?_modify, g2]
     have hr : (execOp a.eval o).run P w = .ok (.value (.slice (some ⟨(ν ob).blk, 0, none⟩) len cap)) (w.freeze ⟨(ν ob).blk, (SV.denL ν vs).length, none⟩ 1) := by
      simp only [execOp, he, x1, SV.den, zAF]
      rw [Sem.run_bind]
      have hsh : w.shape? (ν ob).blk = some (ty, (SV.denL ν vs).length) := by simp [World.shape?, g2]
      have u1 : (underlying src).run P w = .ok (.slice e) w := by simp [underlying, program, Sem.run, hd, pure]
      have u2 : (underlying e).run P w = .ok (.int .u8) w := by simp [underlying, program, Sem.run, he8, pure]
      have : (convert src src (.slice (some ⟨(ν ob).blk, 0, none⟩) len cap)).run P w = .ok (.slice (some ⟨(ν ob).blk, 0, none⟩) len cap) (w.freeze ⟨(ν ob).blk, (SV.denL ν vs).length, none⟩ 1) := by
       simp [convert, u1, u2, markStringish, hsh]
      rw [this]; rfl
     rw [hr, Oper.upon_value]
     have hk : ∀ k, k ≠ (ν ob).blk -> (w.freeze ⟨(ν ob).blk, (SV.denL ν vs).length, none⟩ 1).heap[k]? = w.heap[k]? := by
      intro k hk
      have hk' : ¬ (ν ob).blk = k := fun e => hk e.symm
      simp only [World.freeze]
      rw [if_neg (by decide)]
      simp [Array.getElem?_modify, hk']
     have hbel : ze B w (w.freeze ⟨(ν ob).blk, (SV.denL ν vs).length, none⟩ 1) :=
      ⟨rfl, rfl, rfl, by simp [World.freeze], fun k hb => hk k fun e => g1 (e ▸ hb)⟩
     obtain ⟨hs1, hl1⟩ := zKq h.hp ho
     have hfree := zLv h.hp ho rfl
     have h1 : z6 B ν (zS σ.hp ob .husk) (w.freeze ⟨(ν ob).blk, (SV.denL ν vs).length, none⟩ 1) := zHW hs1 hbel.size fun k _ hor => hk k fun e => by
      subst e
      rcases hor with ⟨o', ho', e'⟩ | hb'
      ·exact hfree o' ho' e'
      ·exact g1 hb'
     have hgr : zFU (w.freeze ⟨(ν ob).blk, (SV.denL ν vs).length, none⟩ 1) ⟨(ν ob).blk, len, false⟩ 1 (SV.denL ν vs) := by
      refine ⟨(Array.getElem?_eq_some_iff.1 hw).1, by simp only [Nat.mul_one]; omega, fun i v hv => ?_, fun i hlt => ?_, fun i hlt => ?_, fun _ k n h0 i hlt => ?_, by simp only; omega⟩
      ·simp only [World.cell?, hw]
       simpa using hv
      ·simp only [World.cell?, hw]
       simp only [Nat.mul_one] at hlt
       have : i < (SV.denL ν vs).length := by omega
       simp [this]
      ·unfold World.frozen?
       rw [show (w.freeze ⟨(ν ob).blk, (SV.denL ν vs).length, none⟩ 1).heap[(⟨(ν ob).blk, i, none⟩ : Addr).block]? = _ from hw]
       simp only [Nat.mul_one] at hlt
       simp
       omega
      ·simp only at hlt
       have hi : i < (SV.denL ν vs).length := by omega
       have hall : ∀ v ∈ SV.denL ν vs, ∃ m, v = .int k m := by
        cases vs with
        | nil => simp [SV.denL] at h0
        | cons u r =>
         obtain ⟨u', r', he, hu, hx⟩ := zRg ν (sz := 1) (vs := u :: r) (xs := u :: r) (by simpa using c6) rfl
         obtain ⟨rfl, rfl⟩ := List.cons.inj he
         have h0' : u.den ν = .int k n := by simpa [SV.denL] using h0
         exact zEN ν fun v hv => (hx v hv).trans (zEn ν hu h0')
       obtain ⟨m, hm⟩ := hall _ (List.getElem_mem hi)
       exact ⟨m, by simp only [World.cell?, hw]; simp [hi, hm]⟩
     have := zEp h h1 hl1 hbel (p := ⟨(ν ob).blk, len, false⟩) g1 hfree (zj hl1 _ g3) hgr hn hp
     rw [c3]; exact this
    ·simp at hx
   ·simp at hx
  ·simp at hx
 ·simp at hx
theorem zQU (h : Sat B ν σ a w) {o : Oper} {k : Option Nat} {K : St -> Prop} {p : Prop} (hx : zP2 P k o σ K = some p) (hp : p) {next : Act -> World -> Prop} {Q : Exit -> Act -> World -> Prop}
  (hn : zAC B ν σ.hp w K next) : o.wp P a w next Q := by
 unfold zP2 at hx
 split at hx
 ·rename_i q hq
  simp only [Option.some.injEq] at hx; subst hx
  exact zO8 h hq hp hn
 ·exact zO9 h hx hp hn
end
end Go.Proofs.YtajcmjjgnbaahaaGreat.Sx
