/- What a call of a function says that only reads a slice, and makes new rows: from wherever the slice lies. -/
import Derived.Test.YtajcmjjgnbaahaaGreatSx5
set_option linter.unusedVariables false
set_option linter.unusedSimpArgs false
namespace Go.Proofs.YtajcmjjgnbaahaaGreat.Sx
open Go Go.RowKit
def zY (st : NE) (cols : List Col) : List Col :=
 match st with
 | .lit 0 => cols
 | st => cols.map fun c => c.shift st.den
def Col.nrm : Col -> Col
 | .int k g => .int k fun e => .var (g e).den
 | .bool g => .bool fun e => .var (g e).den
 | c => c
def zWW (hp : List SObj) (sz : Nat) (zs : List Col) (x : SV) : Option (List Nat × Option BE × List Col × NE × NE) :=
 match x with
 | .nils => some ([], none, zs, .lit 0, .lit 0)
 | x =>
  match zHq hp sz x with
  | some (_, o, cols, n, st, len, cap) => (zGh (askB (leNE (NE.two (· + ·) st cap) n)) (askB (leNE len cap))).map fun p => ([o], p, (zY st cols).map Col.nrm, len, cap)
  | none => none
inductive ArgK where
 | rows (sz : Nat) (zs : List Col)
 | plain
 | held
abbrev Ins := List (List Col × Nat × Nat)
def zAX (hp : List SObj) : List ArgK -> List SV -> Option (List Nat × List (Option BE) × List (List Col × NE × NE) × List SV)
 | [], [] => some ([], [], [], [])
 | .rows sz zs :: sh, x :: xs =>
  match zWW hp sz zs x, zAX hp sh xs with
  | some (o, p, cols, len, cap), some (ss, ps, ins, pl) => some (o ++ ss, p :: ps, (cols, len, cap) :: ins, pl)
  | _, _ => none
 | .plain :: sh, x :: xs =>
  match zAX hp sh xs with
  | some (ss, ps, ins, pl) => some (ss, ps, ins, x :: pl)
  | none => none
 | .held :: sh, x :: xs =>
  match zAX hp sh xs with
  | some (ss, ps, ins, pl) => some (ss, ps, ins, pl)
  | none => none
 | _, _ => none
def zPk : List (Option BE) -> Prop -> Prop
 | [], K => K
 | p :: r, K => askP p (zPk r K)
def zBB : List (List Col × NE × NE) -> Ins
 | [] => []
 | (cs, l, c) :: r => (cs, l.den, c.den) :: zBB r
def zJq : List (List Col × NE × NE) -> (Ins -> Prop) -> Prop
 | [], K => K []
 | (cs, l, c) :: r, K => ∀ cs' : List Col, cs' = cs -> zJq r fun ins => K ((cs', l.den, c.den) :: ins)
theorem zHe : ∀ {l : List (List Col × NE × NE)} {K : Ins -> Prop}, zJq l K -> K (zBB l)
 | [], K, h => h
 | (cs, l, c) :: r, K, h => zHe (l := r) (K := fun ins => K ((cs, l.den, c.den) :: ins)) (h cs rfl)
mutual
def SV.nrm : SV -> SV
 | .int k e => .int k (.var e.den)
 | .bool e => .bool (.var e.den)
 | .str s => .strE s
 | .agg l => .agg (SV.nrmL l)
 | v => v
def SV.nrmL : List SV -> List SV
 | [] => []
 | v :: r => v.nrm :: SV.nrmL r
end
def zW : List ArgK -> Ins -> List SV -> List Value -> Nat -> List SV
 | .rows sz _ :: sh, (_, len, cap) :: ins, pl, u, k => .sliceE true k sz (.lit 0) (.var len) (.var cap) :: zW sh ins pl u (k + 1)
 | .plain :: sh, ins, v :: pl, u, k => v.nrm :: zW sh ins pl u k
 | .held :: sh, ins, pl, v :: u, k => .val v :: zW sh ins pl u k
 | _, _, _, _, _ => []
def zJi : List ArgK -> Nat
 | .held :: sh => zJi sh + 1
 | _ :: sh => zJi sh
 | [] => 0
def zg : Ins -> List SObj
 | [] => []
 | (cs, _, cap) :: r => .row false true cs (.var cap) :: zg r
def zMO : List ArgK -> Ins -> Prop
 | .rows sz _ :: sh, (cs, _, _) :: r => cs.length = sz /\ zMO sh r
 | .plain :: sh, r => zMO sh r
 | .held :: sh, r => zMO sh r
 | [], [] => True
 | _, _ => False
inductive Out where
 | one (val : Nat -> SV) (new : List SObj) (cs : List SV)
 | any (β : Type) (post : β -> Prop) (val : β -> Nat -> SV) (new : β -> List SObj) (cs : β -> List SV)
def Out.all (o : Out) (n : Nat) (f : SV -> List SObj -> List SV -> Prop) : Prop :=
 match o with
 | .one val new cs => f (val n) new cs
 | .any _ post val new cs => ∀ b, post b -> f (val b n) (new b) (cs b)
def Out.some (o : Out) (n : Nat) (f : SV -> List SObj -> List SV -> Prop) : Prop :=
 match o with
 | .one val new cs => f (val n) new cs
 | .any _ post val new cs => ∃ b, post b /\ f (val b n) (new b) (cs b)
structure zSN (val : Nat -> SV) (k : Nat) : Prop where
 den : ∀ n m (ν ν' : Nat -> Pl), (∀ i, i < k -> ν (n + i) = ν' (m + i)) -> (val n).den ν = (val m).den ν'
 wf : ∀ n (p : Nat -> Prop), (∀ i, i < k -> p (n + i)) -> (val n).wf p
def zDH : List SObj -> Bool
 | [] => true
 | .row true _ _ _ :: r => zDH r
 | _ => false
structure zNM (val : Nat -> SV) (new : List SObj) (cs : List SV) : Prop where
 mov : zSN val new.length
 own : zDH new = true
 shut : SV.wfL (fun _ => False) cs
def Out.good : Out -> Prop
 | .one val new cs => zNM val new cs
 | .any _ _ val new cs => ∀ b, zNM (val b) (new b) (cs b)
def zPK : List Out -> (Out -> Prop) -> Prop
 | [], _ => True
 | [o], f => f o
 | o :: r, f => f o /\ zPK r f
def zFH : List Out -> (Out -> Prop) -> Prop
 | [], _ => False
 | [o], f => f o
 | o :: r, f => f o ∨ zFH r f
def zAK (shape : List ArgK) (pre : Ins -> List SV -> Prop) (outs : Ins -> List SV -> List Out) : zl := fun args hp K =>
 match zAX hp shape args with
 | some (_, ps, ins, pl) => if zEw [] pl then zPk ps (zJq ins fun ins => pre ins pl /\ zPK (outs ins pl) fun o => o.all hp.length fun v new _ => K v (hp ++ new)) else zF 201
 | none => zF 200
def zBn (shape : List ArgK) (outs : Ins -> List SV -> List Out) : zEz := fun args hp =>
 match zAX hp shape args with
 | some (_, _, ins, pl) =>
  match outs (zBB ins) pl with
  | [.one val new _] => some (val hp.length, hp ++ new)
  | _ => none
 | none => none
def zp : List ArgK -> List SV -> List SV -> List SV
 | .plain :: ks, _ :: xs, p :: ps => p :: zp ks xs ps
 | _ :: ks, x :: xs, ps => x :: zp ks xs ps
 | _, xs, _ => xs
def zC9 (ty : TypeId) (ks shape : List ArgK) (pre : Ins -> List SV -> Ins -> List SV -> Prop) (outs : Ins -> List SV -> Ins -> List SV -> List Out) : zl := fun args hp K =>
 match args with
 | .ptr o 0 :: args =>
  match hp[o]? with
  | some (.cells vs ty') =>
   match zAX hp ks vs, zAX hp shape args with
   | some (ss, ps, ins, pl), some (ss', ps', ins', pl') =>
    if ty = ty' /\ zEw [] pl = true /\ zEw [] pl' = true /\ ss.contains o = false /\ ss'.contains o = false /\ zJi shape = 0 then
     zPk ps (zPk ps' (pre (zBB ins) pl (zBB ins') pl' /\ zPK (outs (zBB ins) pl (zBB ins') pl') fun oc => oc.all hp.length fun v new cs => K v (zS hp o (.cells (zp ks vs cs) ty) ++ new)))
    else zF 203
   | _, _ => zF 202
  | _ => zF 204
 | _ => zF 205
def zEL (ty : TypeId) (ks shape : List ArgK) (outs : Ins -> List SV -> Ins -> List SV -> List Out) : zEz := fun args hp =>
 match args with
 | .ptr o 0 :: args =>
  match hp[o]? with
  | some (.cells vs ty') =>
   match zAX hp ks vs, zAX hp shape args with
   | some (_, _, ins, pl), some (_, _, ins', pl') =>
    match outs (zBB ins) pl (zBB ins') pl' with
    | [.one val new cs] => some (val hp.length, zS hp o (.cells (zp ks vs cs) ty) ++ new)
    | _ => none
   | _, _ => none
  | _ => none
 | _ => none
section
variable {P : Program} {Γ : FuncId -> Option Cal} {B : Nat -> Prop} {ν : Nat -> Pl} {w : World}
structure zD0 (B : Nat -> Prop) (ν : Nat -> Pl) (hp : List SObj) (w : World) (ss : List Nat) (p : Pl) (cs : List Col) (n : Nat) : Prop where
 sat : zw (fun b => b = p.blk) p w false true cs n
 src : p.nil = false -> p.blk < w.heap.size /\ ∃ o ∈ ss, p.blk = (ν o).blk /\ (zAc ν hp o ∨ B p.blk)
theorem zD0.row {hp : List SObj} {ss : List Nat} {p : Pl} {cs : List Col} {n : Nat} (h : zD0 B ν hp w ss p cs n) {B' : Nat -> Prop} (hb : p.nil = false -> B' p.blk) : zw B' p w false true cs n :=
 ⟨h.sat.empty, fun _ h => (by cases h), fun hn _ => hb (by simpa using hn), h.sat.cell, fun h => (by cases h)⟩
theorem zD0.more {hp : List SObj} {ss ss' : List Nat} {p : Pl} {cs : List Col} {n : Nat} (h : zD0 B ν hp w ss p cs n) (hs : ∀ o ∈ ss, o ∈ ss') : zD0 B ν hp w ss' p cs n :=
 ⟨h.sat, fun hn => by obtain ⟨h1, o, h2, h3⟩ := h.src hn; exact ⟨h1, o, hs o h2, h3⟩⟩
theorem zLP {st : NE} {cols : List Col} {j : Nat} {c : Col} (h : (zY st cols)[j]? = some c) : ∃ c0, cols[j]? = some c0 /\ ∀ e v, c0.holds (st.den + e) v -> c.holds e v := by
 unfold zY at h
 split at h
 ·exact ⟨c, h, fun e v hv => by simpa [NE.den] using hv⟩
 ·rw [List.getElem?_map, Option.map_eq_some_iff] at h
  obtain ⟨c0, h0, rfl⟩ := h
  exact ⟨c0, h0, fun e v hv => by cases c0 <;> exact hv⟩
theorem zQ0 {c : Col} {e : Nat} {v : Value} (h : c.holds e v) : c.nrm.holds e v := by
 cases c <;> exact h
theorem zCn (st : NE) (cols : List Col) : (zY st cols).length = cols.length := by
 unfold zY; split <;> simp
theorem zM7 {hp : List SObj} (h : z6 B ν hp w) (hB : zEy B w) {sz : Nat} {zs cols : List Col} {x : SV} {ss : List Nat} {p : Option BE} {len cap : NE} (hz : zs.length = sz) (hx : zWW hp sz zs x = some (ss, p, cols, len, cap)) (hp' : zAJ p) :
  ∃ pl : Pl, zD0 B ν hp w ss pl cols cap.den /\ cols.length = sz /\ x.den ν = .slice (bif pl.nil then none else some ⟨pl.blk, pl.off, none⟩) len.den cap.den := by
 have nilc : ∀ ss (cols : List Col), zD0 B ν hp w ss ⟨0, 0, true⟩ cols 0 := fun ss cols =>
  ⟨⟨fun _ => rfl, fun h => (by simp at h), fun h => (by simp at h), fun e he => absurd he (by omega), fun h => (by cases h)⟩, fun h => (by cases h)⟩
 unfold zWW at hx
 split at hx
 ·simp only [Option.some.injEq, Prod.mk.injEq] at hx
  obtain ⟨rfl, rfl, rfl, rfl, rfl⟩ := hx
  exact ⟨⟨0, 0, true⟩, nilc _ _, hz, rfl⟩
 ·split at hx
  ·rename_i inp o cs n st len' cap' hv
   simp only [Option.map_eq_some_iff, Prod.mk.injEq] at hx
   obtain ⟨q, hq, rfl, rfl, rfl, rfl, rfl⟩ := hx
   obtain ⟨qa, qb, hqa, hqb, ha, hb0⟩ := zCe hq hp'
   have hask := zAI hqa ha
   rw [zBs, zAa] at hask
   have hle : st.den + cap'.den <= n.den := of_decide_eq_true hask
   obtain ⟨d1, d2, d3, ⟨ob, ho, hvw⟩, d4⟩ := zBc h.obj hv
   rw [d1]
   cases hb : (inp && (ν o).nil) with
   | true =>
    have h0 : cap'.den = 0 := by have := d3 hb; omega
    refine ⟨⟨0, 0, true⟩, ?_, by rw [List.length_map, zCn]; exact d2, by simp⟩
    rw [h0]; exact nilc _ _
   | false =>
    refine ⟨⟨(ν o).blk, (ν o).base inp + st.den * sz, false⟩, ⟨⟨fun h => (by simp at h), fun _ h => (by cases h), fun _ _ => rfl, ?_, fun h => (by cases h)⟩, fun _ => ?_⟩, by rw [List.length_map, zCn]; exact d2, by simp⟩
    ·intro e he j c hj
     rw [List.getElem?_map, Option.map_eq_some_iff] at hj
     obtain ⟨c', hj, rfl⟩ := hj
     obtain ⟨c0, hc0, hc1⟩ := zLP hj
     obtain ⟨v, v1, v2⟩ := d4 (st.den + e) (by omega) j c0 hc0
     refine ⟨v, ?_, zQ0 (hc1 e v v2)⟩
     rw [<- v1, List.length_map, zCn, d2, Nat.add_mul]; simp [Pl.base, Nat.add_assoc]
    ·have hob := h.obj o ob ho
     cases ob with
     | cells vs ty => exact ⟨(Array.getElem?_eq_some_iff.1 hob.2.1).1, o, by simp, rfl, .inl ⟨_, ho, rfl⟩⟩
     | dead => simp [zAB] at hvw
     | husk => simp [zAB] at hvw
     | map ks vs => simp [zAB] at hvw
     | grown sz vs => simp [zAB] at hvw
     | glob g vs => simp [zAB] at hvw
     | row own inp' cols' m =>
      simp only [zAB] at hvw
      split at hvw
      ·simp only [Option.some.injEq, Prod.mk.injEq] at hvw
       obtain ⟨rfl, _, _⟩ := hvw
       have hr : zw B (ν o) w own inp' cols' m.den := hob
       cases hw : own with
       | true => exact ⟨(hr.lo hb hw).2, o, by simp, rfl, .inl ⟨_, ho, by simp [SObj.owns, hw, hb]⟩⟩
       | false => exact ⟨hB _ (hr.hi hb hw), o, by simp, rfl, .inr (hr.hi hb hw)⟩
      ·simp at hvw
  ·simp at hx
theorem zDo : ∀ {l : List SObj} {i : Nat} {x : SObj}, zDH l = true -> l[i]? = some x -> ∃ inp cols n, x = .row true inp cols n
 | .row true inp cols n :: r, 0, x, _, hx => by simp at hx; exact ⟨inp, cols, n, hx.symm⟩
 | .row true inp cols n :: r, i + 1, x, h, hx => zDo (l := r) (i := i) (by simpa [zDH] using h) (by simpa using hx)
 | [], i, x, _, hx => by simp at hx
 | .row false _ _ _ :: _, _, _, h, _ => by simp [zDH] at h
 | .cells _ _ :: _, _, _, h, _ => by simp [zDH] at h
 | .dead :: _, _, _, h, _ => by simp [zDH] at h
 | .husk :: _, _, _, h, _ => by simp [zDH] at h
 | .map _ _ :: _, _, _, h, _ => by simp [zDH] at h
theorem zGA : ∀ {ps : List (Option BE)} {K : Prop}, zPk ps K -> (∀ p ∈ ps, zAJ p) /\ K
 | [], K, h => ⟨by simp, h⟩
 | p :: r, K, h => by
  obtain ⟨h1, h2⟩ := zCd h
  obtain ⟨h3, h4⟩ := zGA h2
  exact ⟨fun q hq => by rcases List.mem_cons.1 hq with rfl | hq; exact h1; exact h3 q hq, h4⟩
theorem zIB : ∀ {l : List Out} {f : Out -> Prop}, zPK l f -> ∀ o ∈ l, f o
 | [o], f, h, x, hx => by simp at hx; subst hx; exact h
 | o :: o' :: r, f, h, x, hx => by
  rcases List.mem_cons.1 hx with rfl | hx
  ·exact h.1
  ·exact zIB h.2 x hx
theorem zAV : ∀ {l : List Out} {f : Out -> Prop}, zFH l f -> ∃ o ∈ l, f o
 | [o], f, h => ⟨o, by simp, h⟩
 | o :: o' :: r, f, h => by
  rcases h with h | h
  ·exact ⟨o, by simp, h⟩
  ·obtain ⟨x, hx, hf⟩ := zAV h
   exact ⟨x, List.mem_cons_of_mem _ hx, hf⟩
theorem zF6 : ∀ {l : List SV}, zEw [] l = true -> SV.wfL (fun _ => False) l := fun {l} h =>
 zj (fun o ⟨x, hx, _⟩ => by simp at hx) l (zBo l h)
mutual
theorem zM1 {ν : Nat -> Pl} : ∀ v : SV, v.nrm.den ν = v.den ν
 | .int _ _ | .bool _ | .str _ | .ptr _ _ | .nilp | .slice _ _ _ _ | .nils | .iface _ _ | .nili | .tuple _ | .func _ _ _ | .nilf | .nilm | .val _ | .strE _ | .ptrE _ _ _ _ _ | .sliceE _ _ _ _ _ _ | .mapv _ | .sliceG _ _ _ _ | .gptr _ _ => rfl
 | .agg l => by simp only [SV.nrm, SV.den, zN2 l]
theorem zN2 {ν : Nat -> Pl} : ∀ l : List SV, SV.denL ν (SV.nrmL l) = SV.denL ν l
 | [] => rfl
 | v :: r => by simp only [SV.nrmL, SV.denL, zM1 v, zN2 r]
end
mutual
theorem zUN {p : Nat -> Prop} : ∀ v : SV, v.wf p -> v.nrm.wf p
 | .int _ _, h | .bool _, h | .str _, h | .ptr _ _, h | .nilp, h | .slice _ _ _ _, h | .nils, h | .iface _ _, h | .nili, h | .tuple _, h | .func _ _ _, h | .nilf, h | .nilm, h | .val _, h | .strE _, h | .ptrE _ _ _ _ _, h | .sliceE _ _ _ _ _ _, h | .mapv _, h | .sliceG _ _ _ _, h | .gptr _ _, h => h
 | .agg l, h => zQ1 l h
theorem zQ1 {p : Nat -> Prop} : ∀ l : List SV, SV.wfL p l -> SV.wfL p (SV.nrmL l)
 | [], _ => trivial
 | v :: r, h => ⟨zUN v h.1, zQ1 r h.2⟩
end
theorem zBt : ∀ ins : Ins, (zg ins).length = ins.length
 | [] => rfl
 | (_, _, _) :: r => by simp [zg, zBt r]
theorem zEP : ∀ (ins ins' : Ins), zg (ins ++ ins') = zg ins ++ zg ins'
 | [], _ => rfl
 | (a, b, c) :: r, ins' => by
  show SObj.row false true a (.var c) :: zg (r ++ ins') = _
  rw [zEP r ins']; rfl
theorem zDP {hp : List SObj} (h : z6 B ν hp w) (hB : zEy B w) : ∀ {shape : List ArgK} {args : List SV} {ss : List Nat} {ps : List (Option BE)} {ins : List (List Col × NE × NE)} {pl : List SV}, (∀ sz zs, ArgK.rows sz zs ∈ shape -> zs.length = sz) ->
  zAX hp shape args = some (ss, ps, ins, pl) -> (∀ p ∈ ps, zAJ p) -> SV.wfL (fun _ => False) pl ->
  ∃ (pls : List Pl) (u : List Value), pls.length = (zBB ins).length /\ u.length = zJi shape /\ zMO shape (zBB ins) /\ (∀ (i : Nat) (x : SObj), (zg (zBB ins))[i]? = some x -> ∃ (p : Pl) (cs : List Col) (n : Nat), pls[i]? = some p /\ x = .row false true cs (.var n) /\ zD0 B ν hp w ss p cs n) /\
   (∀ (k : Nat) (ν' : Nat -> Pl), (∀ (i : Nat) (p : Pl), pls[i]? = some p -> ν' (k + i) = p) -> SV.denL ν' (zW shape (zBB ins) pl u k) = SV.denL ν args) /\
   ∀ cs : List SV, SV.wfL (fun _ => False) cs -> ∀ (k : Nat) (ν' : Nat -> Pl), (∀ (i : Nat) (p : Pl), pls[i]? = some p -> ν' (k + i) = p) -> SV.denL ν' (zp shape (zW shape (zBB ins) pl u k) cs) = SV.denL ν (zp shape args cs)
 | [], [], ss, ps, ins, pl, _, hv, _, _ => by
  simp [zAX] at hv
  obtain ⟨rfl, rfl, rfl, rfl⟩ := hv
  exact ⟨[], [], rfl, rfl, trivial, fun i x hx => by simp [zBB, zg] at hx, fun k ν' _ => rfl, fun cs _ k ν' _ => by simp [zW, zp, SV.denL]⟩
 | .rows sz zs :: sh, x :: xs, ss, ps, ins, pl, hz, hv, hps, hpl => by
  simp only [zAX] at hv
  split at hv
  ·rename_i o p cols len cap ss' ps' ins' pl' hin hvs
   simp only [Option.some.injEq, Prod.mk.injEq] at hv
   obtain ⟨rfl, rfl, rfl, rfl⟩ := hv
   obtain ⟨p1, hr, hlen, hden⟩ := zM7 h hB (hz sz zs (List.mem_cons_self ..)) hin (hps p (List.mem_cons_self ..))
   obtain ⟨pls, u, e1, eu, e2, e3, e4, e5⟩ := zDP h hB (fun sz zs hm => hz sz zs (List.mem_cons_of_mem _ hm)) hvs (fun p hp => hps p (List.mem_cons_of_mem _ hp)) hpl
   have hd : ∀ (k : Nat) (ν' : Nat -> Pl), (∀ (i : Nat) (p : Pl), (p1 :: pls)[i]? = some p -> ν' (k + i) = p) -> (SV.sliceE true k sz (.lit 0) (.var len.den) (.var cap.den)).den ν' = x.den ν := fun k ν' hν => by
    have := hν 0 p1 rfl
    rw [Nat.add_zero] at this
    rw [hden]
    simp [SV.den, this, Pl.base, zAF, zCi]
   have hsh : ∀ (k : Nat) (ν' : Nat -> Pl), (∀ (i : Nat) (p : Pl), (p1 :: pls)[i]? = some p -> ν' (k + i) = p) -> ∀ (i : Nat) (p : Pl), pls[i]? = some p -> ν' (k + 1 + i) = p := fun k ν' hν i p hp => by
    rw [show k + 1 + i = k + (i + 1) by omega]; exact hν (i + 1) p (by simpa using hp)
   refine ⟨p1 :: pls, u, by simp [zBB, e1], eu, ⟨hlen, e2⟩, fun i y hy => ?_, fun k ν' hν => ?_, fun cs hcs k ν' hν => ?_⟩
   ·cases i with
    | zero => simp [zBB, zg] at hy; exact ⟨p1, cols, cap.den, rfl, hy.symm, hr.more fun o ho => List.mem_append_left _ ho⟩
    | succ i =>
     obtain ⟨p, cs, n, g1, g2, g3⟩ := e3 i y (by simpa [zBB, zg] using hy)
     exact ⟨p, cs, n, by simpa using g1, g2, g3.more fun o ho => List.mem_append_right _ ho⟩
   ·simp only [zBB, zW, SV.denL]
    rw [e4 (k + 1) ν' (hsh k ν' hν), hd k ν' hν]
   ·simp only [zBB, zW, zp, SV.denL]
    rw [e5 cs hcs (k + 1) ν' (hsh k ν' hν), hd k ν' hν]
  ·simp at hv
 | .plain :: sh, x :: xs, ss, ps, ins, pl, hz, hv, hps, hpl => by
  simp only [zAX] at hv
  split at hv
  ·rename_i ss' ps' ins' pl' hvs
   simp only [Option.some.injEq, Prod.mk.injEq] at hv
   obtain ⟨rfl, rfl, rfl, rfl⟩ := hv
   obtain ⟨pls, u, e1, eu, e2, e3, e4, e5⟩ := zDP h hB (fun sz zs hm => hz sz zs (List.mem_cons_of_mem _ hm)) hvs hps hpl.2
   refine ⟨pls, u, e1, eu, e2, e3, fun k ν' hν => ?_, fun cs hcs k ν' hν => ?_⟩
   ·simp only [zW, SV.denL]
    rw [e4 k ν' hν, zM1, zGH ν ν' hpl.1]
   ·cases cs with
    | nil =>
     simp only [zW, zp, SV.denL]
     rw [e5 [] trivial k ν' hν, zM1, zGH ν ν' hpl.1]
    | cons c cs =>
     simp only [zW, zp, SV.denL]
     rw [e5 cs hcs.2 k ν' hν, zGH ν ν' hcs.1]
  ·simp at hv
 | .held :: sh, x :: xs, ss, ps, ins, pl, hz, hv, hps, hpl => by
  simp only [zAX] at hv
  split at hv
  ·rename_i ss' ps' ins' pl' hvs
   simp only [Option.some.injEq, Prod.mk.injEq] at hv
   obtain ⟨rfl, rfl, rfl, rfl⟩ := hv
   obtain ⟨pls, u, e1, eu, e2, e3, e4, e5⟩ := zDP h hB (fun sz zs hm => hz sz zs (List.mem_cons_of_mem _ hm)) hvs hps hpl
   refine ⟨pls, x.den ν :: u, e1, by simp [zJi, eu], e2, e3, fun k ν' hν => ?_, fun cs hcs k ν' hν => ?_⟩
   ·simp only [zW, SV.denL]
    rw [e4 k ν' hν]; rfl
   ·simp only [zW, zp, SV.denL]
    rw [e5 cs hcs k ν' hν]; rfl
  ·simp at hv
 | [], _ :: _, _, _, _, _, _, hv, _, _ => by simp [zAX] at hv
 | .rows _ _ :: _, [], _, _, _, _, _, hv, _, _ => by simp [zAX] at hv
 | .plain :: _, [], _, _, _, _, _, hv, _, _ => by simp [zAX] at hv
 | .held :: _, [], _, _, _, _, _, hv, _, _ => by simp [zAX] at hv
theorem zBJ : ∀ (shape : List ArgK) (ins : Ins) (pl : List SV) (u : List Value) (k n : Nat), SV.wfL (fun _ => False) pl -> k + ins.length <= n -> SV.wfL (fun o => o < n) (zW shape ins pl u k)
 | .rows sz _ :: sh, (_, len, cap) :: ins, pl, u, k, n, h, hk => by
  simp only [List.length_cons] at hk
  exact ⟨by simp only [SV.wf]; omega, zBJ sh ins pl u (k + 1) n h (by omega)⟩
 | .plain :: sh, ins, v :: pl, u, k, n, h, hk => ⟨zUN v (zDf (fun _ h => h.elim) _ h.1), zBJ sh ins pl u k n h.2 hk⟩
 | .held :: sh, ins, pl, v :: u, k, n, h, hk => ⟨trivial, zBJ sh ins pl u k n h hk⟩
 | .plain :: sh, ins, [], u, k, n, _, _ => trivial
 | .rows _ _ :: sh, [], pl, u, k, n, _, _ => trivial
 | .held :: sh, ins, pl, [], k, n, _, _ => trivial
 | [], _, _, _, _, _, _, _ => trivial
theorem zCp {p : Nat -> Prop} : ∀ (ks : List ArgK) (xs cs : List SV), SV.wfL p xs -> SV.wfL (fun _ => False) cs -> SV.wfL p (zp ks xs cs)
 | .plain :: ks, _ :: xs, c :: cs, h, h' => ⟨zDf (fun _ h => h.elim) _ h'.1, zCp ks xs cs h.2 h'.2⟩
 | .plain :: ks, x :: xs, [], h, h' => by simp only [zp]; exact ⟨h.1, zCp ks xs [] h.2 h'⟩
 | .rows _ _ :: ks, x :: xs, cs, h, h' => by simp only [zp]; exact ⟨h.1, zCp ks xs cs h.2 h'⟩
 | .held :: ks, x :: xs, cs, h, h' => by simp only [zp]; exact ⟨h.1, zCp ks xs cs h.2 h'⟩
 | [], xs, cs, h, _ => by simpa [zp] using h
 | .plain :: _, [], cs, _, _ => by simp [zp, SV.wfL]
 | .rows _ _ :: _, [], cs, _, _ => by simp [zp, SV.wfL]
 | .held :: _, [], cs, _, _ => by simp [zp, SV.wfL]
theorem zNp {hp hp5 new : List SObj} (hsat : z6 B ν hp w) {B' : Nat -> Prop} (hBB : ∀ b, B b -> B' b) {w' : World} (hk : ze B' w w') (hlen : hp5.length = hp.length) (hlive : ∀ o, Live hp o -> Live hp5 o)
  (h2 : ∀ i y, hp5[i]? = some y -> (hp[i]? = some y /\ ((y.owns (ν i) = true ∨ B (ν i).blk) -> (ν i).blk < w.heap.size -> B' (ν i).blk)) ∨
   (∃ C ty, y = .cells C ty /\ zAc ν hp i /\ w'.heap[(ν i).blk]? = some (.cells (SV.denL ν C).toArray ty (0, 0)) /\ SV.wfL (Live hp) C))
  (hown : zDH new = true) {n : Nat} {ν4 : Nat -> Pl} (hnew : ∀ i inp cs m, new[i]? = some (.row true inp cs m) -> zw B' (ν4 (n + i)) w' true inp cs m.den)
  (hap : ∀ i i' x x', new[i]? = some x -> new[i']? = some x' -> x.owns (ν4 (n + i)) = true -> x'.owns (ν4 (n + i')) = true -> (ν4 (n + i)).blk = (ν4 (n + i')).blk -> i = i')
  (hfar : ∀ i x, new[i]? = some x -> x.owns (ν4 (n + i)) = true -> ∀ o, zAc ν hp o -> (ν o).blk ≠ (ν4 (n + i)).blk) :
  z6 B (fun i => if i < hp.length then ν i else ν4 (n + (i - hp.length))) (hp5 ++ new) w' /\ (∀ o, Live hp o -> Live (hp5 ++ new) o) /\
   zb (Live hp) ν (fun i => if i < hp.length then ν i else ν4 (n + (i - hp.length))) := by
 have hag : zb (Live hp) ν (fun i => if i < hp.length then ν i else ν4 (n + (i - hp.length))) := fun o ho => by simp [zEM ho]
 have hl : ∀ o, Live hp o -> Live (hp5 ++ new) o := fun o ho => by
  obtain ⟨y, hy, ha⟩ := hlive o ho
  exact ⟨y, by rw [List.getElem?_append_left (List.getElem?_eq_some_iff.1 hy).1]; exact hy, ha⟩
 have hown5 : ∀ i, i < hp.length -> ∀ y, hp5[i]? = some y -> y.owns (ν i) = true -> zAc ν hp i := fun i hi y hy hw => by
  rcases h2 i y hy with ⟨h3, _⟩ | ⟨C, ty, _, h3, _⟩
  ·exact ⟨y, h3, hw⟩
  ·exact h3
 refine ⟨⟨fun i y hy => ?_, fun i i' h3 h4 e => ?_⟩, hl, hag⟩
 ·rw [List.getElem?_append] at hy
  split at hy
  ·rename_i hlt
   rw [hlen] at hlt
   rcases h2 i y hy with ⟨h3, h4⟩ | ⟨C, ty, rfl, h3, h4, h5⟩
   ·exact (hsat.obj i y h3).mono (zBQ h3) hl hag hk.size (fun _ hor hlt' => hk.block _ (h4 hor hlt'))
   ·refine ⟨?_, ?_, zj hl _ h5⟩
    ·simp only [hlt, if_true]; exact hsat.low i h3
    ·simp only [hlt, if_true]; rw [h4, zy hag _ h5]
  ·rename_i hge
   rw [hlen] at hge hy
   obtain ⟨inp, cs, m, rfl⟩ := zDo hown hy
   have hr := hnew _ _ _ _ hy
   show zw B (if i < hp.length then ν i else ν4 (n + (i - hp.length))) w' true inp cs m.den
   rw [if_neg hge]
   exact ⟨hr.empty, fun a b => ⟨fun hb => (hr.lo a b).1 (hBB _ hb), (hr.lo a b).2⟩, fun _ h => (by cases h), hr.cell, hr.thawed⟩
 ·have cases_ : ∀ i, zAc (fun i => if i < hp.length then ν i else ν4 (n + (i - hp.length))) (hp5 ++ new) i ->
    (i < hp.length /\ zAc ν hp i) ∨ (¬ i < hp.length /\ ∃ x, new[i - hp.length]? = some x /\ x.owns (ν4 (n + (i - hp.length))) = true) := fun i ⟨y, hy, hw⟩ => by
   rw [List.getElem?_append] at hy
   split at hy
   ·rename_i hlt
    rw [hlen] at hlt
    simp only [hlt, if_true] at hw
    exact .inl ⟨hlt, hown5 i hlt y hy hw⟩
   ·rename_i hge
    rw [hlen] at hge hy
    simp only [hge, if_false] at hw
    exact .inr ⟨hge, y, hy, hw⟩
  rcases cases_ i h3 with ⟨c1, c2⟩ | ⟨c1, x, cx, c2⟩ <;> rcases cases_ i' h4 with ⟨d1, d2⟩ | ⟨d1, y, dy, d2⟩
  ·simp only [c1, d1, if_true] at e; exact hsat.apart i i' c2 d2 e
  ·simp only [c1, d1, if_true, if_false] at e; exact absurd e (hfar _ y dy d2 i c2)
  ·simp only [c1, d1, if_true, if_false] at e; exact absurd e.symm (hfar _ x cx c2 i' d2)
  ·simp only [c1, d1, if_false] at e
   have := hap _ _ _ _ cx dy c2 d2 e
   omega
theorem Out.some_elim {o : Out} {n : Nat} {f : SV -> List SObj -> List SV -> Prop} (h : o.some n f) (hg : o.good) :
  ∃ val new cs, zNM val new cs /\ f (val n) new cs /\ ∀ n' (g : SV -> List SObj -> List SV -> Prop), o.all n' g -> g (val n') new cs := by
 cases o with
 | one val new cs => exact ⟨val, new, cs, hg, h, fun n' g hh => hh⟩
 | any β post val new cs =>
  obtain ⟨b, hb, hf⟩ := h
  exact ⟨val b, new b, cs b, hg b, hf, fun n' g hh => hh b hb⟩
theorem zH5 {f : FuncId} {s : zl} (hs : zZ P f s) {shape : List ArgK} {pre : Ins -> List SV -> Prop} {outs : Ins -> List SV -> List Out} (hz : ∀ sz zs, ArgK.rows sz zs ∈ shape -> zs.length = sz)
  (hg : ∀ ins pl, ∀ o ∈ outs ins pl, o.good)
  (h : ∀ ins pl u, zMO shape ins -> SV.wfL (fun _ => False) pl -> pre ins pl ->
   s (zW shape ins pl u 0) (zg ins) (fun v hp => zFH (outs ins pl) fun o => o.some ins.length fun val new _ => zA8 ins.length 1 { tmps := [v], hp := hp } [(0, val)] (zg ins ++ new))) :
  zZ P f (zAK shape pre outs) := by
 intro B ν hp w args K hsat hB hwf hx
 unfold zAK at hx
 split at hx
 ·rename_i ss ps ins0 pl hv
  split at hx
  ·rename_i hcl
   obtain ⟨hps, hx⟩ := zGA hx
   obtain ⟨hpre, hk⟩ := zHe hx
   have he := zF6 hcl
   obtain ⟨pls, u, e1, eu, e2, e3, e4, _⟩ := zDP hsat hB hz hv hps he
   generalize hins : zBB ins0 = ins at *
   have hrun := h ins pl u e2 he hpre
   let ν0 : Nat -> Pl := fun o => (pls[o]?).getD ⟨0, 0, false⟩
   have hflen := zBt ins
   have hs0 : z6 (fun b => b < w.heap.size) ν0 (zg ins) w := by
    refine ⟨fun o y hy => ?_, fun o o' ho' => ?_⟩
    ·obtain ⟨p, cs, n, h1, rfl, h3⟩ := e3 o y hy
     show zw _ (ν0 o) w false true cs n
     have : ν0 o = p := by simp [ν0, h1]
     rw [this]; exact h3.row fun hn => (h3.src hn).1
    ·obtain ⟨y, hy, hw⟩ := ho'
     obtain ⟨p, cs, n, h1, rfl, h3⟩ := e3 o y hy
     simp [SObj.owns] at hw
   have hlive0 : ∀ o, o < ins.length -> Live (zg ins) o := fun o hlt => by
    have hx : (zg ins)[o]? = some (zg ins)[o] := List.getElem?_eq_getElem (by omega)
    obtain ⟨p, cs, n, h1, h2, h3⟩ := e3 o _ hx
    exact ⟨_, hx, by rw [h2]; rfl⟩
   have hc := hs (fun b => b < w.heap.size) ν0 _ w (zW shape ins pl u 0) _ hs0 (fun _ h => h) (zj (fun o ho => hlive0 o ho) _ (zBJ shape ins pl u 0 ins.length he (by omega))) hrun
   rw [e4 0 ν0 fun i p hp => by simp [ν0, hp]] at hc
   refine hc.mono ?_
   rintro e w' ⟨ν1, v, hp1', l1, a1, rfl, v1, s1, b1, hout⟩
   obtain ⟨oc, hoc, hsm⟩ := zAV hout
   obtain ⟨val, new, cs, gd, hsim, hall⟩ := Out.some_elim hsm (hg ins pl oc hoc)
   have hkk := hall _ _ (zIB hk oc hoc)
   have hact : Sat (fun b => b < w.heap.size) ν1 { tmps := [v], hp := hp1' } { tmps := #[v.den ν1], defers := [] } w' :=
    ⟨by simp [SV.denL], ⟨v1, trivial⟩, rfl, s1, fun b hb => Nat.lt_of_lt_of_le hb b1.size⟩
   obtain ⟨uu, ν4, s4, _, _⟩ := zCm hact hsim (p := fun _ => False) (fun o h => h.elim) (fun o h => h.elim)
   have e4' : v.den ν1 = (val ins.length).den ν4 := by
    have := s4.tmps
    simp [zF0, zEF, SV.denL] at this
    exact this
   have hat : ∀ i x, new[i]? = some x -> (zg ins ++ new)[ins.length + i]? = some x := fun i x hi => by
    rw [List.getElem?_append_right (by omega), hflen, Nat.add_sub_cancel_left]; exact hi
   obtain ⟨r1, r2, r3⟩ := zNp (hp5 := hp) (new := new) (n := ins.length) (ν4 := ν4) hsat (B' := fun b => b < w.heap.size) hB b1 rfl (fun _ h => h) (fun i y hy => .inl ⟨hy, fun _ hlt => hlt⟩) gd.own
    (fun i inp cs n hi => s4.hp.obj (ins.length + i) _ (hat i _ hi))
    (fun i i' x x' hi hi' hw hw' ee => by have := s4.hp.apart (ins.length + i) (ins.length + i') ⟨x, hat i x hi, hw⟩ ⟨x', hat i' x' hi', hw'⟩ ee; omega)
    (fun i x hi hw o ho ee => by
     have h1 := hsat.size o ho
     have h2 := s4.hp.low (ins.length + i) ⟨x, hat i x hi, hw⟩
     rw [ee] at h1; exact h2 h1)
   refine ⟨_, val hp.length, hp ++ new, r2, r3, ?_, gd.mov.wf _ _ (fun i hi => ?_), r1, b1.mono hB, hkk⟩
   ·rw [e4', gd.mov.den hp.length ins.length _ ν4 fun i _ => by simp only [show ¬ hp.length + i < hp.length by omega, if_false, Nat.add_sub_cancel_left]]
   ·have hx : new[i]? = some new[i] := List.getElem?_eq_getElem hi
    obtain ⟨inp, cs, n, ee⟩ := zDo gd.own hx
    refine ⟨new[i], ?_, by rw [ee]; rfl⟩
    rw [List.getElem?_append_right (by omega), Nat.add_sub_cancel_left]; exact hx
  ·exact nomatch hx
 ·exact nomatch hx
theorem zYa {f : FuncId} {s : zl} (hs : zZ P f s) {ty : TypeId} {ks shape : List ArgK} {pre : Ins -> List SV -> Ins -> List SV -> Prop} {outs : Ins -> List SV -> Ins -> List SV -> List Out}
  (hz : ∀ sz zs, ArgK.rows sz zs ∈ ks ++ shape -> zs.length = sz) (hg : ∀ ins pl ins' pl', ∀ o ∈ outs ins pl ins' pl', o.good)
  (h : ∀ ins pl ins' pl' u, zMO ks ins -> zMO shape ins' -> u.length = zJi ks -> SV.wfL (fun _ => False) pl -> SV.wfL (fun _ => False) pl' -> pre ins pl ins' pl' ->
   s (.ptr (ins.length + ins'.length) 0 :: zW shape ins' pl' [] ins.length) (zg (ins ++ ins') ++ [.cells (zW ks ins pl u 0) ty])
    (fun v hp => zFH (outs ins pl ins' pl') fun o => o.some (ins.length + ins'.length + 1) fun val new cs => zA8 (ins.length + ins'.length + 1) 1 { tmps := [v], hp := hp } [(0, val)] (zg (ins ++ ins') ++ [.cells (zp ks (zW ks ins pl u 0) cs) ty] ++ new))) :
  zZ P f (zC9 ty ks shape pre outs) := by
 intro B ν hp w args K hsat hB hwf hx
 unfold zC9 at hx
 split at hx
 ·rename_i o args'
  split at hx
  ·rename_i vs ty' ho
   split at hx
   ·rename_i ss ps ins0 pl ss' ps' ins0' pl' hv hv'
    split at hx
    ·rename_i hcl
     obtain ⟨rfl, hcl1, hcl2, hno, hno', hheld⟩ := hcl
     obtain ⟨hps, hx⟩ := zGA hx
     obtain ⟨hps', hpre, hk⟩ := zGA hx
     have he := zF6 hcl1
     have he' := zF6 hcl2
     obtain ⟨pls, u, e1, eu, e2, e3, e4, e5⟩ := zDP hsat hB (fun sz zs hm => hz sz zs (List.mem_append_left _ hm)) hv hps he
     obtain ⟨pls', u', e1', eu', e2', e3', e4', _⟩ := zDP hsat hB (fun sz zs hm => hz sz zs (List.mem_append_right _ hm)) hv' hps' he'
     have hu0 : u' = [] := by rw [hheld] at eu'; exact List.length_eq_zero_iff.1 eu'
     subst hu0
     generalize hins : zBB ins0 = ins at *
     generalize hins' : zBB ins0' = ins' at *
     have hrun := h ins pl ins' pl' u e2 e2' eu he he' hpre
     obtain ⟨ob1, ob2, ob3⟩ := hsat.obj o _ ho
     have hoo : zAc ν hp o := ⟨_, ho, rfl⟩
     have hosz := hsat.size o hoo
     have hq : ∀ p ∈ ss ++ ss', p ≠ o := fun p hp e => by
      subst e
      rcases List.mem_append.1 hp with h1 | h1
      ·have := List.contains_iff_mem.2 h1; rw [hno] at this; cases this
      ·have := List.contains_iff_mem.2 h1; rw [hno'] at this; cases this
     let N := ins.length + ins'.length
     let ν0 : Nat -> Pl := fun i => if i = N then ν o else ((pls ++ pls')[i]?).getD ⟨0, 0, false⟩
     let B' : Nat -> Prop := fun b => b < w.heap.size /\ b ≠ (ν o).blk
     have hflen : (zg (ins ++ ins')).length = N := by rw [zBt, List.length_append]
     have hfapp : zg (ins ++ ins') = zg ins ++ zg ins' := zEP ins ins'
     have hrowat : ∀ (i : Nat) (x : SObj), (zg (ins ++ ins'))[i]? = some x -> ∃ (p : Pl) (cs : List Col) (n : Nat), (pls ++ pls')[i]? = some p /\ x = .row false true cs (.var n) /\ zD0 B ν hp w (ss ++ ss') p cs n := fun i x hi => by
      rw [hfapp, List.getElem?_append] at hi
      rw [zBt] at hi
      split at hi
      ·rename_i hlt
       obtain ⟨p, cs, n, h1, h2, h3⟩ := e3 i x hi
       exact ⟨p, cs, n, by rw [List.getElem?_append_left (by omega)]; exact h1, h2, h3.more fun o ho => List.mem_append_left _ ho⟩
      ·rename_i hge
       obtain ⟨p, cs, n, h1, h2, h3⟩ := e3' _ x hi
       exact ⟨p, cs, n, by rw [List.getElem?_append_right (by omega), e1]; exact h1, h2, h3.more fun o ho => List.mem_append_right _ ho⟩
     have hNat : ∀ i p, (pls ++ pls')[i]? = some p -> ν0 i = p := fun i p hi => by
      have hlt : i < N := by
       have := (List.getElem?_eq_some_iff.1 hi).1
       simp only [List.length_append, e1, e1'] at this
       exact this
      simp only [ν0, show ¬ i = N by omega, if_false, hi, Option.getD_some]
     have hνa : ∀ i p, pls[i]? = some p -> ν0 (0 + i) = p := fun i p hi => hNat _ p (by rw [Nat.zero_add, List.getElem?_append_left (List.getElem?_eq_some_iff.1 hi).1]; exact hi)
     have hνb : ∀ i p, pls'[i]? = some p -> ν0 (ins.length + i) = p := fun i p hi => hNat _ p (by rw [List.getElem?_append_right (by omega), e1, Nat.add_sub_cancel_left]; exact hi)
     have hνo : ν0 N = ν o := by simp [ν0]
     have hF : ∀ i x, (zg (ins ++ ins') ++ [.cells (zW ks ins pl u 0) ty])[i]? = some x -> (i < N /\ (zg (ins ++ ins'))[i]? = some x) ∨ (i = N /\ x = .cells (zW ks ins pl u 0) ty) := fun i x hi => by
      rw [List.getElem?_append] at hi
      split at hi
      ·rename_i hlt; exact .inl ⟨by omega, hi⟩
      ·rename_i hge
       have h0 : i - (zg (ins ++ ins')).length < 1 := by simpa using (List.getElem?_eq_some_iff.1 hi).1
       have h1 : i - (zg (ins ++ ins')).length = 0 := by omega
       rw [h1] at hi
       simp at hi
       exact .inr ⟨by omega, hi.symm⟩
     have hFl : ∀ i, i < N + 1 -> Live (zg (ins ++ ins') ++ [.cells (zW ks ins pl u 0) ty]) i := fun i hi => by
      by_cases hN : i = N
      ·exact ⟨.cells (zW ks ins pl u 0) ty, by rw [hN, List.getElem?_append_right (by omega), hflen, Nat.sub_self]; rfl, rfl⟩
      ·have hx : (zg (ins ++ ins'))[i]? = some (zg (ins ++ ins'))[i] := List.getElem?_eq_getElem (by omega)
       obtain ⟨p, cs, n, h1, h2, h3⟩ := hrowat i _ hx
       exact ⟨_, by rw [List.getElem?_append_left (by omega)]; exact hx, by rw [h2]; rfl⟩
     have hs0 : z6 B' ν0 (zg (ins ++ ins') ++ [.cells (zW ks ins pl u 0) ty]) w := by
      refine ⟨fun i y hy => ?_, fun i i' hi hi' _ => ?_⟩
      ·rcases hF i y hy with ⟨h1, h2⟩ | ⟨rfl, rfl⟩
       ·obtain ⟨p, cs, n, g1, rfl, g3⟩ := hrowat i y h2
        show zw _ (ν0 i) w false true cs n
        rw [hNat i p g1]
        refine g3.row fun hn => ?_
        obtain ⟨g4, o', g5, g6, g7⟩ := g3.src hn
        refine ⟨g4, fun ee => ?_⟩
        rcases g7 with g7 | g7
        ·exact hq o' g5 (hsat.apart o' o g7 hoo (by rw [<- g6, ee]))
        ·exact ob1 (ee ▸ g7)
       ·refine ⟨fun hb => hb.2 (by rw [hνo]), ?_, zj (fun i hi => hFl i (by omega)) _ (zBJ ks ins pl u 0 N he (by omega))⟩
        rw [hνo, ob2, e4 0 ν0 hνa]
      ·have key : ∀ i, zAc ν0 (zg (ins ++ ins') ++ [.cells (zW ks ins pl u 0) ty]) i -> i = N := fun i ⟨y, hy, hw⟩ => by
        rcases hF i y hy with ⟨h1, h2⟩ | ⟨h1, _⟩
        ·obtain ⟨p, cs, n, g1, rfl, g3⟩ := hrowat i y h2
         simp [SObj.owns] at hw
        ·exact h1
       rw [key i hi, key i' hi']
     have hc := hs B' ν0 _ w (.ptr (ins.length + ins'.length) 0 :: zW shape ins' pl' [] ins.length) _ hs0 (fun b hb => hb.1)
      ⟨hFl N (by omega), zj (fun i hi => hFl i hi) _ (zBJ shape ins' pl' [] ins.length (N + 1) he' (by omega))⟩ hrun
     have hargs : SV.denL ν0 (.ptr (ins.length + ins'.length) 0 :: zW shape ins' pl' [] ins.length) = SV.denL ν (.ptr o 0 :: args') := by
      simp only [SV.denL]
      rw [e4' ins.length ν0 hνb]
      simp only [SV.den]
      rw [show ν0 (ins.length + ins'.length) = ν o from hνo]
     rw [hargs] at hc
     refine hc.mono ?_
     rintro e w' ⟨ν1, v, hp1', l1, a1, rfl, v1, s1, b1, hout⟩
     obtain ⟨oc, hoc, hsm⟩ := zAV hout
     obtain ⟨val, new, cs, gd, hsim, hall⟩ := Out.some_elim hsm (hg ins pl ins' pl' oc hoc)
     have hkk := hall _ _ (zIB hk oc hoc)
     have hact : Sat B' ν1 { tmps := [v], hp := hp1' } { tmps := #[v.den ν1], defers := [] } w' :=
      ⟨by simp [SV.denL], ⟨v1, trivial⟩, rfl, s1, fun b hb => Nat.lt_of_lt_of_le hb.1 b1.size⟩
     obtain ⟨uu, ν4, s4, a4, _⟩ := zCm hact hsim (p := fun i => i < N + 1) (fun i hi => hi) (fun i hi => l1 i (hFl i hi))
     have e4' : v.den ν1 = (val (ins.length + ins'.length + 1)).den ν4 := by
      have := s4.tmps
      simp [zF0, zEF, SV.denL] at this
      exact this
     have hν4 : ∀ i, i < N + 1 -> ν4 i = ν0 i := fun i hi => (a4 i hi).trans (a1 i (hFl i hi))
     have hcell : (zg (ins ++ ins') ++ [.cells (zp ks (zW ks ins pl u 0) cs) ty] ++ new)[N]? = some (.cells (zp ks (zW ks ins pl u 0) cs) ty) := by
      rw [List.append_assoc, List.getElem?_append_right (by omega), hflen, Nat.sub_self]; rfl
     have hat : ∀ i x, new[i]? = some x -> (zg (ins ++ ins') ++ [.cells (zp ks (zW ks ins pl u 0) cs) ty] ++ new)[N + 1 + i]? = some x := fun i x hi => by
      have hl2 : (zg (ins ++ ins') ++ [SObj.cells (zp ks (zW ks ins pl u 0) cs) ty]).length = N + 1 := by simp [hflen]
      rw [List.getElem?_append_right (by omega), hl2, Nat.add_sub_cancel_left]; exact hi
     obtain ⟨_, oc2, _⟩ := s4.hp.obj N _ hcell
     have hown4 : zAc ν4 (zg (ins ++ ins') ++ [.cells (zp ks (zW ks ins pl u 0) cs) ty] ++ new) N := ⟨_, hcell, rfl⟩
     have hνN : ν4 N = ν o := (hν4 N (by omega)).trans hνo
     have hoc2 : w'.heap[(ν o).blk]? = some (.cells (SV.denL ν (zp ks vs cs)).toArray ty (0, 0)) := by
      rw [hνN] at oc2
      rw [oc2, e5 cs gd.shut 0 ν4 fun i p hi => by
       have hlt : i < N := by
        have := (List.getElem?_eq_some_iff.1 hi).1
        rw [e1] at this
        simp only [N]; omega
       rw [hν4 _ (by omega)]; exact hνa i p hi]
     have hlt : o < hp.length := (List.getElem?_eq_some_iff.1 ho).1
     have hl5 : ∀ o', Live hp o' -> Live (zS hp o (.cells (zp ks vs cs) ty)) o' := fun o' ⟨y, hy, ee⟩ => by
      by_cases hx : o' = o
      ·subst hx; exact ⟨.cells (zp ks vs cs) ty, by rw [zP, List.getElem?_set_self hlt], rfl⟩
      ·exact ⟨y, by rw [zP, List.getElem?_set_ne (by omega)]; exact hy, ee⟩
     have hBB : ∀ b, B b -> B' b := fun b hb => ⟨hB b hb, fun ee => ob1 (ee ▸ hb)⟩
     obtain ⟨r1, r2, r3⟩ := zNp (hp5 := zS hp o (.cells (zp ks vs cs) ty)) (new := new) (n := N + 1) (ν4 := ν4) hsat (B' := B') hBB b1 (zt _ _ _) hl5 (fun i y hy => by
       rw [zP] at hy
       by_cases hx : i = o
       ·subst hx
        rw [List.getElem?_set_self hlt] at hy; cases hy
        exact .inr ⟨_, _, rfl, hoo, hoc2, zCp ks vs cs ob3 gd.shut⟩
       ·rw [List.getElem?_set_ne (by omega)] at hy
        refine .inl ⟨hy, fun hor hlt' => ⟨hlt', fun ee => ?_⟩⟩
        rcases hor with h1 | h1
        ·exact hx (hsat.apart i o ⟨y, hy, h1⟩ hoo ee)
        ·exact ob1 (ee ▸ h1)) gd.own
      (fun i inp cs n hi => s4.hp.obj (N + 1 + i) _ (hat i _ hi))
      (fun i i' x x' hi hi' hw hw' ee => by have := s4.hp.apart (N + 1 + i) (N + 1 + i') ⟨x, hat i x hi, hw⟩ ⟨x', hat i' x' hi', hw'⟩ ee; omega)
      (fun i x hi hw o' ho' ee => by
       have h1 := hsat.size o' ho'
       have h2 := s4.hp.low (N + 1 + i) ⟨x, hat i x hi, hw⟩
       rw [ee] at h1
       refine h2 ⟨h1, fun e9 => ?_⟩
       have := s4.hp.apart (N + 1 + i) N ⟨x, hat i x hi, hw⟩ hown4 (by rw [hνN]; exact e9)
       omega)
     refine ⟨_, val hp.length, zS hp o (.cells (zp ks vs cs) ty) ++ new, r2, r3, ?_, gd.mov.wf _ _ (fun i hi => ?_), r1, b1.mono hBB, hkk⟩
     ·rw [e4', gd.mov.den hp.length (ins.length + ins'.length + 1) _ ν4 fun i _ => by simp only [show ¬ hp.length + i < hp.length by omega, if_false, Nat.add_sub_cancel_left, N]]
     ·have hx : new[i]? = some new[i] := List.getElem?_eq_getElem hi
      obtain ⟨inp, cs', n, ee⟩ := zDo gd.own hx
      refine ⟨new[i], ?_, by rw [ee]; rfl⟩
      rw [List.getElem?_append_right (by rw [zt]; omega), zt, Nat.add_sub_cancel_left]; exact hx
    ·exact nomatch hx
   ·exact nomatch hx
  ·exact nomatch hx
 ·exact nomatch hx
end
end Go.Proofs.YtajcmjjgnbaahaaGreat.Sx
