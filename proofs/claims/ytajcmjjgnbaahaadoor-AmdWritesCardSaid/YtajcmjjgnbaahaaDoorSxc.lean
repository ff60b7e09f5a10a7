/- What a call of a function says that only reads a slice, and makes new rows: from wherever the slice lies. -/
import Derived.Test.YtajcmjjgnbaahaaDoorSx5
namespace Go.Proofs.YtajcmjjgnbaahaaDoor.Sx
open Go Go.RowKit
set_option linter.unusedVariables false
set_option linter.unusedSimpArgs false
def shiftAll (st : NE) (cols : List Col) : List Col :=
  match st with
  | .lit 0 => cols
  | st => cols.map fun c => c.shift st.den
def Col.nrm : Col -> Col
  | .int k g => .int k fun e => .var (g e).den
  | .bool g => .bool fun e => .var (g e).den
  | c => c
def inRow (hp : List SObj) (sz : Nat) (zs : List Col) (x : SV) : Option (List Nat × Option BE × List Col × NE × NE) :=
  match x with
  | .nils => some ([], none, zs, .lit 0, .lit 0)
  | x =>
    match slView hp sz x with
    | some (_, o, cols, n, st, len, cap) => (askBoth (askB (leNE (NE.two (· + ·) st cap) n)) (askB (leNE len cap))).map fun p => ([o], p, (shiftAll st cols).map Col.nrm, len, cap)
    | none => none
inductive ArgK where
  | rows (sz : Nat) (zs : List Col)
  | plain
  | held
abbrev Ins := List (List Col × Nat × Nat)
def viewArgs (hp : List SObj) : List ArgK -> List SV -> Option (List Nat × List (Option BE) × List (List Col × NE × NE) × List SV)
  | [], [] => some ([], [], [], [])
  | .rows sz zs :: sh, x :: xs =>
    match inRow hp sz zs x, viewArgs hp sh xs with
    | some (o, p, cols, len, cap), some (ss, ps, ins, pl) => some (o ++ ss, p :: ps, (cols, len, cap) :: ins, pl)
    | _, _ => none
  | .plain :: sh, x :: xs =>
    match viewArgs hp sh xs with
    | some (ss, ps, ins, pl) => some (ss, ps, ins, x :: pl)
    | none => none
  | .held :: sh, x :: xs =>
    match viewArgs hp sh xs with
    | some (ss, ps, ins, pl) => some (ss, ps, ins, pl)
    | none => none
  | _, _ => none
def asksP : List (Option BE) -> Prop -> Prop
  | [], K => K
  | p :: r, K => askP p (asksP r K)
def insDen : List (List Col × NE × NE) -> Ins
  | [] => []
  | (cs, l, c) :: r => (cs, l.den, c.den) :: insDen r
def withIns : List (List Col × NE × NE) -> (Ins -> Prop) -> Prop
  | [], K => K []
  | (cs, l, c) :: r, K => ∀ cs' : List Col, cs' = cs -> withIns r fun ins => K ((cs', l.den, c.den) :: ins)
theorem withIns_den : ∀ {l : List (List Col × NE × NE)} {K : Ins -> Prop}, withIns l K -> K (insDen l)
  | [], K, h => h
  | (cs, l, c) :: r, K, h => withIns_den (l := r) (K := fun ins => K ((cs, l.den, c.den) :: ins)) (h cs rfl)
mutual
def SV.nrm : SV -> SV
  | .int k e => .int k (.var e.den)
  | .bool e => .bool (.var e.den)
  | .str s => .strE s
  | .agg l => .agg (SV.nrmL l)
  | v => v
def SV.nrmL : List SV -> List SV
  | [] => []
  | v :: r => v.nrm :: SV.nrmL r
end
def formalArgs : List ArgK -> Ins -> List SV -> List Value -> Nat -> List SV
  | .rows sz _ :: sh, (_, len, cap) :: ins, pl, u, k => .sliceE true k sz (.lit 0) (.var len) (.var cap) :: formalArgs sh ins pl u (k + 1)
  | .plain :: sh, ins, v :: pl, u, k => v.nrm :: formalArgs sh ins pl u k
  | .held :: sh, ins, pl, v :: u, k => .val v :: formalArgs sh ins pl u k
  | _, _, _, _, _ => []
def heldIn : List ArgK -> Nat
  | .held :: sh => heldIn sh + 1
  | _ :: sh => heldIn sh
  | [] => 0
def formalHp : Ins -> List SObj
  | [] => []
  | (cs, _, cap) :: r => .row false true cs (.var cap) :: formalHp r
def InsOk : List ArgK -> Ins -> Prop
  | .rows sz _ :: sh, (cs, _, _) :: r => cs.length = sz /\ InsOk sh r
  | .plain :: sh, r => InsOk sh r
  | .held :: sh, r => InsOk sh r
  | [], [] => True
  | _, _ => False
inductive Out where
  | one (val : Nat -> SV) (new : List SObj) (cs : List SV)
  | any (β : Type) (post : β -> Prop) (val : β -> Nat -> SV) (new : β -> List SObj) (cs : β -> List SV)
def Out.all (o : Out) (n : Nat) (f : SV -> List SObj -> List SV -> Prop) : Prop :=
  match o with
  | .one val new cs => f (val n) new cs
  | .any _ post val new cs => ∀ b, post b -> f (val b n) (new b) (cs b)
def Out.some (o : Out) (n : Nat) (f : SV -> List SObj -> List SV -> Prop) : Prop :=
  match o with
  | .one val new cs => f (val n) new cs
  | .any _ post val new cs => ∃ b, post b /\ f (val b n) (new b) (cs b)
structure Movable (val : Nat -> SV) (k : Nat) : Prop where
  den : ∀ n m (ν ν' : Nat -> Pl), (∀ i, i < k -> ν (n + i) = ν' (m + i)) -> (val n).den ν = (val m).den ν'
  wf : ∀ n (p : Nat -> Prop), (∀ i, i < k -> p (n + i)) -> (val n).wf p
def ownRows : List SObj -> Bool
  | [] => true
  | .row true _ _ _ :: r => ownRows r
  | _ => false
structure GoodOut (val : Nat -> SV) (new : List SObj) (cs : List SV) : Prop where
  mov : Movable val new.length
  own : ownRows new = true
  shut : SV.wfL (fun _ => False) cs
def Out.good : Out -> Prop
  | .one val new cs => GoodOut val new cs
  | .any _ _ val new cs => ∀ b, GoodOut (val b) (new b) (cs b)
def outsK : List Out -> (Out -> Prop) -> Prop
  | [], _ => True
  | [o], f => f o
  | o :: r, f => f o /\ outsK r f
def outsE : List Out -> (Out -> Prop) -> Prop
  | [], _ => False
  | [o], f => f o
  | o :: r, f => f o ∨ outsE r f
def rdSpec (shape : List ArgK) (pre : Ins -> List SV -> Prop) (outs : Ins -> List SV -> List Out) : SpecFn := fun args hp K =>
  match viewArgs hp shape args with
  | some (_, ps, ins, pl) => if okSVs [] pl then asksP ps (withIns ins fun ins => pre ins pl /\ outsK (outs ins pl) fun o => o.all hp.length fun v new _ => K v (hp ++ new)) else StuckAt 201
  | none => StuckAt 200
def rdGuess (shape : List ArgK) (outs : Ins -> List SV -> List Out) : Guess := fun args hp =>
  match viewArgs hp shape args with
  | some (_, _, ins, pl) =>
    match outs (insDen ins) pl with
    | [.one val new _] => some (val hp.length, hp ++ new)
    | _ => none
  | none => none
def putPlain : List ArgK -> List SV -> List SV -> List SV
  | .plain :: ks, _ :: xs, p :: ps => p :: putPlain ks xs ps
  | _ :: ks, x :: xs, ps => x :: putPlain ks xs ps
  | _, xs, _ => xs
def mtSpec (ty : TypeId) (ks shape : List ArgK) (pre : Ins -> List SV -> Ins -> List SV -> Prop) (outs : Ins -> List SV -> Ins -> List SV -> List Out) : SpecFn := fun args hp K =>
  match args with
  | .ptr o 0 :: args =>
    match hp[o]? with
    | some (.cells vs ty') =>
      match viewArgs hp ks vs, viewArgs hp shape args with
      | some (ss, ps, ins, pl), some (ss', ps', ins', pl') =>
        if ty = ty' /\ okSVs [] pl = true /\ okSVs [] pl' = true /\ ss.contains o = false /\ ss'.contains o = false /\ heldIn shape = 0 then
          asksP ps (asksP ps' (pre (insDen ins) pl (insDen ins') pl' /\ outsK (outs (insDen ins) pl (insDen ins') pl') fun oc => oc.all hp.length fun v new cs => K v (setAt hp o (.cells (putPlain ks vs cs) ty) ++ new)))
        else StuckAt 203
      | _, _ => StuckAt 202
    | _ => StuckAt 204
  | _ => StuckAt 205
def mtGuess (ty : TypeId) (ks shape : List ArgK) (outs : Ins -> List SV -> Ins -> List SV -> List Out) : Guess := fun args hp =>
  match args with
  | .ptr o 0 :: args =>
    match hp[o]? with
    | some (.cells vs ty') =>
      match viewArgs hp ks vs, viewArgs hp shape args with
      | some (_, _, ins, pl), some (_, _, ins', pl') =>
        match outs (insDen ins) pl (insDen ins') pl' with
        | [.one val new cs] => some (val hp.length, setAt hp o (.cells (putPlain ks vs cs) ty) ++ new)
        | _ => none
      | _, _ => none
    | _ => none
  | _ => none
section
variable {P : Program} {Γ : FuncId -> Option Cal} {B : Nat -> Prop} {ν : Nat -> Pl} {w : World}
structure GoodRow (B : Nat -> Prop) (ν : Nat -> Pl) (hp : List SObj) (w : World) (ss : List Nat) (p : Pl) (cs : List Col) (n : Nat) : Prop where
  sat : RowSat (fun b => b = p.blk) p w false true cs n
  src : p.nil = false -> p.blk < w.heap.size /\ ∃ o ∈ ss, p.blk = (ν o).blk /\ (Owned ν hp o ∨ B p.blk)
theorem GoodRow.row {hp : List SObj} {ss : List Nat} {p : Pl} {cs : List Col} {n : Nat} (h : GoodRow B ν hp w ss p cs n) {B' : Nat -> Prop} (hb : p.nil = false -> B' p.blk) : RowSat B' p w false true cs n :=
  ⟨h.sat.empty, fun _ h => (by cases h), fun hn _ => hb (by simpa using hn), h.sat.cell, fun h => (by cases h)⟩
theorem GoodRow.more {hp : List SObj} {ss ss' : List Nat} {p : Pl} {cs : List Col} {n : Nat} (h : GoodRow B ν hp w ss p cs n) (hs : ∀ o ∈ ss, o ∈ ss') : GoodRow B ν hp w ss' p cs n :=
  ⟨h.sat, fun hn => by obtain ⟨h1, o, h2, h3⟩ := h.src hn; exact ⟨h1, o, hs o h2, h3⟩⟩
theorem shiftAll_get {st : NE} {cols : List Col} {j : Nat} {c : Col} (h : (shiftAll st cols)[j]? = some c) : ∃ c0, cols[j]? = some c0 /\ ∀ e v, c0.holds (st.den + e) v -> c.holds e v := by
  unfold shiftAll at h
  split at h
  · exact ⟨c, h, fun e v hv => by simpa [NE.den] using hv⟩
  · rw [List.getElem?_map, Option.map_eq_some_iff] at h
    obtain ⟨c0, h0, rfl⟩ := h
    exact ⟨c0, h0, fun e v hv => by cases c0 <;> exact hv⟩
theorem nrm_holds {c : Col} {e : Nat} {v : Value} (h : c.holds e v) : c.nrm.holds e v := by
  cases c <;> exact h
theorem shiftAll_length (st : NE) (cols : List Col) : (shiftAll st cols).length = cols.length := by
  unfold shiftAll; split <;> simp
theorem inRow_sound {hp : List SObj} (h : SatHp B ν hp w) (hB : Under B w) {sz : Nat} {zs cols : List Col} {x : SV} {ss : List Nat} {p : Option BE} {len cap : NE} (hz : zs.length = sz) (hx : inRow hp sz zs x = some (ss, p, cols, len, cap)) (hp' : Holds p) :
    ∃ pl : Pl, GoodRow B ν hp w ss pl cols cap.den /\ cols.length = sz /\ x.den ν = .slice (bif pl.nil then none else some ⟨pl.blk, pl.off, none⟩) len.den cap.den := by
  have nilc : ∀ ss (cols : List Col), GoodRow B ν hp w ss ⟨0, 0, true⟩ cols 0 := fun ss cols =>
    ⟨⟨fun _ => rfl, fun h => (by simp at h), fun h => (by simp at h), fun e he => absurd he (by omega), fun h => (by cases h)⟩, fun h => (by cases h)⟩
  unfold inRow at hx
  split at hx
  · simp only [Option.some.injEq, Prod.mk.injEq] at hx
    obtain ⟨rfl, rfl, rfl, rfl, rfl⟩ := hx
    exact ⟨⟨0, 0, true⟩, nilc _ _, hz, rfl⟩
  · split at hx
    · rename_i inp o cs n st len' cap' hv
      simp only [Option.map_eq_some_iff, Prod.mk.injEq] at hx
      obtain ⟨q, hq, rfl, rfl, rfl, rfl, rfl⟩ := hx
      obtain ⟨qa, qb, hqa, hqb, ha, hb0⟩ := askBoth_holds hq hp'
      have hask := askB_holds hqa ha
      rw [leNE_den, two_nat] at hask
      have hle : st.den + cap'.den <= n.den := of_decide_eq_true hask
      obtain ⟨d1, d2, d3, ⟨ob, ho, hvw⟩, d4⟩ := slView_sound h.obj hv
      rw [d1]
      cases hb : (inp && (ν o).nil) with
      | true =>
        have h0 : cap'.den = 0 := by have := d3 hb; omega
        refine ⟨⟨0, 0, true⟩, ?_, by rw [List.length_map, shiftAll_length]; exact d2, by simp⟩
        rw [h0]; exact nilc _ _
      | false =>
        refine ⟨⟨(ν o).blk, (ν o).base inp + st.den * sz, false⟩, ⟨⟨fun h => (by simp at h), fun _ h => (by cases h), fun _ _ => rfl, ?_, fun h => (by cases h)⟩, fun _ => ?_⟩, by rw [List.length_map, shiftAll_length]; exact d2, by simp⟩
        · intro e he j c hj
          rw [List.getElem?_map, Option.map_eq_some_iff] at hj
          obtain ⟨c', hj, rfl⟩ := hj
          obtain ⟨c0, hc0, hc1⟩ := shiftAll_get hj
          obtain ⟨v, v1, v2⟩ := d4 (st.den + e) (by omega) j c0 hc0
          refine ⟨v, ?_, nrm_holds (hc1 e v v2)⟩
          rw [<- v1, List.length_map, shiftAll_length, d2, Nat.add_mul]; simp [Pl.base, Nat.add_assoc]
        · have hob := h.obj o ob ho
          cases ob with
          | cells vs ty => exact ⟨(Array.getElem?_eq_some_iff.1 hob.2.1).1, o, by simp, rfl, .inl ⟨_, ho, rfl⟩⟩
          | dead => simp [viewObj] at hvw
          | husk => simp [viewObj] at hvw
          | map ks vs => simp [viewObj] at hvw
          | grown sz vs => simp [viewObj] at hvw
          | glob g vs => simp [viewObj] at hvw
          | row own inp' cols' m =>
            simp only [viewObj] at hvw
            split at hvw
            · simp only [Option.some.injEq, Prod.mk.injEq] at hvw
              obtain ⟨rfl, _, _⟩ := hvw
              have hr : RowSat B (ν o) w own inp' cols' m.den := hob
              cases hw : own with
              | true => exact ⟨(hr.lo hb hw).2, o, by simp, rfl, .inl ⟨_, ho, by simp [SObj.owns, hw, hb]⟩⟩
              | false => exact ⟨hB _ (hr.hi hb hw), o, by simp, rfl, .inr (hr.hi hb hw)⟩
            · simp at hvw
    · simp at hx
theorem ownRows_get : ∀ {l : List SObj} {i : Nat} {x : SObj}, ownRows l = true -> l[i]? = some x -> ∃ inp cols n, x = .row true inp cols n
  | .row true inp cols n :: r, 0, x, _, hx => by simp at hx; exact ⟨inp, cols, n, hx.symm⟩
  | .row true inp cols n :: r, i + 1, x, h, hx => ownRows_get (l := r) (i := i) (by simpa [ownRows] using h) (by simpa using hx)
  | [], i, x, _, hx => by simp at hx
  | .row false _ _ _ :: _, _, _, h, _ => by simp [ownRows] at h
  | .cells _ _ :: _, _, _, h, _ => by simp [ownRows] at h
  | .dead :: _, _, _, h, _ => by simp [ownRows] at h
  | .husk :: _, _, _, h, _ => by simp [ownRows] at h
  | .map _ _ :: _, _, _, h, _ => by simp [ownRows] at h
theorem asksP_iff : ∀ {ps : List (Option BE)} {K : Prop}, asksP ps K -> (∀ p ∈ ps, Holds p) /\ K
  | [], K, h => ⟨by simp, h⟩
  | p :: r, K, h => by
    obtain ⟨h1, h2⟩ := askP_iff h
    obtain ⟨h3, h4⟩ := asksP_iff h2
    exact ⟨fun q hq => by rcases List.mem_cons.1 hq with rfl | hq; exact h1; exact h3 q hq, h4⟩
theorem outsK_mem : ∀ {l : List Out} {f : Out -> Prop}, outsK l f -> ∀ o ∈ l, f o
  | [o], f, h, x, hx => by simp at hx; subst hx; exact h
  | o :: o' :: r, f, h, x, hx => by
    rcases List.mem_cons.1 hx with rfl | hx
    · exact h.1
    · exact outsK_mem h.2 x hx
theorem outsE_mem : ∀ {l : List Out} {f : Out -> Prop}, outsE l f -> ∃ o ∈ l, f o
  | [o], f, h => ⟨o, by simp, h⟩
  | o :: o' :: r, f, h => by
    rcases h with h | h
    · exact ⟨o, by simp, h⟩
    · obtain ⟨x, hx, hf⟩ := outsE_mem h
      exact ⟨x, List.mem_cons_of_mem _ hx, hf⟩
theorem closed_wf : ∀ {l : List SV}, okSVs [] l = true -> SV.wfL (fun _ => False) l := fun {l} h =>
  wfL_mono (fun o ⟨x, hx, _⟩ => by simp at hx) l (okSVs_wf l h)
mutual
theorem nrm_den {ν : Nat -> Pl} : ∀ v : SV, v.nrm.den ν = v.den ν
  | .int _ _ | .bool _ | .str _ | .ptr _ _ | .nilp | .slice _ _ _ _ | .nils | .iface _ _ | .nili | .tuple _ | .func _ _ _ | .nilf | .nilm | .val _ | .strE _ | .ptrE _ _ _ _ _ | .sliceE _ _ _ _ _ _ | .mapv _ | .sliceG _ _ _ _ | .gptr _ _ => rfl
  | .agg l => by simp only [SV.nrm, SV.den, nrmL_den l]
theorem nrmL_den {ν : Nat -> Pl} : ∀ l : List SV, SV.denL ν (SV.nrmL l) = SV.denL ν l
  | [] => rfl
  | v :: r => by simp only [SV.nrmL, SV.denL, nrm_den v, nrmL_den r]
end
mutual
theorem nrm_wf {p : Nat -> Prop} : ∀ v : SV, v.wf p -> v.nrm.wf p
  | .int _ _, h | .bool _, h | .str _, h | .ptr _ _, h | .nilp, h | .slice _ _ _ _, h | .nils, h | .iface _ _, h | .nili, h | .tuple _, h | .func _ _ _, h | .nilf, h | .nilm, h | .val _, h | .strE _, h | .ptrE _ _ _ _ _, h | .sliceE _ _ _ _ _ _, h | .mapv _, h | .sliceG _ _ _ _, h | .gptr _ _, h => h
  | .agg l, h => nrmL_wf l h
theorem nrmL_wf {p : Nat -> Prop} : ∀ l : List SV, SV.wfL p l -> SV.wfL p (SV.nrmL l)
  | [], _ => trivial
  | v :: r, h => ⟨nrm_wf v h.1, nrmL_wf r h.2⟩
end
theorem formalHp_length : ∀ ins : Ins, (formalHp ins).length = ins.length
  | [] => rfl
  | (_, _, _) :: r => by simp [formalHp, formalHp_length r]
theorem formalHp_append : ∀ (ins ins' : Ins), formalHp (ins ++ ins') = formalHp ins ++ formalHp ins'
  | [], _ => rfl
  | (a, b, c) :: r, ins' => by
    show SObj.row false true a (.var c) :: formalHp (r ++ ins') = _
    rw [formalHp_append r ins']; rfl
theorem view_args {hp : List SObj} (h : SatHp B ν hp w) (hB : Under B w) : ∀ {shape : List ArgK} {args : List SV} {ss : List Nat} {ps : List (Option BE)} {ins : List (List Col × NE × NE)} {pl : List SV}, (∀ sz zs, ArgK.rows sz zs ∈ shape -> zs.length = sz) ->
    viewArgs hp shape args = some (ss, ps, ins, pl) -> (∀ p ∈ ps, Holds p) -> SV.wfL (fun _ => False) pl ->
    ∃ (pls : List Pl) (u : List Value), pls.length = (insDen ins).length /\ u.length = heldIn shape /\ InsOk shape (insDen ins) /\ (∀ (i : Nat) (x : SObj), (formalHp (insDen ins))[i]? = some x -> ∃ (p : Pl) (cs : List Col) (n : Nat), pls[i]? = some p /\ x = .row false true cs (.var n) /\ GoodRow B ν hp w ss p cs n) /\
      (∀ (k : Nat) (ν' : Nat -> Pl), (∀ (i : Nat) (p : Pl), pls[i]? = some p -> ν' (k + i) = p) -> SV.denL ν' (formalArgs shape (insDen ins) pl u k) = SV.denL ν args) /\
      ∀ cs : List SV, SV.wfL (fun _ => False) cs -> ∀ (k : Nat) (ν' : Nat -> Pl), (∀ (i : Nat) (p : Pl), pls[i]? = some p -> ν' (k + i) = p) -> SV.denL ν' (putPlain shape (formalArgs shape (insDen ins) pl u k) cs) = SV.denL ν (putPlain shape args cs)
  | [], [], ss, ps, ins, pl, _, hv, _, _ => by
    simp [viewArgs] at hv
    obtain ⟨rfl, rfl, rfl, rfl⟩ := hv
    exact ⟨[], [], rfl, rfl, trivial, fun i x hx => by simp [insDen, formalHp] at hx, fun k ν' _ => rfl, fun cs _ k ν' _ => by simp [formalArgs, putPlain, SV.denL]⟩
  | .rows sz zs :: sh, x :: xs, ss, ps, ins, pl, hz, hv, hps, hpl => by
    simp only [viewArgs] at hv
    split at hv
    · rename_i o p cols len cap ss' ps' ins' pl' hin hvs
      simp only [Option.some.injEq, Prod.mk.injEq] at hv
      obtain ⟨rfl, rfl, rfl, rfl⟩ := hv
      obtain ⟨p1, hr, hlen, hden⟩ := inRow_sound h hB (hz sz zs (List.mem_cons_self ..)) hin (hps p (List.mem_cons_self ..))
      obtain ⟨pls, u, e1, eu, e2, e3, e4, e5⟩ := view_args h hB (fun sz zs hm => hz sz zs (List.mem_cons_of_mem _ hm)) hvs (fun p hp => hps p (List.mem_cons_of_mem _ hp)) hpl
      have hd : ∀ (k : Nat) (ν' : Nat -> Pl), (∀ (i : Nat) (p : Pl), (p1 :: pls)[i]? = some p -> ν' (k + i) = p) -> (SV.sliceE true k sz (.lit 0) (.var len.den) (.var cap.den)).den ν' = x.den ν := fun k ν' hν => by
        have := hν 0 p1 rfl
        rw [Nat.add_zero] at this
        rw [hden]
        simp [SV.den, this, Pl.base, lit_den, var_den]
      have hsh : ∀ (k : Nat) (ν' : Nat -> Pl), (∀ (i : Nat) (p : Pl), (p1 :: pls)[i]? = some p -> ν' (k + i) = p) -> ∀ (i : Nat) (p : Pl), pls[i]? = some p -> ν' (k + 1 + i) = p := fun k ν' hν i p hp => by
        rw [show k + 1 + i = k + (i + 1) by omega]; exact hν (i + 1) p (by simpa using hp)
      refine ⟨p1 :: pls, u, by simp [insDen, e1], eu, ⟨hlen, e2⟩, fun i y hy => ?_, fun k ν' hν => ?_, fun cs hcs k ν' hν => ?_⟩
      · cases i with
        | zero => simp [insDen, formalHp] at hy; exact ⟨p1, cols, cap.den, rfl, hy.symm, hr.more fun o ho => List.mem_append_left _ ho⟩
        | succ i =>
          obtain ⟨p, cs, n, g1, g2, g3⟩ := e3 i y (by simpa [insDen, formalHp] using hy)
          exact ⟨p, cs, n, by simpa using g1, g2, g3.more fun o ho => List.mem_append_right _ ho⟩
      · simp only [insDen, formalArgs, SV.denL]
        rw [e4 (k + 1) ν' (hsh k ν' hν), hd k ν' hν]
      · simp only [insDen, formalArgs, putPlain, SV.denL]
        rw [e5 cs hcs (k + 1) ν' (hsh k ν' hν), hd k ν' hν]
    · simp at hv
  | .plain :: sh, x :: xs, ss, ps, ins, pl, hz, hv, hps, hpl => by
    simp only [viewArgs] at hv
    split at hv
    · rename_i ss' ps' ins' pl' hvs
      simp only [Option.some.injEq, Prod.mk.injEq] at hv
      obtain ⟨rfl, rfl, rfl, rfl⟩ := hv
      obtain ⟨pls, u, e1, eu, e2, e3, e4, e5⟩ := view_args h hB (fun sz zs hm => hz sz zs (List.mem_cons_of_mem _ hm)) hvs hps hpl.2
      refine ⟨pls, u, e1, eu, e2, e3, fun k ν' hν => ?_, fun cs hcs k ν' hν => ?_⟩
      · simp only [formalArgs, SV.denL]
        rw [e4 k ν' hν, nrm_den, wf0_den ν ν' hpl.1]
      · cases cs with
        | nil =>
          simp only [formalArgs, putPlain, SV.denL]
          rw [e5 [] trivial k ν' hν, nrm_den, wf0_den ν ν' hpl.1]
        | cons c cs =>
          simp only [formalArgs, putPlain, SV.denL]
          rw [e5 cs hcs.2 k ν' hν, wf0_den ν ν' hcs.1]
    · simp at hv
  | .held :: sh, x :: xs, ss, ps, ins, pl, hz, hv, hps, hpl => by
    simp only [viewArgs] at hv
    split at hv
    · rename_i ss' ps' ins' pl' hvs
      simp only [Option.some.injEq, Prod.mk.injEq] at hv
      obtain ⟨rfl, rfl, rfl, rfl⟩ := hv
      obtain ⟨pls, u, e1, eu, e2, e3, e4, e5⟩ := view_args h hB (fun sz zs hm => hz sz zs (List.mem_cons_of_mem _ hm)) hvs hps hpl
      refine ⟨pls, x.den ν :: u, e1, by simp [heldIn, eu], e2, e3, fun k ν' hν => ?_, fun cs hcs k ν' hν => ?_⟩
      · simp only [formalArgs, SV.denL]
        rw [e4 k ν' hν]; rfl
      · simp only [formalArgs, putPlain, SV.denL]
        rw [e5 cs hcs k ν' hν]; rfl
    · simp at hv
  | [], _ :: _, _, _, _, _, _, hv, _, _ => by simp [viewArgs] at hv
  | .rows _ _ :: _, [], _, _, _, _, _, hv, _, _ => by simp [viewArgs] at hv
  | .plain :: _, [], _, _, _, _, _, hv, _, _ => by simp [viewArgs] at hv
  | .held :: _, [], _, _, _, _, _, hv, _, _ => by simp [viewArgs] at hv
theorem formalArgs_wf : ∀ (shape : List ArgK) (ins : Ins) (pl : List SV) (u : List Value) (k n : Nat), SV.wfL (fun _ => False) pl -> k + ins.length <= n -> SV.wfL (fun o => o < n) (formalArgs shape ins pl u k)
  | .rows sz _ :: sh, (_, len, cap) :: ins, pl, u, k, n, h, hk => by
    simp only [List.length_cons] at hk
    exact ⟨by simp only [SV.wf]; omega, formalArgs_wf sh ins pl u (k + 1) n h (by omega)⟩
  | .plain :: sh, ins, v :: pl, u, k, n, h, hk => ⟨nrm_wf v (wf_mono (fun _ h => h.elim) _ h.1), formalArgs_wf sh ins pl u k n h.2 hk⟩
  | .held :: sh, ins, pl, v :: u, k, n, h, hk => ⟨trivial, formalArgs_wf sh ins pl u k n h hk⟩
  | .plain :: sh, ins, [], u, k, n, _, _ => trivial
  | .rows _ _ :: sh, [], pl, u, k, n, _, _ => trivial
  | .held :: sh, ins, pl, [], k, n, _, _ => trivial
  | [], _, _, _, _, _, _, _ => trivial
theorem putPlain_wf {p : Nat -> Prop} : ∀ (ks : List ArgK) (xs cs : List SV), SV.wfL p xs -> SV.wfL (fun _ => False) cs -> SV.wfL p (putPlain ks xs cs)
  | .plain :: ks, _ :: xs, c :: cs, h, h' => ⟨wf_mono (fun _ h => h.elim) _ h'.1, putPlain_wf ks xs cs h.2 h'.2⟩
  | .plain :: ks, x :: xs, [], h, h' => by simp only [putPlain]; exact ⟨h.1, putPlain_wf ks xs [] h.2 h'⟩
  | .rows _ _ :: ks, x :: xs, cs, h, h' => by simp only [putPlain]; exact ⟨h.1, putPlain_wf ks xs cs h.2 h'⟩
  | .held :: ks, x :: xs, cs, h, h' => by simp only [putPlain]; exact ⟨h.1, putPlain_wf ks xs cs h.2 h'⟩
  | [], xs, cs, h, _ => by simpa [putPlain] using h
  | .plain :: _, [], cs, _, _ => by simp [putPlain, SV.wfL]
  | .rows _ _ :: _, [], cs, _, _ => by simp [putPlain, SV.wfL]
  | .held :: _, [], cs, _, _ => by simp [putPlain, SV.wfL]
theorem ret_post {hp hp5 new : List SObj} (hsat : SatHp B ν hp w) {B' : Nat -> Prop} (hBB : ∀ b, B b -> B' b) {w' : World} (hk : Keeps B' w w') (hlen : hp5.length = hp.length) (hlive : ∀ o, Live hp o -> Live hp5 o)
    (h2 : ∀ i y, hp5[i]? = some y -> (hp[i]? = some y /\ ((y.owns (ν i) = true ∨ B (ν i).blk) -> (ν i).blk < w.heap.size -> B' (ν i).blk)) ∨
      (∃ C ty, y = .cells C ty /\ Owned ν hp i /\ w'.heap[(ν i).blk]? = some (.cells (SV.denL ν C).toArray ty (0, 0)) /\ SV.wfL (Live hp) C))
    (hown : ownRows new = true) {n : Nat} {ν4 : Nat -> Pl} (hnew : ∀ i inp cs m, new[i]? = some (.row true inp cs m) -> RowSat B' (ν4 (n + i)) w' true inp cs m.den)
    (hap : ∀ i i' x x', new[i]? = some x -> new[i']? = some x' -> x.owns (ν4 (n + i)) = true -> x'.owns (ν4 (n + i')) = true -> (ν4 (n + i)).blk = (ν4 (n + i')).blk -> i = i')
    (hfar : ∀ i x, new[i]? = some x -> x.owns (ν4 (n + i)) = true -> ∀ o, Owned ν hp o -> (ν o).blk ≠ (ν4 (n + i)).blk) :
    SatHp B (fun i => if i < hp.length then ν i else ν4 (n + (i - hp.length))) (hp5 ++ new) w' /\ (∀ o, Live hp o -> Live (hp5 ++ new) o) /\
      Agree (Live hp) ν (fun i => if i < hp.length then ν i else ν4 (n + (i - hp.length))) := by
  have hag : Agree (Live hp) ν (fun i => if i < hp.length then ν i else ν4 (n + (i - hp.length))) := fun o ho => by simp [live_lt ho]
  have hl : ∀ o, Live hp o -> Live (hp5 ++ new) o := fun o ho => by
    obtain ⟨y, hy, ha⟩ := hlive o ho
    exact ⟨y, by rw [List.getElem?_append_left (List.getElem?_eq_some_iff.1 hy).1]; exact hy, ha⟩
  have hown5 : ∀ i, i < hp.length -> ∀ y, hp5[i]? = some y -> y.owns (ν i) = true -> Owned ν hp i := fun i hi y hy hw => by
    rcases h2 i y hy with ⟨h3, _⟩ | ⟨C, ty, _, h3, _⟩
    · exact ⟨y, h3, hw⟩
    · exact h3
  refine ⟨⟨fun i y hy => ?_, fun i i' h3 h4 e => ?_⟩, hl, hag⟩
  · rw [List.getElem?_append] at hy
    split at hy
    · rename_i hlt
      rw [hlen] at hlt
      rcases h2 i y hy with ⟨h3, h4⟩ | ⟨C, ty, rfl, h3, h4, h5⟩
      · exact (hsat.obj i y h3).mono (live_of h3) hl hag hk.size (fun _ hor hlt' => hk.block _ (h4 hor hlt'))
      · refine ⟨?_, ?_, wfL_mono hl _ h5⟩
        · simp only [hlt, if_true]; exact hsat.low i h3
        · simp only [hlt, if_true]; rw [h4, denL_congr hag _ h5]
    · rename_i hge
      rw [hlen] at hge hy
      obtain ⟨inp, cs, m, rfl⟩ := ownRows_get hown hy
      have hr := hnew _ _ _ _ hy
      show RowSat B (if i < hp.length then ν i else ν4 (n + (i - hp.length))) w' true inp cs m.den
      rw [if_neg hge]
      exact ⟨hr.empty, fun a b => ⟨fun hb => (hr.lo a b).1 (hBB _ hb), (hr.lo a b).2⟩, fun _ h => (by cases h), hr.cell, hr.thawed⟩
  · have cases_ : ∀ i, Owned (fun i => if i < hp.length then ν i else ν4 (n + (i - hp.length))) (hp5 ++ new) i ->
        (i < hp.length /\ Owned ν hp i) ∨ (¬ i < hp.length /\ ∃ x, new[i - hp.length]? = some x /\ x.owns (ν4 (n + (i - hp.length))) = true) := fun i ⟨y, hy, hw⟩ => by
      rw [List.getElem?_append] at hy
      split at hy
      · rename_i hlt
        rw [hlen] at hlt
        simp only [hlt, if_true] at hw
        exact .inl ⟨hlt, hown5 i hlt y hy hw⟩
      · rename_i hge
        rw [hlen] at hge hy
        simp only [hge, if_false] at hw
        exact .inr ⟨hge, y, hy, hw⟩
    rcases cases_ i h3 with ⟨c1, c2⟩ | ⟨c1, x, cx, c2⟩ <;> rcases cases_ i' h4 with ⟨d1, d2⟩ | ⟨d1, y, dy, d2⟩
    · simp only [c1, d1, if_true] at e; exact hsat.apart i i' c2 d2 e
    · simp only [c1, d1, if_true, if_false] at e; exact absurd e (hfar _ y dy d2 i c2)
    · simp only [c1, d1, if_true, if_false] at e; exact absurd e.symm (hfar _ x cx c2 i' d2)
    · simp only [c1, d1, if_false] at e
      have := hap _ _ _ _ cx dy c2 d2 e
      omega
theorem Out.some_elim {o : Out} {n : Nat} {f : SV -> List SObj -> List SV -> Prop} (h : o.some n f) (hg : o.good) :
    ∃ val new cs, GoodOut val new cs /\ f (val n) new cs /\ ∀ n' (g : SV -> List SObj -> List SV -> Prop), o.all n' g -> g (val n') new cs := by
  cases o with
  | one val new cs => exact ⟨val, new, cs, hg, h, fun n' g hh => hh⟩
  | any β post val new cs =>
    obtain ⟨b, hb, hf⟩ := h
    exact ⟨val b, new b, cs b, hg b, hf, fun n' g hh => hh b hb⟩
theorem rd_ok {f : FuncId} {s : SpecFn} (hs : SpecOk P f s) {shape : List ArgK} {pre : Ins -> List SV -> Prop} {outs : Ins -> List SV -> List Out} (hz : ∀ sz zs, ArgK.rows sz zs ∈ shape -> zs.length = sz)
    (hg : ∀ ins pl, ∀ o ∈ outs ins pl, o.good)
    (h : ∀ ins pl u, InsOk shape ins -> SV.wfL (fun _ => False) pl -> pre ins pl ->
      s (formalArgs shape ins pl u 0) (formalHp ins) (fun v hp => outsE (outs ins pl) fun o => o.some ins.length fun val new _ => simAt ins.length 1 { tmps := [v], hp := hp } [(0, val)] (formalHp ins ++ new))) :
    SpecOk P f (rdSpec shape pre outs) := by
  intro B ν hp w args K hsat hB hwf hx
  unfold rdSpec at hx
  split at hx
  · rename_i ss ps ins0 pl hv
    split at hx
    · rename_i hcl
      obtain ⟨hps, hx⟩ := asksP_iff hx
      obtain ⟨hpre, hk⟩ := withIns_den hx
      have he := closed_wf hcl
      obtain ⟨pls, u, e1, eu, e2, e3, e4, _⟩ := view_args hsat hB hz hv hps he
      generalize hins : insDen ins0 = ins at *
      have hrun := h ins pl u e2 he hpre
      let ν0 : Nat -> Pl := fun o => (pls[o]?).getD ⟨0, 0, false⟩
      have hflen := formalHp_length ins
      have hs0 : SatHp (fun b => b < w.heap.size) ν0 (formalHp ins) w := by
        refine ⟨fun o y hy => ?_, fun o o' ho' => ?_⟩
        · obtain ⟨p, cs, n, h1, rfl, h3⟩ := e3 o y hy
          show RowSat _ (ν0 o) w false true cs n
          have : ν0 o = p := by simp [ν0, h1]
          rw [this]; exact h3.row fun hn => (h3.src hn).1
        · obtain ⟨y, hy, hw⟩ := ho'
          obtain ⟨p, cs, n, h1, rfl, h3⟩ := e3 o y hy
          simp [SObj.owns] at hw
      have hlive0 : ∀ o, o < ins.length -> Live (formalHp ins) o := fun o hlt => by
        have hx : (formalHp ins)[o]? = some (formalHp ins)[o] := List.getElem?_eq_getElem (by omega)
        obtain ⟨p, cs, n, h1, h2, h3⟩ := e3 o _ hx
        exact ⟨_, hx, by rw [h2]; rfl⟩
      have hc := hs (fun b => b < w.heap.size) ν0 _ w (formalArgs shape ins pl u 0) _ hs0 (fun _ h => h) (wfL_mono (fun o ho => hlive0 o ho) _ (formalArgs_wf shape ins pl u 0 ins.length he (by omega))) hrun
      rw [e4 0 ν0 fun i p hp => by simp [ν0, hp]] at hc
      refine hc.mono ?_
      rintro e w' ⟨ν1, v, hp1', l1, a1, rfl, v1, s1, b1, hout⟩
      obtain ⟨oc, hoc, hsm⟩ := outsE_mem hout
      obtain ⟨val, new, cs, gd, hsim, hall⟩ := Out.some_elim hsm (hg ins pl oc hoc)
      have hkk := hall _ _ (outsK_mem hk oc hoc)
      have hact : Sat (fun b => b < w.heap.size) ν1 { tmps := [v], hp := hp1' } { tmps := #[v.den ν1], defers := [] } w' :=
        ⟨by simp [SV.denL], ⟨v1, trivial⟩, rfl, s1, fun b hb => Nat.lt_of_lt_of_le hb b1.size⟩
      obtain ⟨uu, ν4, s4, _, _⟩ := sim_sound hact hsim (p := fun _ => False) (fun o h => h.elim) (fun o h => h.elim)
      have e4' : v.den ν1 = (val ins.length).den ν4 := by
        have := s4.tmps
        simp [fillT, slotOf, SV.denL] at this
        exact this
      have hat : ∀ i x, new[i]? = some x -> (formalHp ins ++ new)[ins.length + i]? = some x := fun i x hi => by
        rw [List.getElem?_append_right (by omega), hflen, Nat.add_sub_cancel_left]; exact hi
      obtain ⟨r1, r2, r3⟩ := ret_post (hp5 := hp) (new := new) (n := ins.length) (ν4 := ν4) hsat (B' := fun b => b < w.heap.size) hB b1 rfl (fun _ h => h) (fun i y hy => .inl ⟨hy, fun _ hlt => hlt⟩) gd.own
        (fun i inp cs n hi => s4.hp.obj (ins.length + i) _ (hat i _ hi))
        (fun i i' x x' hi hi' hw hw' ee => by have := s4.hp.apart (ins.length + i) (ins.length + i') ⟨x, hat i x hi, hw⟩ ⟨x', hat i' x' hi', hw'⟩ ee; omega)
        (fun i x hi hw o ho ee => by
          have h1 := hsat.size o ho
          have h2 := s4.hp.low (ins.length + i) ⟨x, hat i x hi, hw⟩
          rw [ee] at h1; exact h2 h1)
      refine ⟨_, val hp.length, hp ++ new, r2, r3, ?_, gd.mov.wf _ _ (fun i hi => ?_), r1, b1.mono hB, hkk⟩
      · rw [e4', gd.mov.den hp.length ins.length _ ν4 fun i _ => by simp only [show ¬ hp.length + i < hp.length by omega, if_false, Nat.add_sub_cancel_left]]
      · have hx : new[i]? = some new[i] := List.getElem?_eq_getElem hi
        obtain ⟨inp, cs, n, ee⟩ := ownRows_get gd.own hx
        refine ⟨new[i], ?_, by rw [ee]; rfl⟩
        rw [List.getElem?_append_right (by omega), Nat.add_sub_cancel_left]; exact hx
    · exact nomatch hx
  · exact nomatch hx
theorem mt_ok {f : FuncId} {s : SpecFn} (hs : SpecOk P f s) {ty : TypeId} {ks shape : List ArgK} {pre : Ins -> List SV -> Ins -> List SV -> Prop} {outs : Ins -> List SV -> Ins -> List SV -> List Out}
    (hz : ∀ sz zs, ArgK.rows sz zs ∈ ks ++ shape -> zs.length = sz) (hg : ∀ ins pl ins' pl', ∀ o ∈ outs ins pl ins' pl', o.good)
    (h : ∀ ins pl ins' pl' u, InsOk ks ins -> InsOk shape ins' -> u.length = heldIn ks -> SV.wfL (fun _ => False) pl -> SV.wfL (fun _ => False) pl' -> pre ins pl ins' pl' ->
      s (.ptr (ins.length + ins'.length) 0 :: formalArgs shape ins' pl' [] ins.length) (formalHp (ins ++ ins') ++ [.cells (formalArgs ks ins pl u 0) ty])
        (fun v hp => outsE (outs ins pl ins' pl') fun o => o.some (ins.length + ins'.length + 1) fun val new cs => simAt (ins.length + ins'.length + 1) 1 { tmps := [v], hp := hp } [(0, val)] (formalHp (ins ++ ins') ++ [.cells (putPlain ks (formalArgs ks ins pl u 0) cs) ty] ++ new))) :
    SpecOk P f (mtSpec ty ks shape pre outs) := by
  intro B ν hp w args K hsat hB hwf hx
  unfold mtSpec at hx
  split at hx
  · rename_i o args'
    split at hx
    · rename_i vs ty' ho
      split at hx
      · rename_i ss ps ins0 pl ss' ps' ins0' pl' hv hv'
        split at hx
        · rename_i hcl
          obtain ⟨rfl, hcl1, hcl2, hno, hno', hheld⟩ := hcl
          obtain ⟨hps, hx⟩ := asksP_iff hx
          obtain ⟨hps', hpre, hk⟩ := asksP_iff hx
          have he := closed_wf hcl1
          have he' := closed_wf hcl2
          obtain ⟨pls, u, e1, eu, e2, e3, e4, e5⟩ := view_args hsat hB (fun sz zs hm => hz sz zs (List.mem_append_left _ hm)) hv hps he
          obtain ⟨pls', u', e1', eu', e2', e3', e4', _⟩ := view_args hsat hB (fun sz zs hm => hz sz zs (List.mem_append_right _ hm)) hv' hps' he'
          have hu0 : u' = [] := by rw [hheld] at eu'; exact List.length_eq_zero_iff.1 eu'
          subst hu0
          generalize hins : insDen ins0 = ins at *
          generalize hins' : insDen ins0' = ins' at *
          have hrun := h ins pl ins' pl' u e2 e2' eu he he' hpre
          obtain ⟨ob1, ob2, ob3⟩ := hsat.obj o _ ho
          have hoo : Owned ν hp o := ⟨_, ho, rfl⟩
          have hosz := hsat.size o hoo
          have hq : ∀ p ∈ ss ++ ss', p ≠ o := fun p hp e => by
            subst e
            rcases List.mem_append.1 hp with h1 | h1
            · have := List.contains_iff_mem.2 h1; rw [hno] at this; cases this
            · have := List.contains_iff_mem.2 h1; rw [hno'] at this; cases this
          let N := ins.length + ins'.length
          let ν0 : Nat -> Pl := fun i => if i = N then ν o else ((pls ++ pls')[i]?).getD ⟨0, 0, false⟩
          let B' : Nat -> Prop := fun b => b < w.heap.size /\ b ≠ (ν o).blk
          have hflen : (formalHp (ins ++ ins')).length = N := by rw [formalHp_length, List.length_append]
          have hfapp : formalHp (ins ++ ins') = formalHp ins ++ formalHp ins' := formalHp_append ins ins'
          have hrowat : ∀ (i : Nat) (x : SObj), (formalHp (ins ++ ins'))[i]? = some x -> ∃ (p : Pl) (cs : List Col) (n : Nat), (pls ++ pls')[i]? = some p /\ x = .row false true cs (.var n) /\ GoodRow B ν hp w (ss ++ ss') p cs n := fun i x hi => by
            rw [hfapp, List.getElem?_append] at hi
            rw [formalHp_length] at hi
            split at hi
            · rename_i hlt
              obtain ⟨p, cs, n, h1, h2, h3⟩ := e3 i x hi
              exact ⟨p, cs, n, by rw [List.getElem?_append_left (by omega)]; exact h1, h2, h3.more fun o ho => List.mem_append_left _ ho⟩
            · rename_i hge
              obtain ⟨p, cs, n, h1, h2, h3⟩ := e3' _ x hi
              exact ⟨p, cs, n, by rw [List.getElem?_append_right (by omega), e1]; exact h1, h2, h3.more fun o ho => List.mem_append_right _ ho⟩
          have hNat : ∀ i p, (pls ++ pls')[i]? = some p -> ν0 i = p := fun i p hi => by
            have hlt : i < N := by
              have := (List.getElem?_eq_some_iff.1 hi).1
              simp only [List.length_append, e1, e1'] at this
              exact this
            simp only [ν0, show ¬ i = N by omega, if_false, hi, Option.getD_some]
          have hνa : ∀ i p, pls[i]? = some p -> ν0 (0 + i) = p := fun i p hi => hNat _ p (by rw [Nat.zero_add, List.getElem?_append_left (List.getElem?_eq_some_iff.1 hi).1]; exact hi)
          have hνb : ∀ i p, pls'[i]? = some p -> ν0 (ins.length + i) = p := fun i p hi => hNat _ p (by rw [List.getElem?_append_right (by omega), e1, Nat.add_sub_cancel_left]; exact hi)
          have hνo : ν0 N = ν o := by simp [ν0]
          have hF : ∀ i x, (formalHp (ins ++ ins') ++ [.cells (formalArgs ks ins pl u 0) ty])[i]? = some x -> (i < N /\ (formalHp (ins ++ ins'))[i]? = some x) ∨ (i = N /\ x = .cells (formalArgs ks ins pl u 0) ty) := fun i x hi => by
            rw [List.getElem?_append] at hi
            split at hi
            · rename_i hlt; exact .inl ⟨by omega, hi⟩
            · rename_i hge
              have h0 : i - (formalHp (ins ++ ins')).length < 1 := by simpa using (List.getElem?_eq_some_iff.1 hi).1
              have h1 : i - (formalHp (ins ++ ins')).length = 0 := by omega
              rw [h1] at hi
              simp at hi
              exact .inr ⟨by omega, hi.symm⟩
          have hFl : ∀ i, i < N + 1 -> Live (formalHp (ins ++ ins') ++ [.cells (formalArgs ks ins pl u 0) ty]) i := fun i hi => by
            by_cases hN : i = N
            · exact ⟨.cells (formalArgs ks ins pl u 0) ty, by rw [hN, List.getElem?_append_right (by omega), hflen, Nat.sub_self]; rfl, rfl⟩
            · have hx : (formalHp (ins ++ ins'))[i]? = some (formalHp (ins ++ ins'))[i] := List.getElem?_eq_getElem (by omega)
              obtain ⟨p, cs, n, h1, h2, h3⟩ := hrowat i _ hx
              exact ⟨_, by rw [List.getElem?_append_left (by omega)]; exact hx, by rw [h2]; rfl⟩
          have hs0 : SatHp B' ν0 (formalHp (ins ++ ins') ++ [.cells (formalArgs ks ins pl u 0) ty]) w := by
            refine ⟨fun i y hy => ?_, fun i i' hi hi' _ => ?_⟩
            · rcases hF i y hy with ⟨h1, h2⟩ | ⟨rfl, rfl⟩
              · obtain ⟨p, cs, n, g1, rfl, g3⟩ := hrowat i y h2
                show RowSat _ (ν0 i) w false true cs n
                rw [hNat i p g1]
                refine g3.row fun hn => ?_
                obtain ⟨g4, o', g5, g6, g7⟩ := g3.src hn
                refine ⟨g4, fun ee => ?_⟩
                rcases g7 with g7 | g7
                · exact hq o' g5 (hsat.apart o' o g7 hoo (by rw [<- g6, ee]))
                · exact ob1 (ee ▸ g7)
              · refine ⟨fun hb => hb.2 (by rw [hνo]), ?_, wfL_mono (fun i hi => hFl i (by omega)) _ (formalArgs_wf ks ins pl u 0 N he (by omega))⟩
                rw [hνo, ob2, e4 0 ν0 hνa]
            · have key : ∀ i, Owned ν0 (formalHp (ins ++ ins') ++ [.cells (formalArgs ks ins pl u 0) ty]) i -> i = N := fun i ⟨y, hy, hw⟩ => by
                rcases hF i y hy with ⟨h1, h2⟩ | ⟨h1, _⟩
                · obtain ⟨p, cs, n, g1, rfl, g3⟩ := hrowat i y h2
                  simp [SObj.owns] at hw
                · exact h1
              rw [key i hi, key i' hi']
          have hc := hs B' ν0 _ w (.ptr (ins.length + ins'.length) 0 :: formalArgs shape ins' pl' [] ins.length) _ hs0 (fun b hb => hb.1)
            ⟨hFl N (by omega), wfL_mono (fun i hi => hFl i hi) _ (formalArgs_wf shape ins' pl' [] ins.length (N + 1) he' (by omega))⟩ hrun
          have hargs : SV.denL ν0 (.ptr (ins.length + ins'.length) 0 :: formalArgs shape ins' pl' [] ins.length) = SV.denL ν (.ptr o 0 :: args') := by
            simp only [SV.denL]
            rw [e4' ins.length ν0 hνb]
            simp only [SV.den]
            rw [show ν0 (ins.length + ins'.length) = ν o from hνo]
          rw [hargs] at hc
          refine hc.mono ?_
          rintro e w' ⟨ν1, v, hp1', l1, a1, rfl, v1, s1, b1, hout⟩
          obtain ⟨oc, hoc, hsm⟩ := outsE_mem hout
          obtain ⟨val, new, cs, gd, hsim, hall⟩ := Out.some_elim hsm (hg ins pl ins' pl' oc hoc)
          have hkk := hall _ _ (outsK_mem hk oc hoc)
          have hact : Sat B' ν1 { tmps := [v], hp := hp1' } { tmps := #[v.den ν1], defers := [] } w' :=
            ⟨by simp [SV.denL], ⟨v1, trivial⟩, rfl, s1, fun b hb => Nat.lt_of_lt_of_le hb.1 b1.size⟩
          obtain ⟨uu, ν4, s4, a4, _⟩ := sim_sound hact hsim (p := fun i => i < N + 1) (fun i hi => hi) (fun i hi => l1 i (hFl i hi))
          have e4' : v.den ν1 = (val (ins.length + ins'.length + 1)).den ν4 := by
            have := s4.tmps
            simp [fillT, slotOf, SV.denL] at this
            exact this
          have hν4 : ∀ i, i < N + 1 -> ν4 i = ν0 i := fun i hi => (a4 i hi).trans (a1 i (hFl i hi))
          have hcell : (formalHp (ins ++ ins') ++ [.cells (putPlain ks (formalArgs ks ins pl u 0) cs) ty] ++ new)[N]? = some (.cells (putPlain ks (formalArgs ks ins pl u 0) cs) ty) := by
            rw [List.append_assoc, List.getElem?_append_right (by omega), hflen, Nat.sub_self]; rfl
          have hat : ∀ i x, new[i]? = some x -> (formalHp (ins ++ ins') ++ [.cells (putPlain ks (formalArgs ks ins pl u 0) cs) ty] ++ new)[N + 1 + i]? = some x := fun i x hi => by
            have hl2 : (formalHp (ins ++ ins') ++ [SObj.cells (putPlain ks (formalArgs ks ins pl u 0) cs) ty]).length = N + 1 := by simp [hflen]
            rw [List.getElem?_append_right (by omega), hl2, Nat.add_sub_cancel_left]; exact hi
          obtain ⟨_, oc2, _⟩ := s4.hp.obj N _ hcell
          have hown4 : Owned ν4 (formalHp (ins ++ ins') ++ [.cells (putPlain ks (formalArgs ks ins pl u 0) cs) ty] ++ new) N := ⟨_, hcell, rfl⟩
          have hνN : ν4 N = ν o := (hν4 N (by omega)).trans hνo
          have hoc2 : w'.heap[(ν o).blk]? = some (.cells (SV.denL ν (putPlain ks vs cs)).toArray ty (0, 0)) := by
            rw [hνN] at oc2
            rw [oc2, e5 cs gd.shut 0 ν4 fun i p hi => by
              have hlt : i < N := by
                have := (List.getElem?_eq_some_iff.1 hi).1
                rw [e1] at this
                simp only [N]; omega
              rw [hν4 _ (by omega)]; exact hνa i p hi]
          have hlt : o < hp.length := (List.getElem?_eq_some_iff.1 ho).1
          have hl5 : ∀ o', Live hp o' -> Live (setAt hp o (.cells (putPlain ks vs cs) ty)) o' := fun o' ⟨y, hy, ee⟩ => by
            by_cases hx : o' = o
            · subst hx; exact ⟨.cells (putPlain ks vs cs) ty, by rw [setAt_set, List.getElem?_set_self hlt], rfl⟩
            · exact ⟨y, by rw [setAt_set, List.getElem?_set_ne (by omega)]; exact hy, ee⟩
          have hBB : ∀ b, B b -> B' b := fun b hb => ⟨hB b hb, fun ee => ob1 (ee ▸ hb)⟩
          obtain ⟨r1, r2, r3⟩ := ret_post (hp5 := setAt hp o (.cells (putPlain ks vs cs) ty)) (new := new) (n := N + 1) (ν4 := ν4) hsat (B' := B') hBB b1 (setAt_length _ _ _) hl5 (fun i y hy => by
              rw [setAt_set] at hy
              by_cases hx : i = o
              · subst hx
                rw [List.getElem?_set_self hlt] at hy; cases hy
                exact .inr ⟨_, _, rfl, hoo, hoc2, putPlain_wf ks vs cs ob3 gd.shut⟩
              · rw [List.getElem?_set_ne (by omega)] at hy
                refine .inl ⟨hy, fun hor hlt' => ⟨hlt', fun ee => ?_⟩⟩
                rcases hor with h1 | h1
                · exact hx (hsat.apart i o ⟨y, hy, h1⟩ hoo ee)
                · exact ob1 (ee ▸ h1)) gd.own
            (fun i inp cs n hi => s4.hp.obj (N + 1 + i) _ (hat i _ hi))
            (fun i i' x x' hi hi' hw hw' ee => by have := s4.hp.apart (N + 1 + i) (N + 1 + i') ⟨x, hat i x hi, hw⟩ ⟨x', hat i' x' hi', hw'⟩ ee; omega)
            (fun i x hi hw o' ho' ee => by
              have h1 := hsat.size o' ho'
              have h2 := s4.hp.low (N + 1 + i) ⟨x, hat i x hi, hw⟩
              rw [ee] at h1
              refine h2 ⟨h1, fun e9 => ?_⟩
              have := s4.hp.apart (N + 1 + i) N ⟨x, hat i x hi, hw⟩ hown4 (by rw [hνN]; exact e9)
              omega)
          refine ⟨_, val hp.length, setAt hp o (.cells (putPlain ks vs cs) ty) ++ new, r2, r3, ?_, gd.mov.wf _ _ (fun i hi => ?_), r1, b1.mono hBB, hkk⟩
          · rw [e4', gd.mov.den hp.length (ins.length + ins'.length + 1) _ ν4 fun i _ => by simp only [show ¬ hp.length + i < hp.length by omega, if_false, Nat.add_sub_cancel_left, N]]
          · have hx : new[i]? = some new[i] := List.getElem?_eq_getElem hi
            obtain ⟨inp, cs', n, ee⟩ := ownRows_get gd.own hx
            refine ⟨new[i], ?_, by rw [ee]; rfl⟩
            rw [List.getElem?_append_right (by rw [setAt_length]; omega), setAt_length, Nat.add_sub_cancel_left]; exact hx
        · exact nomatch hx
      · exact nomatch hx
    · exact nomatch hx
  · exact nomatch hx
end
end Go.Proofs.YtajcmjjgnbaahaaDoor.Sx
