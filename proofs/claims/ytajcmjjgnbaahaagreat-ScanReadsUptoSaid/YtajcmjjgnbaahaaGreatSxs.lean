/- A state that is another one, told otherwise: what is so of the one is so of the other. -/
import Derived.Test.YtajcmjjgnbaahaaGreatSxr
set_option linter.unusedVariables false
set_option linter.unusedSimpArgs false
namespace Go.Proofs.YtajcmjjgnbaahaaGreat.Sx
open Go Go.RowKit
section
variable {P : Program} {B : Nat -> Prop} {n : Nat -> Prop} {ν : Nat -> Pl} {σ : St} {a : Act} {w : World}
theorem zK {c : Nat} {Q : Prop} (h : zF c) : Q := nomatch h
def Inj (m : List Link) : Prop := ∀ k k' l l' o, zAj m k = some l -> zAj m k' = some l' -> l.old = some o -> l'.old = some o -> k = k'
def Neat (m : List Link) : Prop := ∀ l ∈ m, zAj m l.key = some l
theorem zER : ∀ {m : List Link} {k : Nat} {l : Link}, zAj m k = some l -> l ∈ m /\ l.key = k
  | [], _, _, h => by simp [zAj] at h
  | x :: r, k, l, h => by
    unfold zAj at h
    split at h
    · rename_i e
      simp only [Option.some.injEq] at h; subst h
      exact ⟨List.mem_cons_self .., e⟩
    · obtain ⟨h1, h2⟩ := zER h
      exact ⟨List.mem_cons_of_mem _ h1, h2⟩
structure Ext (m m' : List Link) : Prop where
  pre : ∃ p, m' = p ++ m
  keep : ∀ k l, zAj m k = some l -> zAj m' k = some l
  inj : Inj m -> Inj m'
  neat : Neat m -> Neat m'
theorem Ext.refl (m : List Link) : Ext m m := ⟨⟨[], rfl⟩, fun _ _ h => h, fun h => h, fun h => h⟩
theorem Ext.trans {a b c : List Link} (h : Ext a b) (k : Ext b c) : Ext a c := by
  obtain ⟨p, hp⟩ := h.pre
  obtain ⟨q, hq⟩ := k.pre
  exact ⟨⟨q ++ p, by rw [hq, hp, List.append_assoc]⟩, fun x l hx => k.keep x l (h.keep x l hx), fun hx => k.inj (h.inj hx), fun hx => k.neat (h.neat hx)⟩
theorem zOi {m : List Link} {l : Link} (hk : zAj m l.key = none) (ho : ∀ o, l.old = some o -> ∀ l' ∈ m, l'.old ≠ some o) : Ext m (l :: m) := by
  have keep : ∀ k x, zAj m k = some x -> zAj (l :: m) k = some x := fun k x hx => by
    unfold zAj
    split
    · rename_i e; rw [e] at hk; rw [hk] at hx; cases hx
    · exact hx
  refine ⟨⟨[l], rfl⟩, keep, ?_, ?_⟩
  · intro hi k k' x x' o hx hx' e e'
    unfold zAj at hx hx'
    split at hx
    · rename_i e1
      cases hx
      split at hx'
      · rename_i e2; omega
      · exact absurd e' (ho o e _ (zER hx').1)
    · split at hx'
      · cases hx'
        exact absurd e (ho o e' _ (zER hx).1)
      · exact hi k k' x x' o hx hx' e e'
  · intro hn x hx
    rcases List.mem_cons.1 hx with rfl | hx
    · simp [zAj]
    · exact keep _ _ (hn x hx)
theorem zB4 {m : List Link} {k : Nat} {o : Option Nat} {conv : Bool} {K : List Link -> Prop} (hc : o = none -> conv = false) (h : zLq m k o conv K) : ∃ m', Ext m m' /\ K m' /\ zAj m' k = some ⟨k, o, conv⟩ := by
  unfold zLq at h
  split at h
  · rename_i l hl
    split at h
    · rename_i e
      refine ⟨m, Ext.refl m, h, ?_⟩
      rw [hl]
      have := (zER hl).2
      cases l
      simp_all
    · exact zK h
  · rename_i hl
    split at h
    · refine ⟨_, zOi hl (fun o ho => by simp at ho), h, ?_⟩
      simp [zAj, hc rfl]
    · rename_i o
      split at h
      · rename_i hall
        refine ⟨_, zOi hl (fun o' ho l' hl' e => ?_), h, by simp [zAj]⟩
        simp only [Option.some.injEq] at ho; subst ho
        have := List.all_eq_true.1 hall l' hl'
        simp [e] at this
      · exact zK h
def nuOf (ν : Nat -> Pl) (m : List Link) : Nat -> Pl := fun k =>
  match zAj m k with
  | some l => match l.old with
    | some o => if l.conv then ⟨(ν o).blk, 0, false⟩ else ν o
    | none => ⟨0, 0, true⟩
  | none => ⟨0, 0, false⟩
def Key (m : List Link) (k : Nat) : Prop := ∃ l, zAj m k = some l
theorem zB3 {m : List Link} {k o : Nat} (h : zAj m k = some ⟨k, some o, false⟩) : nuOf ν m k = ν o := by simp [nuOf, h]
theorem zIG {m : List Link} {k o : Nat} (h : zAj m k = some ⟨k, some o, true⟩) : nuOf ν m k = ⟨(ν o).blk, 0, false⟩ := by simp [nuOf, h]
theorem zYU {m : List Link} {k : Nat} (h : zAj m k = some ⟨k, none, false⟩) : nuOf ν m k = ⟨0, 0, true⟩ := by simp [nuOf, h]
theorem zTo {a b : IE} {R : Prop} (h : eqIE a b R) : a.den = b.den /\ R := by
  unfold eqIE at h
  split at h
  · split at h
    · rename_i e; exact ⟨by rw [e], h⟩
    · exact zK h
  · exact h
theorem zBw {a b : NE} {R : Prop} (h : eqNE a b R) : a.den = b.den /\ R := by
  unfold eqNE at h
  split at h
  · split at h
    · rename_i e; exact ⟨by rw [e], h⟩
    · exact zK h
  · exact h
theorem zTp {a b : BE} {R : Prop} (h : eqBE a b R) : a.den = b.den /\ R := by
  unfold eqBE at h
  split at h
  · split at h
    · rename_i e; exact ⟨by rw [e], h⟩
    · exact zK h
  · exact h
def Told (ν : Nat -> Pl) (v v' : SV) (m : List Link) (K : List Link -> Prop) : Prop :=
  ∃ m', Ext m m' /\ K m' /\ ∀ mf, Ext m' mf -> v'.den (nuOf ν mf) = v.den ν /\ v'.wf (Key mf)
theorem zAz {v v' : SV} {m : List Link} {K : List Link -> Prop} (hk : K m) (hd : ∀ ν', v'.den ν' = v.den ν) (hw : ∀ p, v'.wf p) : Told ν v v' m K :=
  ⟨m, Ext.refl m, hk, fun mf _ => ⟨hd _, hw _⟩⟩
mutual
theorem zFE : ∀ (v v' : SV) (m : List Link) (K : List Link -> Prop), zB1 v v' m K -> Told ν v v' m K
  | .int k x, v', m, K, h => by
    cases v' <;> simp only [zB1] at h <;> first | exact zK h | skip
    split at h
    · rename_i e; subst e
      obtain ⟨h1, h2⟩ := zTo h
      exact zAz h2 (fun _ => by simp [SV.den, h1]) (fun _ => trivial)
    · exact zK h
  | .bool x, v', m, K, h => by
    cases v' <;> simp only [zB1] at h <;> first | exact zK h | skip
    obtain ⟨h1, h2⟩ := zTp h
    exact zAz h2 (fun _ => by simp [SV.den, h1]) (fun _ => trivial)
  | .str s, v', m, K, h => by
    cases v' <;> simp only [zB1] at h <;> first | exact zK h | exact zAz h.2 (fun _ => by simp [SV.den, h.1]) (fun _ => trivial)
  | .strE s, v', m, K, h => by
    cases v' <;> simp only [zB1] at h <;> first | exact zK h | exact zAz h.2 (fun _ => by simp [SV.den, h.1]) (fun _ => trivial)
  | .ptr o off, v', m, K, h => by
    cases v' <;> simp only [zB1] at h <;> first | exact zK h | skip
    split at h
    · rename_i e; subst e
      obtain ⟨m', h1, h2, h3⟩ := zB4 (by simp) h
      exact ⟨m', h1, h2, fun mf hf => ⟨by simp [SV.den, zB3 (hf.keep _ _ h3)], ⟨_, hf.keep _ _ h3⟩⟩⟩
    · exact zK h
  | .slice o off l c, v', m, K, h => by
    cases v' with
    | slice o' off' l' c' =>
      simp only [zB1] at h
      split at h
      · rename_i e; subst e
        obtain ⟨m', h1, h2, h3⟩ := zB4 (by simp) h
        obtain ⟨e1, h2⟩ := zBw h2
        obtain ⟨e2, h2⟩ := zBw h2
        exact ⟨m', h1, h2, fun mf hf => ⟨by simp [SV.den, zB3 (hf.keep _ _ h3), e1, e2], ⟨_, hf.keep _ _ h3⟩⟩⟩
      · exact zK h
    | sliceE inp' o' sz' st' l' c' =>
      simp only [zB1] at h
      split at h
      · rename_i e
        obtain ⟨m', h1, h2, h3⟩ := zB4 (by simp) h
        obtain ⟨e0, h2⟩ := zBw h2
        obtain ⟨e1, h2⟩ := zBw h2
        obtain ⟨e2, h2⟩ := zBw h2
        refine ⟨m', h1, h2, fun mf hf => ⟨?_, ⟨_, hf.keep _ _ h3⟩⟩⟩
        have hoff : st'.den * sz' = off := by rw [<- e0, zAF]; exact Nat.div_mul_cancel (Nat.dvd_of_mod_eq_zero e.2)
        cases inp' with
        | true => simp [SV.den, zIG (hf.keep _ _ h3), e1, e2, Pl.base, hoff]
        | false => simp [SV.den, zB3 (hf.keep _ _ h3), e1, e2, Pl.base, hoff]
      · exact zK h
    | _ => simp only [zB1] at h; exact zK h
  | .nilp, v', m, K, h => by cases v' <;> simp only [zB1] at h <;> first | exact zK h | exact zAz h (fun _ => rfl) (fun _ => trivial)
  | .nili, v', m, K, h => by cases v' <;> simp only [zB1] at h <;> first | exact zK h | exact zAz h (fun _ => rfl) (fun _ => trivial)
  | .nilf, v', m, K, h => by cases v' <;> simp only [zB1] at h <;> first | exact zK h | exact zAz h (fun _ => rfl) (fun _ => trivial)
  | .nilm, v', m, K, h => by cases v' <;> simp only [zB1] at h <;> first | exact zK h | exact zAz h (fun _ => rfl) (fun _ => trivial)
  | .nils, v', m, K, h => by
    cases v' with
    | nils => simp only [zB1] at h; exact zAz h (fun _ => rfl) (fun _ => trivial)
    | sliceE inp' o' sz' st' l' c' =>
      cases inp' with
      | false => simp only [zB1] at h; exact zK h
      | true =>
        simp only [zB1] at h
        obtain ⟨m', h1, h2, h3⟩ := zB4 (by simp) h
        exact ⟨m', h1, h2.2.2, fun mf hf => ⟨by simp [SV.den, zYU (hf.keep _ _ h3), h2.1, h2.2.1], ⟨_, hf.keep _ _ h3⟩⟩⟩
    | _ => simp only [zB1] at h; exact zK h
  | .iface t v, v', m, K, h => by
    cases v' <;> simp only [zB1] at h <;> first | exact zK h | skip
    split at h
    · rename_i e; subst e
      obtain ⟨m', h1, h2, h3⟩ := zFE v _ m K h
      exact ⟨m', h1, h2, fun mf hf => ⟨by simp [SV.den, (h3 mf hf).1], (h3 mf hf).2⟩⟩
    · exact zK h
  | .agg l, v', m, K, h => by
    cases v' <;> simp only [zB1] at h <;> first | exact zK h | skip
    obtain ⟨m', h1, h2, h3⟩ := zBd l _ m K h
    exact ⟨m', h1, h2, fun mf hf => ⟨by simp [SV.den, (h3 mf hf).1], (h3 mf hf).2⟩⟩
  | .tuple l, v', m, K, h => by
    cases v' <;> simp only [zB1] at h <;> first | exact zK h | skip
    obtain ⟨m', h1, h2, h3⟩ := zBd l _ m K h
    exact ⟨m', h1, h2, fun mf hf => ⟨by simp [SV.den, (h3 mf hf).1], (h3 mf hf).2⟩⟩
  | .func fn x y, v', m, K, h => by
    cases v' <;> simp only [zB1] at h <;> first | exact zK h | skip
    split at h
    · rename_i e; subst e
      obtain ⟨m1, h1, h2, h3⟩ := zBd x _ m _ h
      obtain ⟨m2, k1, k2, k3⟩ := zBd y _ m1 K h2
      exact ⟨m2, h1.trans k1, k2, fun mf hf => ⟨by simp [SV.den, (h3 mf (k1.trans hf)).1, (k3 mf hf).1], (h3 mf (k1.trans hf)).2, (k3 mf hf).2⟩⟩
    · exact zK h
  | .val x, v', m, K, h => by
    cases v' <;> simp only [zB1] at h <;> first | exact zK h | exact zAz h.2 (fun _ => by simp [SV.den, h.1]) (fun _ => trivial)
  | .ptrE inp o sz i c, v', m, K, h => by
    cases v' <;> simp only [zB1] at h <;> first | exact zK h | skip
    rename_i inp' o' sz' i' c'
    split at h
    · rename_i cv hcv
      split at h
      · rename_i e
        obtain ⟨rfl, rfl⟩ := e
        obtain ⟨m', h1, h2, h3⟩ := zB4 (by simp) h
        obtain ⟨e1, h2⟩ := zBw h2
        refine ⟨m', h1, h2, fun mf hf => ⟨?_, ⟨_, hf.keep _ _ h3⟩⟩⟩
        cases inp <;> cases inp' <;> simp [zJn] at hcv <;> subst hcv
        · simp [SV.den, zB3 (hf.keep _ _ h3), e1, Pl.base]
        · simp [SV.den, zIG (hf.keep _ _ h3), e1, Pl.base]
        · simp [SV.den, zB3 (hf.keep _ _ h3), e1, Pl.base]
      · exact zK h
    · exact zK h
  | .sliceE inp o sz st l c, v', m, K, h => by
    cases v' <;> simp only [zB1] at h <;> first | exact zK h | skip
    rename_i inp' o' sz' st' l' c'
    split at h
    · rename_i cv hcv
      split at h
      · rename_i e
        subst e
        obtain ⟨m', h1, h2, h3⟩ := zB4 (by simp) h
        obtain ⟨e0, h2⟩ := zBw h2
        obtain ⟨e1, h2⟩ := zBw h2
        obtain ⟨e2, h2⟩ := zBw h2
        refine ⟨m', h1, h2, fun mf hf => ⟨?_, ⟨_, hf.keep _ _ h3⟩⟩⟩
        cases inp <;> cases inp' <;> simp [zJn] at hcv <;> subst hcv
        · simp [SV.den, zB3 (hf.keep _ _ h3), e0, e1, e2, Pl.base]
        · simp [SV.den, zIG (hf.keep _ _ h3), e0, e1, e2, Pl.base]
        · simp [SV.den, zB3 (hf.keep _ _ h3), e0, e1, e2, Pl.base]
      · exact zK h
    · exact zK h
theorem zBd : ∀ (l l' : List SV) (m : List Link) (K : List Link -> Prop), zGm l l' m K ->
    ∃ m', Ext m m' /\ K m' /\ ∀ mf, Ext m' mf -> SV.denL (nuOf ν mf) l' = SV.denL ν l /\ SV.wfL (Key mf) l'
  | [], l', m, K, h => by
    cases l' <;> simp only [zGm] at h <;> first | exact zK h | exact ⟨m, Ext.refl m, h, fun mf _ => ⟨rfl, trivial⟩⟩
  | v :: r, l', m, K, h => by
    cases l' <;> simp only [zGm] at h <;> first | exact zK h | skip
    obtain ⟨m1, h1, h2, h3⟩ := zFE v _ m _ h
    obtain ⟨m2, k1, k2, k3⟩ := zBd r _ m1 K h2
    exact ⟨m2, h1.trans k1, k2, fun mf hf => ⟨by simp [SV.denL, (h3 mf (k1.trans hf)).1, (k3 mf hf).1], (h3 mf (k1.trans hf)).2, (k3 mf hf).2⟩⟩
end
theorem zLN {c c' : Col} {k : Nat} {R : Prop} (h : zQL c c' k R) : R /\ ∀ e, e < k -> ∀ v, c.holds e v -> c'.holds e v := by
  cases c <;> cases c' <;> simp only [zQL] at h <;> first
    | exact zK h
    | exact ⟨h, fun e he v hv => ⟨hv.1, trivial⟩⟩
    | exact ⟨h.2, fun e he v hv => ⟨hv.1, by have := hv.2; simp only [Col.den] at this ⊢; rw [<- h.1 e he]; exact this⟩⟩
    | (split at h
       · rename_i e; subst e
         exact ⟨h.2, fun e he v hv => ⟨hv.1, by have := hv.2; simp only [Col.den] at this ⊢; rw [<- h.1 e he]; exact this⟩⟩
       · exact zK h)
theorem zDk {k : Nat} {R : Prop} : ∀ {cs cs' : List Col}, zGO k R cs cs' -> R /\ cs'.length = cs.length /\ ∀ (j : Nat) (c' : Col), cs'[j]? = some c' -> ∃ c, cs[j]? = some c /\ ∀ e, e < k -> ∀ v, c.holds e v -> c'.holds e v
  | [], [], h => ⟨h, rfl, by simp⟩
  | c :: r, c' :: r', h => by
    obtain ⟨h1, h2⟩ := zLN h
    obtain ⟨k1, k2, k3⟩ := zDk h1
    refine ⟨k1, by simp [k2], fun j x hx => ?_⟩
    cases j with
    | zero => simp at hx; subst hx; exact ⟨c, rfl, h2⟩
    | succ j => exact k3 j x (by simpa using hx)
  | [], _ :: _, h => by simp only [zGO] at h; exact zK h
  | _ :: _, [], h => by simp only [zGO] at h; exact zK h
def Rel (B : Nat -> Prop) (ν : Nat -> Pl) (w : World) (hp hp' : List SObj) (mf : List Link) (l : Link) : Prop :=
  ∃ x', hp'[l.key]? = some x' /\ x'.alive = true /\ zAN B (nuOf ν mf) (Key mf) w l.key x' /\ (x'.owns (nuOf ν mf l.key) = true -> ∃ o, l.old = some o /\ zAc ν hp o /\ (nuOf ν mf l.key).blk = (ν o).blk)
theorem zNl {p p' : Pl} {own inp inp' : Bool} {cols cols' : List Col} {k : Nat} (hr : zw B p w own inp cols k) (hb : p'.blk = p.blk) (hbase : p'.base inp' = p.base inp) (hn : (inp' && p'.nil) = (inp && p.nil)) (hlen : cols'.length = cols.length)
    (hc : ∀ (j : Nat) (c' : Col), cols'[j]? = some c' -> ∃ c, cols[j]? = some c /\ ∀ e, e < k -> ∀ v, c.holds e v -> c'.holds e v) : zw B p' w own inp' cols' k := by
  refine ⟨?_, ?_, ?_, ?_, ?_⟩
  · rw [hn]; exact hr.empty
  · rw [hn, hb]; exact hr.lo
  · rw [hn, hb]; exact hr.hi
  · intro e he j c' hj
    obtain ⟨c, hc1, hc2⟩ := hc j c' hj
    obtain ⟨v, v1, v2⟩ := hr.cell e he j c hc1
    exact ⟨v, by rw [hb, hbase, hlen]; exact v1, hc2 e he v v2⟩
  · intro ho e he j hj
    rw [hb, hbase, hlen]
    exact hr.thawed ho e he j (by rw [<- hlen]; exact hj)
theorem zLM {hp hp' : List SObj} (hs : z6 B ν hp w) {l : Link} {m : List Link} {K : List Link -> Prop} (h : zQK hp hp' l m K) :
    ∃ m', Ext m m' /\ K m' /\ ∀ mf, Ext m' mf -> zAj mf l.key = some l -> Rel B ν w hp hp' mf l := by
  unfold zQK at h
  split at h
  · rename_i cols' n' hold hobj
    refine ⟨m, Ext.refl m, h.2, fun mf hf hl => ?_⟩
    have hnu : nuOf ν mf l.key = ⟨0, 0, true⟩ := by simp [nuOf, hl, hold]
    refine ⟨_, hobj, rfl, ?_, fun ho => ?_⟩
    · show zw B (nuOf ν mf l.key) w true true cols' n'.den
      rw [hnu, h.1]
      exact ⟨fun _ => rfl, fun h => by simp at h, fun _ h => (by cases h), fun e he => absurd he (by omega), fun _ e he => absurd he (by omega)⟩
    · rw [hnu] at ho; simp [SObj.owns] at ho
  · rename_i o vs' ty' hold hobj
    split at h
    · rename_i vs ty ho
      split at h
      · rename_i e
        obtain ⟨rfl, hcv⟩ := e
        obtain ⟨m', h1, h2, h3⟩ := zBd (ν := ν) vs vs' m K h
        refine ⟨m', h1, h2, fun mf hf hl => ?_⟩
        have hl' : zAj mf l.key = some ⟨l.key, some o, false⟩ := by rw [hl]; cases l; simp_all
        have hnu := zB3 (ν := ν) hl'
        obtain ⟨o1, o2, o3⟩ := hs.obj o _ ho
        obtain ⟨d1, d2⟩ := h3 mf hf
        refine ⟨_, hobj, rfl, ⟨by rw [hnu]; exact o1, ?_, d2⟩, fun _ => ⟨o, hold, ⟨_, ho, rfl⟩, by rw [hnu]⟩⟩
        rw [hnu, d1]; exact o2
      · exact zK h
    · exact zK h
  · rename_i o own' inp' cols' n' hold hobj
    split at h
    · rename_i own inp cols k ho
      split at h
      · rename_i e
        obtain ⟨rfl, hcv⟩ := e
        obtain ⟨e1, h⟩ := zBw h
        obtain ⟨h1, h2, h3⟩ := zDk h
        refine ⟨m, Ext.refl m, h1, fun mf hf hl => ?_⟩
        have hr : zw B (ν o) w own inp cols k.den := hs.obj o _ ho
        have hl' : zAj mf l.key = some ⟨l.key, some o, l.conv⟩ := by rw [hl]; cases l; simp_all
        have hcase : (nuOf ν mf l.key).blk = (ν o).blk /\ (nuOf ν mf l.key).base inp' = (ν o).base inp /\ (inp' && (nuOf ν mf l.key).nil) = (inp && (ν o).nil) := by
          cases hi : inp <;> cases hi' : inp' <;> rw [hi, hi'] at hcv <;> simp [zJn] at hcv <;> rw [hcv] at hl'
          · rw [zB3 (ν := ν) hl']; simp [Pl.base]
          · rw [zIG (ν := ν) hl']; simp [Pl.base]
          · rw [zB3 (ν := ν) hl']; simp [Pl.base]
        refine ⟨_, hobj, rfl, ?_, fun hw => ⟨o, hold, ⟨_, ho, ?_⟩, hcase.1⟩⟩
        · show zw B (nuOf ν mf l.key) w own inp' cols' n'.den
          rw [<- e1] at h3 ⊢
          exact zNl hr hcase.1 hcase.2.1 hcase.2.2 h2 h3
        · simp only [SObj.owns, hcase.2.2] at hw ⊢; exact hw
      · exact zK h
    · rename_i x hnr ho
      split at h
      · rename_i cols k hv
        split at h
        · rename_i e
          obtain ⟨rfl, hcv⟩ := e
          obtain ⟨e1, h⟩ := zBw h
          obtain ⟨h1, h2, h3⟩ := zDk h
          refine ⟨m, Ext.refl m, h1, fun mf hf hl => ?_⟩
          cases x with
          | row own inp c k => exact absurd rfl (hnr own inp c k)
          | dead => simp [zAB] at hv
          | husk => simp [zAB] at hv
          | map ks vs => simp [zAB] at hv
          | grown sz vs => simp [zAB] at hv
          | glob g vs => simp [zAB] at hv
          | cells vs ty =>
            obtain ⟨v1, v2, v3⟩ := zDO hv (hs.obj o _ ho)
            obtain ⟨o1, o2, o3⟩ := hs.obj o _ ho
            have hl' : zAj mf l.key = some ⟨l.key, some o, l.conv⟩ := by rw [hl]; cases l; simp_all
            have hr : zw B (ν o) w true false cols k.den := by
              refine ⟨by simp, fun _ _ => ⟨o1, (Array.getElem?_eq_some_iff.1 o2).1⟩, fun _ h => (by cases h), ?_, ?_⟩
              · rw [v1]; exact v3
              · intro _ e he j hj
                simp [World.frozen?, o2]
            have hcase : (nuOf ν mf l.key).blk = (ν o).blk /\ (nuOf ν mf l.key).base inp' = (ν o).base false /\ (inp' && (nuOf ν mf l.key).nil) = (false && (ν o).nil) := by
              cases hi' : inp' <;> rw [hi'] at hcv <;> rw [hcv] at hl'
              · rw [zB3 (ν := ν) hl']; simp [Pl.base]
              · rw [zIG (ν := ν) hl']; simp [Pl.base]
            refine ⟨_, hobj, rfl, ?_, fun hw => ⟨o, hold, ⟨_, ho, rfl⟩, hcase.1⟩⟩
            show zw B (nuOf ν mf l.key) w true inp' cols' n'.den
            rw [<- e1] at h3 ⊢
            exact zNl hr hcase.1 hcase.2.1 hcase.2.2 h2 h3
        · exact zK h
      · exact zK h
    · exact zK h
  · rename_i o g' vs' hold hobj
    split at h
    · rename_i g vs ho
      split at h
      · rename_i e
        obtain ⟨rfl, hcv⟩ := e
        obtain ⟨rfl, h⟩ := h
        refine ⟨m, Ext.refl m, h, fun mf hf hl => ?_⟩
        have hl' : zAj mf l.key = some ⟨l.key, some o, false⟩ := by rw [hl]; cases l; simp_all
        have hnu := zB3 (ν := ν) hl'
        obtain ⟨o1, o2, o3, o4, o5⟩ := hs.obj o _ ho
        exact ⟨_, hobj, rfl, ⟨by rw [hnu]; exact o1, o2, o3, o4, o5⟩, fun hw => by simp [SObj.owns] at hw⟩
      · exact zK h
    · exact zK h
  · exact zK h
theorem zVO {m p : List Link} {i : Nat} {l : Link} (h : m.reverse[i]? = some l) : (p ++ m).reverse[i]? = some l := by
  rw [List.reverse_append, List.getElem?_append_left (List.getElem?_eq_some_iff.1 h).1]
  exact h
theorem zFg {hp hp' : List SObj} (hs : z6 B ν hp w) : ∀ (fuel i : Nat) (m : List Link) (K : List Link -> Prop), zKH hp hp' fuel i m K ->
    ∃ mf, Ext m mf /\ K mf /\ ∀ (j : Nat) (l : Link), i <= j -> mf.reverse[j]? = some l -> zAj mf l.key = some l -> Rel B ν w hp hp' mf l
  | 0, i, m, K, h => nomatch h
  | fuel + 1, i, m, K, h => by
    unfold zKH at h
    split at h
    · rename_i l hl
      obtain ⟨m1, h1, h2, h3⟩ := zLM hs h
      obtain ⟨mf, k1, k2, k3⟩ := zFg hs fuel (i + 1) m1 K h2
      refine ⟨mf, h1.trans k1, k2, fun j x hj hx hf => ?_⟩
      by_cases e : j = i
      · subst e
        obtain ⟨p, hp⟩ := (h1.trans k1).pre
        have := zVO (p := p) hl
        rw [<- hp, hx] at this
        cases this
        exact h3 mf k1 hf
      · exact k3 j x (by omega) hx hf
    · rename_i hl
      refine ⟨m, Ext.refl m, h, fun j x hj hx _ => ?_⟩
      have h1 := List.getElem?_eq_none_iff.1 hl
      have h2 := (List.getElem?_eq_some_iff.1 hx).1
      omega
theorem zE2 {tmps : List SV} : ∀ (slots : List (Nat × SV)) (m : List Link) (K : List Link -> Prop), zHO tmps slots m K ->
    ∃ m', Ext m m' /\ K m' /\ ∀ mf, Ext m' mf -> ∀ i v', (i, v') ∈ slots -> v'.wf (Key mf) /\ ∃ v, tmps[i]? = some v /\ v'.den (nuOf ν mf) = v.den ν
  | [], m, K, h => ⟨m, Ext.refl m, h, fun mf _ i v' hi => by simp at hi⟩
  | (i, v') :: r, m, K, h => by
    unfold zHO at h
    split at h
    · rename_i v hv
      obtain ⟨m1, h1, h2, h3⟩ := zFE (ν := ν) v v' m _ h
      obtain ⟨m2, k1, k2, k3⟩ := zE2 r m1 K h2
      refine ⟨m2, h1.trans k1, k2, fun mf hf j u hj => ?_⟩
      rcases List.mem_cons.1 hj with e | hj
      · cases e
        exact ⟨(h3 mf (k1.trans hf)).2, v, hv, (h3 mf (k1.trans hf)).1⟩
      · exact k3 mf hf j u hj
    · exact zK h
theorem zGN : ∀ {slots : List (Nat × SV)} {i : Nat} {v : SV}, zEF slots i = some v -> (i, v) ∈ slots
  | [], _, _, h => by simp [zEF] at h
  | (j, u) :: r, i, v, h => by
    unfold zEF at h
    split at h
    · rename_i e; subst e; cases h; exact List.mem_cons_self ..
    · exact List.mem_cons_of_mem _ (zGN h)
theorem zBr {n0 : Nat} : ∀ (hp : List SObj) (i k : Nat) (l : Link), zAj (zBH n0 i hp) k = some l -> l = ⟨k, some k, false⟩ /\ i <= k
  | [], i, k, l, h => by simp [zBH, zAj] at h
  | x :: r, i, k, l, h => by
    unfold zBH at h
    split at h
    · unfold zAj at h
      split at h
      · rename_i e
        simp only at e
        cases h
        subst e
        exact ⟨rfl, Nat.le_refl _⟩
      · obtain ⟨h1, h2⟩ := zBr r (i + 1) k l h; exact ⟨h1, by omega⟩
    · obtain ⟨h1, h2⟩ := zBr r (i + 1) k l h; exact ⟨h1, by omega⟩
theorem zGz {n0 : Nat} : ∀ (hp : List SObj) (i o : Nat) (x : SObj), hp[o]? = some x -> x.alive = true -> i + o < n0 -> ∃ l, zAj (zBH n0 i hp) (i + o) = some l
  | [], _, _, _, h, _, _ => by simp at h
  | y :: r, i, o, x, h, ha, hlt => by
    unfold zBH
    cases o with
    | zero =>
      simp at h; subst h
      rw [if_pos ⟨by omega, ha⟩]
      exact ⟨⟨i, some i, false⟩, by simp [zAj]⟩
    | succ o =>
      have ih := zGz (n0 := n0) r (i + 1) o x (by simpa using h) ha (by omega)
      rw [show i + 1 + o = i + (o + 1) by omega] at ih
      split
      · obtain ⟨l, hl⟩ := ih
        refine ⟨l, ?_⟩
        unfold zAj
        rw [if_neg (by simp only; omega)]
        exact hl
      · exact ih
theorem zFs {n0 : Nat} : ∀ (hp : List SObj) (i : Nat), Neat (zBH n0 i hp) /\ ∀ l ∈ zBH n0 i hp, i <= l.key
  | [], _ => ⟨fun l h => by simp [zBH] at h, fun l h => by simp [zBH] at h⟩
  | x :: r, i => by
    obtain ⟨h1, h2⟩ := zFs (n0 := n0) r (i + 1)
    unfold zBH
    split
    · refine ⟨fun l hl => ?_, fun l hl => ?_⟩
      · rcases List.mem_cons.1 hl with rfl | hl
        · simp [zAj]
        · unfold zAj
          have := h2 l hl
          rw [if_neg (by simp only; omega)]
          exact h1 l hl
      · rcases List.mem_cons.1 hl with rfl | hl
        · exact Nat.le_refl _
        · have := h2 l hl; omega
    · exact ⟨h1, fun l hl => by have := h2 l hl; omega⟩
theorem zGB {m : List Link} : ∀ (hp : List SObj) (i o : Nat) (x : SObj), zGC m i hp = true -> hp[o]? = some x -> x.alive = true -> ∃ l, zAj m (i + o) = some l
  | [], _, _, _, _, h, _ => by simp at h
  | y :: r, i, o, x, hall, h, ha => by
    simp only [zGC, Bool.and_eq_true, Bool.or_eq_true, Bool.not_eq_true'] at hall
    cases o with
    | zero =>
      simp at h; subst h
      rcases hall.1 with h1 | h1
      · rw [ha] at h1; cases h1
      · exact Option.isSome_iff_exists.1 h1
    | succ o =>
      have := zGB r (i + 1) o x hall.2 (by simpa using h) ha
      rwa [show i + 1 + o = i + (o + 1) by omega] at this
theorem zIZ (slots : List (Nat × SV)) (u : Nat -> Value) : ∀ (k i j : Nat), j < k -> (zF0 slots u i k)[j]? = some (match zEF slots (i + j) with | some v => v | none => .val (u (i + j)))
  | 0, _, _, h => by omega
  | k + 1, i, j, h => by
    cases j with
    | zero =>
      simp only [zF0, List.getElem?_cons_zero, Nat.add_zero]
      cases zEF slots i <;> rfl
    | succ j =>
      have := zIZ slots u k (i + 1) j (by omega)
      simp only [zF0, List.getElem?_cons_succ]
      rw [this, show i + 1 + j = i + (j + 1) by omega]
theorem zES (slots : List (Nat × SV)) (u : Nat -> Value) : ∀ (k i : Nat), (zF0 slots u i k).length = k
  | 0, _ => rfl
  | k + 1, i => by simp [zF0, zES slots u k]
theorem zCm (h : Sat B ν σ a w) {n0 L : Nat} {slots : List (Nat × SV)} {hp' : List SObj} (hx : zA8 n0 L σ slots hp') {p : Nat -> Prop} (hp0 : ∀ o, p o -> o < n0) (hpl : ∀ o, p o -> Live σ.hp o) :
    ∃ (u : Nat -> Value) (ν' : Nat -> Pl), Sat B ν' { tmps := zF0 slots u 0 L, hp := hp' } a w /\ zb p ν ν' /\ (∀ o, p o -> Live hp' o) := by
  unfold zA8 at hx
  split at hx
  · rename_i hL
    obtain ⟨m1, h1, h2, h3⟩ := zE2 (ν := ν) slots _ _ hx
    obtain ⟨mf, k1, k2, k3⟩ := zFg h.hp _ _ _ _ h2
    split at k2
    · rename_i hall
      have hext := h1.trans k1
      have hneat : Neat mf := hext.neat (zFs σ.hp 0).1
      have hinj : Inj mf := hext.inj (fun k k' l l' o hl hl' e e' => by
        have := (zBr _ _ _ _ hl).1
        have := (zBr _ _ _ _ hl').1
        subst_vars
        simp_all)
      have hrel : ∀ k l, zAj mf k = some l -> Rel B ν w σ.hp hp' mf l /\ l.key = k := fun k l hl => by
        obtain ⟨hm, hk⟩ := zER hl
        obtain ⟨j, hj⟩ := List.mem_iff_getElem?.1 (List.mem_reverse.2 hm)
        exact ⟨k3 j l (Nat.zero_le _) hj (hneat l hm), hk⟩
      have hkey : Key mf = Live hp' := funext fun k => propext ⟨fun ⟨l, hl⟩ => by
          obtain ⟨⟨x, hx, ha, _⟩, e⟩ := hrel k l hl
          exact ⟨x, by rw [<- e]; exact hx, ha⟩, fun ⟨x, hx, ha⟩ => by
          have := zGB hp' 0 k x hall hx ha
          rwa [Nat.zero_add] at this⟩
      have hlow : ∀ o, o < n0 -> Live σ.hp o -> zAj mf o = some ⟨o, some o, false⟩ := fun o ho ⟨x, hx, ha⟩ => by
        obtain ⟨l, hl⟩ := zGz (n0 := n0) σ.hp 0 o x hx ha (by omega)
        rw [Nat.zero_add] at hl
        have := (zBr _ _ _ _ hl).1
        subst this
        exact hext.keep _ _ hl
      refine ⟨fun i => match σ.tmps[i]? with | some v => v.den ν | none => .nilIface, nuOf ν mf, ⟨?_, ?_, h.defers, ⟨?_, ?_⟩, h.base⟩, ?_, ?_⟩
      · rw [h.tmps]
        congr 1
        apply List.ext_getElem?
        intro i
        simp only [zX, List.getElem?_map]
        by_cases hi : i < L
        · rw [zIZ _ _ _ _ _ hi, Nat.zero_add]
          have hi' : i < σ.tmps.length := by omega
          rw [List.getElem?_eq_getElem hi']
          simp only [Option.map_some]
          cases hsl : zEF slots i with
          | none => simp [SV.den]
          | some v' =>
            obtain ⟨_, v, hv, hd⟩ := h3 mf k1 i v' (zGN hsl)
            rw [List.getElem?_eq_getElem hi'] at hv
            simp only [Option.some.injEq] at hv
            simp only [hd, hv]
        · rw [List.getElem?_eq_none (by omega), List.getElem?_eq_none (by rw [zES]; omega)]; rfl
      · show SV.wfL (Live hp') _
        rw [zz, <- hkey]
        intro v hv
        obtain ⟨i, hi⟩ := List.mem_iff_getElem?.1 hv
        have hlt : i < L := by have := (List.getElem?_eq_some_iff.1 hi).1; rw [zES] at this; exact this
        rw [zIZ _ _ _ _ _ hlt, Nat.zero_add] at hi
        cases hsl : zEF slots i with
        | none => rw [hsl] at hi; simp at hi; subst hi; trivial
        | some v' =>
          rw [hsl] at hi; simp at hi; subst hi
          exact (h3 mf k1 i v' (zGN hsl)).1
      · intro o x hx
        show zAN B (nuOf ν mf) (Live hp') w o x
        by_cases ha : x.alive = true
        · have hl : Live hp' o := ⟨x, hx, ha⟩
          rw [<- hkey] at hl
          obtain ⟨l, hl⟩ := hl
          obtain ⟨⟨x', hx', _, ho, _⟩, e⟩ := hrel o l hl
          subst e
          have hx0 : hp'[l.key]? = some x := hx
          rw [hx'] at hx0
          cases hx0
          rw [<- hkey]; exact ho
        · cases x with
          | dead => trivial
          | husk => simp [SObj.alive] at ha
          | map _ _ => simp [SObj.alive] at ha
          | grown _ _ => simp [SObj.alive] at ha
          | glob _ _ => simp [SObj.alive] at ha
          | cells _ _ => simp [SObj.alive] at ha
          | row _ _ _ _ => simp [SObj.alive] at ha
      · intro o o' ho ho' e
        have back : ∀ o, zAc (nuOf ν mf) hp' o -> ∃ l o1, zAj mf o = some l /\ l.old = some o1 /\ zAc ν σ.hp o1 /\ (nuOf ν mf o).blk = (ν o1).blk := fun o ⟨x, hx, hw⟩ => by
          have ha : x.alive = true := by cases x <;> simp_all [SObj.owns, SObj.alive]
          have hl : Live hp' o := ⟨x, hx, ha⟩
          rw [<- hkey] at hl
          obtain ⟨l, hl⟩ := hl
          obtain ⟨⟨x', hx', _, _, hown⟩, e⟩ := hrel o l hl
          subst e
          rw [hx'] at hx
          cases hx
          obtain ⟨o1, e1, e2, e3⟩ := hown hw
          exact ⟨l, o1, hl, e1, e2, e3⟩
        obtain ⟨l, o1, f1, f2, f3, f4⟩ := back o ho
        obtain ⟨l', o1', g1, g2, g3, g4⟩ := back o' ho'
        have e1 := h.hp.apart o1 o1' f3 g3 (by rw [<- f4, <- g4]; exact e)
        subst e1
        exact hinj o o' l l' o1 f1 g1 f2 g2
      · intro o ho
        exact zB3 (hlow o (hp0 o ho) (hpl o ho))
      · intro o ho
        rw [<- hkey]
        exact ⟨_, hlow o (hp0 o ho) (hpl o ho)⟩
    · exact zK k2
  · exact zK hx
end
end Go.Proofs.YtajcmjjgnbaahaaGreat.Sx
