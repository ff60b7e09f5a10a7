/- Symbolic execution is sound: values, memory, and the operations that leave the world as it is. -/
import Derived.Test.YtajcmjjgnbaahaaDoorSx1
import Derived.Laws.StructEq
namespace Go.Proofs.YtajcmjjgnbaahaaDoor.Sx
open Go
set_option linter.unusedVariables false
set_option linter.unusedSimpArgs false
theorem denL_map (ν : Nat -> Pl) : ∀ l : List SV, SV.denL ν l = l.map (SV.den ν)
  | [] => rfl
  | v :: r => by simp [SV.denL, denL_map ν r]
theorem denL_length (ν : Nat -> Pl) (l : List SV) : (SV.denL ν l).length = l.length := by simp [denL_map]
theorem denL_append (ν : Nat -> Pl) (a b : List SV) : SV.denL ν (a ++ b) = SV.denL ν a ++ SV.denL ν b := by simp [denL_map]
theorem wfL_iff (n : Nat -> Prop) : ∀ l : List SV, SV.wfL n l ↔ ∀ v ∈ l, v.wf n
  | [] => by simp [SV.wfL]
  | v :: r => by simp [SV.wfL, wfL_iff n r]
theorem wfL_append {n : Nat -> Prop} {a b : List SV} (ha : SV.wfL n a) (hb : SV.wfL n b) : SV.wfL n (a ++ b) := by
  rw [wfL_iff] at *
  intro v hv
  rcases List.mem_append.1 hv with h | h
  · exact ha v h
  · exact hb v h
def Agree (n : Nat -> Prop) (ν ν' : Nat -> Pl) : Prop := ∀ o, n o -> ν' o = ν o
mutual
theorem den_congr {n : Nat -> Prop} {ν ν' : Nat -> Pl} (h : Agree n ν ν') : ∀ v : SV, v.wf n -> v.den ν' = v.den ν
  | .int _ _, _ => rfl
  | .bool _, _ => rfl
  | .str _, _ => rfl
  | .ptr o _, hw => by simp only [SV.wf] at hw; simp [SV.den, h o hw]
  | .nilp, _ => rfl
  | .slice o _ _ _, hw => by simp only [SV.wf] at hw; simp [SV.den, h o hw]
  | .nils, _ => rfl
  | .iface _ v, hw => by simp only [SV.wf] at hw; simp [SV.den, den_congr h v hw]
  | .nili, _ => rfl
  | .agg vs, hw => by simp only [SV.wf] at hw; simp [SV.den, denL_congr h vs hw]
  | .tuple vs, hw => by simp only [SV.wf] at hw; simp [SV.den, denL_congr h vs hw]
  | .func _ a b, hw => by simp only [SV.wf] at hw; simp [SV.den, denL_congr h a hw.1, denL_congr h b hw.2]
  | .nilf, _ => rfl
  | .nilm, _ => rfl
  | .val _, _ => rfl
  | .strE _, _ => rfl
  | .ptrE _ o _ _ _, hw => by simp only [SV.wf] at hw; simp [SV.den, h o hw]
  | .sliceE _ o _ _ _ _, hw => by simp only [SV.wf] at hw; simp [SV.den, h o hw]
  | .mapv o, hw => by simp only [SV.wf] at hw; simp [SV.den, h o hw]
  | .sliceG o _ _ _, hw => by simp only [SV.wf] at hw; simp [SV.den, h o hw]
  | .gptr _ _, _ => rfl
theorem denL_congr {n : Nat -> Prop} {ν ν' : Nat -> Pl} (h : Agree n ν ν') : ∀ l : List SV, SV.wfL n l -> SV.denL ν' l = SV.denL ν l
  | [], _ => rfl
  | v :: r, hw => by simp only [SV.wfL] at hw; simp [SV.denL, den_congr h v hw.1, denL_congr h r hw.2]
end
mutual
theorem wf_mono {n m : Nat -> Prop} (h : ∀ o, n o -> m o) : ∀ v : SV, v.wf n -> v.wf m
  | .int _ _, _ => trivial
  | .bool _, _ => trivial
  | .str _, _ => trivial
  | .ptr _ _, hw => by simp only [SV.wf] at *; exact h _ hw
  | .nilp, _ => trivial
  | .slice _ _ _ _, hw => by simp only [SV.wf] at *; exact h _ hw
  | .nils, _ => trivial
  | .iface _ v, hw => by simp only [SV.wf] at *; exact wf_mono h v hw
  | .nili, _ => trivial
  | .agg vs, hw => by simp only [SV.wf] at *; exact wfL_mono h vs hw
  | .tuple vs, hw => by simp only [SV.wf] at *; exact wfL_mono h vs hw
  | .func _ a b, hw => by simp only [SV.wf] at *; exact ⟨wfL_mono h a hw.1, wfL_mono h b hw.2⟩
  | .nilf, _ => trivial
  | .nilm, _ => trivial
  | .val _, _ => trivial
  | .strE _, _ => trivial
  | .ptrE _ _ _ _ _, hw => by simp only [SV.wf] at *; exact h _ hw
  | .sliceE _ _ _ _ _ _, hw => by simp only [SV.wf] at *; exact h _ hw
  | .mapv _, hw => by simp only [SV.wf] at *; exact h _ hw
  | .sliceG _ _ _ _, hw => by simp only [SV.wf] at *; exact h _ hw
  | .gptr _ _, _ => trivial
theorem wfL_mono {n m : Nat -> Prop} (h : ∀ o, n o -> m o) : ∀ l : List SV, SV.wfL n l -> SV.wfL m l
  | [], _ => trivial
  | v :: r, hw => by simp only [SV.wfL] at *; exact ⟨wf_mono h v hw.1, wfL_mono h r hw.2⟩
end
theorem setAt_length {α : Type} : ∀ (l : List α) (i : Nat) (v : α), (setAt l i v).length = l.length
  | [], _, _ => rfl
  | _ :: _, 0, _ => rfl
  | _ :: r, i + 1, v => by simp [setAt, setAt_length r i v]
theorem setAt_set {α : Type} : ∀ (l : List α) (i : Nat) (v : α), setAt l i v = l.set i v
  | [], _, _ => by simp [setAt]
  | _ :: _, 0, _ => rfl
  | _ :: r, i + 1, v => by simp [setAt, setAt_set r i v]
theorem fNat_eq (n : Nat) (K : Nat -> Prop) : fNat n K = K n := by cases n <;> rfl
theorem fInt_eq (n : Int) (K : Int -> Prop) : fInt n K = K n := by cases n <;> simp [fInt, fNat_eq]
theorem fIE_eq (e : IE) (K : IE -> Prop) : fIE e K = K e := by cases e <;> first | rfl | simp [fIE, fInt_eq]
theorem fBE_eq (e : BE) (K : BE -> Prop) : fBE e K = K e := by cases e <;> rfl
theorem fNE_eq (e : NE) (K : NE -> Prop) : fNE e K = K e := by cases e <;> first | rfl | simp [fNE, fNat_eq]
theorem fSpine_eq {α : Type} : ∀ (l : List α) (K : List α -> Prop), fSpine l K = K l
  | [], K => rfl
  | v :: r, K => by
    have : fSpine (v :: r) K = fSpine r fun r => K (v :: r) := rfl
    rw [this, fSpine_eq r]
theorem fBytes_eq : ∀ (l : List UInt8) (K : List UInt8 -> Prop), fBytes l K = K l
  | [], K => rfl
  | v :: r, K => by
    have : fBytes (v :: r) K = fNat v.toNat fun n => fBytes r fun r => K (UInt8.ofNat n :: r) := rfl
    rw [this, fNat_eq, fBytes_eq r, UInt8.ofNat_toNat]
theorem fStr_eq (s : ByteArray) (K : ByteArray -> Prop) : fStr s K = K s := by simp [fStr, fBytes_eq]
mutual
theorem fSV_eq : ∀ (v : SV) (K : SV -> Prop), fSV v K = K v
  | .int k e, K => by simp [fSV, fIE_eq]
  | .bool e, K => by simp [fSV, fBE_eq]
  | .str s, K => by simp [fSV, fStr_eq]
  | .ptr o off, K => by simp [fSV, fNat_eq]
  | .nilp, K => rfl
  | .slice o off len cap, K => by simp [fSV, fNE_eq, fNat_eq]
  | .nils, K => rfl
  | .iface t v, K => by simp [fSV, fSV_eq v]
  | .nili, K => rfl
  | .agg vs, K => by simp [fSV, fSVs_eq vs]
  | .tuple vs, K => by simp [fSV, fSVs_eq vs]
  | .func fn a b, K => by simp [fSV, fSVs_eq a, fSVs_eq b]
  | .nilf, K => rfl
  | .nilm, K => rfl
  | .val v, K => rfl
  | .strE s, K => rfl
  | .ptrE inp o sz i c, K => by simp [fSV, fNE_eq, fNat_eq]
  | .sliceE inp o sz st len cap, K => by simp [fSV, fNE_eq, fNat_eq]
  | .mapv o, K => by simp [fSV, fNat_eq]
  | .sliceG o sz st len, K => by simp [fSV, fNat_eq]
  | .gptr g off, K => by simp [fSV, fNat_eq]
theorem fSVs_eq : ∀ (l : List SV) (K : List SV -> Prop), fSVs l K = K l
  | [], K => rfl
  | v :: r, K => by simp [fSVs, fSV_eq v, fSVs_eq r]
end
theorem setF_eq {α : Type} : ∀ (l : List α) (v : α) (n : Nat) (K : List α -> Prop), setF l v n K = K (setAt l n v)
  | [], v, n, K => by cases n <;> rfl
  | x :: r, v, 0, K => rfl
  | x :: r, v, n + 1, K => by
    have : setF (x :: r) v (n + 1) K = setF r v n fun r => K (x :: r) := rfl
    rw [this, setF_eq r]; rfl
theorem fObj_eq (x : SObj) (K : SObj -> Prop) : fObj x K = K x := by cases x <;> simp [fObj, fSVs_eq, fNE_eq]
theorem fHp_eq : ∀ (l : List SObj) (K : List SObj -> Prop), fHp l K = K l
  | [], K => rfl
  | v :: r, K => by simp [fHp, fObj_eq v, fHp_eq r]
theorem putK_eq (σ : St) (d : Option Nat) (v : SV) (K : St -> Prop) : putK σ d v K = K (σ.put d v) := by
  cases d <;> simp [putK, St.put, fSV_eq, setF_eq]
theorem putH_eq (σ : St) (hp : List SObj) (d : Option Nat) (v : SV) (K : St -> Prop) : putH σ hp d v K = K (St.put { σ with hp := hp } d v) := by
  simp [putH, fSpine_eq, putK_eq]
theorem ofValue1_sound (ν : Nat -> Pl) (n : Nat -> Prop) {v : Value} {s : SV} (h : ofValue1 v = some s) : s.den ν = v /\ s.wf n := by
  unfold ofValue1 at h
  split at h <;> simp at h <;> subst h <;> simp [SV.den, SV.wf, IE.den, BE.den]
theorem ofValue1_one {v : Value} {s : SV} (h : ofValue1 v = some s) : s.one = true := by
  unfold ofValue1 at h
  split at h <;> simp at h <;> subst h <;> rfl
theorem ofList_sound (ν : Nat -> Pl) (n : Nat -> Prop) : ∀ {l : List Value} {s : List SV}, ofList l = some s -> SV.denL ν s = l /\ SV.wfL n s /\ s.all SV.one = true
  | [], s, h => by simp [ofList] at h; subst h; simp [SV.denL, SV.wfL]
  | v :: r, s, h => by
    unfold ofList at h
    split at h
    · rename_i x y hx hy
      simp at h; subst h
      obtain ⟨a, b⟩ := ofValue1_sound ν n hx
      obtain ⟨c, d, e⟩ := ofList_sound ν n hy
      exact ⟨by simp [SV.denL, a, c], ⟨b, d⟩, by simp [ofValue1_one hx, e]⟩
    · simp at h
theorem ofValue_sound (ν : Nat -> Pl) (n : Nat -> Prop) {v : Value} {s : SV} (h : ofValue v = some s) : s.den ν = v /\ s.wf n := by
  unfold ofValue at h
  split at h
  · simp only [Option.map_eq_some_iff] at h
    obtain ⟨l, hl, rfl⟩ := h
    obtain ⟨a, b, _⟩ := ofList_sound ν n hl
    exact ⟨by simp [SV.den, a], by simpa [SV.wf] using b⟩
  · simp only [Option.map_eq_some_iff] at h
    obtain ⟨l, hl, rfl⟩ := h
    obtain ⟨a, b, _⟩ := ofList_sound ν n hl
    exact ⟨by simp [SV.den, a], by simpa [SV.wf] using b⟩
  · exact ofValue1_sound ν n h
theorem denL_vals (ν : Nat -> Pl) : ∀ l : List Value, SV.denL ν (l.map .val) = l
  | [] => rfl
  | v :: r => by simp [SV.denL, SV.den, denL_vals ν r]
theorem wfL_vals (n : Nat -> Prop) : ∀ l : List Value, SV.wfL n (l.map .val)
  | [] => trivial
  | _ :: r => ⟨trivial, wfL_vals n r⟩
theorem cells_den (ν : Nat -> Pl) (v : SV) : (v.den ν).cells = (SV.denL ν v.cells).toArray := by
  cases v with
  | val v => simp only [SV.den, SV.cells, denL_vals]
  | _ => simp [SV.den, SV.cells, Value.cells, SV.denL]
theorem wf_cells {n : Nat -> Prop} {v : SV} (h : v.wf n) : SV.wfL n v.cells := by
  cases v with
  | val v => exact wfL_vals n _
  | _ => simp_all [SV.cells, SV.wfL, SV.wf]
theorem one_den (ν : Nat -> Pl) {v : SV} (h : v.one = true) : (v.den ν).oneCell' = true := by
  cases v <;> simp_all [SV.den, SV.one, Value.oneCell']
def Under (B : Nat -> Prop) (w : World) : Prop := ∀ b, B b -> b < w.heap.size
structure Keeps (B : Nat -> Prop) (w w' : World) : Prop where
  os : w'.os = w.os
  tape : w'.tape = w.tape
  output : w'.output = w.output
  size : w.heap.size <= w'.heap.size
  block : ∀ k, B k -> w'.heap[k]? = w.heap[k]?
theorem Keeps.refl (B : Nat -> Prop) (w : World) : Keeps B w w := ⟨rfl, rfl, rfl, Nat.le_refl _, fun _ _ => rfl⟩
theorem Keeps.trans {B : Nat -> Prop} {a b c : World} (h : Keeps B a b) (k : Keeps B b c) : Keeps B a c :=
  ⟨k.os.trans h.os, k.tape.trans h.tape, k.output.trans h.output, Nat.le_trans h.size k.size, fun i hi => (k.block i hi).trans (h.block i hi)⟩
theorem Keeps.mono {B B' : Nat -> Prop} {w w' : World} (h : Keeps B w w') (hB : ∀ b, B' b -> B b) : Keeps B' w w' := ⟨h.os, h.tape, h.output, h.size, fun k hk => h.block k (hB k hk)⟩
theorem Keeps.of {B : Nat -> Prop} {w w' : World} (h : RowKit.Below w.heap.size w w') (hB : Under B w) : Keeps B w w' := ⟨h.os, h.tape, h.output, h.size, fun k hk => h.block k (hB k hk)⟩
theorem Keeps.below {n : Nat} {w w' : World} (h : Keeps (fun b => b < n) w w') : RowKit.Below n w w' := ⟨h.os, h.tape, h.output, h.size, h.block⟩
theorem Keeps.drew {B : Nat -> Prop} {a w : World} (h : Keeps B a w) : Keeps B a w.drew := ⟨h.os, h.tape, h.output, h.size, h.block⟩
theorem Keeps.alloc {B : Nat -> Prop} {a w : World} (h : Keeps B a w) (hB : Under B w) (o : Obj) : Keeps B a (w.alloc o) :=
  h.trans ⟨rfl, rfl, rfl, by simp, fun k hk => RowKit.Below.heap_alloc _ _ _ (hB k hk)⟩
theorem Keeps.setCell {B : Nat -> Prop} {a w : World} (h : Keeps B a w) {p : Addr} (hp : ¬ B p.block) (u : Value) : Keeps B a (w.setCell p u) :=
  h.trans ⟨rfl, rfl, rfl, by simp [World.setCell], fun k hk => RowKit.Below.heap_setCell _ _ _ _ (fun e => hp (e ▸ hk))⟩
theorem Under.mono {B : Nat -> Prop} {w w' : World} (h : Under B w) (hs : w.heap.size <= w'.heap.size) : Under B w' := fun b hb => Nat.lt_of_lt_of_le (h b hb) hs
theorem Under.top {B : Nat -> Prop} {w : World} (h : Under B w) : ¬ B w.heap.size := fun hb => Nat.lt_irrefl _ (h _ hb)
structure RowSat (B : Nat -> Prop) (p : Pl) (w : World) (own inp : Bool) (cols : List Col) (n : Nat) : Prop where
  empty : (inp && p.nil) = true -> n = 0
  lo : (inp && p.nil) = false -> own = true -> ¬ B p.blk /\ p.blk < w.heap.size
  hi : (inp && p.nil) = false -> own = false -> B p.blk
  cell : ∀ e, e < n -> ∀ j c, cols[j]? = some c -> ∃ v, w.cell? ⟨p.blk, p.base inp + (e * cols.length + j), none⟩ = some v /\ c.holds e v
  thawed : own = true -> ∀ e, e < n -> ∀ j, j < cols.length -> w.frozen? ⟨p.blk, p.base inp + (e * cols.length + j), none⟩ = false
def ents : Nat -> List Value -> List Value -> List MapEntry
  | i, k :: ks, v :: vs => ⟨k, v, i⟩ :: ents (i + 1) ks vs
  | _, _, _ => []
structure GrownAt (w : World) (p : Pl) (sz : Nat) (l : List Value) : Prop where
  lt : p.blk < w.heap.size
  le : l.length <= p.off * sz
  cell : ∀ i v, l[i]? = some v -> w.cell? ⟨p.blk, i, none⟩ = some v
  there : ∀ i, i < p.off * sz -> (w.cell? ⟨p.blk, i, none⟩).isSome = true
  thawed : ∀ i, i < p.off * sz -> w.frozen? ⟨p.blk, i, none⟩ = false
  like : sz = 1 -> ∀ k n, l[0]? = some (.int k n) -> ∀ i, i < p.off -> ∃ m, w.cell? ⟨p.blk, i, none⟩ = some (.int k m)
  small : p.off <= 9223372036854775807
def ObjSat (B : Nat -> Prop) (ν : Nat -> Pl) (n : Nat -> Prop) (w : World) (o : Nat) : SObj -> Prop
  | .cells vs ty => ¬ B (ν o).blk /\ w.heap[(ν o).blk]? = some (.cells (SV.denL ν vs).toArray ty (0, 0)) /\ SV.wfL n vs
  | .dead => True
  | .row own inp cols m => RowSat B (ν o) w own inp cols m.den
  | .husk => True
  | .map ks vs => ¬ B (ν o).blk /\ w.heap[(ν o).blk]? = some (.map (ents 0 (SV.denL ν ks) (SV.denL ν vs)).toArray ks.length) /\ SV.wfL n ks /\ SV.wfL n vs /\ ks.length = vs.length
  | .grown sz vs => ¬ B (ν o).blk /\ GrownAt w (ν o) sz (SV.denL ν vs) /\ SV.wfL n vs
  | .glob g vs => (ν o).blk = g /\ B g /\ g < w.heap.size /\ (∃ t fz, w.heap[g]? = some (.cells (SV.denL nu0 vs).toArray t fz)) /\ SV.wfL (fun _ => False) vs
def Live (hp : List SObj) (o : Nat) : Prop := ∃ x, hp[o]? = some x /\ x.alive = true
def SObj.owns (p : Pl) : SObj -> Bool
  | .cells _ _ => true
  | .row own inp _ _ => own && !(inp && p.nil)
  | .map _ _ => true
  | .grown _ _ => true
  | _ => false
def Owned (ν : Nat -> Pl) (hp : List SObj) (o : Nat) : Prop := ∃ x, hp[o]? = some x /\ x.owns (ν o) = true
structure SatHp (B : Nat -> Prop) (ν : Nat -> Pl) (hp : List SObj) (w : World) : Prop where
  obj : ∀ o x, hp[o]? = some x -> ObjSat B ν (Live hp) w o x
  apart : ∀ o o', Owned ν hp o -> Owned ν hp o' -> (ν o).blk = (ν o').blk -> o = o'
theorem SatHp.size {B : Nat -> Prop} {ν : Nat -> Pl} {hp : List SObj} {w : World} (h : SatHp B ν hp w) (o : Nat) (ho : Owned ν hp o) : (ν o).blk < w.heap.size := by
  obtain ⟨x, hx, hw⟩ := ho
  have hb := h.obj o _ hx
  cases x with
  | cells vs ty => exact (Array.getElem?_eq_some_iff.1 hb.2.1).1
  | dead => simp [SObj.owns] at hw
  | husk => simp [SObj.owns] at hw
  | row own inp cols m =>
    simp only [SObj.owns, Bool.and_eq_true, Bool.not_eq_true'] at hw
    exact (RowSat.lo hb hw.2 hw.1).2
  | map ks vs => exact (Array.getElem?_eq_some_iff.1 hb.2.1).1
  | grown sz vs => exact hb.2.1.lt
  | glob g vs => simp [SObj.owns] at hw
theorem SatHp.low {B : Nat -> Prop} {ν : Nat -> Pl} {hp : List SObj} {w : World} (h : SatHp B ν hp w) (o : Nat) (ho : Owned ν hp o) : ¬ B (ν o).blk := by
  obtain ⟨x, hx, hw⟩ := ho
  have hb := h.obj o _ hx
  cases x with
  | cells vs ty => exact hb.1
  | dead => simp [SObj.owns] at hw
  | husk => simp [SObj.owns] at hw
  | row own inp cols m =>
    simp only [SObj.owns, Bool.and_eq_true, Bool.not_eq_true'] at hw
    exact (RowSat.lo hb hw.2 hw.1).1
  | map ks vs => exact hb.1
  | grown sz vs => exact hb.1
  | glob g vs => simp [SObj.owns] at hw
structure Sat (B : Nat -> Prop) (ν : Nat -> Pl) (σ : St) (a : Act) (w : World) : Prop where
  tmps : a.tmps = (SV.denL ν σ.tmps).toArray
  wf : SV.wfL (Live σ.hp) σ.tmps
  defers : a.defers = []
  hp : SatHp B ν σ.hp w
  base : Under B w
structure TSat (ν : Nat -> Pl) (n : Nat -> Prop) (σ : St) (a : Act) : Prop where
  tmps : a.tmps = (SV.denL ν σ.tmps).toArray
  wf : SV.wfL n σ.tmps
theorem Sat.t {B : Nat -> Prop} {ν : Nat -> Pl} {σ : St} {a : Act} {w : World} (h : Sat B ν σ a w) : TSat ν (Live σ.hp) σ a := ⟨h.tmps, h.wf⟩
section
variable {P : Program} {B : Nat -> Prop} {n : Nat -> Prop} {ν : Nat -> Pl} {σ : St} {a : Act} {w : World}
theorem tmp_sound (h : TSat ν n σ a) {t : Nat} {v : SV} (hv : σ.tmps[t]? = some v) : a.tmps[t]? = some (v.den ν) /\ v.wf n := by
  refine ⟨?_, (wfL_iff _ _).1 h.wf v (List.mem_of_getElem? hv)⟩
  rw [h.tmps]
  simp [denL_map, hv]
theorem eval_sound (h : TSat ν n σ a) {x : Operand} {v : SV} (hv : σ.eval x = some v) : a.eval x = v.den ν /\ v.wf n := by
  cases x with
  | tmp t =>
    have hv : σ.tmps[t]? = some v := by rw [<- getR_eq]; exact hv
    obtain ⟨h1, h2⟩ := tmp_sound h hv
    exact ⟨by simp [Act.eval, Array.getD_eq_getD_getElem?, h1], h2⟩
  | const c => obtain ⟨h1, h2⟩ := ofValue_sound ν n hv; exact ⟨by simp [Act.eval, h1], h2⟩
  | global g => simp [St.eval] at hv; subst hv; exact ⟨by simp [Act.eval, SV.den], trivial⟩
  | func f => simp [St.eval] at hv; subst hv; exact ⟨by simp [Act.eval, SV.den, SV.denL], by simp [SV.wf, SV.wfL]⟩
theorem evalAll_sound (h : TSat ν n σ a) : ∀ {l : List Operand} {vs : List SV}, evalAll σ l = some vs -> l.map a.eval = SV.denL ν vs /\ SV.wfL n vs
  | [], vs, hv => by simp [evalAll] at hv; subst hv; simp [SV.denL, SV.wfL]
  | x :: r, vs, hv => by
    unfold evalAll at hv
    split at hv
    · rename_i v l h1 h2
      simp at hv; subst hv
      obtain ⟨a1, a2⟩ := eval_sound h h1
      obtain ⟨b1, b2⟩ := evalAll_sound h h2
      exact ⟨by simp [SV.denL, a1, b1], ⟨a2, b2⟩⟩
    · simp at hv
theorem evalParts_sound (h : TSat ν n σ a) : ∀ {l : List (Nat × Operand)} {vs : List (Nat × SV)}, evalParts σ l = some vs ->
    l.map (fun p => (p.1, a.eval p.2)) = vs.map (fun p => (p.1, p.2.den ν)) /\ ∀ p ∈ vs, p.2.wf n
  | [], vs, hv => by simp [evalParts] at hv; subst hv; simp
  | (i, x) :: r, vs, hv => by
    unfold evalParts at hv
    split at hv
    · rename_i v l h1 h2
      simp at hv; subst hv
      obtain ⟨a1, a2⟩ := eval_sound h h1
      obtain ⟨b1, b2⟩ := evalParts_sound h h2
      refine ⟨by simp [a1, b1], fun p hp => ?_⟩
      rcases List.mem_cons.1 hp with rfl | hp
      · exact a2
      · exact b2 p hp
    · simp at hv
theorem put_sat (h : Sat B ν σ a w) (d : Option Nat) {v : SV} (hv : v.wf (Live σ.hp)) : Sat B ν (σ.put d v) (a.put d (v.den ν)) w := by
  cases d with
  | none => exact h
  | some d =>
    refine ⟨?_, ?_, h.defers, h.hp, h.base⟩
    · simp only [Act.put, St.put, h.tmps, setAt_set, denL_map, List.map_set, List.setIfInBounds_toArray]
    · simp only [St.put, setAt_set]
      rw [wfL_iff]
      intro x hx
      rcases List.mem_or_eq_of_mem_set hx with h1 | h1
      · exact (wfL_iff _ _).1 h.wf x h1
      · exact h1 ▸ hv
theorem two_den (f : IE -> IE -> IE) (a b : IE) : (IE.two f a b).den = (f a b).den := by
  unfold IE.two
  split
  · simp only [IE.den]
  · rfl
theorem one_den' (f : IE -> IE) (a : IE) : (IE.one f a).den = (f a).den := by
  unfold IE.one
  split
  · simp only [IE.den]
  · rfl
theorem cmpI_eql (x y : Int) : cmpI .eql x y = decide (x = y) := by simp only [cmpI]; exact Bool.eq_iff_iff.2 (by simp)
theorem cmpI_neq (x y : Int) : cmpI .neq x y = !decide (x = y) := by simp only [cmpI, bne]; exact congrArg _ (Bool.eq_iff_iff.2 (by simp))
theorem cmpI_lss (x y : Int) : cmpI .lss x y = decide (x < y) := rfl
theorem cmpI_leq (x y : Int) : cmpI .leq x y = decide (x <= y) := rfl
theorem cmpI_gtr (x y : Int) : cmpI .gtr x y = decide (y < x) := rfl
theorem cmpI_geq (x y : Int) : cmpI .geq x y = decide (y <= x) := rfl
theorem cmpS_den (op : BinOp) (a b : IE) : (BE.cmpS op a b).den = cmpI op a.den b.den := by
  unfold BE.cmpS
  split <;> simp [BE.den, IE.den]
theorem notS_den (a : BE) : (BE.notS a).den = !a.den := by
  unfold BE.notS
  split <;> simp [BE.den]
theorem iteS_den (c a b : BE) : (BE.iteS c a b).den = bif c.den then a.den else b.den := by
  unfold BE.iteS
  split <;> simp [BE.den]
theorem andS_den (a b : BE) : (BE.andS a b).den = (a.den && b.den) := by
  rw [BE.andS, iteS_den]; cases a.den <;> simp [BE.den]
theorem eqS_den (a b : BE) : (BE.eqS a b).den = (a.den == b.den) := by
  unfold BE.eqS
  split <;> simp [BE.den]
@[simp] theorem add_addr (b off n : Nat) : (⟨b, off, none⟩ : Addr).add n = ⟨b, off + n, none⟩ := by
  unfold Addr.add; split <;> simp_all
theorem run_isAgg (w : World) {t : TypeId} {d : TypeDesc} (h : P.underlying t = some d) : (isAgg t).run P w = .ok (isAggT P t) w := by
  unfold isAggT isAgg
  cases d <;> simp [underlying, h, program, Sem.run]
theorem sxInt2_sound (op : BinOp) (k : IntKind) (x y : IE) {p : Option BE} {v : SV} (h : sxInt2 op k x y = some (p, v)) (hp : Holds p) (t : TypeId)
    (hns : op ≠ .shl /\ op ≠ .shr) : (binOp op t (.int k x.den) (.int k y.den)).run P w = .ok (v.den ν) w /\ v.wf n := by
  unfold sxInt2 at h
  split at h
  case h_4 =>
    split at h
    · rename_i m
      by_cases hm : m = 0
      · simp [hm] at h
      · rw [if_neg hm] at h; simp only [Option.some.injEq, Prod.mk.injEq] at h; obtain ⟨rfl, rfl⟩ := h
        simp [binOp, Op.intDiv, IE.den, hm, SV.den, SV.wf, two_den (.quo k), Sem.run, pure]
    · simp only [Option.some.injEq, Prod.mk.injEq] at h; obtain ⟨rfl, rfl⟩ := h
      have hp' : ¬ y.den = 0 := by simpa [Holds, BE.den, cmpI, IE.den] using hp
      simp [binOp, Op.intDiv, IE.den, hp', SV.den, SV.wf, two_den (.quo k), Sem.run, pure]
  case h_5 =>
    split at h
    · rename_i m
      by_cases hm : m = 0
      · simp [hm] at h
      · rw [if_neg hm] at h; simp only [Option.some.injEq, Prod.mk.injEq] at h; obtain ⟨rfl, rfl⟩ := h
        simp [binOp, Op.intDiv, IE.den, hm, SV.den, SV.wf, two_den .rem, Sem.run, pure]
    · simp only [Option.some.injEq, Prod.mk.injEq] at h; obtain ⟨rfl, rfl⟩ := h
      have hp' : ¬ y.den = 0 := by simpa [Holds, BE.den, cmpI, IE.den] using hp
      simp [binOp, Op.intDiv, IE.den, hp', SV.den, SV.wf, two_den .rem, Sem.run, pure]
  all_goals first
    | (simp at h; done)
    | (simp only [Option.some.injEq, Prod.mk.injEq] at h; obtain ⟨rfl, rfl⟩ := h
       simp [binOp, Op.intArith, Op.intBits, Op.intCmp, IE.den, SV.den, SV.wf, BE.den, cmpS_den, cmpI, bitsI, two_den (.add k), two_den (.sub k), two_den (.mul k), two_den (.bits _ k), Sem.run, pure])
theorem sxShift_sound (op : BinOp) (k k' : IntKind) (x y : IE) {p : Option BE} {v : SV} (h : sxShift op k x y = some (p, v)) (hp : Holds p) (t : TypeId)
    (hs : op = .shl ∨ op = .shr) : (binOp op t (.int k x.den) (.int k' y.den)).run P w = .ok (v.den ν) w /\ v.wf n := by
  unfold sxShift at h
  have key : ∀ v, (0 <= y.den) -> (SV.int k (match op with | .shl => IE.two (.shl k) x y | _ => IE.two (.shr k) x y)) = v -> (binOp op t (.int k x.den) (.int k' y.den)).run P w = .ok (v.den ν) w /\ v.wf n := by
    intro v h0 hv
    subst hv
    have h1 : ¬ y.den < 0 := by omega
    rcases hs with rfl | rfl <;> simp [binOp, Op.shift, h1, SV.den, SV.wf, two_den (.shl k), two_den (.shr k), IE.den, shlI, shrI, Sem.run, pure]
  cases y with
  | lit m =>
    by_cases hm : m < 0
    · simp [hm] at h
    · simp only [if_neg hm, Option.some.injEq, Prod.mk.injEq] at h; obtain ⟨rfl, rfl⟩ := h
      exact key _ (by simp [IE.den]; omega) rfl
  | _ => simp only [Option.some.injEq, Prod.mk.injEq] at h; obtain ⟨rfl, rfl⟩ := h; exact key _ (by simpa [Holds, BE.den, cmpI, IE.den] using hp) rfl
theorem run_equal_bool {t : TypeId} (x y : Bool) (hu : P.underlying t = some .bool) : (Op.equal t (.bool x) (.bool y)).run P w = .ok (x == y) w := by
  unfold Op.equal Op.maxDepth
  rw [show (10000 : Nat) = 9999 + 1 from rfl, Op.equalIn]
  have hU : (underlying t).run P w = .ok .bool w := by simp [underlying, program, Sem.run, hu, pure]
  simp [hU, Sem.run, pure]
theorem part_sound {t : TypeId} {cs : List SV} {off : Nat} {v : SV} (h : sxPart P t cs off = some v) (hx : SV.wfL n cs) :
    (part t (SV.denL ν cs).toArray off).run P w = .ok (v.den ν) w /\ v.wf n := by
  unfold sxPart at h
  split at h
  · rename_i d i hd hi
    have ha := run_isAgg (P := P) w hd
    by_cases hg : isAggT P t = true
    · rw [if_pos hg] at h
      simp only [Option.some.injEq] at h; subst h
      rw [hg] at ha
      refine ⟨?_, ?_⟩
      · have e : off + i.size - off = i.size := by omega
        simp [part, ha, sizeOf, typeInfo, program, hi, SV.den, denL_map, Sem.run, pure, List.extract_toArray, List.extract_eq_take_drop, e]
      · simp only [SV.wf]
        rw [wfL_iff] at *
        intro y hy
        exact hx y (List.mem_of_mem_drop (List.mem_of_mem_take hy))
    · rw [if_neg hg] at h
      simp only [Bool.not_eq_true] at hg
      rw [hg] at ha
      refine ⟨?_, (wfL_iff _ _).1 hx v (List.mem_of_getElem? h)⟩
      simp [part, ha, denL_map, h, Sem.run, pure]
  · simp at h
theorem wfL_true (l : List SV) : SV.wfL (fun _ => True) l := by
  have key : ∀ v : SV, v.wf (fun _ => True) := by
    intro v
    induction v using SV.rec (motive_2 := fun l => SV.wfL (fun _ => True) l) with
    | _ => simp_all [SV.wf, SV.wfL]
  rw [wfL_iff]; exact fun v _ => key v
theorem sxEqFs_sound {d : Nat} {g : TypeId -> SV -> SV -> Option BE} (hg : ∀ t x y e, g t x y = some e -> (Op.equalIn d t (x.den ν) (y.den ν)).run P w = .ok e.den w) {xs ys : List SV} :
    ∀ (fs : List Field) {e : BE}, sxEqFs P g xs ys fs = some e -> (Op.eqFields d (SV.denL ν xs).toArray (SV.denL ν ys).toArray fs).run P w = .ok e.den w
  | [], e, h => by
    simp only [sxEqFs, Option.some.injEq] at h; subst h
    simp [Op.eqFields, Sem.run, pure, BE.den]
  | f :: fs, e, h => by
    unfold sxEqFs at h
    split at h
    · simp at h
    · rename_i hn
      split at h
      · rename_i a b ha hb
        split at h
        · rename_i e1 r h1 h2
          simp only [Option.some.injEq] at h; subst h
          have pa := (part_sound (n := fun _ => True) (ν := ν) (w := w) ha (wfL_true _)).1
          have pb := (part_sound (n := fun _ => True) (ν := ν) (w := w) hb (wfL_true _)).1
          have ih := sxEqFs_sound hg fs h2
          have he := hg _ _ _ _ h1
          rw [Op.eqFields]
          simp only [ne_eq, hn, not_false_eq_true, if_true, Sem.run_bind, pa, pb, he, Result.andThen_ok, andS_den]
          cases hz : e1.den
          · simp
          · simpa using ih
        · simp at h
      · simp at h
theorem sxEq_sound : ∀ (d : Nat) {t : TypeId} {x y : SV} {e : BE}, sxEq P d t x y = some e -> ∀ m, d <= m -> (Op.equalIn m t (x.den ν) (y.den ν)).run P w = .ok e.den w
  | 0, t, x, y, e, h => by simp [sxEq] at h
  | d + 1, t, x, y, e, h => by
    intro m hm
    obtain ⟨m, rfl⟩ : ∃ k, m = k + 1 := ⟨m - 1, by omega⟩
    unfold sxEq at h
    split at h
    · rename_i k0 k a k' b hu
      split at h
      · rename_i hk; subst hk
        simp only [Option.some.injEq] at h; subst h
        simp only [SV.den]
        rw [run_equalIn_int w m t _ _ a.den b.den hu]
        rw [cmpS_den]; simp [BE.den, cmpI]
      · simp at h
    · rename_i a b hu
      simp only [Option.some.injEq] at h; subst h
      simp only [SV.den]
      rw [run_equalIn_bool' w m t _ _ hu]
      simp [eqS_den, BE.den]
    · rename_i fs xs ys hu
      split at h
      · simp at h
      · rename_i hs
        have hf : P.fieldsOf t = fs := by simp [Program.fieldsOf, hu]
        simp only [SV.den]
        rw [run_equalIn_struct (P := P) w m t _ _ (by rw [hf]; exact hu) (by simpa using hs), hf]
        exact sxEqFs_sound (fun t x y e he => sxEq_sound d he m (by omega)) _ h
    · simp at h
theorem sxBin_sound {op : BinOp} {t : TypeId} {x y : SV} {p : Option BE} {v : SV} (h : sxBin P op t x y = some (p, v)) (hp : Holds p) :
    (binOp op t (x.den ν) (y.den ν)).run P w = .ok (v.den ν) w /\ v.wf n := by
  unfold sxBin at h
  split at h
  · rename_i k e k' e'
    simp only [SV.den]
    split at h
    · exact sxShift_sound _ k k' e e' h hp t (.inl rfl)
    · exact sxShift_sound _ k k' e e' h hp t (.inr rfl)
    · rename_i h1 h2
      split at h
      · rename_i hk; subst hk
        exact sxInt2_sound _ k e e' h hp t ⟨h1, h2⟩
      · simp at h
  · rename_i b b'
    split at h
    · have hq := run_equal_bool (w := w) b.den b'.den ‹P.underlying t = some TypeDesc.bool›
      simp only [Option.some.injEq, Prod.mk.injEq] at h; obtain ⟨rfl, rfl⟩ := h
      simp [SV.den, SV.wf, binOp, hq, BE.den, eqS_den, pure]
    · have hq := run_equal_bool (w := w) b.den b'.den ‹P.underlying t = some TypeDesc.bool›
      simp only [Option.some.injEq, Prod.mk.injEq] at h; obtain ⟨rfl, rfl⟩ := h
      simp [SV.den, SV.wf, binOp, hq, BE.den, eqS_den, notS_den, pure]
    · simp at h
  · rename_i xs ys
    split at h
    · simp at h
    · split at h
      · rename_i e he
        have hq : (Op.equal t (SV.den ν (.agg xs)) (SV.den ν (.agg ys))).run P w = .ok e.den w := sxEq_sound 6 he 10000 (by omega)
        simp only [SV.den] at hq
        simp only [Option.some.injEq, Prod.mk.injEq] at h; obtain ⟨rfl, rfl⟩ := h
        simp [SV.den, SV.wf, binOp, hq, BE.den, pure]
      · rename_i e he
        have hq : (Op.equal t (SV.den ν (.agg xs)) (SV.den ν (.agg ys))).run P w = .ok e.den w := sxEq_sound 6 he 10000 (by omega)
        simp only [SV.den] at hq
        simp only [Option.some.injEq, Prod.mk.injEq] at h; obtain ⟨rfl, rfl⟩ := h
        simp [SV.den, SV.wf, binOp, hq, BE.den, notS_den, pure]
      · simp at h
  · simp at h
theorem sxBin_guard {op : BinOp} {t : TypeId} {x y : SV} {p : Option BE} {v : SV} (h : sxBin P op t x y = some (p, v)) (a b : Operand) :
    (eqGuard op t a b (x.den ν) (y.den ν)).run P w = .ok () w := by
  unfold sxBin at h
  split at h
  · unfold eqGuard; simp only [SV.den]
    cases op <;> simp [Sem.run, pure]
  · unfold eqGuard; simp only [SV.den]
    cases op <;> simp [Sem.run, pure]
  · split at h
    · simp at h
    · rename_i hq
      unfold eqGuard; simp only [SV.den]
      cases op <;> simp [Sem.run, pure, program, hq]
  · simp at h
theorem sxUn_sound {op : UnOp} {x v : SV} (h : sxUn op x = some v) : (Op.unary op (x.den ν)).run P w = .ok (v.den ν) w /\ v.wf n := by
  unfold sxUn at h
  split at h <;> simp at h <;> subst h <;>
    simp [SV.den, SV.wf, Op.unary, Op.intArith, Op.intBits, IE.den, two_den, bitsI, BE.den, notS_den, Sem.run, pure]
theorem zeroOf_sound {t : TypeId} {z : SV} (h : zeroOf P t = some z) : (zeroValue t).run P w = .ok (z.den ν) w /\ z.wf n := by
  unfold zeroOf at h
  split at h
  · rename_i i hi
    split at h
    · rename_i v hv
      obtain ⟨h1, h2⟩ := ofValue_sound ν n h
      exact ⟨by simp [zeroValue, typeInfo, program, Sem.run, hi, hv, h1, pure], h2⟩
    · simp at h
  · simp at h
theorem concrete_sound {t : TypeId} (h : concrete P t = true) : ∃ d, P.underlying t = some d /\ ∀ ms, d ≠ .interface ms := by
  unfold concrete at h
  split at h
  · simp at h
  · rename_i d hn hd
    exact ⟨_, hd, fun ms hm => hn ms hm⟩
  · simp at h
theorem sxAssert_sound {x v : SV} {xt asserted : TypeId} {ok : Bool} (h : sxAssert P x asserted ok = some v) (hx : x.wf n) :
    (Instr.typeAssert (x.den ν) xt asserted ok).run P w = .ok (v.den ν) w /\ v.wf n := by
  unfold sxAssert at h
  split at h
  · rename_i hc
    obtain ⟨d, hd, hni⟩ := concrete_sound hc
    have hu : (underlying asserted).run P w = .ok d w := by simp [underlying, program, Sem.run, hd, pure]
    split at h
    · rename_i t u
      simp only [SV.wf] at hx
      by_cases ht : t = asserted
      · rw [if_pos ht] at h
        simp only [Option.some.injEq] at h
        subst ht; subst h
        cases ok <;> cases d <;> first | exact absurd rfl (hni _) | simp [Instr.typeAssert, SV.den, SV.denL, hu, Sem.run, pure, BE.den, SV.wf, SV.wfL, hx]
      · rw [if_neg ht] at h
        cases ok
        · simp at h
        · simp only [if_true, Option.map_eq_some_iff] at h
          obtain ⟨z, hz, rfl⟩ := h
          obtain ⟨z1, z2⟩ := zeroOf_sound (ν := ν) (n := n) (w := w) hz
          cases d <;> first | exact absurd rfl (hni _) | simp [Instr.typeAssert, SV.den, SV.denL, hu, ht, z1, z2, Sem.run, pure, BE.den, SV.wf, SV.wfL]
    · cases ok
      · simp at h
      · simp only [if_true, Option.map_eq_some_iff] at h
        obtain ⟨z, hz, rfl⟩ := h
        obtain ⟨z1, z2⟩ := zeroOf_sound (ν := ν) (n := n) (w := w) hz
        cases d <;> first | exact absurd rfl (hni _) | simp [Instr.typeAssert, SV.den, SV.denL, hu, z1, z2, Sem.run, pure, BE.den, SV.wf, SV.wfL]
    · simp at h
  · simp at h
theorem sxField_sound {s : TypeId} {x v : SV} {f : Nat} (h : sxField P s x f = some v) (hx : x.wf n) :
    (Instr.fieldAt s (x.den ν) f).run P w = .ok (v.den ν) w /\ v.wf n := by
  unfold sxField at h
  split at h
  · rename_i fs o off hu
    split at h
    · rename_i fd hf
      split at h
      · rename_i i hi
        by_cases h0 : i.size = 0
        · simp [h0] at h
        · rw [if_neg h0] at h
          simp only [Option.some.injEq] at h; subst h
          refine ⟨?_, by simpa [SV.wf] using hx⟩
          simp [Instr.fieldAt, underlying, program, hu, hf, SV.den, Instr.sureAddr, fieldPlace, sizeOf, typeInfo, hi, h0, Sem.run, pure]
      · simp at h
    · simp at h
  · simp at h
theorem sxFieldV_sound {s : TypeId} {x v : SV} {f : Nat} (h : sxFieldV P s x f = some v) (hx : x.wf n) :
    (Instr.field s (x.den ν) f).run P w = .ok (v.den ν) w /\ v.wf n := by
  unfold sxFieldV at h
  split at h
  · rename_i fs cs hu
    split at h
    · rename_i fd hf
      simp only [SV.wf] at hx
      obtain ⟨h1, h2⟩ := part_sound (ν := ν) (w := w) h hx
      exact ⟨by simp [Instr.field, underlying, program, hu, hf, SV.den, asAgg, h1, Sem.run, pure], h2⟩
    · simp at h
  · simp at h
theorem sxIndexAddr_sound {t : TypeId} {x ix v : SV} (h : sxIndexAddr P t x ix = some v) (hx : x.wf n) :
    (Instr.indexAt t (x.den ν) (ix.den ν)).run P w = .ok (v.den ν) w /\ v.wf n := by
  unfold sxIndexAddr at h
  split at h
  · rename_i e o off len cap k i hu
    split at h
    · rename_i inf hi
      by_cases hr : 0 <= i /\ i < len
      · rw [if_pos hr] at h
        simp only [Option.some.injEq] at h; subst h
        refine ⟨?_, by simpa [SV.wf] using hx⟩
        simp [Instr.indexAt, asIntOf, underlying, program, hu, SV.den, IE.den, NE.den, hr, sizeOf, typeInfo, hi, Sem.run, pure]
      · simp [hr] at h
    · simp at h
  · rename_i len e o off k i hu
    split at h
    · rename_i inf hi
      by_cases hr : 0 <= i /\ i < len
      · rw [if_pos hr] at h
        simp only [Option.some.injEq] at h; subst h
        refine ⟨?_, by simpa [SV.wf] using hx⟩
        simp [Instr.indexAt, asIntOf, underlying, program, hu, SV.den, IE.den, hr, sizeOf, typeInfo, hi, Instr.sureAddr, Sem.run, pure]
      · simp [hr] at h
    · simp at h
  · simp at h
theorem ie_den (m : NE) : m.ie.den = (m.den : Int) := by cases m <;> rfl
theorem sxLen_sound {t : TypeId} {x v : SV} (h : sxLen P t x = some v) (ts : Array TypeId) (ht : ts[0]? = some t) (rt : TypeId) :
    (Builtin.len_ ts rt #[x.den ν]).run P w = .ok (v.den ν) w /\ v.wf n := by
  unfold sxLen at h
  split at h
  · rename_i e o off len cap hu
    simp only [Option.some.injEq] at h; subst h
    simp [Builtin.len_, ht, underlying, program, hu, SV.den, goInt, ie_den, Sem.run, pure, SV.wf]
  · rename_i e hu
    simp only [Option.some.injEq] at h; subst h
    simp [Builtin.len_, ht, underlying, program, hu, SV.den, goInt, IE.den, Sem.run, pure, SV.wf]
  · rename_i m e hu
    simp only [Option.some.injEq] at h; subst h
    simp [Builtin.len_, ht, underlying, program, hu, SV.den, goInt, IE.den, Sem.run, pure, SV.wf]
  · simp at h
end
end Go.Proofs.YtajcmjjgnbaahaaDoor.Sx
