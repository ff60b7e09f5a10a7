/- Symbolic execution is sound: values, memory, and the operations that leave the world as it is. -/
import Derived.Test.YtajcmjjgnbaahaaGreatSx1
import Derived.Laws.StructEq
set_option linter.unusedVariables false
set_option linter.unusedSimpArgs false
namespace Go.Proofs.YtajcmjjgnbaahaaGreat.Sx
open Go
theorem zX (ν : Nat -> Pl) : ∀ l : List SV, SV.denL ν l = l.map (SV.den ν)
  | [] => rfl
  | v :: r => by simp [SV.denL, zX ν r]
theorem zJ (ν : Nat -> Pl) (l : List SV) : (SV.denL ν l).length = l.length := by simp [zX]
theorem zBE (ν : Nat -> Pl) (a b : List SV) : SV.denL ν (a ++ b) = SV.denL ν a ++ SV.denL ν b := by simp [zX]
theorem zz (n : Nat -> Prop) : ∀ l : List SV, SV.wfL n l ↔ ∀ v ∈ l, v.wf n
  | [] => by simp [SV.wfL]
  | v :: r => by simp [SV.wfL, zz n r]
theorem zBF {n : Nat -> Prop} {a b : List SV} (ha : SV.wfL n a) (hb : SV.wfL n b) : SV.wfL n (a ++ b) := by
  rw [zz] at *
  intro v hv
  rcases List.mem_append.1 hv with h | h
  · exact ha v h
  · exact hb v h
def zb (n : Nat -> Prop) (ν ν' : Nat -> Pl) : Prop := ∀ o, n o -> ν' o = ν o
mutual
theorem zF5 {n : Nat -> Prop} {ν ν' : Nat -> Pl} (h : zb n ν ν') : ∀ v : SV, v.wf n -> v.den ν' = v.den ν
  | .int _ _, _ => rfl
  | .bool _, _ => rfl
  | .str _, _ => rfl
  | .ptr o _, hw => by simp only [SV.wf] at hw; simp [SV.den, h o hw]
  | .nilp, _ => rfl
  | .slice o _ _ _, hw => by simp only [SV.wf] at hw; simp [SV.den, h o hw]
  | .nils, _ => rfl
  | .iface _ v, hw => by simp only [SV.wf] at hw; simp [SV.den, zF5 h v hw]
  | .nili, _ => rfl
  | .agg vs, hw => by simp only [SV.wf] at hw; simp [SV.den, zy h vs hw]
  | .tuple vs, hw => by simp only [SV.wf] at hw; simp [SV.den, zy h vs hw]
  | .func _ a b, hw => by simp only [SV.wf] at hw; simp [SV.den, zy h a hw.1, zy h b hw.2]
  | .nilf, _ => rfl
  | .nilm, _ => rfl
  | .val _, _ => rfl
  | .strE _, _ => rfl
  | .ptrE _ o _ _ _, hw => by simp only [SV.wf] at hw; simp [SV.den, h o hw]
  | .sliceE _ o _ _ _ _, hw => by simp only [SV.wf] at hw; simp [SV.den, h o hw]
  | .mapv o, hw => by simp only [SV.wf] at hw; simp [SV.den, h o hw]
  | .sliceG o _ _ _, hw => by simp only [SV.wf] at hw; simp [SV.den, h o hw]
  | .gptr _ _, _ => rfl
theorem zy {n : Nat -> Prop} {ν ν' : Nat -> Pl} (h : zb n ν ν') : ∀ l : List SV, SV.wfL n l -> SV.denL ν' l = SV.denL ν l
  | [], _ => rfl
  | v :: r, hw => by simp only [SV.wfL] at hw; simp [SV.denL, zF5 h v hw.1, zy h r hw.2]
end
mutual
theorem zDf {n m : Nat -> Prop} (h : ∀ o, n o -> m o) : ∀ v : SV, v.wf n -> v.wf m
  | .int _ _, _ => trivial
  | .bool _, _ => trivial
  | .str _, _ => trivial
  | .ptr _ _, hw => by simp only [SV.wf] at *; exact h _ hw
  | .nilp, _ => trivial
  | .slice _ _ _ _, hw => by simp only [SV.wf] at *; exact h _ hw
  | .nils, _ => trivial
  | .iface _ v, hw => by simp only [SV.wf] at *; exact zDf h v hw
  | .nili, _ => trivial
  | .agg vs, hw => by simp only [SV.wf] at *; exact zj h vs hw
  | .tuple vs, hw => by simp only [SV.wf] at *; exact zj h vs hw
  | .func _ a b, hw => by simp only [SV.wf] at *; exact ⟨zj h a hw.1, zj h b hw.2⟩
  | .nilf, _ => trivial
  | .nilm, _ => trivial
  | .val _, _ => trivial
  | .strE _, _ => trivial
  | .ptrE _ _ _ _ _, hw => by simp only [SV.wf] at *; exact h _ hw
  | .sliceE _ _ _ _ _ _, hw => by simp only [SV.wf] at *; exact h _ hw
  | .mapv _, hw => by simp only [SV.wf] at *; exact h _ hw
  | .sliceG _ _ _ _, hw => by simp only [SV.wf] at *; exact h _ hw
  | .gptr _ _, _ => trivial
theorem zj {n m : Nat -> Prop} (h : ∀ o, n o -> m o) : ∀ l : List SV, SV.wfL n l -> SV.wfL m l
  | [], _ => trivial
  | v :: r, hw => by simp only [SV.wfL] at *; exact ⟨zDf h v hw.1, zj h r hw.2⟩
end
theorem zt {α : Type} : ∀ (l : List α) (i : Nat) (v : α), (zS l i v).length = l.length
  | [], _, _ => rfl
  | _ :: _, 0, _ => rfl
  | _ :: r, i + 1, v => by simp [zS, zt r i v]
theorem zP {α : Type} : ∀ (l : List α) (i : Nat) (v : α), zS l i v = l.set i v
  | [], _, _ => by simp [zS]
  | _ :: _, 0, _ => rfl
  | _ :: r, i + 1, v => by simp [zS, zP r i v]
theorem zDL (n : Nat) (K : Nat -> Prop) : fNat n K = K n := by cases n <;> rfl
theorem zWy (n : Int) (K : Int -> Prop) : fInt n K = K n := by cases n <;> simp [fInt, zDL]
theorem zY3 (e : IE) (K : IE -> Prop) : fIE e K = K e := by cases e <;> first | rfl | simp [fIE, zWy]
theorem zY4 (e : BE) (K : BE -> Prop) : fBE e K = K e := by cases e <;> rfl
theorem zOe (e : NE) (K : NE -> Prop) : fNE e K = K e := by cases e <;> first | rfl | simp [fNE, zDL]
theorem zAq {α : Type} : ∀ (l : List α) (K : List α -> Prop), zCt l K = K l
  | [], K => rfl
  | v :: r, K => by
    have : zCt (v :: r) K = zCt r fun r => K (v :: r) := rfl
    rw [this, zAq r]
theorem zL9 : ∀ (l : List UInt8) (K : List UInt8 -> Prop), zOh l K = K l
  | [], K => rfl
  | v :: r, K => by
    have : zOh (v :: r) K = fNat v.toNat fun n => zOh r fun r => K (UInt8.ofNat n :: r) := rfl
    rw [this, zDL, zL9 r, UInt8.ofNat_toNat]
theorem zWu (s : ByteArray) (K : ByteArray -> Prop) : fStr s K = K s := by simp [fStr, zL9]
mutual
theorem zOd : ∀ (v : SV) (K : SV -> Prop), fSV v K = K v
  | .int k e, K => by simp [fSV, zY3]
  | .bool e, K => by simp [fSV, zY4]
  | .str s, K => by simp [fSV, zWu]
  | .ptr o off, K => by simp [fSV, zDL]
  | .nilp, K => rfl
  | .slice o off len cap, K => by simp [fSV, zOe, zDL]
  | .nils, K => rfl
  | .iface t v, K => by simp [fSV, zOd v]
  | .nili, K => rfl
  | .agg vs, K => by simp [fSV, zET vs]
  | .tuple vs, K => by simp [fSV, zET vs]
  | .func fn a b, K => by simp [fSV, zET a, zET b]
  | .nilf, K => rfl
  | .nilm, K => rfl
  | .val v, K => rfl
  | .strE s, K => rfl
  | .ptrE inp o sz i c, K => by simp [fSV, zOe, zDL]
  | .sliceE inp o sz st len cap, K => by simp [fSV, zOe, zDL]
  | .mapv o, K => by simp [fSV, zDL]
  | .sliceG o sz st len, K => by simp [fSV, zDL]
  | .gptr g off, K => by simp [fSV, zDL]
theorem zET : ∀ (l : List SV) (K : List SV -> Prop), fSVs l K = K l
  | [], K => rfl
  | v :: r, K => by simp [fSVs, zOd v, zET r]
end
theorem zQM {α : Type} : ∀ (l : List α) (v : α) (n : Nat) (K : List α -> Prop), setF l v n K = K (zS l n v)
  | [], v, n, K => by cases n <;> rfl
  | x :: r, v, 0, K => rfl
  | x :: r, v, n + 1, K => by
    have : setF (x :: r) v (n + 1) K = setF r v n fun r => K (x :: r) := rfl
    rw [this, zQM r]; rfl
theorem zCu (x : SObj) (K : SObj -> Prop) : fObj x K = K x := by cases x <;> simp [fObj, zET, zOe]
theorem zOf : ∀ (l : List SObj) (K : List SObj -> Prop), fHp l K = K l
  | [], K => rfl
  | v :: r, K => by simp [fHp, zCu v, zOf r]
theorem zDG (σ : St) (d : Option Nat) (v : SV) (K : St -> Prop) : putK σ d v K = K (σ.put d v) := by
  cases d <;> simp [putK, St.put, zOd, zQM]
theorem zA2 (σ : St) (hp : List SObj) (d : Option Nat) (v : SV) (K : St -> Prop) : putH σ hp d v K = K (St.put { σ with hp := hp } d v) := by
  simp [putH, zAq, zDG]
theorem zE4 (ν : Nat -> Pl) (n : Nat -> Prop) {v : Value} {s : SV} (h : zEj v = some s) : s.den ν = v /\ s.wf n := by
  unfold zEj at h
  split at h <;> simp at h <;> subst h <;> simp [SV.den, SV.wf, IE.den, BE.den]
theorem zLh {v : Value} {s : SV} (h : zEj v = some s) : s.one = true := by
  unfold zEj at h
  split at h <;> simp at h <;> subst h <;> rfl
theorem zEJ (ν : Nat -> Pl) (n : Nat -> Prop) : ∀ {l : List Value} {s : List SV}, zJY l = some s -> SV.denL ν s = l /\ SV.wfL n s /\ s.all SV.one = true
  | [], s, h => by simp [zJY] at h; subst h; simp [SV.denL, SV.wfL]
  | v :: r, s, h => by
    unfold zJY at h
    split at h
    · rename_i x y hx hy
      simp at h; subst h
      obtain ⟨a, b⟩ := zE4 ν n hx
      obtain ⟨c, d, e⟩ := zEJ ν n hy
      exact ⟨by simp [SV.denL, a, c], ⟨b, d⟩, by simp [zLh hx, e]⟩
    · simp at h
theorem zCY (ν : Nat -> Pl) (n : Nat -> Prop) {v : Value} {s : SV} (h : ofValue v = some s) : s.den ν = v /\ s.wf n := by
  unfold ofValue at h
  split at h
  · simp only [Option.map_eq_some_iff] at h
    obtain ⟨l, hl, rfl⟩ := h
    obtain ⟨a, b, _⟩ := zEJ ν n hl
    exact ⟨by simp [SV.den, a], by simpa [SV.wf] using b⟩
  · simp only [Option.map_eq_some_iff] at h
    obtain ⟨l, hl, rfl⟩ := h
    obtain ⟨a, b, _⟩ := zEJ ν n hl
    exact ⟨by simp [SV.den, a], by simpa [SV.wf] using b⟩
  · exact zE4 ν n h
theorem zMD (ν : Nat -> Pl) : ∀ l : List Value, SV.denL ν (l.map .val) = l
  | [] => rfl
  | v :: r => by simp [SV.denL, SV.den, zMD ν r]
theorem zNQ (n : Nat -> Prop) : ∀ l : List Value, SV.wfL n (l.map .val)
  | [] => trivial
  | _ :: r => ⟨trivial, zNQ n r⟩
theorem zAb (ν : Nat -> Pl) (v : SV) : (v.den ν).cells = (SV.denL ν v.cells).toArray := by
  cases v with
  | val v => simp only [SV.den, SV.cells, zMD]
  | _ => simp [SV.den, SV.cells, Value.cells, SV.denL]
theorem zCR {n : Nat -> Prop} {v : SV} (h : v.wf n) : SV.wfL n v.cells := by
  cases v with
  | val v => exact zNQ n _
  | _ => simp_all [SV.cells, SV.wfL, SV.wf]
theorem zFI (ν : Nat -> Pl) {v : SV} (h : v.one = true) : (v.den ν).oneCell' = true := by
  cases v <;> simp_all [SV.den, SV.one, Value.oneCell']
def zEy (B : Nat -> Prop) (w : World) : Prop := ∀ b, B b -> b < w.heap.size
structure ze (B : Nat -> Prop) (w w' : World) : Prop where
  os : w'.os = w.os
  tape : w'.tape = w.tape
  output : w'.output = w.output
  size : w.heap.size <= w'.heap.size
  block : ∀ k, B k -> w'.heap[k]? = w.heap[k]?
theorem ze.refl (B : Nat -> Prop) (w : World) : ze B w w := ⟨rfl, rfl, rfl, Nat.le_refl _, fun _ _ => rfl⟩
theorem ze.trans {B : Nat -> Prop} {a b c : World} (h : ze B a b) (k : ze B b c) : ze B a c :=
  ⟨k.os.trans h.os, k.tape.trans h.tape, k.output.trans h.output, Nat.le_trans h.size k.size, fun i hi => (k.block i hi).trans (h.block i hi)⟩
theorem ze.mono {B B' : Nat -> Prop} {w w' : World} (h : ze B w w') (hB : ∀ b, B' b -> B b) : ze B' w w' := ⟨h.os, h.tape, h.output, h.size, fun k hk => h.block k (hB k hk)⟩
theorem ze.of {B : Nat -> Prop} {w w' : World} (h : RowKit.Below w.heap.size w w') (hB : zEy B w) : ze B w w' := ⟨h.os, h.tape, h.output, h.size, fun k hk => h.block k (hB k hk)⟩
theorem ze.below {n : Nat} {w w' : World} (h : ze (fun b => b < n) w w') : RowKit.Below n w w' := ⟨h.os, h.tape, h.output, h.size, h.block⟩
theorem ze.drew {B : Nat -> Prop} {a w : World} (h : ze B a w) : ze B a w.drew := ⟨h.os, h.tape, h.output, h.size, h.block⟩
theorem ze.alloc {B : Nat -> Prop} {a w : World} (h : ze B a w) (hB : zEy B w) (o : Obj) : ze B a (w.alloc o) :=
  h.trans ⟨rfl, rfl, rfl, by simp, fun k hk => RowKit.Below.heap_alloc _ _ _ (hB k hk)⟩
theorem ze.setCell {B : Nat -> Prop} {a w : World} (h : ze B a w) {p : Addr} (hp : ¬ B p.block) (u : Value) : ze B a (w.setCell p u) :=
  h.trans ⟨rfl, rfl, rfl, by simp [World.setCell], fun k hk => RowKit.Below.heap_setCell _ _ _ _ (fun e => hp (e ▸ hk))⟩
theorem zEy.mono {B : Nat -> Prop} {w w' : World} (h : zEy B w) (hs : w.heap.size <= w'.heap.size) : zEy B w' := fun b hb => Nat.lt_of_lt_of_le (h b hb) hs
theorem zEy.top {B : Nat -> Prop} {w : World} (h : zEy B w) : ¬ B w.heap.size := fun hb => Nat.lt_irrefl _ (h _ hb)
structure zw (B : Nat -> Prop) (p : Pl) (w : World) (own inp : Bool) (cols : List Col) (n : Nat) : Prop where
  empty : (inp && p.nil) = true -> n = 0
  lo : (inp && p.nil) = false -> own = true -> ¬ B p.blk /\ p.blk < w.heap.size
  hi : (inp && p.nil) = false -> own = false -> B p.blk
  cell : ∀ e, e < n -> ∀ j c, cols[j]? = some c -> ∃ v, w.cell? ⟨p.blk, p.base inp + (e * cols.length + j), none⟩ = some v /\ c.holds e v
  thawed : own = true -> ∀ e, e < n -> ∀ j, j < cols.length -> w.frozen? ⟨p.blk, p.base inp + (e * cols.length + j), none⟩ = false
def ents : Nat -> List Value -> List Value -> List MapEntry
  | i, k :: ks, v :: vs => ⟨k, v, i⟩ :: ents (i + 1) ks vs
  | _, _, _ => []
structure zFU (w : World) (p : Pl) (sz : Nat) (l : List Value) : Prop where
  lt : p.blk < w.heap.size
  le : l.length <= p.off * sz
  cell : ∀ i v, l[i]? = some v -> w.cell? ⟨p.blk, i, none⟩ = some v
  there : ∀ i, i < p.off * sz -> (w.cell? ⟨p.blk, i, none⟩).isSome = true
  thawed : ∀ i, i < p.off * sz -> w.frozen? ⟨p.blk, i, none⟩ = false
  like : sz = 1 -> ∀ k n, l[0]? = some (.int k n) -> ∀ i, i < p.off -> ∃ m, w.cell? ⟨p.blk, i, none⟩ = some (.int k m)
  small : p.off <= 9223372036854775807
def zAN (B : Nat -> Prop) (ν : Nat -> Pl) (n : Nat -> Prop) (w : World) (o : Nat) : SObj -> Prop
  | .cells vs ty => ¬ B (ν o).blk /\ w.heap[(ν o).blk]? = some (.cells (SV.denL ν vs).toArray ty (0, 0)) /\ SV.wfL n vs
  | .dead => True
  | .row own inp cols m => zw B (ν o) w own inp cols m.den
  | .husk => True
  | .map ks vs => ¬ B (ν o).blk /\ w.heap[(ν o).blk]? = some (.map (ents 0 (SV.denL ν ks) (SV.denL ν vs)).toArray ks.length) /\ SV.wfL n ks /\ SV.wfL n vs /\ ks.length = vs.length
  | .grown sz vs => ¬ B (ν o).blk /\ zFU w (ν o) sz (SV.denL ν vs) /\ SV.wfL n vs
  | .glob g vs => (ν o).blk = g /\ B g /\ g < w.heap.size /\ (∃ t fz, w.heap[g]? = some (.cells (SV.denL nu0 vs).toArray t fz)) /\ SV.wfL (fun _ => False) vs
def Live (hp : List SObj) (o : Nat) : Prop := ∃ x, hp[o]? = some x /\ x.alive = true
def SObj.owns (p : Pl) : SObj -> Bool
  | .cells _ _ => true
  | .row own inp _ _ => own && !(inp && p.nil)
  | .map _ _ => true
  | .grown _ _ => true
  | _ => false
def zAc (ν : Nat -> Pl) (hp : List SObj) (o : Nat) : Prop := ∃ x, hp[o]? = some x /\ x.owns (ν o) = true
structure z6 (B : Nat -> Prop) (ν : Nat -> Pl) (hp : List SObj) (w : World) : Prop where
  obj : ∀ o x, hp[o]? = some x -> zAN B ν (Live hp) w o x
  apart : ∀ o o', zAc ν hp o -> zAc ν hp o' -> (ν o).blk = (ν o').blk -> o = o'
theorem z6.size {B : Nat -> Prop} {ν : Nat -> Pl} {hp : List SObj} {w : World} (h : z6 B ν hp w) (o : Nat) (ho : zAc ν hp o) : (ν o).blk < w.heap.size := by
  obtain ⟨x, hx, hw⟩ := ho
  have hb := h.obj o _ hx
  cases x with
  | cells vs ty => exact (Array.getElem?_eq_some_iff.1 hb.2.1).1
  | dead => simp [SObj.owns] at hw
  | husk => simp [SObj.owns] at hw
  | row own inp cols m =>
    simp only [SObj.owns, Bool.and_eq_true, Bool.not_eq_true'] at hw
    exact (zw.lo hb hw.2 hw.1).2
  | map ks vs => exact (Array.getElem?_eq_some_iff.1 hb.2.1).1
  | grown sz vs => exact hb.2.1.lt
  | glob g vs => simp [SObj.owns] at hw
theorem z6.low {B : Nat -> Prop} {ν : Nat -> Pl} {hp : List SObj} {w : World} (h : z6 B ν hp w) (o : Nat) (ho : zAc ν hp o) : ¬ B (ν o).blk := by
  obtain ⟨x, hx, hw⟩ := ho
  have hb := h.obj o _ hx
  cases x with
  | cells vs ty => exact hb.1
  | dead => simp [SObj.owns] at hw
  | husk => simp [SObj.owns] at hw
  | row own inp cols m =>
    simp only [SObj.owns, Bool.and_eq_true, Bool.not_eq_true'] at hw
    exact (zw.lo hb hw.2 hw.1).1
  | map ks vs => exact hb.1
  | grown sz vs => exact hb.1
  | glob g vs => simp [SObj.owns] at hw
structure Sat (B : Nat -> Prop) (ν : Nat -> Pl) (σ : St) (a : Act) (w : World) : Prop where
  tmps : a.tmps = (SV.denL ν σ.tmps).toArray
  wf : SV.wfL (Live σ.hp) σ.tmps
  defers : a.defers = []
  hp : z6 B ν σ.hp w
  base : zEy B w
structure TSat (ν : Nat -> Pl) (n : Nat -> Prop) (σ : St) (a : Act) : Prop where
  tmps : a.tmps = (SV.denL ν σ.tmps).toArray
  wf : SV.wfL n σ.tmps
theorem Sat.t {B : Nat -> Prop} {ν : Nat -> Pl} {σ : St} {a : Act} {w : World} (h : Sat B ν σ a w) : TSat ν (Live σ.hp) σ a := ⟨h.tmps, h.wf⟩
section
variable {P : Program} {B : Nat -> Prop} {n : Nat -> Prop} {ν : Nat -> Pl} {σ : St} {a : Act} {w : World}
theorem zD9 (h : TSat ν n σ a) {t : Nat} {v : SV} (hv : σ.tmps[t]? = some v) : a.tmps[t]? = some (v.den ν) /\ v.wf n := by
  refine ⟨?_, (zz _ _).1 h.wf v (List.mem_of_getElem? hv)⟩
  rw [h.tmps]
  simp [zX, hv]
theorem zB (h : TSat ν n σ a) {x : Operand} {v : SV} (hv : σ.eval x = some v) : a.eval x = v.den ν /\ v.wf n := by
  cases x with
  | tmp t =>
    have hv : σ.tmps[t]? = some v := by rw [<- zDv]; exact hv
    obtain ⟨h1, h2⟩ := zD9 h hv
    exact ⟨by simp [Act.eval, Array.getD_eq_getD_getElem?, h1], h2⟩
  | const c => obtain ⟨h1, h2⟩ := zCY ν n hv; exact ⟨by simp [Act.eval, h1], h2⟩
  | global g => simp [St.eval] at hv; subst hv; exact ⟨by simp [Act.eval, SV.den], trivial⟩
  | func f => simp [St.eval] at hv; subst hv; exact ⟨by simp [Act.eval, SV.den, SV.denL], by simp [SV.wf, SV.wfL]⟩
theorem zCa (h : TSat ν n σ a) : ∀ {l : List Operand} {vs : List SV}, zBa σ l = some vs -> l.map a.eval = SV.denL ν vs /\ SV.wfL n vs
  | [], vs, hv => by simp [zBa] at hv; subst hv; simp [SV.denL, SV.wfL]
  | x :: r, vs, hv => by
    unfold zBa at hv
    split at hv
    · rename_i v l h1 h2
      simp at hv; subst hv
      obtain ⟨a1, a2⟩ := zB h h1
      obtain ⟨b1, b2⟩ := zCa h h2
      exact ⟨by simp [SV.denL, a1, b1], ⟨a2, b2⟩⟩
    · simp at hv
theorem zBv (h : TSat ν n σ a) : ∀ {l : List (Nat × Operand)} {vs : List (Nat × SV)}, zAi σ l = some vs ->
    l.map (fun p => (p.1, a.eval p.2)) = vs.map (fun p => (p.1, p.2.den ν)) /\ ∀ p ∈ vs, p.2.wf n
  | [], vs, hv => by simp [zAi] at hv; subst hv; simp
  | (i, x) :: r, vs, hv => by
    unfold zAi at hv
    split at hv
    · rename_i v l h1 h2
      simp at hv; subst hv
      obtain ⟨a1, a2⟩ := zB h h1
      obtain ⟨b1, b2⟩ := zBv h h2
      refine ⟨by simp [a1, b1], fun p hp => ?_⟩
      rcases List.mem_cons.1 hp with rfl | hp
      · exact a2
      · exact b2 p hp
    · simp at hv
theorem z0 (h : Sat B ν σ a w) (d : Option Nat) {v : SV} (hv : v.wf (Live σ.hp)) : Sat B ν (σ.put d v) (a.put d (v.den ν)) w := by
  cases d with
  | none => exact h
  | some d =>
    refine ⟨?_, ?_, h.defers, h.hp, h.base⟩
    · simp only [Act.put, St.put, h.tmps, zP, zX, List.map_set, List.setIfInBounds_toArray]
    · simp only [St.put, zP]
      rw [zz]
      intro x hx
      rcases List.mem_or_eq_of_mem_set hx with h1 | h1
      · exact (zz _ _).1 h.wf x h1
      · exact h1 ▸ hv
theorem zBf (f : IE -> IE -> IE) (a b : IE) : (IE.two f a b).den = (f a b).den := by
  unfold IE.two
  split
  · simp only [IE.den]
  · rfl
theorem zTO (f : IE -> IE) (a : IE) : (IE.one f a).den = (f a).den := by
  unfold IE.one
  split
  · simp only [IE.den]
  · rfl
theorem za (x y : Int) : cmpI .eql x y = decide (x = y) := by simp only [cmpI]; exact Bool.eq_iff_iff.2 (by simp)
theorem zAd (x y : Int) : cmpI .neq x y = !decide (x = y) := by simp only [cmpI, bne]; exact congrArg _ (Bool.eq_iff_iff.2 (by simp))
theorem zQ (x y : Int) : cmpI .lss x y = decide (x < y) := rfl
theorem zAo (x y : Int) : cmpI .leq x y = decide (x <= y) := rfl
theorem zAS (x y : Int) : cmpI .gtr x y = decide (y < x) := rfl
theorem zAG (x y : Int) : cmpI .geq x y = decide (y <= x) := rfl
theorem zK3 (op : BinOp) (a b : IE) : (BE.cmpS op a b).den = cmpI op a.den b.den := by
  unfold BE.cmpS
  split <;> simp [BE.den, IE.den]
theorem zKg (a : BE) : (BE.notS a).den = !a.den := by
  unfold BE.notS
  split <;> simp [BE.den]
theorem zOH (c a b : BE) : (BE.iteS c a b).den = bif c.den then a.den else b.den := by
  unfold BE.iteS
  split <;> simp [BE.den]
theorem zOr (a b : BE) : (BE.andS a b).den = (a.den && b.den) := by
  rw [BE.andS, zOH]; cases a.den <;> simp [BE.den]
theorem zMu (a b : BE) : (BE.orS a b).den = (a.den || b.den) := by
  rw [BE.orS, zOH]; cases a.den <;> simp [BE.den]
theorem zND (a b : BE) : (BE.eqS a b).den = (a.den == b.den) := by
  unfold BE.eqS
  split <;> simp [BE.den]
@[simp] theorem zDz (b off n : Nat) : (⟨b, off, none⟩ : Addr).add n = ⟨b, off + n, none⟩ := by
  unfold Addr.add; split <;> simp_all
theorem zFj (w : World) {t : TypeId} {d : TypeDesc} (h : P.underlying t = some d) : (isAgg t).run P w = .ok (zD5 P t) w := by
  unfold zD5 isAgg
  cases d <;> simp [underlying, h, program, Sem.run]
theorem zLD (op : BinOp) (k : IntKind) (x y : IE) {p : Option BE} {v : SV} (h : zP6 op k x y = some (p, v)) (hp : zAJ p) (t : TypeId)
    (hns : op ≠ .shl /\ op ≠ .shr) : (binOp op t (.int k x.den) (.int k y.den)).run P w = .ok (v.den ν) w /\ v.wf n := by
  unfold zP6 at h
  split at h
  case h_4 =>
    split at h
    · rename_i m
      by_cases hm : m = 0
      · simp [hm] at h
      · rw [if_neg hm] at h; simp only [Option.some.injEq, Prod.mk.injEq] at h; obtain ⟨rfl, rfl⟩ := h
        simp [binOp, Op.intDiv, IE.den, hm, SV.den, SV.wf, zBf (.quo k), Sem.run, pure]
    · simp only [Option.some.injEq, Prod.mk.injEq] at h; obtain ⟨rfl, rfl⟩ := h
      have hp' : ¬ y.den = 0 := by simpa [zAJ, BE.den, cmpI, IE.den] using hp
      simp [binOp, Op.intDiv, IE.den, hp', SV.den, SV.wf, zBf (.quo k), Sem.run, pure]
  case h_5 =>
    split at h
    · rename_i m
      by_cases hm : m = 0
      · simp [hm] at h
      · rw [if_neg hm] at h; simp only [Option.some.injEq, Prod.mk.injEq] at h; obtain ⟨rfl, rfl⟩ := h
        simp [binOp, Op.intDiv, IE.den, hm, SV.den, SV.wf, zBf .rem, Sem.run, pure]
    · simp only [Option.some.injEq, Prod.mk.injEq] at h; obtain ⟨rfl, rfl⟩ := h
      have hp' : ¬ y.den = 0 := by simpa [zAJ, BE.den, cmpI, IE.den] using hp
      simp [binOp, Op.intDiv, IE.den, hp', SV.den, SV.wf, zBf .rem, Sem.run, pure]
  all_goals first
    | (simp at h; done)
    | (simp only [Option.some.injEq, Prod.mk.injEq] at h; obtain ⟨rfl, rfl⟩ := h
       simp [binOp, Op.intArith, Op.intBits, Op.intCmp, IE.den, SV.den, SV.wf, BE.den, zK3, cmpI, zAy, zBf (.add k), zBf (.sub k), zBf (.mul k), zBf (.bits _ k), Sem.run, pure])
theorem zFc (op : BinOp) (k k' : IntKind) (x y : IE) {p : Option BE} {v : SV} (h : zMW op k x y = some (p, v)) (hp : zAJ p) (t : TypeId)
    (hs : op = .shl ∨ op = .shr) : (binOp op t (.int k x.den) (.int k' y.den)).run P w = .ok (v.den ν) w /\ v.wf n := by
  unfold zMW at h
  have key : ∀ v, (0 <= y.den) -> (SV.int k (match op with | .shl => IE.two (.shl k) x y | _ => IE.two (.shr k) x y)) = v -> (binOp op t (.int k x.den) (.int k' y.den)).run P w = .ok (v.den ν) w /\ v.wf n := by
    intro v h0 hv
    subst hv
    have h1 : ¬ y.den < 0 := by omega
    rcases hs with rfl | rfl <;> simp [binOp, Op.shift, h1, SV.den, SV.wf, zBf (.shl k), zBf (.shr k), IE.den, shlI, shrI, Sem.run, pure]
  cases y with
  | lit m =>
    by_cases hm : m < 0
    · simp [hm] at h
    · simp only [if_neg hm, Option.some.injEq, Prod.mk.injEq] at h; obtain ⟨rfl, rfl⟩ := h
      exact key _ (by simp [IE.den]; omega) rfl
  | _ => simp only [Option.some.injEq, Prod.mk.injEq] at h; obtain ⟨rfl, rfl⟩ := h; exact key _ (by simpa [zAJ, BE.den, cmpI, IE.den] using hp) rfl
theorem zE3 {t : TypeId} (x y : Bool) (hu : P.underlying t = some .bool) : (Op.equal t (.bool x) (.bool y)).run P w = .ok (x == y) w := by
  unfold Op.equal Op.maxDepth
  rw [show (10000 : Nat) = 9999 + 1 from rfl, Op.equalIn]
  have hU : (underlying t).run P w = .ok .bool w := by simp [underlying, program, Sem.run, hu, pure]
  simp [hU, Sem.run, pure]
theorem zEi {t : TypeId} {cs : List SV} {off : Nat} {v : SV} (h : zHm P t cs off = some v) (hx : SV.wfL n cs) :
    (part t (SV.denL ν cs).toArray off).run P w = .ok (v.den ν) w /\ v.wf n := by
  unfold zHm at h
  split at h
  · rename_i d i hd hi
    have ha := zFj (P := P) w hd
    by_cases hg : zD5 P t = true
    · rw [if_pos hg] at h
      simp only [Option.some.injEq] at h; subst h
      rw [hg] at ha
      refine ⟨?_, ?_⟩
      · have e : off + i.size - off = i.size := by omega
        simp [part, ha, sizeOf, typeInfo, program, hi, SV.den, zX, Sem.run, pure, List.extract_toArray, List.extract_eq_take_drop, e]
      · simp only [SV.wf]
        rw [zz] at *
        intro y hy
        exact hx y (List.mem_of_mem_drop (List.mem_of_mem_take hy))
    · rw [if_neg hg] at h
      simp only [Bool.not_eq_true] at hg
      rw [hg] at ha
      refine ⟨?_, (zz _ _).1 hx v (List.mem_of_getElem? h)⟩
      simp [part, ha, zX, h, Sem.run, pure]
  · simp at h
theorem zNR (l : List SV) : SV.wfL (fun _ => True) l := by
  have key : ∀ v : SV, v.wf (fun _ => True) := by
    intro v
    induction v using SV.rec (motive_2 := fun l => SV.wfL (fun _ => True) l) with
    | _ => simp_all [SV.wf, SV.wfL]
  rw [zz]; exact fun v _ => key v
theorem zGk {d : Nat} {g : TypeId -> SV -> SV -> Option BE} (hg : ∀ t x y e, g t x y = some e -> (Op.equalIn d t (x.den ν) (y.den ν)).run P w = .ok e.den w) {xs ys : List SV} :
    ∀ (fs : List Field) {e : BE}, zLE P g xs ys fs = some e -> (Op.eqFields d (SV.denL ν xs).toArray (SV.denL ν ys).toArray fs).run P w = .ok e.den w
  | [], e, h => by
    simp only [zLE, Option.some.injEq] at h; subst h
    simp [Op.eqFields, Sem.run, pure, BE.den]
  | f :: fs, e, h => by
    unfold zLE at h
    split at h
    · simp at h
    · rename_i hn
      split at h
      · rename_i a b ha hb
        split at h
        · rename_i e1 r h1 h2
          simp only [Option.some.injEq] at h; subst h
          have pa := (zEi (n := fun _ => True) (ν := ν) (w := w) ha (zNR _)).1
          have pb := (zEi (n := fun _ => True) (ν := ν) (w := w) hb (zNR _)).1
          have ih := zGk hg fs h2
          have he := hg _ _ _ _ h1
          rw [Op.eqFields]
          simp only [ne_eq, hn, not_false_eq_true, if_true, Sem.run_bind, pa, pb, he, Result.andThen_ok, zOr]
          cases hz : e1.den
          · simp
          · simpa using ih
        · simp at h
      · simp at h
theorem zDT : ∀ (d : Nat) {t : TypeId} {x y : SV} {e : BE}, sxEq P d t x y = some e -> ∀ m, d <= m -> (Op.equalIn m t (x.den ν) (y.den ν)).run P w = .ok e.den w
  | 0, t, x, y, e, h => by simp [sxEq] at h
  | d + 1, t, x, y, e, h => by
    intro m hm
    obtain ⟨m, rfl⟩ : ∃ k, m = k + 1 := ⟨m - 1, by omega⟩
    unfold sxEq at h
    split at h
    · rename_i k0 k a k' b hu
      split at h
      · rename_i hk; subst hk
        simp only [Option.some.injEq] at h; subst h
        simp only [SV.den]
        rw [run_equalIn_int w m t _ _ a.den b.den hu]
        rw [zK3]; simp [BE.den, cmpI]
      · simp at h
    · rename_i a b hu
      simp only [Option.some.injEq] at h; subst h
      simp only [SV.den]
      rw [run_equalIn_bool' w m t _ _ hu]
      simp [zND, BE.den]
    · rename_i fs xs ys hu
      split at h
      · simp at h
      · rename_i hs
        have hf : P.fieldsOf t = fs := by simp [Program.fieldsOf, hu]
        simp only [SV.den]
        rw [run_equalIn_struct (P := P) w m t _ _ (by rw [hf]; exact hu) (by simpa using hs), hf]
        exact zGk (fun t x y e he => zDT d he m (by omega)) _ h
    · simp at h
theorem zMa {op : BinOp} {t : TypeId} {x y : SV} {p : Option BE} {v : SV} (h : zP9 P op t x y = some (p, v)) (hp : zAJ p) :
    (binOp op t (x.den ν) (y.den ν)).run P w = .ok (v.den ν) w /\ v.wf n := by
  unfold zP9 at h
  split at h
  · rename_i k e k' e'
    simp only [SV.den]
    split at h
    · exact zFc _ k k' e e' h hp t (.inl rfl)
    · exact zFc _ k k' e e' h hp t (.inr rfl)
    · rename_i h1 h2
      split at h
      · rename_i hk; subst hk
        exact zLD _ k e e' h hp t ⟨h1, h2⟩
      · simp at h
  · rename_i b b'
    split at h
    · have hq := zE3 (w := w) b.den b'.den ‹P.underlying t = some TypeDesc.bool›
      simp only [Option.some.injEq, Prod.mk.injEq] at h; obtain ⟨rfl, rfl⟩ := h
      simp [SV.den, SV.wf, binOp, hq, BE.den, zND, pure]
    · have hq := zE3 (w := w) b.den b'.den ‹P.underlying t = some TypeDesc.bool›
      simp only [Option.some.injEq, Prod.mk.injEq] at h; obtain ⟨rfl, rfl⟩ := h
      simp [SV.den, SV.wf, binOp, hq, BE.den, zND, zKg, pure]
    · simp at h
  · rename_i xs ys
    split at h
    · simp at h
    · split at h
      · rename_i e he
        have hq : (Op.equal t (SV.den ν (.agg xs)) (SV.den ν (.agg ys))).run P w = .ok e.den w := zDT 6 he 10000 (by omega)
        simp only [SV.den] at hq
        simp only [Option.some.injEq, Prod.mk.injEq] at h; obtain ⟨rfl, rfl⟩ := h
        simp [SV.den, SV.wf, binOp, hq, BE.den, pure]
      · rename_i e he
        have hq : (Op.equal t (SV.den ν (.agg xs)) (SV.den ν (.agg ys))).run P w = .ok e.den w := zDT 6 he 10000 (by omega)
        simp only [SV.den] at hq
        simp only [Option.some.injEq, Prod.mk.injEq] at h; obtain ⟨rfl, rfl⟩ := h
        simp [SV.den, SV.wf, binOp, hq, BE.den, zKg, pure]
      · simp at h
  · simp at h
theorem zMb {op : BinOp} {t : TypeId} {x y : SV} {p : Option BE} {v : SV} (h : zP9 P op t x y = some (p, v)) (a b : Operand) :
    (eqGuard op t a b (x.den ν) (y.den ν)).run P w = .ok () w := by
  unfold zP9 at h
  split at h
  · unfold eqGuard; simp only [SV.den]
    cases op <;> simp [Sem.run, pure]
  · unfold eqGuard; simp only [SV.den]
    cases op <;> simp [Sem.run, pure]
  · split at h
    · simp at h
    · rename_i hq
      unfold eqGuard; simp only [SV.den]
      cases op <;> simp [Sem.run, pure, program, hq]
  · simp at h
theorem zO0 {op : UnOp} {x v : SV} (h : sxUn op x = some v) : (Op.unary op (x.den ν)).run P w = .ok (v.den ν) w /\ v.wf n := by
  unfold sxUn at h
  split at h <;> simp at h <;> subst h <;>
    simp [SV.den, SV.wf, Op.unary, Op.intArith, Op.intBits, IE.den, zBf, zAy, BE.den, zKg, Sem.run, pure]
theorem zAZ {t : TypeId} {z : SV} (h : zBA P t = some z) : (zeroValue t).run P w = .ok (z.den ν) w /\ z.wf n := by
  unfold zBA at h
  split at h
  · rename_i i hi
    split at h
    · rename_i v hv
      obtain ⟨h1, h2⟩ := zCY ν n h
      exact ⟨by simp [zeroValue, typeInfo, program, Sem.run, hi, hv, h1, pure], h2⟩
    · simp at h
  · simp at h
theorem zE7 {t : TypeId} (h : zHZ P t = true) : ∃ d, P.underlying t = some d /\ ∀ ms, d ≠ .interface ms := by
  unfold zHZ at h
  split at h
  · simp at h
  · rename_i d hn hd
    exact ⟨_, hd, fun ms hm => hn ms hm⟩
  · simp at h
theorem zI3 {x v : SV} {xt asserted : TypeId} {ok : Bool} (h : zKC P x asserted ok = some v) (hx : x.wf n) :
    (Instr.typeAssert (x.den ν) xt asserted ok).run P w = .ok (v.den ν) w /\ v.wf n := by
  unfold zKC at h
  split at h
  · rename_i hc
    obtain ⟨d, hd, hni⟩ := zE7 hc
    have hu : (underlying asserted).run P w = .ok d w := by simp [underlying, program, Sem.run, hd, pure]
    split at h
    · rename_i t u
      simp only [SV.wf] at hx
      by_cases ht : t = asserted
      · rw [if_pos ht] at h
        simp only [Option.some.injEq] at h
        subst ht; subst h
        cases ok <;> cases d <;> first | exact absurd rfl (hni _) | simp [Instr.typeAssert, SV.den, SV.denL, hu, Sem.run, pure, BE.den, SV.wf, SV.wfL, hx]
      · rw [if_neg ht] at h
        cases ok
        · simp at h
        · simp only [if_true, Option.map_eq_some_iff] at h
          obtain ⟨z, hz, rfl⟩ := h
          obtain ⟨z1, z2⟩ := zAZ (ν := ν) (n := n) (w := w) hz
          cases d <;> first | exact absurd rfl (hni _) | simp [Instr.typeAssert, SV.den, SV.denL, hu, ht, z1, z2, Sem.run, pure, BE.den, SV.wf, SV.wfL]
    · cases ok
      · simp at h
      · simp only [if_true, Option.map_eq_some_iff] at h
        obtain ⟨z, hz, rfl⟩ := h
        obtain ⟨z1, z2⟩ := zAZ (ν := ν) (n := n) (w := w) hz
        cases d <;> first | exact absurd rfl (hni _) | simp [Instr.typeAssert, SV.den, SV.denL, hu, z1, z2, Sem.run, pure, BE.den, SV.wf, SV.wfL]
    · simp at h
  · simp at h
theorem zJ9 {s : TypeId} {x v : SV} {f : Nat} (h : zMY P s x f = some v) (hx : x.wf n) :
    (Instr.fieldAt s (x.den ν) f).run P w = .ok (v.den ν) w /\ v.wf n := by
  unfold zMY at h
  split at h
  · rename_i fs o off hu
    split at h
    · rename_i fd hf
      split at h
      · rename_i i hi
        by_cases h0 : i.size = 0
        · simp [h0] at h
        · rw [if_neg h0] at h
          simp only [Option.some.injEq] at h; subst h
          refine ⟨?_, by simpa [SV.wf] using hx⟩
          simp [Instr.fieldAt, underlying, program, hu, hf, SV.den, Instr.sureAddr, fieldPlace, sizeOf, typeInfo, hi, h0, Sem.run, pure]
      · simp at h
    · simp at h
  · simp at h
theorem zI1 {s : TypeId} {x v : SV} {f : Nat} (h : zKA P s x f = some v) (hx : x.wf n) :
    (Instr.field s (x.den ν) f).run P w = .ok (v.den ν) w /\ v.wf n := by
  unfold zKA at h
  split at h
  · rename_i fs cs hu
    split at h
    · rename_i fd hf
      simp only [SV.wf] at hx
      obtain ⟨h1, h2⟩ := zEi (ν := ν) (w := w) h hx
      exact ⟨by simp [Instr.field, underlying, program, hu, hf, SV.den, asAgg, h1, Sem.run, pure], h2⟩
    · simp at h
  · simp at h
theorem zGL {t : TypeId} {x ix v : SV} (h : zFB P t x ix = some v) (hx : x.wf n) :
    (Instr.indexAt t (x.den ν) (ix.den ν)).run P w = .ok (v.den ν) w /\ v.wf n := by
  unfold zFB at h
  split at h
  · rename_i e o off len cap k i hu
    split at h
    · rename_i inf hi
      by_cases hr : 0 <= i /\ i < len
      · rw [if_pos hr] at h
        simp only [Option.some.injEq] at h; subst h
        refine ⟨?_, by simpa [SV.wf] using hx⟩
        simp [Instr.indexAt, asIntOf, underlying, program, hu, SV.den, IE.den, NE.den, hr, sizeOf, typeInfo, hi, Sem.run, pure]
      · simp [hr] at h
    · simp at h
  · rename_i len e o off k i hu
    split at h
    · rename_i inf hi
      by_cases hr : 0 <= i /\ i < len
      · rw [if_pos hr] at h
        simp only [Option.some.injEq] at h; subst h
        refine ⟨?_, by simpa [SV.wf] using hx⟩
        simp [Instr.indexAt, asIntOf, underlying, program, hu, SV.den, IE.den, hr, sizeOf, typeInfo, hi, Instr.sureAddr, Sem.run, pure]
      · simp [hr] at h
    · simp at h
  · simp at h
theorem zRb (m : NE) : m.ie.den = (m.den : Int) := by cases m <;> rfl
theorem zMX {t : TypeId} {x v : SV} (h : zU4 P t x = some v) (ts : Array TypeId) (ht : ts[0]? = some t) (rt : TypeId) :
    (Builtin.len_ ts rt #[x.den ν]).run P w = .ok (v.den ν) w /\ v.wf n := by
  unfold zU4 at h
  split at h
  · rename_i e o off len cap hu
    simp only [Option.some.injEq] at h; subst h
    simp [Builtin.len_, ht, underlying, program, hu, SV.den, goInt, zRb, Sem.run, pure, SV.wf]
  · rename_i e hu
    simp only [Option.some.injEq] at h; subst h
    simp [Builtin.len_, ht, underlying, program, hu, SV.den, goInt, IE.den, Sem.run, pure, SV.wf]
  · rename_i m e hu
    simp only [Option.some.injEq] at h; subst h
    simp [Builtin.len_, ht, underlying, program, hu, SV.den, goInt, IE.den, Sem.run, pure, SV.wf]
  · simp at h
end
end Go.Proofs.YtajcmjjgnbaahaaGreat.Sx
