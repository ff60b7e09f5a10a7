/- What the reader's small methods do: a byte, the byte ahead, a register's high bit. -/
import Derived.Test.YtajcmjjgnbaahaaGreatSxc
import Derived.Test.YtajcmjjgnbaahaaGreatChecked
import Derived.Test.YtajcmjjgnbaahaaGreatAp1
import Derived.KernelRfl
set_option linter.unusedVariables false
set_option linter.unusedSimpArgs false
namespace Go.Proofs.YtajcmjjgnbaahaaGreat.Sx
open Go Go.RowKit
def zG5 (vs : List SV) (U : Nat -> Int) (e : Nat) : IE :=
 match vs[e]? with
 | some (.int _ a) => a
 | _ => .var (U e)
def zVg (v : SV) (hp : List SObj) (K : SV -> List SObj -> Prop) : Prop :=
 match v with
 | .tuple (.sliceG o 1 0 len :: r) =>
  match hp[o]? with
  | some (.grown 1 (.int k a :: vs)) =>
   if len = vs.length + 1 /\ zEw [] r = true then
    ∀ (cap : Nat) (U : Nat -> Int), len <= cap -> cap <= 9223372036854775807 ->
     K (.tuple (.sliceE false o 1 (.lit 0) (.lit len) (.var cap) :: r)) (zS hp o (.row true false [.int k (zG5 (.int k a :: vs) U)] (.var cap)))
   else zF 210
  | _ => zF 211
 | v => K v hp
def zYM (s : zl) : zl := fun args hp K => s args hp fun v hp => zVg v hp K
theorem zVf {P : Program} {f : FuncId} {s : zl} (hs : zZ P f s) : zZ P f (zYM s) := by
 intro B ν hp w args K h1 h2 h3 hx
 refine (hs B ν hp w args _ h1 h2 h3 hx).mono ?_
 rintro e w' ⟨ν', v, hp', a, b, c, d, s, k, hk⟩
 unfold zVg at hk
 split at hk
 ·rename_i o len r
  split at hk
  ·rename_i kk a0 vs ho
   split at hk
   ·rename_i hc
    obtain ⟨rfl, hr⟩ := hc
    obtain ⟨hB, g, hwv⟩ := s.obj o _ ho
    have hle := g.le
    rw [zJ, List.length_cons, Nat.mul_one] at hle
    have hlike := g.like rfl kk a0.den (by simp [SV.denL, SV.den])
    let U : Nat -> Int := fun e => match w'.cell? ⟨(ν' o).blk, e, none⟩ with | some (.int _ n) => n | _ => 0
    have hrow : zAN B ν' (Live hp') w' o (.row true false [.int kk (zG5 (.int kk a0 :: vs) U)] (.var (ν' o).off)) := by
     refine ⟨fun h => (by simp at h), fun _ _ => ⟨hB, g.lt⟩, fun _ h => (by cases h), fun e he j c hj => ?_, fun _ e he j hj => ?_⟩
     ·cases j with
      | succ j => simp at hj
      | zero =>
       simp only [List.getElem?_cons_zero, Option.some.injEq] at hj; subst hj
       obtain ⟨m, hm⟩ := hlike e he
       refine ⟨.int kk m, by simpa [Pl.base] using hm, rfl, ?_⟩
       simp only [Col.den, zG5]
       have hcell : ∀ u, (SV.int kk a0 :: vs)[e]? = some u -> u.den ν' = .int kk m := fun u hu => by
        have := g.cell e (u.den ν') (by rw [zX, List.getElem?_map, hu]; rfl)
        rw [hm] at this
        exact (Option.some.inj this).symm
       split
       ·rename_i k' a' hu
        have := hcell _ hu
        simp only [SV.den, Value.int.injEq] at this
        rw [this.2]
       ·simp only [IE.den, U, hm]
     ·have hj0 : j = 0 := by simpa using hj
      subst hj0
      simpa [Pl.base] using g.thawed e (by rw [Nat.mul_one]; exact he)
    obtain ⟨s1, s2⟩ := zMh s (y := .row true false [.int kk (zG5 (.int kk a0 :: vs) U)] (.var (ν' o).off)) (w' := w') ho rfl rfl rfl (Nat.le_refl _) (fun _ _ => rfl) (fun hl => hrow)
    refine ⟨ν', _, _, fun o' ho' => s2 o' (a o' ho'), b, ?_, ?_, s1, k, hk (ν' o).off U hle g.small⟩
    ·rw [c]
     simp [SV.den, SV.denL, Pl.base, NE.den]
    ·have hwr : SV.wfL (fun _ => False) r := zF6 hr
     exact ⟨s2 o ⟨_, ho, rfl⟩, zj (fun _ h => h.elim) _ hwr⟩
   ·exact zC hk
  ·exact zC hk
 ·exact ⟨ν', v, hp', a, b, c, d, s, k, hk⟩
end Go.Proofs.YtajcmjjgnbaahaaGreat.Sx
namespace Go.Proofs.YtajcmjjgnbaahaaGreat.Amd
open Go Go.Proofs.YtajcmjjgnbaahaaGreat.Sx Go.RowKit
noncomputable abbrev P := Go.Proofs.Tryz.prog
noncomputable def A0 : FuncId -> Option Cal := inl P (fun _ _ => 40) (fun _ => none) 6
theorem zK7 : zO P A0 := zAh none_ok 6
theorem zBU {v : SV} {k : Nat} (h : v.wf fun _ => False) : zSN (fun _ => v) k :=
 ⟨fun _ _ _ _ _ => zGH _ _ h, fun _ _ _ => zDf (fun _ h => h.elim) _ h⟩
theorem zFv : ∀ {ks : List ArgK} {ins : Ins}, zMO ks ins -> (∀ sz zs, ArgK.rows sz zs ∉ ks) -> ins = []
 | [], [], _, _ => rfl
 | .plain :: ks, ins, h, hn => zFv (ks := ks) (ins := ins) h fun sz zs hm => hn sz zs (List.mem_cons_of_mem _ hm)
 | .held :: ks, ins, h, hn => zFv (ks := ks) (ins := ins) h fun sz zs hm => hn sz zs (List.mem_cons_of_mem _ hm)
 | .rows sz zs :: ks, ins, h, hn => absurd (List.mem_cons_self ..) (hn sz zs)
theorem zG {P : Program} {f : FuncId} {c : Cal} {l : List (FuncId × Cal)} (h : zNN P f c) (hl : zO P (zx l)) : zO P (zx ((f, c) :: l)) := by
 intro g c' hg
 unfold zx at hg
 split at hg
 ·rename_i e; subst e; simp only [Option.some.injEq] at hg; subst hg; exact h
 ·exact hl g c' hg
structure zAD (g : Nat -> Int) (len cap : Nat) (pos p : Int) : Prop where
 room : len <= cap
 small : len <= 4611686018427387904
 pos0 : 0 <= pos
 pos1 : pos <= len
 p0 : 0 <= p
 p1 : p < 16
 byte : ∀ i, i < len -> 0 <= g i /\ g i < 256
def col8 (g : Nat -> Int) : Col := .int .u8 fun e => .var (g e)
def colG (cs : List Col) (i : Nat) : Int :=
 match cs with
 | [.int _ h] => (h i).den
 | _ => 0
abbrev rdTy : TypeId := 153
def rdRow (g : Nat -> Int) (cap : Nat) : SObj := .row false true [col8 g] (.var cap)
def zAu (len cap : Nat) (a p : Int) (b : Bool) : SObj := .cells [.sliceE true 0 1 (.lit 0) (.var len) (.var cap), .int .i64 (.var a), .int .u8 (.var p), .bool (.var b)] rdTy
def zKX (g : Nat -> Int) (len cap : Nat) (p : Int) (v' : SV) (a' : Int) (b' : Bool) : SV -> List SObj -> Prop := fun v hp => zA8 2 1 { tmps := [v], hp := hp } [(0, v')] [rdRow g cap, zAu len cap a' p b']
theorem zVz (g : Nat -> Int) (len cap : Nat) (a p : Int) (b : Bool) (v' a' : Int) (b' : Bool) : zH P A0 (fun _ => 40) Tryz.f75 [.ptr 1 0] [rdRow g cap, zAu len cap a p b] (zKX g len cap p (.int .u8 (.var v')) a' b') =
  ((BE.den (.cmp .geq (.var a) (.var (↑len : Int))) = true -> 0 = v' /\ len = len /\ cap = cap /\ a = a' /\ p = p /\ BE.den (.lit true) = b' /\ cap = cap /\ (∀ (e : Nat), e < cap -> g e = g e) /\ True) /\ (BE.den (.cmp .geq (.var a) (.var (↑len : Int))) = false -> BE.den (.ite (.var (decide (len <= cap /\ 0 + cap <= cap))) (.var (decide (0 <= IE.den (.sub .i64 (.add .i64 (.var a) (.lit 1)) (.lit 1)) /\ IE.den (.sub .i64 (.add .i64 (.var a) (.lit 1)) (.lit 1)) < (↑len : Int)))) (.lit false)) = true /\ decide (0 + Int.toNat (IE.den (.sub .i64 (.add .i64 (.var a) (.lit 1)) (.lit 1))) + 1 <= cap) = true /\ g (0 + Int.toNat (IE.den (.sub .i64 (.add .i64 (.var a) (.lit 1)) (.lit 1)))) = v' /\ len = len /\ cap = cap /\ IE.den (.add .i64 (.var a) (.lit 1)) = a' /\ p = p /\ b = b' /\ cap = cap /\ (∀ (e : Nat), e < cap -> g e = g e) /\ True)) := by kernel_rfl
theorem zUA (g : Nat -> Int) (len cap : Nat) (a p : Int) (b : Bool) (v' a' : Int) (b' : Bool) : zH P A0 (fun _ => 40) Tryz.f77 [.ptr 1 0] [rdRow g cap, zAu len cap a p b] (zKX g len cap p (.int .u8 (.var v')) a' b') =
  ((BE.den (.cmp .geq (.var a) (.var (↑len : Int))) = true -> 0 = v' /\ len = len /\ cap = cap /\ a = a' /\ p = p /\ b = b' /\ cap = cap /\ (∀ (e : Nat), e < cap -> g e = g e) /\ True) /\ (BE.den (.cmp .geq (.var a) (.var (↑len : Int))) = false -> BE.den (.ite (.var (decide (len <= cap /\ 0 + cap <= cap))) (.var (decide (0 <= a /\ a < (↑len : Int)))) (.lit false)) = true /\ decide (0 + Int.toNat a + 1 <= cap) = true /\ g (0 + Int.toNat a) = v' /\ len = len /\ cap = cap /\ a = a' /\ p = p /\ b = b' /\ cap = cap /\ (∀ (e : Nat), e < cap -> g e = g e) /\ True)) := by kernel_rfl
theorem zWZ (g : Nat -> Int) (len cap : Nat) (a p : Int) (b : Bool) (bit v' a' : Int) (b' : Bool) : zH P A0 (fun _ => 40) Tryz.f94 [.ptr 1 0, .int .u8 (.var bit)] [rdRow g cap, zAu len cap a p b] (zKX g len cap p (.int .i64 (.var v')) a' b') =
  ((BE.den (.cmp .neq (.bits .and .u8 (.var p) (.var bit)) (.lit 0)) = true -> 8 = v' /\ len = len /\ cap = cap /\ a = a' /\ p = p /\ b = b' /\ cap = cap /\ (∀ (e : Nat), e < cap -> g e = g e) /\ True) /\ (BE.den (.cmp .neq (.bits .and .u8 (.var p) (.var bit)) (.lit 0)) = false -> 0 = v' /\ len = len /\ cap = cap /\ a = a' /\ p = p /\ b = b' /\ cap = cap /\ (∀ (e : Nat), e < cap -> g e = g e) /\ True)) := by kernel_rfl
def zz1 : List Col := [.int .u8 fun _ => .var 0]
def rdK : List ArgK := [.rows 1 zz1, .plain, .plain, .plain]
abbrev RdF (β α : Type) := (Nat -> Int) -> Nat -> Int -> Int -> Bool -> β -> α
def zH6 {β : Type} (ar : List SV -> Option β) : Ins -> List SV -> Ins -> List SV -> Prop := fun ins pl _ pl' => match ins, pl with
 | [(cs, len, cap)], [.int .i64 a, .int .u8 p, .bool _] => (∃ g : Nat -> Int, cs = [.int .u8 fun e => .var (g e)]) /\ zAD (colG cs) len cap a.den p.den /\ match ar pl' with | some _ => True | none => False
 | _, _ => False
def zBm {β : Type} (ar : List SV -> Option β) (val : RdF β SV) (cells : RdF β (List SV)) : Ins -> List SV -> Ins -> List SV -> List Out := fun ins pl _ pl' => match ins, pl with
 | [(cs, len, cap)], [.int .i64 a, .int .u8 p, .bool b] => (match ar pl' with
  | some x => [.one (fun _ => val (colG cs) len a.den p.den b.den x) [] (cells (colG cs) len a.den p.den b.den x)]
  | none => [])
 | _, _ => []
def rdCs (a p : Int) (b : Bool) : List SV := [.int .i64 (.var a), .int .u8 (.var p), .bool (.var b)]
theorem zTG {β : Type} {ar : List SV -> Option β} {ins : Ins} {pl : List SV} {ins' : Ins} {pl' : List SV} (h : zH6 ar ins pl ins' pl') :
  ∃ (g : Nat -> Int) (len cap : Nat) (a p : IE) (b : BE) (x : β), ins = [([.int .u8 fun e => .var (g e)], len, cap)] /\ pl = [.int .i64 a, .int .u8 p, .bool b] /\ zAD g len cap a.den p.den /\ ar pl' = some x := by
 unfold zH6 at h
 split at h
 ·obtain ⟨⟨g, rfl⟩, h2, h3⟩ := h
  split at h3
  ·rename_i x hx
   exact ⟨g, _, _, _, _, _, x, rfl, rfl, h2, hx⟩
  ·exact h3.elim
 ·exact h.elim
theorem zCH {β : Type} {f : FuncId} {s : zl} (hs : zZ P f s) {shape : List ArgK} (hsh : ∀ sz zs, ArgK.rows sz zs ∉ shape) {ar : List SV -> Option β} {arS : β -> List SV} (har : ∀ pl x, ar pl = some x -> zW shape [] pl [] 1 = arS x)
  {val : RdF β SV} {posF : RdF β Int} {badF : RdF β Bool} {cells : RdF β (List SV)} (hv : ∀ g len a p b x, (val g len a p b x).wf fun _ => False) (hc : ∀ g len a p b x, cells g len a p b x = rdCs (posF g len a p b x) p (badF g len a p b x))
  (h : ∀ (g : Nat -> Int) (len cap : Nat) (a p : Int) (b : Bool) (x : β), zAD g len cap a p -> s (.ptr 1 0 :: arS x) [rdRow g cap, zAu len cap a p b] (zKX g len cap p (val g len a p b x) (posF g len a p b x) (badF g len a p b x))) :
  zZ P f (zC9 rdTy rdK shape (zH6 ar) (zBm ar val cells)) := by
 refine zYa hs (fun sz zs hm => ?_) ?_ ?_
 ·rcases List.mem_append.1 hm with hm | hm
  ·simp [rdK] at hm; obtain ⟨rfl, rfl⟩ := hm; rfl
  ·exact absurd hm (hsh sz zs)
 ·intro ins pl ins' pl' o ho
  unfold zBm at ho
  split at ho
  ·split at ho
   ·simp only [List.mem_singleton] at ho; subst ho
    exact ⟨zBU (hv _ _ _ _ _ _), rfl, by rw [hc]; simp [rdCs, SV.wf, SV.wfL]⟩
   ·simp at ho
  ·simp at ho
 ·intro ins pl ins' pl' u hi hi' hu hw hw' hp
  obtain ⟨g, len, cap, a, p, b, x, rfl, rfl, hg, hx⟩ := zTG hp
  have e2 : ins' = [] := zFv hi' hsh
  subst e2
  have hr := h g len cap a.den p.den b.den x hg
  rw [<- har pl' x hx] at hr
  have ho : zBm ar val cells [([.int .u8 fun e => .var (g e)], len, cap)] [.int .i64 a, .int .u8 p, .bool b] [] pl' =
    [.one (fun _ => val g len a.den p.den b.den x) [] (cells g len a.den p.den b.den x)] := by
   show (match ar pl' with | some x => _ | none => _) = _
   rw [hx]; rfl
  rw [ho, hc]
  exact hr
def nxV (g : Nat -> Int) (len : Nat) (a : Int) : Int := if a < len then g a.toNat else 0
def nxA (len : Nat) (a : Int) : Int := if a < len then a + 1 else a
def nxB (len : Nat) (a : Int) (b : Bool) : Bool := b || decide ((len : Int) <= a)
def hiV (p bit : Int) : Int := if zAy .and .u8 p bit = 0 then 0 else 8
def arU : List SV -> Option Unit
 | [] => some ()
 | _ => none
def ar8 : List SV -> Option Int
 | [.int .u8 e] => some e.den
 | _ => none
theorem zW6 (pl : List SV) (x : Unit) (h : arU pl = some x) : zW [] [] pl [] 1 = [] := by
 cases pl <;> rfl
theorem zT6 (pl : List SV) (x : Int) (h : ar8 pl = some x) : zW [.plain] [] pl [] 1 = [.int .u8 (.var x)] := by
 unfold ar8 at h
 split at h
 ·simp only [Option.some.injEq] at h; subst h; rfl
 ·simp at h
theorem zOZ {x y : Int} (h : BE.den (.cmp .geq (.var x) (.var y)) = true) : y <= x := by simpa [BE.den, IE.den, zAG] using h
theorem zL1 {x y : Int} (h : BE.den (.cmp .geq (.var x) (.var y)) = false) : x < y := by simpa [BE.den, IE.den, zAG] using h
theorem zAl {a b : Bool} (ha : a = true) (hb : b = true) : BE.den (.ite (.var a) (.var b) (.lit false)) = true := by simp [BE.den, ha, hb]
abbrev zV0 : zl := zC9 rdTy rdK [] (zH6 arU) (zBm arU (fun g len a _ _ _ => .int .u8 (.var (nxV g len a))) (fun _ len a p b _ => rdCs (nxA len a) p (nxB len a b)))
abbrev zYY : zEz := zEL rdTy rdK [] (zBm arU (fun g len a _ _ _ => .int .u8 (.var (nxV g len a))) (fun _ len a p b _ => rdCs (nxA len a) p (nxB len a b)))
theorem zQ4 : zZ P 75 zV0 := by
 have hs := zN (un := fun _ => 40) zK7 Tryz.func75
 refine zCH hs (by simp) (arS := fun _ => []) zW6 (posF := fun _ len a _ _ _ => nxA len a) (badF := fun _ len a _ b _ => nxB len a b) (fun _ _ _ _ _ _ => trivial) (fun _ _ _ _ _ _ => rfl) ?_
 intro g len cap a p b x hg
 rw [zVz]
 have h0 := hg.pos0
 have h1 := hg.pos1
 have h2 := hg.small
 have h3 := hg.room
 refine ⟨fun h => ?_, fun h => ?_⟩
 ·have := zOZ h
  exact ⟨by simp [nxV]; omega, rfl, rfl, by simp [nxA]; omega, rfl, by simp [nxB, BE.den]; omega, rfl, fun _ _ => rfl, trivial⟩
 ·have := zL1 h
  have e1 : IE.den (.add .i64 (.var a) (.lit 1)) = a + 1 := by
   simp only [IE.den]; exact zE (by omega) (by omega)
  have e2 : IE.den (.sub .i64 (.add .i64 (.var a) (.lit 1)) (.lit 1)) = a := by
   simp only [IE.den] at e1 ⊢
   rw [e1, zE (by omega) (by omega)]; omega
  rw [e2, e1]
  exact ⟨zAl (by simp; omega) (by simp; omega), by simp; omega, by simp [nxV]; omega, rfl, rfl, by simp [nxA]; omega, rfl, by simp [nxB]; omega, rfl, fun _ _ => rfl, trivial⟩
abbrev zSK : zl := zC9 rdTy rdK [] (zH6 arU) (zBm arU (fun g len a _ _ _ => .int .u8 (.var (nxV g len a))) (fun _ _ a p b _ => rdCs a p b))
abbrev zUi : zEz := zEL rdTy rdK [] (zBm arU (fun g len a _ _ _ => .int .u8 (.var (nxV g len a))) (fun _ _ a p b _ => rdCs a p b))
theorem zOs : zZ P 77 zSK := by
 have hs := zN (un := fun _ => 40) zK7 Tryz.func77
 refine zCH hs (by simp) (arS := fun _ => []) zW6 (posF := fun _ _ a _ _ _ => a) (badF := fun _ _ _ _ b _ => b) (fun _ _ _ _ _ _ => trivial) (fun _ _ _ _ _ _ => rfl) ?_
 intro g len cap a p b x hg
 rw [zUA]
 have h0 := hg.pos0
 have h3 := hg.room
 refine ⟨fun h => ?_, fun h => ?_⟩
 ·have := zOZ h
  exact ⟨by simp [nxV]; omega, rfl, rfl, rfl, rfl, rfl, rfl, fun _ _ => rfl, trivial⟩
 ·have := zL1 h
  exact ⟨zAl (by simp; omega) (by simp; omega), by simp; omega, by simp [nxV]; omega, rfl, rfl, rfl, rfl, rfl, rfl, fun _ _ => rfl, trivial⟩
abbrev zWa : zl := zC9 rdTy rdK [.plain] (zH6 ar8) (zBm ar8 (fun _ _ _ p _ x => .int .i64 (.var (hiV p x))) (fun _ _ a p b _ => rdCs a p b))
abbrev zYs : zEz := zEL rdTy rdK [.plain] (zBm ar8 (fun _ _ _ p _ x => .int .i64 (.var (hiV p x))) (fun _ _ a p b _ => rdCs a p b))
theorem zRh : zZ P 94 zWa := by
 have hs := zN (un := fun _ => 40) zK7 Tryz.func94
 refine zCH hs (by simp) (arS := fun x => [.int .u8 (.var x)]) zT6 (posF := fun _ _ a _ _ _ => a) (badF := fun _ _ _ _ b _ => b) (fun _ _ _ _ _ _ => trivial) (fun _ _ _ _ _ _ => rfl) ?_
 intro g len cap a p b x hg
 rw [zWZ]
 refine ⟨fun h => ?_, fun h => ?_⟩
 ·have h : ¬ zAy .and .u8 p x = 0 := by simpa [BE.den, IE.den, zAd] using h
  exact ⟨by unfold hiV; rw [if_neg h], rfl, rfl, rfl, rfl, rfl, rfl, fun _ _ => rfl, trivial⟩
 ·have h : zAy .and .u8 p x = 0 := by simpa [BE.den, IE.den, zAd] using h
  exact ⟨by unfold hiV; rw [if_pos h], rfl, rfl, rfl, rfl, rfl, rfl, fun _ _ => rfl, trivial⟩
def rdT1 : List (FuncId × Cal) :=
 [(75, .spec zV0 zYY), (77, .spec zSK zUi), (94, .spec zWa zYs)]
theorem zVa : zO P (zx rdT1) :=
 zG zQ4 (zG zOs (zG zRh (fun g s h => by simp [zx] at h)))
noncomputable def R1 : FuncId -> Option Cal := inl P (fun _ _ => 40) (zx rdT1) 6
theorem zUC : zO P R1 := zAh zVa 6
end Go.Proofs.YtajcmjjgnbaahaaGreat.Amd
