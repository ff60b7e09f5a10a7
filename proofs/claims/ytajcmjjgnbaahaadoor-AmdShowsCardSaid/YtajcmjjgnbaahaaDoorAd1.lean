/- What the reader's small methods do: a byte, the byte ahead, a register's high bit. -/
import Derived.Test.YtajcmjjgnbaahaaDoorAm1
namespace Go.Proofs.YtajcmjjgnbaahaaDoor.Amd
open Go Go.Proofs.YtajcmjjgnbaahaaDoor.Sx Go.RowKit
set_option linter.unusedVariables false
set_option linter.unusedSimpArgs false

structure RGood (g : Nat → Int) (len cap : Nat) (pos p : Int) : Prop where
  room : len ≤ cap
  small : len ≤ 4611686018427387904
  pos0 : 0 ≤ pos
  pos1 : pos ≤ len
  p0 : 0 ≤ p
  p1 : p < 16
  byte : ∀ i, i < len → 0 ≤ g i ∧ g i < 256
def col8 (g : Nat → Int) : Col := .int .u8 fun e => .var (g e)
def colG (cs : List Col) (i : Nat) : Int :=
  match cs with
  | [.int _ h] => (h i).den
  | _ => 0
abbrev rdTy : TypeId := 66
def rdRow (g : Nat → Int) (cap : Nat) : SObj := .row false true [col8 g] (.var cap)
def rdCells (len cap : Nat) (a p : Int) (b : Bool) : SObj := .cells [.sliceE true 0 1 (.lit 0) (.var len) (.var cap), .int .i64 (.var a), .int .u8 (.var p), .bool (.var b)] rdTy
def rdEnd (g : Nat → Int) (len cap : Nat) (p : Int) (v' : SV) (a' : Int) (b' : Bool) : SV → List SObj → Prop := fun v hp => simAt 2 1 { tmps := [v], hp := hp } [(0, v')] [rdRow g cap, rdCells len cap a' p b']
theorem next_nf (g : Nat → Int) (len cap : Nat) (a p : Int) (b : Bool) (v' a' : Int) (b' : Bool) : sxFunc P A0 (fun _ => 40) Tryd.f31 [.ptr 1 0] [rdRow g cap, rdCells len cap a p b] (rdEnd g len cap p (.int .u8 (.var v')) a' b') =
    ((BE.den (BE.cmp BinOp.geq (IE.var a) (IE.var (↑len : Int))) = true → 0 = v' ∧ len = len ∧ cap = cap ∧ a = a' ∧ p = p ∧ BE.den (BE.lit true) = b' ∧ cap = cap ∧ (∀ (e : Nat), e < cap → g e = g e) ∧ True) ∧ (BE.den (BE.cmp BinOp.geq (IE.var a) (IE.var (↑len : Int))) = false → BE.den (BE.ite (BE.var (decide (len ≤ cap ∧ 0 + cap ≤ cap))) (BE.var (decide (0 ≤ IE.den (IE.sub IntKind.i64 (IE.add IntKind.i64 (IE.var a) (IE.lit 1)) (IE.lit 1)) ∧ IE.den (IE.sub IntKind.i64 (IE.add IntKind.i64 (IE.var a) (IE.lit 1)) (IE.lit 1)) < (↑len : Int)))) (BE.lit false)) = true ∧ decide (0 + Int.toNat (IE.den (IE.sub IntKind.i64 (IE.add IntKind.i64 (IE.var a) (IE.lit 1)) (IE.lit 1))) + 1 ≤ cap) = true ∧ g (0 + Int.toNat (IE.den (IE.sub IntKind.i64 (IE.add IntKind.i64 (IE.var a) (IE.lit 1)) (IE.lit 1)))) = v' ∧ len = len ∧ cap = cap ∧ IE.den (IE.add IntKind.i64 (IE.var a) (IE.lit 1)) = a' ∧ p = p ∧ b = b' ∧ cap = cap ∧ (∀ (e : Nat), e < cap → g e = g e) ∧ True)) := by kernel_rfl
theorem ahead_nf (g : Nat → Int) (len cap : Nat) (a p : Int) (b : Bool) (v' a' : Int) (b' : Bool) : sxFunc P A0 (fun _ => 40) Tryd.f39 [.ptr 1 0] [rdRow g cap, rdCells len cap a p b] (rdEnd g len cap p (.int .u8 (.var v')) a' b') =
    ((BE.den (BE.cmp BinOp.geq (IE.var a) (IE.var (↑len : Int))) = true → 0 = v' ∧ len = len ∧ cap = cap ∧ a = a' ∧ p = p ∧ b = b' ∧ cap = cap ∧ (∀ (e : Nat), e < cap → g e = g e) ∧ True) ∧ (BE.den (BE.cmp BinOp.geq (IE.var a) (IE.var (↑len : Int))) = false → BE.den (BE.ite (BE.var (decide (len ≤ cap ∧ 0 + cap ≤ cap))) (BE.var (decide (0 ≤ a ∧ a < (↑len : Int)))) (BE.lit false)) = true ∧ decide (0 + Int.toNat a + 1 ≤ cap) = true ∧ g (0 + Int.toNat a) = v' ∧ len = len ∧ cap = cap ∧ a = a' ∧ p = p ∧ b = b' ∧ cap = cap ∧ (∀ (e : Nat), e < cap → g e = g e) ∧ True)) := by kernel_rfl
theorem high_nf (g : Nat → Int) (len cap : Nat) (a p : Int) (b : Bool) (bit v' a' : Int) (b' : Bool) : sxFunc P A0 (fun _ => 40) Tryd.f54 [.ptr 1 0, .int .u8 (.var bit)] [rdRow g cap, rdCells len cap a p b] (rdEnd g len cap p (.int .i64 (.var v')) a' b') =
    ((BE.den (BE.cmp BinOp.neq (IE.bits BinOp.and IntKind.u8 (IE.var p) (IE.var bit)) (IE.lit 0)) = true → 8 = v' ∧ len = len ∧ cap = cap ∧ a = a' ∧ p = p ∧ b = b' ∧ cap = cap ∧ (∀ (e : Nat), e < cap → g e = g e) ∧ True) ∧ (BE.den (BE.cmp BinOp.neq (IE.bits BinOp.and IntKind.u8 (IE.var p) (IE.var bit)) (IE.lit 0)) = false → 0 = v' ∧ len = len ∧ cap = cap ∧ a = a' ∧ p = p ∧ b = b' ∧ cap = cap ∧ (∀ (e : Nat), e < cap → g e = g e) ∧ True)) := by kernel_rfl

def zz1 : List Col := [.int .u8 fun _ => .var 0]
def rdK : List ArgK := [.rows 1 zz1, .plain, .plain, .plain]
/-- By the reader's bytes, their number, its place, its prefix, its fault. -/
abbrev RdF (β α : Type) := (Nat → Int) → Nat → Int → Int → Bool → β → α
def rdPre {β : Type} (ar : List SV → Option β) : Ins → List SV → Ins → List SV → Prop := fun ins pl _ pl' => match ins, pl with
  | [(cs, len, cap)], [.int .i64 a, .int .u8 p, .bool _] => (∃ g : Nat → Int, cs = [.int .u8 fun e => .var (g e)]) ∧ RGood (colG cs) len cap a.den p.den ∧ match ar pl' with | some _ => True | none => False
  | _, _ => False
def rdOuts {β : Type} (ar : List SV → Option β) (val : RdF β SV) (cells : RdF β (List SV)) : Ins → List SV → Ins → List SV → List Out := fun ins pl _ pl' => match ins, pl with
  | [(cs, len, cap)], [.int .i64 a, .int .u8 p, .bool b] => (match ar pl' with
    | some x => [.one (fun _ => val (colG cs) len a.den p.den b.den x) [] (cells (colG cs) len a.den p.den b.den x)]
    | none => [])
  | _, _ => []
def rdCs (a p : Int) (b : Bool) : List SV := [.int .i64 (.var a), .int .u8 (.var p), .bool (.var b)]
theorem rdPre_of {β : Type} {ar : List SV → Option β} {ins : Ins} {pl : List SV} {ins' : Ins} {pl' : List SV} (h : rdPre ar ins pl ins' pl') :
    ∃ (g : Nat → Int) (len cap : Nat) (a p : IE) (b : BE) (x : β), ins = [([.int .u8 fun e => .var (g e)], len, cap)] ∧ pl = [.int .i64 a, .int .u8 p, .bool b] ∧ RGood g len cap a.den p.den ∧ ar pl' = some x := by
  unfold rdPre at h
  split at h
  · obtain ⟨⟨g, rfl⟩, h2, h3⟩ := h
    split at h3
    · rename_i x hx
      exact ⟨g, _, _, _, _, _, x, rfl, rfl, h2, hx⟩
    · exact h3.elim
  · exact h.elim
/-- A method of the reader, told. -/
theorem meth_spec {β : Type} {f : FuncId} {s : SpecFn} (hs : SpecOk P f s) {shape : List ArgK} (hsh : ∀ sz zs, ArgK.rows sz zs ∉ shape) {ar : List SV → Option β} {arS : β → List SV} (har : ∀ pl x, ar pl = some x → formalArgs shape [] pl [] 1 = arS x)
    {val : RdF β SV} {posF : RdF β Int} {badF : RdF β Bool} {cells : RdF β (List SV)} (hv : ∀ g len a p b x, (val g len a p b x).wf fun _ => False) (hc : ∀ g len a p b x, cells g len a p b x = rdCs (posF g len a p b x) p (badF g len a p b x))
    (h : ∀ (g : Nat → Int) (len cap : Nat) (a p : Int) (b : Bool) (x : β), RGood g len cap a p → s (.ptr 1 0 :: arS x) [rdRow g cap, rdCells len cap a p b] (rdEnd g len cap p (val g len a p b x) (posF g len a p b x) (badF g len a p b x))) :
    SpecOk P f (mtSpec rdTy rdK shape (rdPre ar) (rdOuts ar val cells)) := by
  refine mt_ok hs (fun sz zs hm => ?_) ?_ ?_
  · rcases List.mem_append.1 hm with hm | hm
    · simp [rdK] at hm; obtain ⟨rfl, rfl⟩ := hm; rfl
    · exact absurd hm (hsh sz zs)
  · intro ins pl ins' pl' o ho
    unfold rdOuts at ho
    split at ho
    · split at ho
      · simp only [List.mem_singleton] at ho; subst ho
        exact ⟨movable_closed (hv _ _ _ _ _ _), rfl, by rw [hc]; simp [rdCs, SV.wf, SV.wfL]⟩
      · simp at ho
    · simp at ho
  · intro ins pl ins' pl' u hi hi' hu hw hw' hp
    obtain ⟨g, len, cap, a, p, b, x, rfl, rfl, hg, hx⟩ := rdPre_of hp
    have e2 : ins' = [] := ins_plain hi' hsh
    subst e2
    have hr := h g len cap a.den p.den b.den x hg
    rw [← har pl' x hx] at hr
    have ho : rdOuts ar val cells [([.int .u8 fun e => .var (g e)], len, cap)] [.int .i64 a, .int .u8 p, .bool b] [] pl' =
        [.one (fun _ => val g len a.den p.den b.den x) [] (cells g len a.den p.den b.den x)] := by
      show (match ar pl' with | some x => _ | none => _) = _
      rw [hx]; rfl
    rw [ho, hc]
    exact hr

/-! A byte. -/
def nxV (g : Nat → Int) (len : Nat) (a : Int) : Int := if a < len then g a.toNat else 0
def nxA (len : Nat) (a : Int) : Int := if a < len then a + 1 else a
def nxB (len : Nat) (a : Int) (b : Bool) : Bool := b || decide ((len : Int) ≤ a)
def hiV (p bit : Int) : Int := if bitsI .and .u8 p bit = 0 then 0 else 8
def arU : List SV → Option Unit
  | [] => some ()
  | _ => none
def ar8 : List SV → Option Int
  | [.int .u8 e] => some e.den
  | _ => none
theorem arU_S (pl : List SV) (x : Unit) (h : arU pl = some x) : formalArgs [] [] pl [] 1 = [] := by
  cases pl <;> rfl
theorem ar8_S (pl : List SV) (x : Int) (h : ar8 pl = some x) : formalArgs [.plain] [] pl [] 1 = [.int .u8 (.var x)] := by
  unfold ar8 at h
  split at h
  · simp only [Option.some.injEq] at h; subst h; rfl
  · simp at h
theorem geq_true {x y : Int} (h : BE.den (.cmp .geq (.var x) (.var y)) = true) : y ≤ x := by simpa [BE.den, IE.den, cmpI_geq] using h
theorem geq_false {x y : Int} (h : BE.den (.cmp .geq (.var x) (.var y)) = false) : x < y := by simpa [BE.den, IE.den, cmpI_geq] using h
theorem ask_ix {a b : Bool} (ha : a = true) (hb : b = true) : BE.den (.ite (.var a) (.var b) (.lit false)) = true := by simp [BE.den, ha, hb]

abbrev nextM : SpecFn := mtSpec rdTy rdK [] (rdPre arU) (rdOuts arU (fun g len a _ _ _ => .int .u8 (.var (nxV g len a))) (fun _ len a p b _ => rdCs (nxA len a) p (nxB len a b)))
abbrev nextG : Guess := mtGuess rdTy rdK [] (rdOuts arU (fun g len a _ _ _ => .int .u8 (.var (nxV g len a))) (fun _ len a p b _ => rdCs (nxA len a) p (nxB len a b)))
theorem next_ok : SpecOk P 31 nextM := by
  have hs := func_sound (un := fun _ => 40) A0_ok Tryd.func31
  refine meth_spec hs (by simp) (arS := fun _ => []) arU_S (posF := fun _ len a _ _ _ => nxA len a) (badF := fun _ len a _ b _ => nxB len a b) (fun _ _ _ _ _ _ => trivial) (fun _ _ _ _ _ _ => rfl) ?_
  intro g len cap a p b x hg
  rw [next_nf]
  have h0 := hg.pos0
  have h1 := hg.pos1
  have h2 := hg.small
  have h3 := hg.room
  refine ⟨fun h => ?_, fun h => ?_⟩
  · have := geq_true h
    exact ⟨by simp [nxV]; omega, rfl, rfl, by simp [nxA]; omega, rfl, by simp [nxB, BE.den]; omega, rfl, fun _ _ => rfl, trivial⟩
  · have := geq_false h
    have e1 : IE.den (.add .i64 (.var a) (.lit 1)) = a + 1 := by
      simp only [IE.den]; exact wrap_i64_in (by omega) (by omega)
    have e2 : IE.den (.sub .i64 (.add .i64 (.var a) (.lit 1)) (.lit 1)) = a := by
      simp only [IE.den] at e1 ⊢
      rw [e1, wrap_i64_in (by omega) (by omega)]; omega
    rw [e2, e1]
    exact ⟨ask_ix (by simp; omega) (by simp; omega), by simp; omega, by simp [nxV]; omega, rfl, rfl, by simp [nxA]; omega, rfl, by simp [nxB]; omega, rfl, fun _ _ => rfl, trivial⟩
abbrev aheadM : SpecFn := mtSpec rdTy rdK [] (rdPre arU) (rdOuts arU (fun g len a _ _ _ => .int .u8 (.var (nxV g len a))) (fun _ _ a p b _ => rdCs a p b))
abbrev aheadG : Guess := mtGuess rdTy rdK [] (rdOuts arU (fun g len a _ _ _ => .int .u8 (.var (nxV g len a))) (fun _ _ a p b _ => rdCs a p b))
theorem ahead_ok : SpecOk P 39 aheadM := by
  have hs := func_sound (un := fun _ => 40) A0_ok Tryd.func39
  refine meth_spec hs (by simp) (arS := fun _ => []) arU_S (posF := fun _ _ a _ _ _ => a) (badF := fun _ _ _ _ b _ => b) (fun _ _ _ _ _ _ => trivial) (fun _ _ _ _ _ _ => rfl) ?_
  intro g len cap a p b x hg
  rw [ahead_nf]
  have h0 := hg.pos0
  have h3 := hg.room
  refine ⟨fun h => ?_, fun h => ?_⟩
  · have := geq_true h
    exact ⟨by simp [nxV]; omega, rfl, rfl, rfl, rfl, rfl, rfl, fun _ _ => rfl, trivial⟩
  · have := geq_false h
    exact ⟨ask_ix (by simp; omega) (by simp; omega), by simp; omega, by simp [nxV]; omega, rfl, rfl, rfl, rfl, rfl, rfl, fun _ _ => rfl, trivial⟩
abbrev highM : SpecFn := mtSpec rdTy rdK [.plain] (rdPre ar8) (rdOuts ar8 (fun _ _ _ p _ x => .int .i64 (.var (hiV p x))) (fun _ _ a p b _ => rdCs a p b))
abbrev highG : Guess := mtGuess rdTy rdK [.plain] (rdOuts ar8 (fun _ _ _ p _ x => .int .i64 (.var (hiV p x))) (fun _ _ a p b _ => rdCs a p b))
theorem high_ok : SpecOk P 54 highM := by
  have hs := func_sound (un := fun _ => 40) A0_ok Tryd.func54
  refine meth_spec hs (by simp) (arS := fun x => [.int .u8 (.var x)]) ar8_S (posF := fun _ _ a _ _ _ => a) (badF := fun _ _ _ _ b _ => b) (fun _ _ _ _ _ _ => trivial) (fun _ _ _ _ _ _ => rfl) ?_
  intro g len cap a p b x hg
  rw [high_nf]
  refine ⟨fun h => ?_, fun h => ?_⟩
  · have h : ¬ bitsI .and .u8 p x = 0 := by simpa [BE.den, IE.den, cmpI_neq] using h
    exact ⟨by unfold hiV; rw [if_neg h], rfl, rfl, rfl, rfl, rfl, rfl, fun _ _ => rfl, trivial⟩
  · have h : bitsI .and .u8 p x = 0 := by simpa [BE.den, IE.den, cmpI_neq] using h
    exact ⟨by unfold hiV; rw [if_pos h], rfl, rfl, rfl, rfl, rfl, rfl, fun _ _ => rfl, trivial⟩

def rdT1 : List (FuncId × Cal) :=
  [(31, .spec nextM nextG), (39, .spec aheadM aheadG), (54, .spec highM highG)]
theorem rdT1_ok : GammaOk P (table rdT1) :=
  table_cons next_ok (table_cons ahead_ok (table_cons high_ok (fun g s h => by simp [table] at h)))
noncomputable def R1 : FuncId → Option Cal := inl P (fun _ _ => 40) (table rdT1) 6
theorem R1_ok : GammaOk P R1 := inl_ok rdT1_ok 6

end Go.Proofs.YtajcmjjgnbaahaaDoor.Amd
