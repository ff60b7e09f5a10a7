/- What is told of instructions, their bytes and contracts, that many texts share. -/
import Derived.Test.YtajcmjjgnbaahaaDoorAd7
import Derived.Test.YtajcmjjgnbaahaaDoorSxq
namespace Go.Proofs.YtajcmjjgnbaahaaDoor.Amd
open Go Go.Proofs.YtajcmjjgnbaahaaDoor.Sx Go.RowKit
set_option linter.unusedVariables false
set_option linter.unusedSimpArgs false
def xArg (op : IE) (wide : Bool) (long : BE) (d s disp imm cc : Int) : SV := .agg [.int .i64 op, .bool (.var wide), .bool long, .int .i64 (.var d), .int .i64 (.var s), .int .i64 (.var disp), .int .i64 (.var imm), .int .i64 (.var cc)]
def encOuts (O : Nat × (Nat -> Int) -> Prop) (E : Prop) (m : Nat) (er : Int) : List Out :=
  [.any (Nat × (Nat -> Int)) O (fun c n => .tuple [.sliceE false n 1 (.lit 0) (.var m) (.var c.1), .int .i64 (.lit 0)]) (fun c => [.row true false [.int .u8 fun e => .var (c.2 e)] (.var c.1)]) (fun _ => []),
   .any Unit (fun _ => E) (fun _ _ => .tuple [.nils, .int .i64 (.var er)]) (fun _ => []) fun _ => []]
def encQ (O : Nat × (Nat -> Int) -> Prop) (E : Prop) (m : Nat) (er : Int) : SV -> List SObj -> Prop :=
  fun v hp => openK v hp fun v hp => outsE (encOuts O E m er) fun o => o.some 0 fun val new _ => simAt 0 1 { tmps := [v], hp := hp } [(0, val)] ([] ++ new)
def okLeaf (O : Nat × (Nat -> Int) -> Prop) (E : Prop) (m : Nat) (cells : List SV) : Prop :=
  ∀ (cap : Nat) (U : Nat -> Int), cells.length <= cap -> cap <= 9223372036854775807 -> (∃ b, O b /\ cells.length = m /\ cap = Prod.fst b /\ cap = Prod.fst b /\ (∀ (e : Nat), e < Prod.fst b -> IE.den (growIE cells U e) = Prod.snd b e) /\ True) ∨ ∃ (b : Unit), E /\ StuckAt 65
def erLeaf (O : Nat × (Nat -> Int) -> Prop) (E : Prop) (er e : Int) : Prop := (∃ b, O b /\ StuckAt 65) ∨ ∃ (b : Unit), E /\ e = er /\ True
structure EncO (x : AI) (c : Nat × (Nat -> Int)) : Prop where
  err : amdErr x = 0
  len : (amdBytes x).length <= c.1
  cap : c.1 <= 9223372036854775807
  cell : ∀ e, e < (amdBytes x).length -> c.2 e = (amdBytes x).getD e 0
def cellI : SV -> Int
  | .int _ e => e.den
  | _ => 0
def intB : SV -> Bool
  | .int _ _ => true
  | _ => false
theorem grow_at {cells : List SV} {U : Nat -> Int} {e : Nat} (h : e < cells.length) (hk : cells.all intB = true) : (growIE cells U e).den = (cells.map cellI).getD e 0 := by
  have hx : cells[e]? = some cells[e] := List.getElem?_eq_getElem h
  have hi : intB cells[e] = true := List.all_eq_true.1 hk _ (List.getElem_mem h)
  unfold growIE
  rw [List.getD_eq_getElem?_getD, List.getElem?_map, hx]
  cases hc : cells[e] <;> rw [hc] at hi <;> first | rfl | simp [intB] at hi
theorem er_of {x : AI} {e : Int} (h : e = amdErr x) (h0 : e ≠ 0) : erLeaf (EncO x) (amdErr x ≠ 0) (amdErr x) e := .inr ⟨(), by rw [<- h]; exact h0, h, trivial⟩
theorem ok_of {x : AI} {cells : List SV} {E : Prop} (he : amdErr x = 0) (hB : amdBytes x = cells.map cellI) (hk : cells.all intB = true) : okLeaf (EncO x) E (amdBytes x).length cells := by
  intro cap U h1 h2
  have hl : (amdBytes x).length = cells.length := by rw [hB, List.length_map]
  refine .inl ⟨(cap, fun e => (growIE cells U e).den), ⟨he, by rw [hl]; exact h1, h2, fun e h => ?_⟩, hl.symm, rfl, rfl, fun _ _ => rfl, trivial⟩
  rw [hB]; exact grow_at (by omega) hk
theorem lit_d (n : Int) : IE.den (.lit n) = n := rfl
theorem cell_d (k : IntKind) (e : IE) : cellI (.int k e) = e.den := rfl
theorem n8_d (v : Int) : IE.den (.conv .u8 (.var v)) = v % 256 := by simp only [IE.den]; exact wrap_u8 v
theorem n8s8_d (v : Int) : IE.den (.conv .u8 (.shr .i64 (.var v) (.lit 8))) = v / 256 % 256 := by
  simp only [IE.den]
  rw [show shrI .i64 v 8 = v / 2 ^ 8 from shr_ediv .i64 v 8 (by decide), wrap_u8]; rfl
theorem n8s16_d (v : Int) : IE.den (.conv .u8 (.shr .i64 (.var v) (.lit 16))) = v / 65536 % 256 := by
  simp only [IE.den]
  rw [show shrI .i64 v 16 = v / 2 ^ 16 from shr_ediv .i64 v 16 (by decide), wrap_u8]; rfl
theorem n8s24_d (v : Int) : IE.den (.conv .u8 (.shr .i64 (.var v) (.lit 24))) = v / 16777216 % 256 := by
  simp only [IE.den]
  rw [show shrI .i64 v 24 = v / 2 ^ 24 from shr_ediv .i64 v 24 (by decide), wrap_u8]; rfl
theorem d_ne (x : Int) : BE.den (.cmp .neq (.var x) (.lit 0)) = !decide (x = 0) := by simp only [BE.den, IE.den, cmpI_neq]
theorem d_num (v : Int) : BE.den (.cmp .neq (.conv .i64 (.conv .i32 (.var v))) (.var v)) = !decide (numOk v true) := by
  simp only [BE.den, IE.den, cmpI_neq]
  congr 1
  have : (IntKind.i64.wrap (IntKind.i32.wrap v) = v) = (numOk v true) := by
    unfold numOk
    simp only [if_true]
    rw [wrap_i32]
    refine propext ⟨fun h => ?_, fun h => ?_⟩
    · split at h <;> (rw [wrap_i64_in (by omega) (by omega)] at h; omega)
    · split <;> (rw [wrap_i64_in (by omega) (by omega)]; omega)
  simp only [this]
theorem d_lss (x n : Int) : BE.den (.cmp .lss (.var x) (.lit n)) = decide (x < n) := by simp only [BE.den, IE.den, cmpI_lss]
theorem d_gtr (x n : Int) : BE.den (.cmp .gtr (.var x) (.lit n)) = decide (n < x) := by simp only [BE.den, IE.den, cmpI_gtr]
theorem d_eql (x n : Int) : BE.den (.cmp .eql (.var x) (.lit n)) = decide (x = n) := by simp only [BE.den, IE.den, cmpI_eql]
theorem short_no {v : Int} (h : v < -128 ∨ 127 < v) : ¬ numOk v false := by unfold numOk; simp only [Bool.false_eq_true, if_false]; omega
theorem short_ok {v : Int} (h1 : ¬ v < -128) (h2 : ¬ 127 < v) : numOk v false := by unfold numOk; simp only [Bool.false_eq_true, if_false]; omega
def xIn (x : AI) : SV := xArg (.var x.op) x.wide (.var x.long) x.d x.s x.disp x.imm x.cc
def encPre : Ins -> List SV -> Prop := fun ins pl => match ins, pl with
  | [], [.agg [.int .i64 _, .bool _, .bool _, .int .i64 _, .int .i64 _, .int .i64 _, .int .i64 _, .int .i64 _]] => True
  | _, _ => False
def encOutsP : Ins -> List SV -> List Out := fun ins pl => match ins, pl with
  | [], [.agg [.int .i64 op, .bool w, .bool l, .int .i64 d, .int .i64 s, .int .i64 dp, .int .i64 im, .int .i64 cc]] =>
    encOuts (EncO ⟨op.den, w.den, l.den, d.den, s.den, dp.den, im.den, cc.den⟩) (amdErr ⟨op.den, w.den, l.den, d.den, s.den, dp.den, im.den, cc.den⟩ ≠ 0) (amdBytes ⟨op.den, w.den, l.den, d.den, s.den, dp.den, im.den, cc.den⟩).length (amdErr ⟨op.den, w.den, l.den, d.den, s.den, dp.den, im.den, cc.den⟩)
  | _, _ => []
theorem encPre_of {ins : Ins} {pl : List SV} (h : encPre ins pl) : ∃ (op : IE) (w l : BE) (d s dp im cc : IE), ins = [] /\ pl = [.agg [.int .i64 op, .bool w, .bool l, .int .i64 d, .int .i64 s, .int .i64 dp, .int .i64 im, .int .i64 cc]] := by
  unfold encPre at h
  split at h
  · exact ⟨_, _, _, _, _, _, _, _, rfl, rfl⟩
  · exact h.elim
theorem encOuts_good (O : Nat × (Nat -> Int) -> Prop) (E : Prop) (m : Nat) (er : Int) : ∀ o ∈ encOuts O E m er, o.good := by
  intro o ho
  unfold encOuts at ho
  simp only [List.mem_cons, List.not_mem_nil, or_false] at ho
  rcases ho with rfl | rfl
  · intro c
    refine ⟨⟨fun n m ν ν' h => ?_, fun n p h => ?_⟩, rfl, trivial⟩
    · have := h 0 (by simp)
      simp only [Nat.add_zero] at this
      simp [SV.den, SV.denL, this]
    · exact ⟨h 0 (by simp), trivial, trivial⟩
  · intro c
    exact ⟨⟨fun n m ν ν' h => rfl, fun n p h => ⟨trivial, trivial, trivial⟩⟩, rfl, trivial⟩
theorem enc_spec {f : FuncId} {s : SpecFn} (hs : SpecOk P f s)
    (h : ∀ x : AI, s [xIn x] [] (fun v hp => outsE (encOuts (EncO x) (amdErr x ≠ 0) (amdBytes x).length (amdErr x)) fun o => o.some 0 fun val new _ => simAt 0 1 { tmps := [v], hp := hp } [(0, val)] ([] ++ new))) :
    SpecOk P f (rdSpec [.plain] encPre encOutsP) := by
  refine rd_ok hs (fun sz zs h => by simp at h) ?_ ?_
  · intro ins pl o ho
    unfold encOutsP at ho
    split at ho
    · exact encOuts_good _ _ _ _ o ho
    · simp at ho
  · intro ins pl u hi hw hp
    obtain ⟨op, w, l, d, s, dp, im, cc, rfl, rfl⟩ := encPre_of hp
    exact h ⟨op.den, w.den, l.den, d.den, s.den, dp.den, im.den, cc.den⟩
theorem open_ret {s : SpecFn} {args args' : List SV} {x : AI} (e : ∀ ν, SV.denL ν args' = SV.denL ν args) (hw : ∀ n, SV.wfL n args') (h : s args' [] (encQ (EncO x) (amdErr x ≠ 0) (amdBytes x).length (amdErr x))) :
    openS (retS s) args [] (fun v hp => outsE (encOuts (EncO x) (amdErr x ≠ 0) (amdBytes x).length (amdErr x)) fun o => o.some 0 fun val new _ => simAt 0 1 { tmps := [v], hp := hp } [(0, val)] ([] ++ new)) :=
  ⟨args', e, fun _ => hw _, h⟩
theorem xArg_wf (op : IE) (w : Bool) (l : BE) (d s dp im cc : Int) (n : Nat -> Prop) : SV.wfL n [xArg op w l d s dp im cc] := ⟨⟨trivial, trivial, trivial, trivial, trivial, trivial, trivial, trivial, trivial⟩, trivial⟩
abbrev encM : SpecFn := rdSpec [.plain] encPre encOutsP
abbrev encG : Guess := rdGuess [.plain] encOutsP
theorem spec_cal {f : FuncId} {s : SpecFn} {g : Guess} (h : SpecOk P f s) : CalOk P f (.spec s g) := h
def livF : PureFn := fun args => match args with
  | [] => some (none, .bool (.lit true))
  | _ => none
theorem rowStr_eq {f f' : Nat -> Int} {n n' : Nat} (hn : n = n') (h : ∀ e, e < n -> f e = f' e) : rowStr (fun e => .var (f e)) 0 n = rowStr (fun e => .var (f' e)) 0 n' := by
  subst hn
  unfold rowStr
  congr 2
  apply List.map_congr_left
  intro i hi
  have hi : i < n := by simpa using hi
  simp [IE.den, h i hi]
def annA (α : Type) (slots : α -> List (Nat × SV)) (hp : α -> List SObj) (inv : α -> Prop) (μ : α -> Nat) : Plan :=
  .said ⟨α, slots, hp, inv, μ, 999999, Unit, fun _ => [], fun _ => [], fun _ => False⟩
theorem pfx_in (w : Bool) (r b : Int) : 0 <= pfx w r b /\ pfx w r b < 16 := ⟨(pfx_ok w r b).1, (pfx_ok w r b).2.1⟩
def yes : SV -> Prop := fun v => ∀ ν, v.den ν = .bool true
theorem blt_t {i k : Nat} (h : i < k) : Nat.blt i k = true := by simp [Nat.blt, Nat.ble_eq]; omega
theorem blt_f {i k : Nat} (h : k <= i) : Nat.blt i k = false := by
  cases hb : Nat.blt i k with
  | false => rfl
  | true => simp [Nat.blt, Nat.ble_eq] at hb; omega
theorem some_un {f : FuncId} {G : FuncId -> Option Cal} {fn : Func} (h : ∀ un, SpecOk P f (sxFunc P G un fn)) : SpecOk P f (fun args hp K => ∃ un, sxFunc P G un fn args hp K) := by
  intro B ν hp w args K h1 h2 h3 ⟨un, hx⟩
  exact h un B ν hp w args K h1 h2 h3 hx
end Go.Proofs.YtajcmjjgnbaahaaDoor.Amd
