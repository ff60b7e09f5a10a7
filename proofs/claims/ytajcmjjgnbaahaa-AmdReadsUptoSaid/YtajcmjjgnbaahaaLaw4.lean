/- What a law's contract gives its narrowed row ('Upto'): the law answers true where what comes in is small, and old blocks stay as they are. -/
import Derived.Test.YtajcmjjgnbaahaaLaw3
import Derived.JoinedCond
namespace Go.Proofs.Ytajcmjjgnbaahaa.LawKit
open Go Go.ChangeShapes Go.WideShapes Go.ChangeAt Go.RowKit Go.Proofs.Ytajcmjjgnbaahaa.Sx Go.Deep
set_option linter.unusedVariables false
set_option linter.unusedSimpArgs false

variable {H : Type} {enc : TypeId × Value → H} {P : Program}

theorem bulk_one (d : DataW H) : 1 ≤ Rows.uptoBulk d := by
  cases d with
  | lit l => cases l <;> simp [Rows.uptoBulk]
  | nil => simp [Rows.uptoBulk]
  | ptr d => simp [Rows.uptoBulk]
  | slice elems spare => simp [Rows.uptoBulk]
  | agg parts => simp [Rows.uptoBulk]
  | iface t d => simp [Rows.uptoBulk]
  | map entries => simp [Rows.uptoBulk]
  | held h => simp [Rows.uptoBulk]
theorem bulk_len (l : List (DataW H)) : l.length ≤ Rows.uptoBulkAll l := by
  induction l with
  | nil => simp [Rows.uptoBulkAll]
  | cons x r ih => have := bulk_one x; simp only [Rows.uptoBulkAll, List.length_cons]; omega
/-- A slice that came in has no more places than its bulk. -/
theorem bulk_slice {W : World} {t e : TypeId} {a : Option Addr} {len cap : Nat} {d : DataW H} {p : List MemPlace} (ht : P.underlying t = some (.slice e)) (h : DataW.Trod enc P W 0 (fun _ => true) true t (.slice a len cap) d p) : cap ≤ Rows.uptoBulk d := by
  obtain ⟨fuel, hf⟩ := h
  rcases open_slice ht hf with ⟨hcs, hx⟩ | ⟨a, len', cap', m, n, D, Pl, hcs, hb, hl, hm, hmm, hx, hi⟩
  · simp [Value.cells] at hcs
    omega
  · simp [Value.cells] at hcs
    obtain ⟨rfl, rfl, rfl⟩ := hcs
    simp only [if_true] at hmm
    subst hmm
    simp only [Prod.mk.injEq] at hx
    obtain ⟨rfl, _⟩ := hx
    have h1 := bulk_len ((List.range len).map D)
    have h2 := bulk_len ((List.range (m - len)).map fun j => D (len + j))
    simp only [List.length_map, List.length_range] at h1 h2
    simp only [Rows.uptoBulk]
    omega

theorem law_lifted_cond {C : Checked} {os : Os} {f : FuncId} {fn : Func} {s : ChangeSpec} {conds : List PathCond} {tb : TypeId}
    (own : ownKnob C.prog.godebug = none) (started : os.Started) (noInit : C.prog.inits.idxOf? f = none) (hfn : C.prog.funcs[f]? = some fn)
    (witness : ∃ (w : World) (tape : Tape) (i : Input), w.os = os ∧ (w.forCall tape i).Shaped C.prog ∧ i.vars = [] ∧ Input.okWide C.prog (w.forCall tape i) .any w.heap.size f i ∧
      (Rows.OpenSpec.upto s).pre6 enc C.prog fn conds false (w.forCall tape i).memory i.args ∧ Assume.holds {} C.prog (lone (Frame.enter C.prog f i.args .normal) [] (w.forCall tape i)))
    (lo : laidOutB C.prog = true) (hv : s.vars = []) (hpar : fn.params.toList.all (fun t => C.prog.readableRec t && decide (t < C.prog.types.size)) = true)
    (hres : fn.resultTypes = #[tb]) (htb : C.prog.underlying tb = some .bool)
    (hs : ∀ ds : List (DataW H), ds.length = fn.params.toList.length → s.fn H ds = { results := [.lit (.bool true)], args := ds })
    (contract : ∀ (W : World) (base : Nat) (args : Array Value) (ds : List (DataW H)) (p : List MemPlace),
      (∀ (j : Nat) t v, fn.params[j]? = some t → args[j]? = some v → Value.okWide C.prog W .any base t v) →
      DataW.TrodAll enc C.prog W 0 (fun _ => true) true fn.params.toList args.toList ds p →
      Rows.uptoBulkAll ds ≤ 1048576 →
      Calls C.prog f args W fun e W' => e = .returned (.bool true) ∧ Below W.heap.size W W') (F : Stop.Interp) :
    ReturnsInHanded {} C os f .any ((Rows.OpenSpec.upto s).pre6 enc C.prog fn conds false) (((Rows.OpenSpec.upto s).at F).post enc C.prog fn false true false false) := by
  refine returnsInHanded_of_cond (s := Rows.OpenSpec.upto s) (k := Rows.uptoSmall) rfl own started noInit hfn witness ?_
  intro W base args ds gs before hval hW hcnd hk _
  have hW0 : DataW.Whole enc C.prog fn.params.toList s.vars false W args.toList ds gs before := hW
  have hW' := hW0
  obtain ⟨p, q, hA0, hV, rfl, hfz, hnd⟩ := hW0
  have hA : DataW.TrodAll enc C.prog W 0 (fun _ => true) true fn.params.toList args.toList ds p := hA0
  rw [hv] at hV
  obtain ⟨rfl, rfl⟩ := trodVars_none hV
  rw [List.append_nil] at hk
  have hbk : Rows.uptoBulkAll ds ≤ 1048576 := of_decide_eq_true hk
  refine (contract W base args ds p hval hA hbk).mono fun e W' ⟨he, bel⟩ => ?_
  subst he
  have hf : ((Rows.OpenSpec.upto s).at F).fn H ds = { results := [.lit (.bool true)], args := ds } := hs ds (trodAll_length hA)
  have hvv : ((Rows.OpenSpec.upto s).at F).vars = [] := hv
  refine ⟨_, rfl, ds, [], p ++ [], [], p, [], hW', ?_, ?_, ?_, bel.frame _, fun h => by cases h⟩
  · rw [List.append_nil, hf, hres]
    exact trodAll_mk1 (shut_bool htb _)
  · rw [List.append_nil, hf]
    refine trodAll_below lo bel (fun t ht => ?_) hA
    have := List.all_eq_true.1 hpar t ht
    simpa using this
  · rw [hvv]
    simp only [List.append_nil]
    rw [hf]; rfl

/-- Two rows that came in. -/
theorem sat_rows2 {W : World} {p q : Pl} {cols cols' : List Col} {n n' : NE} (h : RowSat (fun b => b < W.heap.size) p W false true cols n.den) (h' : RowSat (fun b => b < W.heap.size) q W false true cols' n'.den) :
    SatHp (fun b => b < W.heap.size) (fun o => bif Nat.beq o 0 then p else q) [.row false true cols n, .row false true cols' n'] W := by
  refine ⟨fun o x hx => ?_, fun o o' ho => ?_⟩
  · match o, hx with
    | 0, hx => simp at hx; subst hx; exact h
    | 1, hx => simp at hx; subst hx; exact h'
    | o + 2, hx => simp at hx
  · obtain ⟨x, hx, hw⟩ := ho
    match o, hx with
    | 0, hx => simp at hx; subst hx; simp [SObj.owns] at hw
    | 1, hx => simp at hx; subst hx; simp [SObj.owns] at hw
    | o + 2, hx => simp at hx

end Go.Proofs.Ytajcmjjgnbaahaa.LawKit
