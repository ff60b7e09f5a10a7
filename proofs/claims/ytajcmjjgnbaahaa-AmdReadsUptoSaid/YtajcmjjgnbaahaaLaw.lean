/- What a law's contract gives its row: the law answers true, and old blocks stay as they are. -/
import Derived.Test.YtajcmjjgnbaahaaRows
import Derived.WalkKit
import Derived.ProofKit
import Derived.OpenShut
import Derived.ShutString
import Derived.ChangeOld
import Derived.Below
import Derived.SizedLaws
import Derived.Carry
namespace Go.Proofs.Ytajcmjjgnbaahaa.LawKit
open Go Go.ChangeShapes Go.WideShapes Go.ChangeAt Go.RowKit
set_option linter.unusedVariables false

variable {H : Type} {enc : TypeId × Value → H} {P : Program}

theorem trodAll_below (lo : laidOutB P = true) {W W' : World} (hb : Below W.heap.size W W') : ∀ {ts : List TypeId} {vs : List Value} {ds : List (DataW H)} {p : List MemPlace},
    (∀ t ∈ ts, P.readableRec t = true ∧ t < P.types.size) → DataW.TrodAll enc P W 0 (fun _ => true) true ts vs ds p → DataW.TrodAll enc P W' 0 (fun b => decide (b < W.heap.size)) true ts vs ds p
  | [], vs, ds, p, _, h => by
    obtain ⟨rfl, rfl, rfl⟩ := trodAll_nil h
    exact trodAll_mk0
  | t :: ts, vs, ds, p, hr, h => by
    obtain ⟨v, vs', d, ds', a, b, rfl, rfl, rfl, h1, h2⟩ := trodAll_cons h
    have hlt : ∀ x ∈ a, x.block < W.heap.size := by obtain ⟨m, hm⟩ := h1; exact DataW.trod_lt m _ _ _ hm
    have h0 := hr t (List.mem_cons_self ..)
    exact trodAll_cons_mk (Below.trod lo h0.1 h0.2 h1 hb hlt) (trodAll_below lo hb (fun t ht => hr t (List.mem_cons_of_mem _ ht)) h2)

theorem trodAll_length {W : World} {base : Nat} {sp : Nat → Bool} {hd : Bool} : ∀ {ts : List TypeId} {vs : List Value} {ds : List (DataW H)} {p : List MemPlace}, DataW.TrodAll enc P W base sp hd ts vs ds p → ds.length = ts.length
  | [], vs, ds, p, h => by obtain ⟨rfl, rfl, rfl⟩ := trodAll_nil h; rfl
  | t :: ts, vs, ds, p, h => by
    obtain ⟨v, vs', d, ds', a, b, rfl, rfl, rfl, h1, h2⟩ := trodAll_cons h
    simp [trodAll_length h2]

theorem law_lifted {C : Checked} {os : Os} {f : FuncId} {fn : Func} {s : ChangeSpec} {conds : List PathCond} {tb : TypeId}
    (own : ownKnob C.prog.godebug = none) (started : os.Started) (noInit : C.prog.inits.idxOf? f = none) (hfn : C.prog.funcs[f]? = some fn)
    (witness : ∃ (w : World) (tape : Tape) (i : Input), w.os = os ∧ (w.forCall tape i).Shaped C.prog ∧ i.vars = [] ∧ Input.okWide C.prog (w.forCall tape i) .any w.heap.size f i ∧
      s.pre6 enc C.prog fn conds false (w.forCall tape i).memory i.args ∧ Assume.holds {} C.prog (lone (Frame.enter C.prog f i.args .normal) [] (w.forCall tape i)))
    (lo : laidOutB C.prog = true) (hv : s.vars = []) (hpar : fn.params.toList.all (fun t => C.prog.readableRec t && decide (t < C.prog.types.size)) = true)
    (hres : fn.resultTypes = #[tb]) (htb : C.prog.underlying tb = some .bool)
    (hs : ∀ ds : List (DataW H), ds.length = fn.params.toList.length → s.fn H ds = { results := [.lit (.bool true)], args := ds })
    (contract : ∀ (W : World) (base : Nat) (args : Array Value) (ds : List (DataW H)) (p : List MemPlace),
      (∀ (j : Nat) t v, fn.params[j]? = some t → args[j]? = some v → Value.okWide C.prog W .any base t v) →
      DataW.TrodAll enc C.prog W 0 (fun _ => true) true fn.params.toList args.toList ds p →
      (DataW.weightsEach C.prog fn.params.toList ds).all (· ≤ reachBytes) = true →
      Calls C.prog f args W fun e W' => e = .returned (.bool true) ∧ Below W.heap.size W W') :
    ReturnsInHanded {} C os f .any (s.pre6 enc C.prog fn conds false) (s.post enc C.prog fn false true false false) := by
  refine returnsInHanded_of_change_sized own started noInit hfn witness ?_
  intro W base args ds gs before hval hW hcnd hsz _
  have hW' := hW
  obtain ⟨p, q, hA0, hV, rfl, hfz, hnd⟩ := hW
  have hA : DataW.TrodAll enc C.prog W 0 (fun _ => true) true fn.params.toList args.toList ds p := hA0
  rw [hv] at hV
  obtain ⟨rfl, rfl⟩ := trodVars_none hV
  have hvt : s.plain.varTypes C.prog = [] := by
    unfold DataSpec.varTypes
    have : s.plain.vars = [] := hv
    simp [this]
  rw [hvt, List.append_nil, List.append_nil] at hsz
  refine (contract W base args ds p hval hA hsz).mono fun e W' ⟨he, bel⟩ => ?_
  subst he
  have hf := hs ds (trodAll_length hA)
  refine ⟨_, rfl, ds, [], p ++ [], [], p, [], hW', ?_, ?_, ?_, bel.frame _, fun h => by cases h⟩
  · rw [List.append_nil, hf, hres]
    exact trodAll_mk1 (shut_bool htb _)
  · rw [List.append_nil, hf]
    refine trodAll_below lo bel (fun t ht => ?_) hA
    have := List.all_eq_true.1 hpar t ht
    simpa using this
  · rw [hv]
    simp only [List.append_nil]
    rw [hf]; rfl

def intOf : Value → Int
  | .int _ n => n
  | _ => 0

theorem okWide_int {W : World} {base : Nat} {t : TypeId} {k : IntKind} {v : Value} (ht : P.underlying t = some (.int k)) (h : Cell.okWide P W .any base t v) : v = .int k (intOf v) ∧ IntKind.has k (intOf v) := by
  unfold Cell.okWide at h
  rw [ht] at h
  simp only [Cell.ok, ht] at h
  split at h <;> simp_all [intOf]

/-- A value of a type whose cells are all whole numbers. -/
theorem open_cells {W : World} {base : Nat} {t : TypeId} {fs : Array Field} {ks : List IntKind} {v : Value} (ht : P.underlying t = some (.struct fs)) (hc0 : (P.cellTypes P.depth t).map (fun ts => ts.map P.underlying) = some (ks.map fun k => some (.int k)))
    (hsz : P.cellsOf t = ks.length) (hval : Value.okWide P W .any base t v) :
    ∃ ns : List Int, v = .agg (List.zipWith Value.int ks ns).toArray ∧ ns.length = ks.length ∧ ∀ (i : Nat) (k : IntKind) (n : Int), ks[i]? = some k → ns[i]? = some n → IntKind.has k n := by
  obtain ⟨ts, hc, hts⟩ := Option.map_eq_some_iff.1 hc0
  unfold Value.okWide at hval
  rw [ht] at hval
  obtain ⟨cs, rfl, hs, ts', hc', _, hcell⟩ := hval
  rw [hc] at hc'; obtain rfl := Option.some.inj hc'
  have hl : ts.length = ks.length := by simpa using congrArg List.length hts
  have key : ∀ (i : Nat) (k : IntKind) (v : Value), ks[i]? = some k → cs[i]? = some v → v = .int k (intOf v) ∧ IntKind.has k (intOf v) := by
    intro i k v hk hv
    obtain ⟨u, hu, ho⟩ := hcell i v hv
    have hi : i < ks.length := (List.getElem?_eq_some_iff.1 hk).1
    rw [hl, Nat.mod_eq_of_lt hi] at hu
    have hu' : P.underlying u = some (.int k) := by
      have := congrArg (fun l => l[i]?) hts
      simpa [hu, hk] using this
    exact okWide_int hu' ho
  refine ⟨cs.toList.map intOf, ?_, by simp [hs, hsz], ?_⟩
  · congr 1
    apply Array.ext'
    apply List.ext_getElem?
    intro i
    rw [List.getElem?_zipWith]
    by_cases hi : i < ks.length
    · have h1 : ks[i]? = some ks[i] := List.getElem?_eq_getElem hi
      have h2 : cs[i]? = some cs[i] := Array.getElem?_eq_getElem (by omega)
      have h3 : cs.toList[i]? = some cs[i] := by simp
      rw [h1, List.getElem?_map, h3]
      simpa using (key i _ _ h1 h2).1
    · have h1 : ks[i]? = none := List.getElem?_eq_none (by omega)
      have h3 : cs.toList[i]? = none := List.getElem?_eq_none (by simp; omega)
      rw [h1, h3]
  · intro i k n hk hn
    rw [List.getElem?_map] at hn
    cases hc3 : cs.toList[i]? with
    | none => rw [hc3] at hn; simp at hn
    | some v =>
      rw [hc3] at hn
      simp only [Option.map_some, Option.some.injEq] at hn
      subst hn
      exact (key i k v hk (by simpa using hc3)).2

end Go.Proofs.Ytajcmjjgnbaahaa.LawKit
