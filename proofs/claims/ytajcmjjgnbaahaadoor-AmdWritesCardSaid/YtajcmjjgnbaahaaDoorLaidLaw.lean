/- What a law's contract gives its row, where the row lists package-level tables: the law answers true, and old blocks stay as they are. -/
import Derived.Test.YtajcmjjgnbaahaaDoorLaw
import Derived.Deep.DeepHandedRow
import Derived.Lib.LaidTab
import Derived.LaidSub
import Derived.Test.YtajcmjjgnbaahaaDoorSx5
namespace Go.Proofs.YtajcmjjgnbaahaaDoor.LawKit
open Go Go.ChangeShapes Go.WideShapes Go.ChangeAt Go.RowKit
set_option linter.unusedVariables false
theorem laid_lifted {H : Type} {enc : TypeId × Value -> H} {C : Checked} {os : Os} {f : FuncId} {fn : Func} {s : ChangeSpec} {conds : List PathCond} {tb : TypeId} {laid : List (String × DataW Unit)} {F : Stop.Interp}
    (own : ownKnob C.prog.godebug = none) (started : os.Started) (noInit : C.prog.inits.idxOf? f = none) (hfn : C.prog.funcs[f]? = some fn)
    (witness : ∃ (w : World) (tape : Tape) (i : Input), w.os = os /\ (w.forCall tape i).Shaped C.prog /\ i.vars = [] /\ Input.okWide C.prog (w.forCall tape i) .any w.heap.size f i /\
      (OpenSpec.ofChange s).preRow enc C.prog fn conds false laid (w.forCall tape i).memory i.args /\ Assume.holds {} C.prog (lone (Frame.enter C.prog f i.args .normal) [] (w.forCall tape i)))
    (lo : laidOutB C.prog = true) (hv : s.vars = []) (hpar : fn.params.toList.all (fun t => C.prog.readableRec t && decide (t < C.prog.types.size)) = true)
    (hres : fn.resultTypes = #[tb]) (htb : C.prog.underlying tb = some .bool)
    (hs : ∀ ds : List (DataW H), ds.length = fn.params.toList.length -> s.fn H ds = { results := [.lit (.bool true)], args := ds })
    (contract : ∀ (W : World) (base : Nat) (args : Array Value) (ds : List (DataW H)) (p : List MemPlace),
      (∀ (j : Nat) t v, fn.params[j]? = some t -> args[j]? = some v -> Value.okWide C.prog W .any base t v) ->
      DataW.TrodAll enc C.prog W 0 (fun _ => true) true fn.params.toList args.toList ds p ->
      (DataW.weightsEach C.prog fn.params.toList ds).all (· <= reachBytes) = true ->
      laidMetH C.prog laid W ->
      Calls C.prog f args W fun e W' => e = .returned (.bool true) /\ Below W.heap.size W W') :
    ReturnsInHanded {} C os f .any ((OpenSpec.ofChange s).preRow enc C.prog fn conds false laid) (((OpenSpec.ofChange s).at F).post enc C.prog fn false true false false) := by
  refine returnsInHanded_of_row (s := OpenSpec.ofChange s) own started noInit hfn witness ?_
  intro W base args ds gs before hval hW hcnd _ hsz hL _ _
  have hW0 : DataW.Whole enc C.prog fn.params.toList s.vars false W args.toList ds gs before := hW
  have hW' := hW0
  obtain ⟨p, q, hA0, hV, rfl, hfz, hnd⟩ := hW0
  have hA : DataW.TrodAll enc C.prog W 0 (fun _ => true) true fn.params.toList args.toList ds p := hA0
  rw [hv] at hV
  obtain ⟨rfl, rfl⟩ := trodVars_none hV
  have hvt : (OpenSpec.ofChange s).bare.plain.varTypes C.prog = [] := by
    unfold DataSpec.varTypes
    have : (OpenSpec.ofChange s).bare.plain.vars = [] := hv
    simp [this]
  rw [hvt, List.append_nil, List.append_nil] at hsz
  refine (contract W base args ds p hval hA hsz hL).mono fun e W' ⟨he, bel⟩ => ?_
  subst he
  have hf := hs ds (trodAll_length hA)
  show ∃ v, _ /\ s.post enc C.prog fn false true false false W args v W'
  refine ⟨_, rfl, ds, [], p ++ [], [], p, [], hW', ?_, ?_, ?_, bel.frame _, fun h => by cases h⟩
  · rw [List.append_nil, hf, hres]
    exact trodAll_mk1 (shut_bool htb _)
  · rw [List.append_nil, hf]
    refine trodAll_below lo bel (fun t ht => ?_) hA
    have := List.all_eq_true.1 hpar t ht
    simpa using this
  · rw [hv]
    simp only [List.append_nil]
    rw [hf]; rfl
theorem tabIs_of_named {P : Program} {W : World} {laid : List (String × DataW Unit)} {name : String} {k : IntKind} {zs : List Int} {g : Nat} {t e : TypeId} {n : Nat}
    (hg : P.globalNamed name = some g) (hty : (P.globals[g]?).map (·.type) = some t) (ht : P.underlying t = some (.array n e)) (he : P.underlying e = some (.int k)) (hce : P.cellsOf e = 1) (hct : P.cellsOf t = n)
    (h : laidMetH P laid W) (hl : laid.filter (fun x => x.1 == name) = [(name, Lib.tabData k zs)]) : Lib.TabIs P W name k zs := by
  have h1 := (laidMetH_iff.1 (h.filter fun x => x.1 == name)).1
  rw [hl] at h1
  exact Lib.tabIs_of_head (rest := []) hg hty ht he hce hct h1
open Sx in
theorem glob_sat {P : Program} {W : World} {name : String} {k : IntKind} {zs : List Int} {g : Nat} (h : Lib.TabIs P W name k zs) (hg : P.globalNamed name = some g) (hz : 0 < zs.length) :
    SatHp (fun b => b < W.heap.size) (fun _ => ⟨g, 0, false⟩) [.glob g (zs.map fun z => .int k (.lit z))] W := by
  have hblk : ∃ t fz, W.heap[g]? = some (.cells (zs.map fun z => Value.int k z).toArray t fz) := by
    have h' := h
    unfold Lib.TabIs World.var? at h'
    rw [hg, Option.bind_some] at h'
    split at h'
    · rename_i cs t fz e
      simp only [Option.some.injEq] at h'; subst h'
      exact ⟨t, fz, e⟩
    · simp at h'
  have hlt : g < W.heap.size := by
    obtain ⟨t, fz, e⟩ := hblk
    exact (Array.getElem?_eq_some_iff.1 e).1
  refine ⟨fun o x hx => ?_, fun o o' ho ho' _ => ?_⟩
  · have : x = .glob g (zs.map fun z => .int k (.lit z)) := by
      cases o with
      | zero => simpa using hx.symm
      | succ o => simp at hx
    subst this
    refine ⟨rfl, hlt, hlt, ?_, ?_⟩
    · obtain ⟨t, fz, e⟩ := hblk
      refine ⟨t, fz, ?_⟩
      rw [e, denL_map]
      simp [SV.den, IE.den, Function.comp_def]
    · clear hblk h hz hx
      induction zs with
      | nil => trivial
      | cons z r ih => exact ⟨trivial, ih⟩
  · obtain ⟨x, hx, hw⟩ := ho
    cases o with
    | zero => simp at hx; subst hx; simp [SObj.owns] at hw
    | succ o => simp at hx
end Go.Proofs.YtajcmjjgnbaahaaDoor.LawKit
