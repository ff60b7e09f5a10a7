/- Calls that read the table of the powers of ten and nothing else that is laid: strconv.Itoa, and what is written with it. -/
import Derived.Test.YtajcmjjgnbaahaaDoorSxk
import Derived.Lib.AppendIntMem
namespace Go.Proofs.YtajcmjjgnbaahaaDoor.Sx
open Go Go.RowKit
set_option linter.unusedVariables false
set_option linter.unusedSimpArgs false
def tenTab : List SV := [1, 10, 100, 1000, 10000, 100000, 1000000, 10000000, 100000000, 1000000000, 10000000000, 100000000000, 1000000000000, 10000000000000, 100000000000000, 1000000000000000, 10000000000000000, 100000000000000000, 1000000000000000000, 10000000000000000000].map fun n => .int .u64 (.lit n)
abbrev tenName : String := "internal/strconv.uint64pow10"
theorem tenTab_eq : tenTab = Lib.pow10Tab.map fun z => .int .u64 (.lit z) := by
  unfold tenTab
  rfl
theorem tenTab_den (ν : Nat -> Pl) : SV.denL ν tenTab = Lib.pow10Tab.map fun z => Value.int .u64 z := by
  rw [tenTab_eq, denL_map, List.map_map]
  simp [Function.comp_def, SV.den, IE.den]
abbrev TabFn := List SV -> Option (Prop × SV)
def tabSpec (g : Nat) (F : TabFn) : SpecFn := fun args hp K =>
  match globOf hp g with
  | some vs =>
    match eqLits vs tenTab, F args with
    | true, some (p, v) => p /\ K v hp
    | _, _ => StuckAt 410
  | none => StuckAt 411
def tabGuess (F : TabFn) : Guess := fun args hp =>
  match F args with
  | some (_, v) => some (v, hp)
  | none => none
section
variable {P : Program}
theorem tab_of_obj {B : Nat -> Prop} {ν : Nat -> Pl} {hp : List SObj} {w : World} (hsat : SatHp B ν hp w) {g : Nat} {vs : List SV} (hg : P.globalNamed tenName = some g) (hv : globOf hp g = some vs) (he : eqLits vs tenTab = true) :
    B g /\ Lib.TabIs P w tenName .u64 Lib.pow10Tab := by
  obtain ⟨o, ho⟩ := globOf_obj hv
  obtain ⟨_, g1, g2, ⟨t, fz, g3⟩, g4⟩ := hsat.obj o _ ho
  refine ⟨g1, ?_⟩
  unfold Lib.TabIs World.var?
  rw [hg, Option.bind_some, g3]
  rw [(eqLits_den (ν := nu0) (ν' := nu0) he).1, tenTab_den]
theorem tab_ok {f : FuncId} {g : Nat} {F : TabFn} (hg : P.globalNamed tenName = some g)
    (h : ∀ args p v, F args = some (p, v) -> p -> v.wf (fun _ => False) /\ ∀ (B : Nat -> Prop) (ν : Nat -> Pl) (w : World), Lib.TabIs P w tenName .u64 Lib.pow10Tab -> g < w.heap.size ->
      Calls P f (SV.denL ν args).toArray w fun e w' => e = .returned (v.den nu0) /\ Below w.heap.size w w') : SpecOk P f (tabSpec g F) := by
  intro B ν hp w args K hsat hB hwf hx
  unfold tabSpec at hx
  split at hx
  · rename_i vs hv
    split at hx
    · rename_i p v he hF
      obtain ⟨hp', hk⟩ := hx
      obtain ⟨h1, h2⟩ := tab_of_obj hsat hg hv he
      obtain ⟨v1, v2⟩ := h args p v hF hp'
      refine (v2 B ν w h2 (hB _ h1)).mono ?_
      rintro e w' ⟨rfl, hb⟩
      refine ⟨ν, v, hp, fun _ h => h, Agree.refl _ _, ?_, wf_mono (fun _ h => h.elim) v v1, hp_below hsat hb, Keeps.of hb hB, hk⟩
      rw [wf0_den nu0 ν v1]
    · exact nomatch hx
  · exact nomatch hx
theorem tab_of {f : FuncId} {g : Nat} {F : TabFn} (hg : P.globalNamed tenName = some g) {s : SpecFn} (hs : SpecOk P f s)
    (h : ∀ args p v, F args = some (p, v) -> p -> ∃ args', (∀ ν, SV.denL nu0 args' = SV.denL ν args) /\ SV.wfL (fun _ => False) args' /\ v.wf (fun _ => False) /\ s args' [.glob g tenTab] (fun v' _ => ∀ ν, v'.den ν = v.den nu0)) : SpecOk P f (tabSpec g F) := by
  refine tab_ok hg fun args p v hF hp => ?_
  obtain ⟨args', e, w1, w2, hr⟩ := h args p v hF hp
  refine ⟨w2, fun B ν w ht hlt => ?_⟩
  rw [<- e ν]
  have h0 : SatHp (fun b => b < w.heap.size) (fun _ => ⟨g, 0, false⟩) [.glob g tenTab] w := by
    have hblk : ∃ t fz, w.heap[g]? = some (.cells (SV.denL nu0 tenTab).toArray t fz) := by
      have h' := ht
      unfold Lib.TabIs World.var? at h'
      rw [hg, Option.bind_some] at h'
      split at h'
      · rename_i cs t fz e
        simp only [Option.some.injEq] at h'; subst h'
        exact ⟨t, fz, by rw [e, tenTab_den]⟩
      · simp at h'
    refine ⟨fun o x hx => ?_, fun o o' ho ho' _ => ?_⟩
    · have : x = .glob g tenTab := by
        cases o with
        | zero => simpa using hx.symm
        | succ o => simp at hx
      subst this
      exact ⟨rfl, hlt, hlt, hblk, by unfold tenTab; simp [SV.wfL, SV.wf]⟩
    · obtain ⟨x, hx, hw⟩ := ho
      cases o with
      | zero => simp at hx; subst hx; simp [SObj.owns] at hw
      | succ o => simp at hx
  have hd : SV.denL (fun _ => ⟨g, 0, false⟩) args' = SV.denL nu0 args' := wf0L_den nu0 (fun _ => ⟨g, 0, false⟩) w1
  have hc := hs (fun b => b < w.heap.size) (fun _ => ⟨g, 0, false⟩) [.glob g tenTab] w args' _ h0 (fun _ h => h) (wfL_mono (fun _ h => h.elim) _ w1) hr
  rw [hd] at hc
  refine hc.mono ?_
  rintro e w' ⟨ν', v', hp', _, _, rfl, _, _, hb, hv⟩
  exact ⟨by rw [hv ν'], hb.below⟩
def itoaB (n : Int) : ByteArray := ⟨(Lib.itoa n).toArray⟩
def inI64 (n : Int) : Prop := -9223372036854775808 <= n /\ n <= 9223372036854775807
def itoaF : TabFn
  | [.int .i64 e] => some (inI64 e.den, .strE (itoaB e.den))
  | _ => none
theorem itoa_ok {f : FuncId} {g : Nat} (hg : P.globalNamed tenName = some g)
    (h : ∀ (n : Int) (w : World), -9223372036854775808 <= n -> n <= 9223372036854775807 -> Lib.TabIs P w tenName .u64 Lib.pow10Tab ->
      Calls P f #[.int .i64 n] w fun e w' => e = .returned (.string ⟨(Lib.itoa n).toArray⟩) /\ ∃ k os, w' = Sort.grow (w.drewN k) os) : SpecOk P f (tabSpec g itoaF) := by
  refine tab_ok hg fun args p v hF hp => ?_
  unfold itoaF at hF
  split at hF
  · rename_i e
    simp only [Option.some.injEq, Prod.mk.injEq] at hF
    obtain ⟨rfl, rfl⟩ := hF
    refine ⟨trivial, fun B ν w ht _ => ?_⟩
    refine (h e.den w hp.1 hp.2 ht).mono ?_
    rintro r w' ⟨rfl, k, os, rfl⟩
    exact ⟨rfl, Lib.below_grow _ w (Nat.le_refl _) k os⟩
  · simp at hF
end
end Go.Proofs.YtajcmjjgnbaahaaDoor.Sx
