/- The document's Decode makes what Decode makes. -/
import Derived.Test.YtiljkmcahkphiaaRr8
import Derived.Test.YtiljkmcahkphiaaRv9
namespace Go.Proofs.Ytiljkmcahkphiaa.Rv
open Go Go.Proofs.Ytiljkmcahkphiaa.Sx Go.RowKit
set_option linter.unusedVariables false
set_option linter.unusedSimpArgs false

theorem rdReg_den (named : Bool) (w : Int) (lo : Nat) : (rdReg named w lo).den = regD named w (2 ^ lo) := by
  cases named <;> simp [rdReg, regD, IE.den]

theorem rdEnc_eq (r : RvRow) (w : Int) : rdEnc r w = rvEnc (insOf r w).op (insOf r w).rd (insOf r w).r1 (insOf r w).r2 (insOf r w).imm := by
  unfold rdEnc
  rw [rdReg_den, rdReg_den, rdReg_den]
  rfl

def RHit (r : RvRow) (w : Int) : Prop := w % 128 = r.code ∧ (rdEnc r w).2 = 0 ∧ (rdEnc r w).1 = w
instance (r : RvRow) (w : Int) : Decidable (RHit r w) := by unfold RHit; infer_instance
def decR (w : Int) : List RvRow → RvIns
  | [] => ⟨0, 0, 0, 0, 0, 5⟩
  | r :: l => if RHit r w then insOf r w else decR w l

theorem decR_found (w : Int) : ∀ l : List RvRow, (∃ r ∈ l, RHit r w ∧ decR w l = insOf r w) ∨ (decR w l = ⟨0, 0, 0, 0, 0, 5⟩ ∧ ∀ r ∈ l, ¬ RHit r w)
  | [] => .inr ⟨rfl, by simp⟩
  | r :: l => by
    by_cases h : RHit r w
    · exact .inl ⟨r, List.mem_cons_self .., h, by simp [decR, h]⟩
    · rcases decR_found w l with ⟨x, h1, h2, h3⟩ | ⟨h1, h2⟩
      · exact .inl ⟨x, List.mem_cons_of_mem _ h1, h2, by simp [decR, h, h3]⟩
      · refine .inr ⟨by simp [decR, h, h1], fun x hx => ?_⟩
        rcases List.mem_cons.1 hx with rfl | hx
        · exact h
        · exact h2 x hx

theorem rr_self : ∀ r ∈ rrRows, rowOf rrRows r.op = some r := by
  intro r hr
  simp only [rrRows, List.mem_cons, List.not_mem_nil, or_false] at hr
  rcases hr with rfl | rfl | rfl | rfl | rfl | rfl | rfl | rfl | rfl | rfl | rfl | rfl | rfl | rfl | rfl | rfl | rfl | rfl | rfl | rfl | rfl | rfl | rfl | rfl | rfl | rfl | rfl | rfl | rfl | rfl | rfl | rfl | rfl | rfl <;> rfl
theorem rr_rv {r : RvRow} (h : r ∈ rrRows) : r ∈ rvRows := by
  have := rr_self r h
  rw [rowOf_rr] at this
  exact (rowOf_some this).1
theorem rv_rr {r : RvRow} (h : r ∈ rvRows) : r ∈ rrRows := by
  have := row_self r h
  rw [← rowOf_rr] at this
  exact (rowOf_some this).1

theorem rhit_dec (r : RvRow) (hr : r ∈ rvRows) (w : Int) (h : RHit r w) : rvDec w = insOf r w := by
  obtain ⟨_, h2, h3⟩ := h
  rw [rdEnc_eq] at h2 h3
  unfold rvEnc at h2 h3
  have hs : rowOf rvRows (insOf r w).op = some r := row_self r hr
  rw [hs] at h2 h3
  simp only at h2 h3
  split at h2
  · rename_i hg
    rw [if_pos hg] at h3
    split at h2
    · rename_i hf
      rw [if_pos hf] at h3
      simp only at h3
      simp only [Bool.and_eq_true] at hg
      have := dec_enc r hr _ _ _ _ ⟨hg.1.1, hg.1.2, hg.2, hf⟩
      rw [h3] at this
      rw [this]; rfl
    · simp at h2
  · simp at h2

theorem decR_eq (w : Int) (h0 : 0 ≤ w) (h1 : w < 4294967296) : decR w rrRows = rvDec w := by
  rcases decR_found w rrRows with ⟨r, hr, hh, e⟩ | ⟨e, hno⟩
  · rw [e, rhit_dec r (rr_rv hr) w hh]
  · rw [e]
    rcases decL_found w rvRows with ⟨r, hr, hh, e2⟩ | ⟨e2, _⟩
    · exfalso
      have e3 : rvDec w = insOf r w := e2
      have he := enc_dec w h0 h1 (by rw [e3]; rfl)
      rw [e3] at he
      exact hno r (rv_rr hr) ⟨hh.1, by rw [rdEnc_eq, he], by rw [rdEnc_eq, he]⟩
    · exact e2.symm

def rdE (w : Int) (Q : SV → Prop) : List RvRow → Prop
  | [] => Q noneD
  | r :: l => BE.den (.var (inU32 w)) = true ∧ (BE.den (rdMiss r w) = true → rdE w Q l) ∧ (BE.den (rdMiss r w) = false → rdHit r w (rdE w Q l) Q)

theorem rdAsk_of {b named : Bool} (hb : b = true) {R : Prop} (h : R) : rdAsk b named R := by
  cases named
  · exact h
  · exact ⟨hb, h⟩

theorem immD_i64 (r : RvRow) (hr : r ∈ rvRows) (w : Int) : inI64 (immD r.form w) = true := by
  rw [inI64_iff]
  rcases form_range r hr with h | h | h | h | h | h | h | h <;> rw [h] <;> simp only [immD, immV]
  · omega
  · split <;> omega
  · omega
  · omega
  · split <;> omega
  · omega
  · split <;> omega
  · split <;> omega

theorem rdE_of (w : Int) (h0 : 0 ≤ w) (h1 : w < 4294967296) : ∀ (l : List RvRow), (∀ r ∈ l, r ∈ rvRows) → rdE w (fun v => ∀ ν, v.den ν = insV (decR w l)) l
  | [], _ => fun ν => by simp [noneD, SV.den, SV.denL, IE.den, insV, decR]
  | r :: l, hl => by
    have hr := hl r (List.mem_cons_self ..)
    have hw : inU32 w = true := (inU32_iff w).2 ⟨h0, h1⟩
    have ih := rdE_of w h0 h1 l fun r hr => hl r (List.mem_cons_of_mem _ hr)
    have hm : (rdMiss r w).den = true ↔ ¬ w % 128 = r.code := by
      have e : w / 2 ^ 0 % 2 ^ 7 = w % 128 := by simp
      simp only [rdMiss, BE.den, IE.den, e, cmpI_neq]
      rw [wrap_u32_in (by omega) (by omega)]
      simp
    have next : ¬ RHit r w → rdE w (fun v => ∀ ν, v.den ν = insV (decR w (r :: l))) l := fun hn => by
      have e : decR w (r :: l) = decR w l := by simp [decR, hn]
      rw [e]; exact ih
    refine ⟨hw, fun h => next fun hh => ?_, fun h => ?_⟩
    · exact hm.1 h hh.1
    · have hc : w % 128 = r.code := by
        by_cases hc : w % 128 = r.code
        · exact hc
        · rw [hm.2 hc] at h; cases h
      refine ⟨hw, rdAsk_of hw (rdAsk_of hw (rdAsk_of hw ⟨immD_i64 r hr w, fun he => ⟨fun hv ν => ?_, fun hv => next fun hh => ?_⟩, fun he => next fun hh => ?_⟩))⟩
      · simp only [BE.den, IE.den, cmpI_eql, decide_eq_true_eq] at he hv
        have hh : RHit r w := ⟨hc, he, hv⟩
        have e : decR w (r :: l) = insOf r w := by simp [decR, hh]
        rw [e]
        simp [rdFound, SV.den, SV.denL, IE.den, insV, insOf, rdReg_den]
      · simp only [BE.den, IE.den, cmpI_eql, decide_eq_false_iff_not] at hv
        exact hv hh.2.2
      · simp only [BE.den, IE.den, cmpI_eql, decide_eq_false_iff_not] at he
        exact he hh.2.1

theorem rd_round (w : Int) (u : Nat → Value) (Q : SV → Prop) (R : St → Prop) : ∀ k, k < 34 → RdRound w u Q R k := by
  intro k hk
  match k, hk with
  | 0, _ => exact rd_0 w u Q R
  | 1, _ => exact rd_1 w u Q R
  | 2, _ => exact rd_2 w u Q R
  | 3, _ => exact rd_3 w u Q R
  | 4, _ => exact rd_4 w u Q R
  | 5, _ => exact rd_5 w u Q R
  | 6, _ => exact rd_6 w u Q R
  | 7, _ => exact rd_7 w u Q R
  | 8, _ => exact rd_8 w u Q R
  | 9, _ => exact rd_9 w u Q R
  | 10, _ => exact rd_10 w u Q R
  | 11, _ => exact rd_11 w u Q R
  | 12, _ => exact rd_12 w u Q R
  | 13, _ => exact rd_13 w u Q R
  | 14, _ => exact rd_14 w u Q R
  | 15, _ => exact rd_15 w u Q R
  | 16, _ => exact rd_16 w u Q R
  | 17, _ => exact rd_17 w u Q R
  | 18, _ => exact rd_18 w u Q R
  | 19, _ => exact rd_19 w u Q R
  | 20, _ => exact rd_20 w u Q R
  | 21, _ => exact rd_21 w u Q R
  | 22, _ => exact rd_22 w u Q R
  | 23, _ => exact rd_23 w u Q R
  | 24, _ => exact rd_24 w u Q R
  | 25, _ => exact rd_25 w u Q R
  | 26, _ => exact rd_26 w u Q R
  | 27, _ => exact rd_27 w u Q R
  | 28, _ => exact rd_28 w u Q R
  | 29, _ => exact rd_29 w u Q R
  | 30, _ => exact rd_30 w u Q R
  | 31, _ => exact rd_31 w u Q R
  | 32, _ => exact rd_32 w u Q R
  | 33, _ => exact rd_33 w u Q R
  | n + 34, h => exact absurd h (by omega)

def rdMu (σ : St) : Nat :=
  match (σ.tmps[5]? : Option SV) with
  | some (SV.int _ (IE.lit k)) => (34 - k).toNat
  | _ => 0
set_option maxRecDepth 100000 in
theorem rdMu_st (w : Int) (k : Nat) (u : Nat → Value) : rdMu (rdSt w k u) = 34 - k := by
  have e : (rdSt w k u).tmps[5]? = some (.int .i64 (.lit k)) := by rfl
  unfold rdMu
  rw [e]
  show ((34 : Int) - (k : Int)).toNat = 34 - k
  omega

theorem rdHit_mono {r : RvRow} {w : Int} {N N' : Prop} {Q : SV → Prop} (h : rdHit r w N Q) (hn : N → N') : rdHit r w N' Q := by
  obtain ⟨h1, h2⟩ := h
  refine ⟨h1, ?_⟩
  have am : ∀ {b named : Bool} {A C : Prop}, (A → C) → rdAsk b named A → rdAsk b named C := fun {b named A C} f h => by
    cases named
    · exact f h
    · exact ⟨h.1, f h.2⟩
  exact am (am (am fun h => ⟨h.1, fun a => ⟨(h.2.1 a).1, fun b => hn ((h.2.1 a).2 b)⟩, fun a => hn (h.2.2 a)⟩)) h2

set_option maxRecDepth 100000 in
theorem rd_sx (w : Int) (Q : SV → Prop) (h : rdE w Q rrRows) : sxFunc P H4 rdUn Try.f9 [.int .u32 (.var w)] [] (fun v _ => Q v) := by
  rw [rd_start]
  have hlen : rrRows.length = 34 := by rfl
  refine ⟨rdLive, fun σ => ∃ (k : Nat) (u : Nat → Value), k ≤ 34 ∧ σ = rdSt w k u ∧ rdE w Q (rrRows.drop k), rdMu, ?_, ?_⟩
  · have key : ∀ R : St → Prop, (∀ u, R (rdSt w 0 u)) → headK 0 rdLive { tmps := setAt (rdTmps w 0) 12 (.slice 1 0 (.lit 34) (.lit 34)), hp := rdHp } R := by
      intro R hR
      have e : headK 0 rdLive { tmps := setAt (rdTmps w 0) 12 (.slice 1 0 (.lit 34) (.lit 34)), hp := rdHp } R = ∀ u, R (rdSt w 0 u) := by kernel_rfl
      rw [e]; exact hR
    exact key _ fun u => ⟨0, u, by omega, rfl, h⟩
  · rintro σ' ⟨k, u, hk, rfl, hd⟩
    by_cases h34 : k = 34
    · subst h34
      have := rd_34 w u Q (fun σ3 => (∃ (k : Nat) (u : Nat → Value), k ≤ 34 ∧ σ3 = rdSt w k u ∧ rdE w Q (rrRows.drop k)) ∧ rdMu σ3 < rdMu (rdSt w (34 : Nat) u))
      refine this.mpr ?_
      exact hd
    · have hk' : k < 34 := by omega
      have hdrop : rrRows.drop k = rrRows.getD k rr0 :: rrRows.drop (k + 1) := by
        rw [List.drop_eq_getElem_cons (by omega)]
        simp [List.getD, List.getElem?_eq_getElem (show k < rrRows.length by omega)]
      rw [hdrop] at hd
      have e := rd_round w u Q (fun σ3 => (∃ (k : Nat) (u : Nat → Value), k ≤ 34 ∧ σ3 = rdSt w k u ∧ rdE w Q (rrRows.drop k)) ∧ rdMu σ3 < rdMu (rdSt w k u)) k hk'
      unfold RdRound at e
      refine e.mpr ?_
      have nx : rdE w Q (rrRows.drop (k + 1)) → ∀ u', (∃ (j : Nat) (u1 : Nat → Value), j ≤ 34 ∧ rdSt w ((k + 1 : Nat) : Int) u' = rdSt w j u1 ∧ rdE w Q (rrRows.drop j)) ∧ rdMu (rdSt w ((k + 1 : Nat) : Int) u') < rdMu (rdSt w k u) := fun h u' => by
        refine ⟨⟨k + 1, u', by omega, rfl, h⟩, ?_⟩
        rw [rdMu_st, rdMu_st]; omega
      exact ⟨hd.1, fun a u' => nx (hd.2.1 a) u', fun a => rdHit_mono (hd.2.2 a) fun b u' => nx b u'⟩

set_option maxRecDepth 100000 in
theorem rdec_calls (w : Int) (h0 : 0 ≤ w) (h1 : w < 4294967296) (W : World) : Calls P 9 #[.int .u32 w] W fun e w' => e = .returned (insV (rvDec w)) ∧ Below W.heap.size W w' := by
  have hs := func_sound (un := rdUn) H4_ok Try.func9
  have hc := calls_val hs (args := [.int .u32 (.var w)]) (by simp [SV.wfL, SV.wf]) (V := insV (rvDec w)) (rd_sx w _ (by
    have := rdE_of w h0 h1 rrRows fun r h => rr_rv h
    rw [decR_eq w h0 h1] at this
    exact this)) W
  simpa [SV.denL, SV.den, IE.den] using hc

theorem frdec_ok : PureOk P 9 fDec := by
  intro args p v hF hp
  unfold fDec at hF
  split at hF
  · rename_i w
    simp only [Option.some.injEq, Prod.mk.injEq] at hF; obtain ⟨rfl, rfl⟩ := hF
    have hw : inU32 w.den = true := hp
    simp only [inU32, Bool.and_eq_true, decide_eq_true_eq] at hw
    refine ⟨by simp [SV.wfL, SV.wf], by simp [insSV, SV.wfL, SV.wf], fun W => ?_⟩
    have := rdec_calls w.den hw.1 hw.2 W
    simpa [SV.denL, SV.den, IE.den, insSV, insV] using this
  · simp at hF

end Go.Proofs.Ytiljkmcahkphiaa.Rv
