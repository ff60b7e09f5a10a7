/- The document's walk over code, as it is told. -/
import Derived.Test.YtajcmjjgnbaahaaGreatZr8
import Derived.Test.YtajcmjjgnbaahaaGreatZr0
import Derived.Test.YtajcmjjgnbaahaaGreatSn6
set_option linter.unusedVariables false
set_option linter.unusedSimpArgs false
namespace Go.Proofs.YtajcmjjgnbaahaaGreat.Rv
open Go Go.Proofs.YtajcmjjgnbaahaaGreat.Sx Go.RowKit
theorem zFl (named : Bool) (w : Int) (lo : Nat) : (zLX named w lo).den = regD named w (2 ^ lo) := by
 cases named <;> simp [zLX, regD, IE.den]
theorem zKY (r : z9) (w : Int) : zLY r w = zHD (zBY r w).op (zBY r w).rd (zBY r w).r1 (zBY r w).r2 (zBY r w).imm := by
 unfold zLY
 rw [zFl, zFl, zFl]
 rfl
def RHit (r : z9) (w : Int) : Prop := w % 128 = r.code /\ (zLY r w).2 = 0 /\ (zLY r w).1 = w
instance (r : z9) (w : Int) : Decidable (RHit r w) := by unfold RHit; infer_instance
def decR (w : Int) : List z9 -> RvIns
 | [] => ⟨0, 0, 0, 0, 0, 5⟩
 | r :: l => if RHit r w then zBY r w else decR w l
theorem zJm (w : Int) : ∀ l : List z9, (∃ r ∈ l, RHit r w /\ decR w l = zBY r w) ∨ (decR w l = ⟨0, 0, 0, 0, 0, 5⟩ /\ ∀ r ∈ l, ¬ RHit r w)
 | [] => .inr ⟨rfl, by simp⟩
 | r :: l => by
  by_cases h : RHit r w
  ·exact .inl ⟨r, List.mem_cons_self .., h, by simp [decR, h]⟩
  ·rcases zJm w l with ⟨x, h1, h2, h3⟩ | ⟨h1, h2⟩
   ·exact .inl ⟨x, List.mem_cons_of_mem _ h1, h2, by simp [decR, h, h3]⟩
   ·refine .inr ⟨by simp [decR, h, h1], fun x hx => ?_⟩
    rcases List.mem_cons.1 hx with rfl | hx
    ·exact h
    ·exact h2 x hx
theorem zVG : ∀ r ∈ zAU, zCz zAU r.op = some r := by
 intro r hr
 simp only [zAU, List.mem_cons, List.not_mem_nil, or_false] at hr
 rcases hr with rfl | rfl | rfl | rfl | rfl | rfl | rfl | rfl | rfl | rfl | rfl | rfl | rfl | rfl | rfl | rfl | rfl | rfl | rfl | rfl | rfl | rfl | rfl | rfl | rfl | rfl | rfl | rfl | rfl | rfl | rfl | rfl | rfl | rfl <;> rfl
theorem zXf {r : z9} (h : r ∈ zAU) : r ∈ zf := by
 have := zVG r h
 rw [zKN] at this
 exact (zEh this).1
theorem zaD {r : z9} (h : r ∈ zf) : r ∈ zAU := by
 have := zKM r h
 rw [<- zKN] at this
 exact (zEh this).1
theorem zSy (r : z9) (hr : r ∈ zf) (w : Int) (h : RHit r w) : rvDec w = zBY r w := by
 obtain ⟨_, h2, h3⟩ := h
 rw [zKY] at h2 h3
 unfold zHD at h2 h3
 have hs : zCz zf (zBY r w).op = some r := zKM r hr
 rw [hs] at h2 h3
 simp only at h2 h3
 split at h2
 ·rename_i hg
  rw [if_pos hg] at h3
  split at h2
  ·rename_i hf
   rw [if_pos hf] at h3
   simp only at h3
   simp only [Bool.and_eq_true] at hg
   have := zKy r hr _ _ _ _ ⟨hg.1.1, hg.1.2, hg.2, hf⟩
   rw [h3] at this
   rw [this]; rfl
  ·simp at h2
 ·simp at h2
theorem zW2 (w : Int) (h0 : 0 <= w) (h1 : w < 4294967296) : decR w zAU = rvDec w := by
 rcases zJm w zAU with ⟨r, hr, hh, e⟩ | ⟨e, hno⟩
 ·rw [e, zSy r (zXf hr) w hh]
 ·rw [e]
  rcases zEq w zf with ⟨r, hr, hh, e2⟩ | ⟨e2, _⟩
  ·exfalso
   have e3 : rvDec w = zBY r w := e2
   have he := zGe w h0 h1 (by rw [e3]; rfl)
   rw [e3] at he
   exact hno r (zaD hr) ⟨hh.1, by rw [zKY, he], by rw [zKY, he]⟩
  ·exact e2.symm
def rdE (w : Int) (Q : SV -> Prop) : List z9 -> Prop
 | [] => Q zPQ
 | r :: l => BE.den (.var (inU32 w)) = true /\ (BE.den (zJR r w) = true -> rdE w Q l) /\ (BE.den (zJR r w) = false -> zTH r w (rdE w Q l) Q)
theorem zKZ {b named : Bool} (hb : b = true) {R : Prop} (h : R) : zPH b named R := by
 cases named
 ·exact h
 ·exact ⟨hb, h⟩
theorem zTb (r : z9) (hr : r ∈ zf) (w : Int) : zHG (immD r.form w) = true := by
 rw [zLu]
 rcases zBK r hr with h | h | h | h | h | h | h | h <;> rw [h] <;> simp only [immD, immV]
 ·omega
 ·split <;> omega
 ·omega
 ·omega
 ·split <;> omega
 ·omega
 ·split <;> omega
 ·split <;> omega
theorem zUL (w : Int) (h0 : 0 <= w) (h1 : w < 4294967296) : ∀ (l : List z9), (∀ r ∈ l, r ∈ zf) -> rdE w (fun v => ∀ ν, v.den ν = insV (decR w l)) l
 | [], _ => fun ν => by simp [zPQ, SV.den, SV.denL, IE.den, insV, decR]
 | r :: l, hl => by
  have hr := hl r (List.mem_cons_self ..)
  have hw : inU32 w = true := (zIS w).2 ⟨h0, h1⟩
  have ih := zUL w h0 h1 l fun r hr => hl r (List.mem_cons_of_mem _ hr)
  have hm : (zJR r w).den = true ↔ ¬ w % 128 = r.code := by
   have e : w / 2 ^ 0 % 2 ^ 7 = w % 128 := by simp
   simp only [zJR, BE.den, IE.den, e, zAd]
   rw [z8 (by omega) (by omega)]
   simp
  have next : ¬ RHit r w -> rdE w (fun v => ∀ ν, v.den ν = insV (decR w (r :: l))) l := fun hn => by
   have e : decR w (r :: l) = decR w l := by simp [decR, hn]
   rw [e]; exact ih
  refine ⟨hw, fun h => next fun hh => ?_, fun h => ?_⟩
  ·exact hm.1 h hh.1
  ·have hc : w % 128 = r.code := by
    by_cases hc : w % 128 = r.code
    ·exact hc
    ·rw [hm.2 hc] at h; cases h
   refine ⟨hw, zKZ hw (zKZ hw (zKZ hw ⟨zTb r hr w, fun he => ⟨fun hv ν => ?_, fun hv => next fun hh => ?_⟩, fun he => next fun hh => ?_⟩))⟩
   ·simp only [BE.den, IE.den, za, decide_eq_true_eq] at he hv
    have hh : RHit r w := ⟨hc, he, hv⟩
    have e : decR w (r :: l) = zBY r w := by simp [decR, hh]
    rw [e]
    simp [zQe, SV.den, SV.denL, IE.den, insV, zBY, zFl]
   ·simp only [BE.den, IE.den, za, decide_eq_false_iff_not] at hv
    exact hv hh.2.2
   ·simp only [BE.den, IE.den, za, decide_eq_false_iff_not] at he
    exact he hh.2.1
theorem zTF (w : Int) (u : Nat -> Value) (Q : SV -> Prop) (R : St -> Prop) : ∀ k, k < 34 -> zT w u Q R k := by
 intro k hk
 match k, hk with
 | 0, _ => exact rd_0 w u Q R
 | 1, _ => exact rd_1 w u Q R
 | 2, _ => exact rd_2 w u Q R
 | 3, _ => exact rd_3 w u Q R
 | 4, _ => exact rd_4 w u Q R
 | 5, _ => exact rd_5 w u Q R
 | 6, _ => exact rd_6 w u Q R
 | 7, _ => exact rd_7 w u Q R
 | 8, _ => exact rd_8 w u Q R
 | 9, _ => exact rd_9 w u Q R
 | 10, _ => exact zaj w u Q R
 | 11, _ => exact zai w u Q R
 | 12, _ => exact zah w u Q R
 | 13, _ => exact zag w u Q R
 | 14, _ => exact zaf w u Q R
 | 15, _ => exact zae w u Q R
 | 16, _ => exact zad w u Q R
 | 17, _ => exact zac w u Q R
 | 18, _ => exact zab w u Q R
 | 19, _ => exact zaa w u Q R
 | 20, _ => exact zaZ w u Q R
 | 21, _ => exact zaY w u Q R
 | 22, _ => exact zaX w u Q R
 | 23, _ => exact zaW w u Q R
 | 24, _ => exact zaV w u Q R
 | 25, _ => exact zaU w u Q R
 | 26, _ => exact zaT w u Q R
 | 27, _ => exact zaS w u Q R
 | 28, _ => exact zaR w u Q R
 | 29, _ => exact zaQ w u Q R
 | 30, _ => exact zaP w u Q R
 | 31, _ => exact zaO w u Q R
 | 32, _ => exact zaN w u Q R
 | 33, _ => exact zaM w u Q R
 | n + 34, h => exact absurd h (by omega)
def rdMu (σ : St) : Nat :=
 match (σ.tmps[5]? : Option SV) with
 | some (SV.int _ (IE.lit k)) => (34 - k).toNat
 | _ => 0
set_option maxRecDepth 100000 in
theorem zQd (w : Int) (k : Nat) (u : Nat -> Value) : rdMu (rdSt w k u) = 34 - k := by
 have e : (rdSt w k u).tmps[5]? = some (.int .i64 (.lit k)) := by rfl
 unfold rdMu
 rw [e]
 show ((34 : Int) - (k : Int)).toNat = 34 - k
 omega
theorem zPG {r : z9} {w : Int} {N N' : Prop} {Q : SV -> Prop} (h : zTH r w N Q) (hn : N -> N') : zTH r w N' Q := by
 obtain ⟨h1, h2⟩ := h
 refine ⟨h1, ?_⟩
 have am : ∀ {b named : Bool} {A C : Prop}, (A -> C) -> zPH b named A -> zPH b named C := fun {b named A C} f h => by
  cases named
  ·exact f h
  ·exact ⟨h.1, f h.2⟩
 exact am (am (am fun h => ⟨h.1, fun a => ⟨(h.2.1 a).1, fun b => hn ((h.2.1 a).2 b)⟩, fun a => hn (h.2.2 a)⟩)) h2
set_option maxRecDepth 100000 in
theorem zaK (w : Int) (Q : SV -> Prop) (h : rdE w Q zAU) : zH P H4 rdUn Tryz.f15 [.int .u32 (.var w)] [] (fun v _ => Q v) := by
 rw [zTE]
 have hlen : zAU.length = 34 := by rfl
 refine ⟨zJS, fun σ => ∃ (k : Nat) (u : Nat -> Value), k <= 34 /\ σ = rdSt w k u /\ rdE w Q (zAU.drop k), rdMu, ?_, ?_⟩
 ·have key : ∀ R : St -> Prop, (∀ u, R (rdSt w 0 u)) -> zEx 0 zJS { tmps := zS (zNs w 0) 12 (.slice 1 0 (.lit 34) (.lit 34)), hp := rdHp } R := by
   intro R hR
   have e : zEx 0 zJS { tmps := zS (zNs w 0) 12 (.slice 1 0 (.lit 34) (.lit 34)), hp := rdHp } R = ∀ u, R (rdSt w 0 u) := by kernel_rfl
   rw [e]; exact hR
  exact key _ fun u => ⟨0, u, by omega, rfl, h⟩
 ·rintro σ' ⟨k, u, hk, rfl, hd⟩
  by_cases h34 : k = 34
  ·subst h34
   have := zaL w u Q (fun σ3 => (∃ (k : Nat) (u : Nat -> Value), k <= 34 /\ σ3 = rdSt w k u /\ rdE w Q (zAU.drop k)) /\ rdMu σ3 < rdMu (rdSt w (34 : Nat) u))
   refine this.mpr ?_
   exact hd
  ·have hk' : k < 34 := by omega
   have hdrop : zAU.drop k = zAU.getD k rr0 :: zAU.drop (k + 1) := by
    rw [List.drop_eq_getElem_cons (by omega)]
    simp [List.getD, List.getElem?_eq_getElem (show k < zAU.length by omega)]
   rw [hdrop] at hd
   have e := zTF w u Q (fun σ3 => (∃ (k : Nat) (u : Nat -> Value), k <= 34 /\ σ3 = rdSt w k u /\ rdE w Q (zAU.drop k)) /\ rdMu σ3 < rdMu (rdSt w k u)) k hk'
   unfold zT at e
   refine e.mpr ?_
   have nx : rdE w Q (zAU.drop (k + 1)) -> ∀ u', (∃ (j : Nat) (u1 : Nat -> Value), j <= 34 /\ rdSt w ((k + 1 : Nat) : Int) u' = rdSt w j u1 /\ rdE w Q (zAU.drop j)) /\ rdMu (rdSt w ((k + 1 : Nat) : Int) u') < rdMu (rdSt w k u) := fun h u' => by
    refine ⟨⟨k + 1, u', by omega, rfl, h⟩, ?_⟩
    rw [zQd, zQd]; omega
   exact ⟨hd.1, fun a u' => nx (hd.2.1 a) u', fun a => zPG (hd.2.2 a) fun b u' => nx b u'⟩
set_option maxRecDepth 100000 in
theorem zPF (w : Int) (h0 : 0 <= w) (h1 : w < 4294967296) (W : World) : Calls P 15 #[.int .u32 w] W fun e w' => e = .returned (insV (rvDec w)) /\ Below W.heap.size W w' := by
 have hs := zN (un := rdUn) zbj Tryz.func15
 have hc := zIn hs (args := [.int .u32 (.var w)]) (by simp [SV.wfL, SV.wf]) (V := insV (rvDec w)) (zaK w _ (by
  have := zUL w h0 h1 zAU fun r h => zXf h
  rw [zW2 w h0 h1] at this
  exact this)) W
 simpa [SV.denL, SV.den, IE.den] using hc
theorem frdec_ok : zAr P 15 fDec := by
 intro args p v hF hp
 unfold fDec at hF
 split at hF
 ·rename_i w
  simp only [Option.some.injEq, Prod.mk.injEq] at hF; obtain ⟨rfl, rfl⟩ := hF
  have hw : inU32 w.den = true := hp
  simp only [inU32, Bool.and_eq_true, decide_eq_true_eq] at hw
  refine ⟨by simp [SV.wfL, SV.wf], by simp [zRZ, SV.wfL, SV.wf], fun W => ?_⟩
  have := zPF w.den hw.1 hw.2 W
  simpa [SV.denL, SV.den, IE.den, zRZ, insV] using this
 ·simp at hF
end Go.Proofs.YtajcmjjgnbaahaaGreat.Rv
namespace Go.Proofs.YtajcmjjgnbaahaaGreat.Amd
open Go Go.Proofs.YtajcmjjgnbaahaaGreat.Sx Go.RowKit
def rqT : List (FuncId × Cal) := [(15, .pure Rv.fDec), (17, .spec decM decG)]
noncomputable def RQ : FuncId -> Option Cal := inl P (fun _ _ => 40) (zx rqT) 6
structure RqSt where
 n : Nat
 c : Nat
 A : Nat -> Int
 V : Nat -> Int
 H : Nat -> Bool
 p : Nat
def zTt (A V : Nat -> Int) (H : Nat -> Bool) : List Col := [.int .i64 fun e => .var (A e), .int .i64 fun e => .var (V e), .bool fun e => .var (H e)]
def zQT (i : Nat) (len cap : Nat) (a : RqSt) : List (Nat × SV) := [(1, sA 0 len cap), (7, .sliceE true 1 3 (.lit 0) (.var (RqSt.n a)) (.var (RqSt.c a))), (i, .int .i64 (.var (RqSt.p a)))]
def rqHp (g : Nat -> Int) (cap : Nat) (a : RqSt) : List SObj := [rdRow g cap, .row true true (zTt (RqSt.A a) (RqSt.V a) (RqSt.H a)) (.var (RqSt.c a))]
structure RqR where
 n : Nat
 c : Nat
 A : Nat -> Int
 V : Nat -> Int
 H : Nat -> Bool
def zNj (O : RqR -> Prop) (B : WkE -> Prop) : List Out :=
 [.any RqR O (fun r n => .tuple [.sliceE true n 3 (.lit 0) (.var (RqR.n r)) (.var (RqR.c r)), .int .i64 (.lit 0), .int .i64 (.lit 0)]) (fun r => [.row true true (zTt (RqR.A r) (RqR.V r) (RqR.H r)) (.var (RqR.c r))]) (fun _ => []),
  .any WkE B (fun b _ => .tuple [.nils, .int .i64 (.var (WkE.e b)), .int .i64 (.var (WkE.p b))]) (fun _ => []) fun _ => []]
def rqQ (g : Nat -> Int) (cap : Nat) (O : RqR -> Prop) (B : WkE -> Prop) : SV -> List SObj -> Prop :=
 fun v hp => zFH (zNj O B) fun o => o.some 1 fun val new _ => zA8 1 1 { tmps := [v], hp := hp } [(0, val)] ([rdRow g cap] ++ new)
def zUK (g : Nat -> Int) (len cap : Nat) (I J : RqSt -> Prop) (M N : RqSt -> Nat) (i : Nat) : Plan := bif Nat.beq i 1 then annS RqSt (zQT 8 len cap) (rqHp g cap) I M else annS RqSt (zQT 13 len cap) (rqHp g cap) J N
def zIw (g : Nat -> Int) (p : Int) : Int := IE.den (.add .u32 (.add .u32 (.add .u32 (.conv .u32 (.var (g (0 + Int.toNat p)))) (.shl .u32 (.conv .u32 (.var (g (0 + Int.toNat (addI p 1))))) (.lit 8))) (.shl .u32 (.conv .u32 (.var (g (0 + Int.toNat (addI p 2))))) (.lit 16))) (.shl .u32 (.conv .u32 (.var (g (0 + Int.toNat (addI p 3))))) (.lit 24)))
def zUh (p : Int) (v : IE) (h : BE) (k : Nat) : IE := match [SV.int .i64 (.var p), SV.int .i64 v, SV.bool h][k]? with | some (SV.int k a) => a | x => IE.lit 0
def zZk (p : Int) (v : IE) (h : BE) (k : Nat) : BE := match [SV.int .i64 (.var p), SV.int .i64 v, SV.bool h][k]? with | some (SV.bool a) => a | x => BE.lit false
def okQ (len cap : Nat) (g : Nat -> Int) (I : RqSt -> Prop) (M : RqSt -> Nat) (a : RqSt) (v : IE) (h : BE) (nx : Int) : Prop :=
 decide (0 + RqSt.n a <= RqSt.c a) = true /\ decide (RqSt.c a <= RqSt.c a) = true /\ decide (RqSt.c a <= 9223372036854775807) = true /\ Nat.le (NE.den (NE.two (fun x1 x2 => x1 + x2) (NE.var (RqSt.n a)) (NE.lit (0 + 1))) * 24) 140737488355328 /\ ∀ (U : Unk) (cap_1 : Nat), NE.den (NE.two (fun x1 x2 => x1 + x2) (NE.var (RqSt.n a)) (NE.lit (0 + 1))) <= cap_1 -> cap_1 <= 9223372036854775807 -> ∃ a', I a' /\ Nat.le (Nat.succ (M a')) (M a) /\ len = len /\ cap = cap /\ RqSt.n a + 1 = RqSt.n a' /\ cap_1 = RqSt.c a' /\ nx = (↑(RqSt.p a') : Int) /\ cap = cap /\ (∀ (e : Nat), e < cap -> g e = g e) /\ cap_1 = RqSt.c a' /\ (∀ (e : Nat), e < RqSt.c a' -> IE.den (Bool.rec (motive := fun _ => IE) (bif Nat.blt e (RqSt.n a + (0 + 1)) then zUh (↑(RqSt.p a) : Int) v h ((0 / 3 + (e - RqSt.n a)) * 3 + 0) else IE.var (Unk.i U 0 e)) (.var (RqSt.A a e)) (Nat.blt e (RqSt.n a))) = RqSt.A a' e) /\ (∀ (e : Nat), e < RqSt.c a' -> IE.den (Bool.rec (motive := fun _ => IE) (bif Nat.blt e (RqSt.n a + (0 + 1)) then zUh (↑(RqSt.p a) : Int) v h ((0 / 3 + (e - RqSt.n a)) * 3 + 1) else IE.var (Unk.i U (0 + 1) e)) (.var (RqSt.V a e)) (Nat.blt e (RqSt.n a))) = RqSt.V a' e) /\ (∀ (e : Nat), e < RqSt.c a' -> BE.den (Bool.rec (motive := fun _ => BE) (bif Nat.blt e (RqSt.n a + (0 + 1)) then zZk (↑(RqSt.p a) : Int) v h ((0 / 3 + (e - RqSt.n a)) * 3 + 2) else BE.var (Unk.b U (0 + 1 + 1) e)) (.var (RqSt.H a e)) (Nat.blt e (RqSt.n a))) = RqSt.H a' e) /\ True
def erQ (cap : Nat) (g : Nat -> Int) (O : RqR -> Prop) (B : WkE -> Prop) (a : RqSt) : Prop :=
 (∃ b, O b /\ RqR.n b = 0 /\ RqR.c b = 0 /\ zF 52) ∨ ∃ b, B b /\ 221 = WkE.e b /\ (↑(RqSt.p a) : Int) = (↑(WkE.p b) : Int) /\ cap = cap /\ (∀ (e : Nat), e < cap -> g e = g e) /\ True
theorem zaF (t : Int) (g : Nat -> Int) (len cap : Nat) (I J : RqSt -> Prop) (M N : RqSt -> Nat) (O : RqR -> Prop) (B : WkE -> Prop) : zH P RQ (zUK g len cap I J M N) Tryz.f12 [.int .i64 (.var t), sA 0 len cap] [rdRow g cap] (rqQ g cap O B) =
  ((BE.den (.cmp .eql (.var t) (.lit 1)) = true -> (∃ a, I a /\ len = len /\ cap = cap /\ RqSt.n a = 0 /\ RqSt.c a = 0 /\ 0 = (↑(RqSt.p a) : Int) /\ cap = cap /\ (∀ (e : Nat), e < cap -> g e = g e) /\ RqSt.c a = 0 /\ True) /\ (∀ (u : Nat -> Value) (a : RqSt), I a -> (BE.den (.cmp .lss (.var (↑(RqSt.p a) : Int)) (.var (↑len : Int))) = true -> (BE.den (.cmp .gtr (.add .i64 (.var (↑(RqSt.p a) : Int)) (.lit 4)) (.var (↑len : Int))) = true -> erQ cap g O B a) /\ (BE.den (.cmp .gtr (.add .i64 (.var (↑(RqSt.p a) : Int)) (.lit 4)) (.var (↑len : Int))) = false -> BE.den (.ite (.var (decide (len <= cap /\ 0 + cap <= cap))) (.var (decide (0 <= (↑(RqSt.p a) : Int) /\ (↑(RqSt.p a) : Int) < (↑len : Int)))) (.lit false)) = true /\ decide (0 + Int.toNat (↑(RqSt.p a) : Int) + 1 <= cap) = true /\ BE.den (.ite (.var (decide (len <= cap /\ 0 + cap <= cap))) (.var (decide (0 <= addI (↑(RqSt.p a) : Int) 1 /\ addI (↑(RqSt.p a) : Int) 1 < (↑len : Int)))) (.lit false)) = true /\ decide (0 + Int.toNat (addI (↑(RqSt.p a) : Int) 1) + 1 <= cap) = true /\ BE.den (.ite (.var (decide (len <= cap /\ 0 + cap <= cap))) (.var (decide (0 <= addI (↑(RqSt.p a) : Int) 2 /\ addI (↑(RqSt.p a) : Int) 2 < (↑len : Int)))) (.lit false)) = true /\ decide (0 + Int.toNat (addI (↑(RqSt.p a) : Int) 2) + 1 <= cap) = true /\ BE.den (.ite (.var (decide (len <= cap /\ 0 + cap <= cap))) (.var (decide (0 <= addI (↑(RqSt.p a) : Int) 3 /\ addI (↑(RqSt.p a) : Int) 3 < (↑len : Int)))) (.lit false)) = true /\ decide (0 + Int.toNat (addI (↑(RqSt.p a) : Int) 3) + 1 <= cap) = true /\ Rv.inU32 (zIw g (↑(RqSt.p a) : Int)) = true /\ (BE.den (.cmp .neq (.var (Rv.RvIns.err (Rv.rvDec (zIw g (↑(RqSt.p a) : Int))))) (.lit 0)) = true -> erQ cap g O B a) /\ (BE.den (.cmp .neq (.var (Rv.RvIns.err (Rv.rvDec (zIw g (↑(RqSt.p a) : Int))))) (.lit 0)) = false -> (BE.den (.cmp .lss (.var (Rv.RvIns.op (Rv.rvDec (zIw g (↑(RqSt.p a) : Int))))) (.lit 16)) = true -> okQ len cap g I M a (.var (Rv.RvIns.imm (Rv.rvDec (zIw g (↑(RqSt.p a) : Int))))) (.lit true) (addI (↑(RqSt.p a) : Int) 4)) /\ (BE.den (.cmp .lss (.var (Rv.RvIns.op (Rv.rvDec (zIw g (↑(RqSt.p a) : Int))))) (.lit 16)) = false -> okQ len cap g I M a (.var (Rv.RvIns.imm (Rv.rvDec (zIw g (↑(RqSt.p a) : Int))))) (.cmp .gtr (.var (Rv.RvIns.op (Rv.rvDec (zIw g (↑(RqSt.p a) : Int))))) (.lit 28)) (addI (↑(RqSt.p a) : Int) 4))))) /\ (BE.den (.cmp .lss (.var (↑(RqSt.p a) : Int)) (.var (↑len : Int))) = false -> (∃ b, O b /\ RqSt.n a = RqR.n b /\ RqSt.c a = RqR.c b /\ cap = cap /\ (∀ (e : Nat), e < cap -> g e = g e) /\ RqSt.c a = RqR.c b /\ (∀ (e : Nat), e < RqR.c b -> RqSt.A a e = RqR.A b e) /\ (∀ (e : Nat), e < RqR.c b -> RqSt.V a e = RqR.V b e) /\ (∀ (e : Nat), e < RqR.c b -> RqSt.H a e = RqR.H b e) /\ True) ∨ ∃ b, B b /\ zF 65)) /\ ∀ (u : Nat -> Value) (b : Unit), False -> False) /\ (BE.den (.cmp .eql (.var t) (.lit 1)) = false -> (BE.den (.cmp .eql (.var t) (.lit 2)) = true -> (∃ a, J a /\ len = len /\ cap = cap /\ RqSt.n a = 0 /\ RqSt.c a = 0 /\ 0 = (↑(RqSt.p a) : Int) /\ cap = cap /\ (∀ (e : Nat), e < cap -> g e = g e) /\ RqSt.c a = 0 /\ True) /\ (∀ (u : Nat -> Value) (a : RqSt), J a -> (BE.den (.cmp .lss (.var (↑(RqSt.p a) : Int)) (.var (↑len : Int))) = true -> BE.den (.ite (.var (decide (0 + cap <= cap))) (.var (decide (len <= cap))) (.lit false)) = true /\ ∀ (cs' : List Col), cs' = List.map Col.nrm (zY (NE.lit 0) [col8 g]) -> ((∃ (g : Nat -> Int), cs' = [Col.int .u8 fun e => IE.var (g e)]) /\ BGood (colG cs') len cap) /\ (BE.den (.cmp .neq (.var (Prod.snd (Prod.snd (zi (colG cs') len (↑(RqSt.p a) : Int))))) (.lit 0)) = true -> erQ cap g O B a) /\ (BE.den (.cmp .neq (.var (Prod.snd (Prod.snd (zi (colG cs') len (↑(RqSt.p a) : Int))))) (.lit 0)) = false -> (BE.den (.cmp .eql (.var (AI.op (Prod.fst (zi (colG cs') len (↑(RqSt.p a) : Int))))) (.lit 1)) = true -> okQ len cap g J N a (.var (AI.imm (Prod.fst (zi (colG cs') len (↑(RqSt.p a) : Int))))) (.lit true) (Prod.fst (Prod.snd (zi (colG cs') len (↑(RqSt.p a) : Int))))) /\ (BE.den (.cmp .eql (.var (AI.op (Prod.fst (zi (colG cs') len (↑(RqSt.p a) : Int))))) (.lit 1)) = false -> (BE.den (.cmp .eql (.var (AI.op (Prod.fst (zi (colG cs') len (↑(RqSt.p a) : Int))))) (.lit 14)) = true -> okQ len cap g J N a (.var (AI.imm (Prod.fst (zi (colG cs') len (↑(RqSt.p a) : Int))))) (.lit true) (Prod.fst (Prod.snd (zi (colG cs') len (↑(RqSt.p a) : Int))))) /\ (BE.den (.cmp .eql (.var (AI.op (Prod.fst (zi (colG cs') len (↑(RqSt.p a) : Int))))) (.lit 14)) = false -> (BE.den (.cmp .eql (.var (AI.op (Prod.fst (zi (colG cs') len (↑(RqSt.p a) : Int))))) (.lit 15)) = true -> okQ len cap g J N a (.var (AI.imm (Prod.fst (zi (colG cs') len (↑(RqSt.p a) : Int))))) (.lit true) (Prod.fst (Prod.snd (zi (colG cs') len (↑(RqSt.p a) : Int))))) /\ (BE.den (.cmp .eql (.var (AI.op (Prod.fst (zi (colG cs') len (↑(RqSt.p a) : Int))))) (.lit 15)) = false -> (BE.den (.cmp .eql (.var (AI.op (Prod.fst (zi (colG cs') len (↑(RqSt.p a) : Int))))) (.lit 16)) = true -> okQ len cap g J N a (.var (AI.imm (Prod.fst (zi (colG cs') len (↑(RqSt.p a) : Int))))) (.lit true) (Prod.fst (Prod.snd (zi (colG cs') len (↑(RqSt.p a) : Int))))) /\ (BE.den (.cmp .eql (.var (AI.op (Prod.fst (zi (colG cs') len (↑(RqSt.p a) : Int))))) (.lit 16)) = false -> (BE.den (.cmp .eql (.var (AI.op (Prod.fst (zi (colG cs') len (↑(RqSt.p a) : Int))))) (.lit 17)) = true -> okQ len cap g J N a (.var (AI.imm (Prod.fst (zi (colG cs') len (↑(RqSt.p a) : Int))))) (.lit true) (Prod.fst (Prod.snd (zi (colG cs') len (↑(RqSt.p a) : Int))))) /\ (BE.den (.cmp .eql (.var (AI.op (Prod.fst (zi (colG cs') len (↑(RqSt.p a) : Int))))) (.lit 17)) = false -> (BE.den (.cmp .eql (.var (AI.op (Prod.fst (zi (colG cs') len (↑(RqSt.p a) : Int))))) (.lit 25)) = true -> okQ len cap g J N a (.var (AI.imm (Prod.fst (zi (colG cs') len (↑(RqSt.p a) : Int))))) (.lit true) (Prod.fst (Prod.snd (zi (colG cs') len (↑(RqSt.p a) : Int))))) /\ (BE.den (.cmp .eql (.var (AI.op (Prod.fst (zi (colG cs') len (↑(RqSt.p a) : Int))))) (.lit 25)) = false -> (BE.den (.cmp .eql (.var (AI.op (Prod.fst (zi (colG cs') len (↑(RqSt.p a) : Int))))) (.lit 26)) = true -> okQ len cap g J N a (.var (AI.imm (Prod.fst (zi (colG cs') len (↑(RqSt.p a) : Int))))) (.lit true) (Prod.fst (Prod.snd (zi (colG cs') len (↑(RqSt.p a) : Int))))) /\ (BE.den (.cmp .eql (.var (AI.op (Prod.fst (zi (colG cs') len (↑(RqSt.p a) : Int))))) (.lit 26)) = false -> (BE.den (.cmp .eql (.var (AI.op (Prod.fst (zi (colG cs') len (↑(RqSt.p a) : Int))))) (.lit 3)) = true -> okQ len cap g J N a (.var (AI.disp (Prod.fst (zi (colG cs') len (↑(RqSt.p a) : Int))))) (.lit true) (Prod.fst (Prod.snd (zi (colG cs') len (↑(RqSt.p a) : Int))))) /\ (BE.den (.cmp .eql (.var (AI.op (Prod.fst (zi (colG cs') len (↑(RqSt.p a) : Int))))) (.lit 3)) = false -> (BE.den (.cmp .eql (.var (AI.op (Prod.fst (zi (colG cs') len (↑(RqSt.p a) : Int))))) (.lit 4)) = true -> okQ len cap g J N a (.var (AI.disp (Prod.fst (zi (colG cs') len (↑(RqSt.p a) : Int))))) (.lit true) (Prod.fst (Prod.snd (zi (colG cs') len (↑(RqSt.p a) : Int))))) /\ (BE.den (.cmp .eql (.var (AI.op (Prod.fst (zi (colG cs') len (↑(RqSt.p a) : Int))))) (.lit 4)) = false -> okQ len cap g J N a (.lit (Int.ofNat 0)) (.lit false) (Prod.fst (Prod.snd (zi (colG cs') len (↑(RqSt.p a) : Int))))))))))))))) /\ (BE.den (.cmp .lss (.var (↑(RqSt.p a) : Int)) (.var (↑len : Int))) = false -> (∃ b, O b /\ RqSt.n a = RqR.n b /\ RqSt.c a = RqR.c b /\ cap = cap /\ (∀ (e : Nat), e < cap -> g e = g e) /\ RqSt.c a = RqR.c b /\ (∀ (e : Nat), e < RqR.c b -> RqSt.A a e = RqR.A b e) /\ (∀ (e : Nat), e < RqR.c b -> RqSt.V a e = RqR.V b e) /\ (∀ (e : Nat), e < RqR.c b -> RqSt.H a e = RqR.H b e) /\ True) ∨ ∃ b, B b /\ zF 65)) /\ ∀ (u : Nat -> Value) (b : Unit), False -> False) /\ (BE.den (.cmp .eql (.var t) (.lit 2)) = false -> (∃ b, O b /\ RqR.n b = 0 /\ RqR.c b = 0 /\ zF 52) ∨ ∃ b, B b /\ 1 = WkE.e b /\ 0 = (↑(WkE.p b) : Int) /\ cap = cap /\ (∀ (e : Nat), e < cap -> g e = g e) /\ True))) := by kernel_rfl
end Go.Proofs.YtajcmjjgnbaahaaGreat.Amd
