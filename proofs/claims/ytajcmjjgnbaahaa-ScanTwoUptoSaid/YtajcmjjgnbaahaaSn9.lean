/- ScanTwo answers true. -/
import Derived.Test.YtajcmjjgnbaahaaSn7
import Derived.Test.YtajcmjjgnbaahaaSn8
namespace Go.Proofs.Ytajcmjjgnbaahaa.Amd
open Go Go.Proofs.Ytajcmjjgnbaahaa.Sx Go.RowKit
set_option linter.unusedVariables false
set_option linter.unusedSimpArgs false

theorem NumO.small {t : Int} {g : Nat → Int} {len : Nat} {r : NuR} (h : NumO t g len r) : r.n ≤ len := by
  rcases h.all with ⟨_, _, n, _, _, w, h, _⟩ | ⟨h, _⟩
  · have := w.le; omega
  · omega
structure TwInv (a : TwSt) : Prop where
  kn : a.k ≤ a.n
  nc : a.n ≤ a.c
  mn : a.m = a.n
  md : a.m ≤ a.d
  small : a.n ≤ 1073741824
  same : ∀ j, j < a.n → a.N j = a.A j
set_option maxRecDepth 100000 in
theorem two_sx {t : Int} {g : Nat → Int} {len cap : Nat} (hg : BGood g len cap) {h : Nat → Int} {m mc : Nat} (hh : BGood h m mc) (hs : len + m ≤ 1048576) :
    sxFunc P SW (fun _ => annS TwSt twSlots (twHp g cap h mc) TwInv (fun a => a.n - a.k)) Try.f6 [.int .i64 (.var t), sA 0 len cap, sA 1 m mc] [rdRow g cap, rdRow h mc] (fun v _ => yes v) := by
  rw [two_nf]
  have hgr := hg.room
  have hhr := hh.room
  refine ⟨ask2 hg.room, fun cs1 hcs1 => ?_⟩
  have e1 : colG cs1 = g := by rw [hcs1]; rfl
  rw [e1]
  refine ⟨⟨by rw [hcs1]; exact ⟨g, rfl⟩, hg, by show len ≤ 1073741824; omega⟩, fun b hb => ⟨ask2 hh.room, fun cs2 hcs2 => ?_⟩⟩
  have e2 : colG cs2 = h := by rw [hcs2]; rfl
  rw [e2]
  refine ⟨⟨by rw [hcs2]; exact ⟨h, rfl⟩, hh, by show m ≤ 1073741824; omega⟩, fun b1 hb1 => ⟨decide_eq_true (by omega), by show (0 + len) * 1 ≤ 140737488355328; omega, fun U c1 hc1 hc1' => ?_⟩⟩
  have hc1 : 0 + len ≤ c1 := hc1
  refine ⟨decide_eq_true (by omega), decide_eq_true (by omega), decide_eq_true (Nat.le_refl _), decide_eq_true hc1', by show (0 + len + m) * 1 ≤ 140737488355328; omega, fun U1 c2 hc2 hc2' => ⟨ask2 hc2, fun cs3 hcs3 => ?_⟩⟩
  have hc2 : 0 + len + m ≤ c2 := hc2
  have f1 : ∀ i, i < len → colG cs3 (0 + i) = g i := fun i hi => by
    rw [hcs3, show 0 + i = i from Nat.zero_add i]
    show IE.den (bif Nat.blt i (0 + len) then bif Nat.blt i 0 then IE.lit 0 else bif Nat.blt i (0 + len) then IE.var (g (0 + (i - 0))) else IE.var (Unk.i U 0 i) else _) = _
    rw [blt_t (show i < 0 + len by omega), blt_f (Nat.zero_le i)]
    show g (0 + (i - 0)) = g i
    rw [Nat.zero_add, Nat.sub_zero]
  have f2 : ∀ i, i < m → colG cs3 (len + i) = h i := fun i hi => by
    rw [hcs3]
    show IE.den (bif Nat.blt (len + i) (0 + len) then _ else bif Nat.blt (len + i) (0 + len + m) then IE.var (h (0 + (len + i - (0 + len)))) else IE.var (Unk.i U1 0 (len + i))) = _
    rw [blt_f (show 0 + len ≤ len + i by omega), blt_t (show len + i < 0 + len + m by omega)]
    show h (0 + (len + i - (0 + len))) = h i
    rw [show 0 + (len + i - (0 + len)) = i by omega]
  have hbyte : ∀ i, i < len + m → 0 ≤ colG cs3 i ∧ colG cs3 i < 256 := fun i hi => by
    by_cases hl : i < len
    · have := f1 i hl; rw [Nat.zero_add] at this; rw [this]; exact hg.byte i hl
    · have := f2 (i - len) (by omega); rw [show len + (i - len) = i by omega] at this; rw [this]; exact hh.byte _ (by omega)
  refine ⟨⟨by rw [hcs3]; exact ⟨_, rfl⟩, ⟨by omega, by omega, fun i hi => hbyte i (by omega)⟩, by show 0 + len + m ≤ 1073741824; omega⟩, fun b2 hb2 => ⟨fun _ ν => rfl, fun he => ⟨fun _ ν => rfl, fun he1 => ?_⟩⟩⟩
  have he : b.e = 0 := by simpa [BE.den, IE.den, cmpI_neq] using he
  have he1 : b1.e = 0 := by simpa [BE.den, IE.den, cmpI_neq] using he1
  rw [Nat.zero_add] at hb2
  obtain ⟨j1, j2, j3, j4⟩ := num_join hg.byte hh.byte f1 f2 hb hb1 hb2 he he1
  have s0 := hb.small
  have s1 := hb1.small
  have r0 := hb.h1
  have r1 := hb1.h1
  have r2 := hb2.h1
  refine ⟨decide_eq_true (by omega), by show (0 + b.n) * 8 ≤ 140737488355328; omega, fun U2 c3 hc3 hc3' => ?_⟩
  have hc3 : 0 + b.n ≤ c3 := hc3
  refine ⟨decide_eq_true (by omega), decide_eq_true (by omega), decide_eq_true (Nat.le_refl _), decide_eq_true hc3', by show (0 + b.n + b1.n) * 8 ≤ 140737488355328; omega, fun U3 c4 hc4 hc4' => ⟨fun hn => n_neqL j1 hn, fun _ => ⟨fun hn => n_neq (by omega) hn, fun _ => ⟨?_, ?_, fun _ _ h => h⟩⟩⟩⟩
  · have hc4 : 0 + b.n + b1.n ≤ c4 := hc4
    refine ⟨⟨b2.n, b2.c, b2.O, 0 + b.n + b1.n, c4, fun e => IE.den (Bool.rec (motive := fun _ => IE) (bif Nat.blt e (0 + b.n + b1.n) then IE.var (b1.O (0 + (e - (0 + b.n)))) else IE.var (Unk.i U3 0 e)) (bif Nat.blt e 0 then IE.lit 0 else bif Nat.blt e (0 + b.n) then IE.var (b.O (0 + (e - 0))) else IE.var (Unk.i U2 0 e)) (Nat.blt e (0 + b.n))), 0⟩,
      ⟨Nat.zero_le _, r2, by dsimp only; omega, hc4, by dsimp only; omega, fun j hj => ?_⟩, rfl, rfl, rfl, rfl, rfl, rfl, fun _ _ => rfl, rfl, fun _ _ => rfl, rfl, fun _ _ => rfl, rfl, fun _ _ => rfl, trivial⟩
    have hj : j < b2.n := hj
    show b2.O j = IE.den (Bool.rec (motive := fun _ => IE) _ _ (Nat.blt j (0 + b.n)))
    by_cases hjb : j < b.n
    · rw [blt_t (show j < 0 + b.n by omega), blt_f (Nat.zero_le j), j3 j hjb]
      show b.O j = b.O (0 + (j - 0))
      rw [Nat.zero_add, Nat.sub_zero]
    · rw [blt_f (show 0 + b.n ≤ j by omega), blt_t (show j < 0 + b.n + b1.n by omega)]
      show b2.O j = b1.O (0 + (j - (0 + b.n)))
      have := j4 (j - b.n) (by omega)
      rw [show b.n + (j - b.n) = j by omega] at this
      rw [this, Nat.zero_add, Nat.zero_add]
  · rintro _ ⟨n, c, N, m', d, A, k⟩ ⟨i1, i2, i3, i4, i5, i6⟩
    dsimp only at i1 i2 i3 i4 i5 i6 ⊢
    have hkt : 0 + Int.toNat (k : Int) = k := by simp
    refine ⟨fun hlt => ?_, fun _ ν => rfl⟩
    have hlt : (k : Int) < (n : Int) := by simpa [BE.den, IE.den, cmpI_lss] using hlt
    have hk : k < n := by omega
    refine ⟨ask_ix (by simp; omega) (by simp; omega), decide_eq_true (by omega), decide_eq_true ⟨by omega, by omega⟩, decide_eq_true (by omega), fun hn => n_neq (by rw [hkt, i6 k hk]) hn, fun _ => ?_⟩
    refine ⟨⟨n, c, N, m', d, A, k + 1⟩, ⟨hk, i2, i3, i4, i5, i6⟩, ?_, rfl, rfl, rfl, rfl, ?_, rfl, fun _ _ => rfl, rfl, fun _ _ => rfl, rfl, fun _ _ => rfl, rfl, fun _ _ => rfl, trivial⟩
    · show n - (k + 1) < n - k
      omega
    · show IntKind.i64.wrap ((k : Int) + 1) = ((k + 1 : Nat) : Int)
      rw [wrap_i64_in (by omega) (by omega)]; omega
end Go.Proofs.Ytajcmjjgnbaahaa.Amd
