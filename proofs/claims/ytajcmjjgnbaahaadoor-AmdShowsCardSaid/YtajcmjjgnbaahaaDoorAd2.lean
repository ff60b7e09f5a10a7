/- What the reader's numbers and pairs of registers are. -/
import Derived.Test.YtajcmjjgnbaahaaDoorAd1
import Derived.Test.YtajcmjjgnbaahaaDoorAp3
namespace Go.Proofs.YtajcmjjgnbaahaaDoor.Amd
open Go Go.Proofs.YtajcmjjgnbaahaaDoor.Sx Go.RowKit
set_option linter.unusedVariables false
set_option linter.unusedSimpArgs false

theorem none_nf (g : Nat → Int) (len cap : Nat) (a p : Int) (b : Bool) (mm : Int) (a' : Int) (b' : Bool) : sxFunc P R1 (fun _ => 40) Tryd.f53 [.ptr 1 0, .int .u8 (.var mm)] [rdRow g cap, rdCells len cap a p b] (rdEnd g len cap p (.tuple []) a' b') =
    ((b = true → len = len ∧ cap = cap ∧ a = a' ∧ p = p ∧ BE.den (BE.lit true) = b' ∧ cap = cap ∧ (∀ (e : Nat), e < cap → g e = g e) ∧ True) ∧ (b = false → len = len ∧ cap = cap ∧ a = a' ∧ p = p ∧ BE.den (BE.cmp BinOp.neq (IE.bits BinOp.and IntKind.u8 (IE.var p) (IE.var mm)) (IE.lit 0)) = b' ∧ cap = cap ∧ (∀ (e : Nat), e < cap → g e = g e) ∧ True)) := by kernel_rfl
theorem wrap_i32 (n : Int) : IntKind.i32.wrap n = if n % 4294967296 ≥ 2147483648 then n % 4294967296 - 4294967296 else n % 4294967296 := by simp [IntKind.wrap, IntKind.bits, IntKind.signed]
theorem RGood.next {g : Nat → Int} {len cap : Nat} {a p : Int} (h : RGood g len cap a p) : RGood g len cap (nxA len a) p := by
  have h0 := h.pos0
  have h1 := h.pos1
  refine ⟨h.room, h.small, ?_, ?_, h.p0, h.p1, h.byte⟩ <;> unfold nxA <;> split <;> omega
/-! A number. -/
def nuA (len : Nat) (a : Int) (long : Bool) : Int := if long = true then nxA len (nxA len (nxA len (nxA len a))) else nxA len a
theorem RGood.num {g : Nat → Int} {len cap : Nat} {a p : Int} (h : RGood g len cap a p) (long : Bool) : RGood g len cap (nuA len a long) p := by
  unfold nuA
  split
  · exact h.next.next.next.next
  · exact h.next
theorem not_true {b : Bool} (h : BE.den (.not (.var b)) = true) : b = false := by simpa [BE.den] using h
/-! Two registers. -/
/-! Bits that must not be; a byte that must. -/
def noF (p mm : Int) (b : Bool) : Bool := b || !decide (bitsI .and .u8 p mm = 0)
abbrev noneM : SpecFn := mtSpec rdTy rdK [.plain] (rdPre ar8) (rdOuts ar8 (fun _ _ _ _ _ _ => .tuple []) (fun _ _ a p b x => rdCs a p (noF p x b)))
theorem none_ok : SpecOk P 53 noneM := by
  have hs := func_sound (un := fun _ => 40) R1_ok Tryd.func53
  refine meth_spec hs (by simp) (arS := fun x => [.int .u8 (.var x)]) ar8_S (posF := fun _ _ a _ _ _ => a) (badF := fun _ _ _ p b x => noF p x b) (fun _ _ _ _ _ _ => trivial) (fun _ _ _ _ _ _ => rfl) ?_
  intro g len cap a p b x hg
  rw [none_nf]
  refine ⟨fun h => ?_, fun h => ?_⟩
  · exact ⟨rfl, rfl, rfl, rfl, by unfold noF; rw [h]; rfl, rfl, fun _ _ => rfl, trivial⟩
  · exact ⟨rfl, rfl, rfl, rfl, by unfold noF; rw [h]; simp only [BE.den, IE.den, cmpI_neq]; rfl, rfl, fun _ _ => rfl, trivial⟩
end Go.Proofs.YtajcmjjgnbaahaaDoor.Amd
