/- The law RvWords: what one round of its loop comes to. -/
import Derived.Test.YtiljkmcahkphiaaDoorWw0
import Derived.Test.YtiljkmcahkphiaaDoorLaw3
import Derived.KernelRfl
namespace Go.Proofs.YtiljkmcahkphiaaDoor.Rv
open Go Go.Proofs.YtiljkmcahkphiaaDoor.Sx Go.RowKit
set_option linter.unusedVariables false
set_option linter.unusedSimpArgs false

def wSlots (len cap : Nat) (k : Int) : List (Nat × SV) := [(0, wArg len cap), (2, .bool (.lit false)), (3, .bool (.lit true)), (4, .int .i64 (.var k))]
noncomputable def wTmps (len cap : Nat) : List SV := setAt (setAt (setAt (setAt (setAt (List.replicate Tryd.f3.ntmps SV.undef) 0 (wArg len cap)) 2 (.bool (.lit false))) 3 (.bool (.lit true))) 4 (.int .i64 (.lit 0))) 11 (.bool (.lit true))

theorem words_start (g : Nat → Nat → Int) (len cap : Nat) (Q : SV → Prop) : sxFunc P GW wUn Tryd.f3 [wArg len cap] (wHp g cap) (fun v _ => Q v) =
    loopG 2 wBody (wK Q) { tmps := wTmps len cap, hp := wHp g cap } := by kernel_rfl

def askIx (len cap : Nat) (k : Int) : Prop := BE.den (.ite (.var (decide (len ≤ cap ∧ 0 + cap ≤ cap))) (.var (decide (0 ≤ k ∧ k < (len : Int)))) (.lit false)) = true
def askLd (cap : Nat) (k : Int) : Prop := BE.den (.var (decide (0 + k.toNat + 1 ≤ cap))) = true
def forkB (e : BE) (A C : Prop) : Prop := (e.den = true → A) ∧ (e.den = false → C)
def neE (a b : Int) : BE := .cmp .neq (.var a) (.var b)
def neL (a b : Int) : BE := .cmp .neq (.var a) (.lit b)
def eqE (a b : Int) (r : BE) : BE := .ite (.cmp .eql (.var a) (.var b)) r (.lit false)
def insIs (x : RvIns) (y : Nat → Int) : BE := eqE x.op (y 0) (eqE x.rd (y 1) (eqE x.r1 (y 2) (eqE x.r2 (y 3) (eqE x.imm (y 4) (.lit true)))))
/-- The asks of two calls in every order that the text leaves open, and what follows. -/
def wMix (IX LD SH R : Prop) : Prop :=
  (IX ∧ (LD ∧ (SH ∧ IX ∧ LD ∧ SH ∧ R) ∧ IX ∧ (SH ∧ LD ∧ SH ∧ R) ∧ LD ∧ SH ∧ SH ∧ R) ∧ IX ∧ (LD ∧ (SH ∧ LD ∧ SH ∧ R) ∧ LD ∧ SH ∧ SH ∧ R) ∧ LD ∧ LD ∧ SH ∧ SH ∧ R) ∧ IX ∧ (IX ∧ (LD ∧ (SH ∧ LD ∧ SH ∧ R) ∧ LD ∧ SH ∧ SH ∧ R) ∧ LD ∧ LD ∧ SH ∧ SH ∧ R) ∧ LD ∧ IX ∧ LD ∧ SH ∧ SH ∧ R
def wTop (WF WE M : Prop) : Prop := (WF ∧ (WE ∧ M) ∧ (WE ∧ M) ∧ (WE ∧ M) ∧ WE ∧ M) ∧ WF ∧ (WE ∧ M) ∧ (WE ∧ M) ∧ (WE ∧ M) ∧ WE ∧ M
theorem wMix_of {IX LD SH R : Prop} (h1 : IX) (h2 : LD) (h3 : SH) (h4 : R) : wMix IX LD SH R := by simp only [wMix, h1, h2, h3, h4, and_self]
theorem wTop_of {WF WE M : Prop} (h1 : WF) (h2 : WE) (h3 : M) : wTop WF WE M := by simp only [wTop, h1, h2, h3, and_self]
def wShown (x : Nat → Int) : Prop := Sx.inI64 (x 1) ∧ Sx.inI64 (x 2) ∧ Sx.inI64 (x 3) ∧ Sx.inI64 (x 4)
def wEnc (x : Nat → Int) : Int × Int := rvEnc (x 0) (x 1) (x 2) (x 3) (x 4)
def wText (x : Nat → Int) : ByteArray := showV (x 0) (x 1) (x 2) (x 3) (x 4)
def wRest (len cap : Nat) (k : Int) (x : Nat → Int) (Q : SV → Prop) (N : Prop) : Prop :=
  (!((wText x).toList == (wText x).toList)) = false ∧ forkB (neL (wEnc x).2 0) N
    (BE.den (.var (inU32 (wEnc x).1)) = true ∧ askIx len cap k ∧ askLd cap k ∧ forkB (.not (insIs (rvDec (wEnc x).1) x)) (Q (.bool (.lit false))) ((neL (rvDec (wEnc x).1).err 0).den = false ∧ N))
def wRHS (len cap : Nat) (k : Int) (x : Nat → Int) (Q : SV → Prop) (N : Prop) : Prop :=
  forkB (.cmp .lss (.var k) (.var (len : Int))) (askIx len cap k ∧ askLd cap k ∧ BE.den (.var (inI64 (x 4))) = true ∧ askIx len cap k ∧ askLd cap k ∧ BE.den (.var (inI64 (x 4))) = true ∧
    wTop ((neE (wEnc x).1 (wEnc x).1).den = false) ((neE (wEnc x).2 (wEnc x).2).den = false) (wMix (askIx len cap k) (askLd cap k) (wShown x) (wRest len cap k x Q N))) (Q (.bool (.lit true)))

end Go.Proofs.YtiljkmcahkphiaaDoor.Rv
