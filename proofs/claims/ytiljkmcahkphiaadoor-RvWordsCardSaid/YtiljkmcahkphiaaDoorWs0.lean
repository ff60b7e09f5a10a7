/- Texts of words: what both sides' Show makes, row by row. -/
import Derived.Test.YtiljkmcahkphiaaDoorRv6
import Derived.Test.YtiljkmcahkphiaaDoorSxt
import Derived.Test.YtiljkmcahkphiaaDoorShelf
namespace Go.Proofs.YtiljkmcahkphiaaDoor.Rv
open Go Go.Proofs.YtiljkmcahkphiaaDoor.Sx
set_option linter.unusedVariables false
set_option linter.unusedSimpArgs false

theorem gTens : P.globalNamed tenName = some 0 := by kernel_rfl
theorem itoa_spec : SpecOk P 20 (tabSpec 0 itoaF) := itoa_ok gTens (fun n w h0 h1 ht => Tryd.strconv_Itoa n h0 h1 w ht)
def hpT : List SObj := [.glob 0 tenTab]

def chX : ByteArray := ⟨#[120]⟩
def comma : ByteArray := ⟨#[44]⟩
def xB (n : Int) : ByteArray := chX ++ itoaB n
def preB (r : RvRow) : ByteArray := ⟨(r.name ++ [32]).toArray⟩
def askCat (x y : ByteArray) (K : Prop) : Prop := BE.den (.var (decide (x.size + y.size ≤ 9223372036854775807))) = true ∧ K
def sm (a b c d : Int) (K : Prop) : Prop := a = a ∧ b = b ∧ c = c ∧ d = d ∧ K
def forkNE (s : ByteArray) (A C : Prop) : Prop := ((!(s.toList == (⟨#[]⟩ : ByteArray).toList)) = true → A) ∧ ((!(s.toList == (⟨#[]⟩ : ByteArray).toList)) = false → C)
def cat2 (p s1 s2 : ByteArray) (K : Prop) : Prop := askCat p s1 (askCat (p ++ s1) comma (askCat (p ++ s1 ++ comma) s2 K))
def show2 (p s1 s2 : ByteArray) (Q : SV → Prop) : Prop := cat2 p s1 s2 (Q (.strE (p ++ s1 ++ comma ++ s2)))
def show3 (p s1 s2 s3 : ByteArray) (Q : SV → Prop) : Prop := cat2 p s1 s2 (forkNE s3 (askCat comma s3 (askCat (p ++ s1 ++ comma ++ s2) (comma ++ s3) (Q (.strE (p ++ s1 ++ comma ++ s2 ++ (comma ++ s3)))))) (Q (.strE (p ++ s1 ++ comma ++ s2))))
def shown (f : Nat) (p : ByteArray) (a b c d : Int) (Q : SV → Prop) : Prop :=
  match f with
  | 1 => show2 p (xB a) (itoaB d) Q
  | 2 => show3 p (xB a) (xB b) (itoaB d) Q
  | 3 => show3 p (xB a) (xB b) (itoaB d) Q
  | 4 => show3 p (xB a) (xB b) (itoaB d) Q
  | 5 => show3 p (xB c) (xB b) (itoaB d) Q
  | 6 => show3 p (xB a) (xB b) (xB c) Q
  | 7 => show3 p (xB b) (xB c) (itoaB d) Q
  | _ => show2 p (xB a) (itoaB d) Q
def askN (n : Int) (K : Prop) : Prop := Sx.inI64 n ∧ K
def rvShowR (r : RvRow) (a b c d : Int) (Q : SV → Prop) : Prop :=
  askN a <| askCat chX (itoaB a) <| sm a b c d <| askN b <| askCat chX (itoaB b) <| sm a b c d <| askN c <| askCat chX (itoaB c) <| sm a b c d <| askN d <| sm a b c d <| sm a b c d <| shown r.form (preB r) a b c d Q
noncomputable def shT : List (FuncId × Cal) := [(20, .spec (tabSpec 0 itoaF) (tabGuess itoaF)), (10, .pure fFind)]
theorem shT_ok : GammaOk P (table shT) := by
  refine table_ok fun p hp => ?_
  simp only [shT, List.mem_cons, List.not_mem_nil, or_false] at hp
  rcases hp with rfl | rfl
  · exact itoa_spec
  · exact find_ok
noncomputable def GS : FuncId → Option Cal := inl P (fun _ _ => .plain 40) (table shT) 6
theorem GS_ok : GammaOk P GS := inl_ok shT_ok 6
end Go.Proofs.YtiljkmcahkphiaaDoor.Rv
