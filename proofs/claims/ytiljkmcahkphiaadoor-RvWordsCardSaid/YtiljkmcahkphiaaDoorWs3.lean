/- The reference's Show: what its runs come to. -/
import Derived.Test.YtiljkmcahkphiaaDoorWs0
import Derived.Test.YtiljkmcahkphiaaDoorRr6
namespace Go.Proofs.YtiljkmcahkphiaaDoor.Rv
open Go Go.Proofs.YtiljkmcahkphiaaDoor.Sx
set_option linter.unusedVariables false
set_option linter.unusedSimpArgs false

def ref2 (p s1 s2 : ByteArray) (Q : SV → Prop) : Prop := cat2 p s1 s2 (Q (.strE (p ++ s1 ++ comma ++ s2)))
def ref3 (p s1 s2 s3 : ByteArray) (Q : SV → Prop) : Prop := cat2 p s1 s2 (askCat (p ++ s1 ++ comma ++ s2) comma (askCat (p ++ s1 ++ comma ++ s2 ++ comma) s3 (Q (.strE (p ++ s1 ++ comma ++ s2 ++ comma ++ s3)))))
def refBy (f : Nat) (p : ByteArray) (a b c d : Int) (Q : SV → Prop) : Prop :=
  match f with
  | 1 => ref2 p (xB a) (itoaB d) Q
  | 2 => ref3 p (xB a) (xB b) (itoaB d) Q
  | 3 => ref3 p (xB a) (xB b) (itoaB d) Q
  | 4 => ref3 p (xB a) (xB b) (itoaB d) Q
  | 5 => ref3 p (xB c) (xB b) (itoaB d) Q
  | 6 => ref3 p (xB a) (xB b) (xB c) Q
  | 7 => ref3 p (xB b) (xB c) (itoaB d) Q
  | _ => ref2 p (xB a) (itoaB d) Q
def refShowR (r : RvRow) (a b c d : Int) (Q : SV → Prop) : Prop :=
  askN a <| askCat chX (itoaB a) <| askN b <| askCat chX (itoaB b) <| askN c <| askCat chX (itoaB c) <| askN d <| refBy r.form (preB r) a b c d Q
noncomputable def shR : List (FuncId × Cal) := [(20, .spec (tabSpec 0 itoaF) (tabGuess itoaF)), (14, .pure fRFind)]
theorem shR_ok : GammaOk P (table shR) := by
  refine table_ok fun p hp => ?_
  simp only [shR, List.mem_cons, List.not_mem_nil, or_false] at hp
  rcases hp with rfl | rfl
  · exact itoa_spec
  · exact rfind_ok
noncomputable def GR : FuncId → Option Cal := inl P (fun _ _ => .plain 40) (table shR) 6
theorem GR_ok : GammaOk P GR := inl_ok shR_ok 6
end Go.Proofs.YtiljkmcahkphiaaDoor.Rv
