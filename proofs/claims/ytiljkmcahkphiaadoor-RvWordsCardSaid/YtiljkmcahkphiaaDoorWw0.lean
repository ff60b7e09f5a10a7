/- The law RvWords: its calls told, its memory, its loop. -/
import Derived.Test.YtiljkmcahkphiaaDoorWs7
import Derived.Test.YtiljkmcahkphiaaDoorRv9
import Derived.Test.YtiljkmcahkphiaaDoorLaw2
import Derived.Test.YtiljkmcahkphiaaDoorLaidLaw
namespace Go.Proofs.YtiljkmcahkphiaaDoor.Rv
open Go Go.Proofs.YtiljkmcahkphiaaDoor.Sx Go.RowKit
set_option linter.unusedVariables false
set_option linter.unusedSimpArgs false

/-- What is told by slots: words and texts never differ. -/
theorem sure_ok {f : FuncId} : CalOk P f (.pure fun _ => none) := fun args p v h => by simp at h
noncomputable def wwT : List (FuncId × Cal) := (1000074, .pure fun _ => none) :: (1000084, .pure fun _ => none) :: (1000108, .pure fun _ => none) :: (1000142, .pure fun _ => none) :: (7, .spec (tabSpec 0 showF) (tabGuess showF)) :: (8, .spec (tabSpec 0 showF) (tabGuess showF)) :: (6, .pure fEnc) :: (9, .pure fDec) :: rvT4
theorem wwT_ok : GammaOk P (table wwT) := table_cons sure_ok <| table_cons sure_ok <| table_cons sure_ok <| table_cons sure_ok <| table_cons show_ok (table_cons rshow_ok (table_cons frenc_ok (table_cons fdec_ok rvT4_ok)))
noncomputable def GW : FuncId → Option Cal := inl P (fun _ _ => 40) (table wwT) 4
theorem GW_ok : GammaOk P GW := inl_ok wwT_ok 4

def wUn : Nat → Plan := fun _ => 1000000
noncomputable def wCode : Code := (Tryd.f3.body).getD .skip
noncomputable def wBody (σ : St) (K : SExit → St → Prop) : Prop :=
  match (loopIn wCode 0)[0]? with
  | some (b, c) => sxCode P GW wUn 2 c b σ K
  | none => False
noncomputable def wK (Q : SV → Prop) : SExit → St → Prop := (ctxK (sxCode P GW wUn 2) wCode 0 (endK Tryd.f3 Q)).getD fun _ _ => False
def wCols (g : Nat → Nat → Int) : List Col := (List.range 5).map fun j => .int .i64 fun i => .var (g i j)
def wHp (g : Nat → Nat → Int) (cap : Nat) : List SObj := [.row false true (wCols g) (.var cap), .glob 0 tenTab]
def wArg (len cap : Nat) : SV := .sliceE true 0 5 (.lit 0) (.var len) (.var cap)
end Go.Proofs.YtiljkmcahkphiaaDoor.Rv
