/-
  DERIVED. GIVEN WITH THE SEED: THE CARDS: each row of YtiljkmcahkphiaaDoorRows.lean that lists a variable, with what it lists TIED to the program's text (the seventh form; the later family's looks); each row that meets fmt, with fmt's text TOLD by the authors' own Lean function (tested against real Go, not proved from fmt's source: count such statements apart). THE CARD IS WHAT COUNTS. Prove the row's statement (the work); the ties are given (YtiljkmcahkphiaaDoorTie.lean); close each card by the builder's one call (the guide's Derived/Test/ToyasCard.lean, 'card_holds'). Laid BY PROGRAM, IN A SANDBOX (cutbox-door.mjs). By AI agents, Wed Nov 11 2026. No macro, syntax, notation, axiom, sorry.
-/
import Derived.Test.YtiljkmcahkphiaaDoorRows
import GoSem.ClaimSeven
namespace Go.Proofs.YtiljkmcahkphiaaDoor
namespace Rows

/-- THE TIED CARD OF 'ravelinlaw15.RvWords'. -/
def rvWordsCard : Claim7 := { stood := { row := rvWordsRow, standIns := [], harness := (true, "6eefc69e26134ac74f648f2288ad7ddd5d70ce8b980baeacbf7efbff742b2194"), looks := true }, kinds := [], alts := [], laidByText := true, laidKinds := [.data, .data, .data], laidTests := true, laidLooks := .later }
def RvWordsCardSaid : Prop := Claim7.holds Tryd.pinned (.plain (OpenSpec.ofChange rvWordsSpec)) rvWordsCard

/-- THE SECOND FORM's CARD OF 'ravelinlaw15.RvWords'. -/
def rvWordsUptoCard : Claim7 := { stood := { row := rvWordsUptoRow, standIns := [], harness := (true, "6eefc69e26134ac74f648f2288ad7ddd5d70ce8b980baeacbf7efbff742b2194"), looks := true }, kinds := [], alts := [], laidByText := true, laidKinds := [.data, .data, .data], laidTests := true, laidLooks := .later }
def RvWordsUptoCardSaid : Prop := Claim7.holds Tryd.pinned (.plain (OpenSpec.upto rvWordsSpec)) rvWordsUptoCard
end Rows
end Go.Proofs.YtiljkmcahkphiaaDoor
