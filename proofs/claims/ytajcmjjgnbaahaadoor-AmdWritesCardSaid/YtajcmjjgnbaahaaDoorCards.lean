/-
  DERIVED. GIVEN WITH THE SEED: THE CARDS: each row of YtajcmjjgnbaahaaDoorRows.lean that lists a variable, with what it lists TIED to the program's text (the seventh form; the later family's looks); each row that meets fmt, with fmt's text TOLD by the authors' own Lean function (tested against real Go, not proved from fmt's source: count such statements apart). THE CARD IS WHAT COUNTS. Prove the row's statement (the work); the ties are given (YtajcmjjgnbaahaaDoorTie.lean); close each card by the builder's one call (the guide's Derived/Test/ToyasCard.lean, 'card_holds'). Laid BY PROGRAM, IN A SANDBOX (cutbox-door.mjs). By AI agents, Wed Nov 11 2026. No macro, syntax, notation, axiom, sorry.
-/
import Derived.Test.YtajcmjjgnbaahaaDoorRows
import GoSem.ClaimSeven
namespace Go.Proofs.YtajcmjjgnbaahaaDoor
namespace Rows

/-- THE TIED CARD OF 'ravelinlaw18.AmdShows'. -/
def amdShowsCard : Claim7 := { stood := { row := amdShowsRow, standIns := [], harness := (true, "4a30c1663a3b61beb72d4e75300225aa3f6d1d47ecf8be9fbc2195304a203b50"), looks := false }, kinds := [], alts := [], laidByText := true, laidKinds := [.data, .data, .data], laidTests := true, laidLooks := .later }
def AmdShowsCardSaid : Prop := Claim7.holds Tryd.pinned (.plain (OpenSpec.ofChange amdShowsSpec)) amdShowsCard

/-- THE TIED CARD OF 'ravelinlaw18.AmdWrites'. -/
def amdWritesCard : Claim7 := { stood := { row := amdWritesRow, standIns := [], harness := (true, "4a30c1663a3b61beb72d4e75300225aa3f6d1d47ecf8be9fbc2195304a203b50"), looks := false }, kinds := [], alts := [], laidByText := true, laidKinds := [.data, .data, .data], laidTests := true, laidLooks := .later }
def AmdWritesCardSaid : Prop := Claim7.holds Tryd.pinned (.plain (OpenSpec.ofChange amdWritesSpec)) amdWritesCard

/-- THE TIED CARD OF 'ravelinlaw18.AmdNames'. -/
def amdNamesCard : Claim7 := { stood := { row := amdNamesRow, standIns := [], harness := (true, "4a30c1663a3b61beb72d4e75300225aa3f6d1d47ecf8be9fbc2195304a203b50"), looks := false }, kinds := [], alts := [], laidByText := true, laidKinds := [.data, .data, .data], laidTests := true, laidLooks := .later }
def AmdNamesCardSaid : Prop := Claim7.holds Tryd.pinned (.plain (OpenSpec.ofChange amdNamesSpec)) amdNamesCard

/-- THE SECOND FORM's CARD OF 'ravelinlaw18.AmdShows'. -/
def amdShowsUptoCard : Claim7 := { stood := { row := amdShowsUptoRow, standIns := [], harness := (true, "4a30c1663a3b61beb72d4e75300225aa3f6d1d47ecf8be9fbc2195304a203b50"), looks := false }, kinds := [], alts := [], laidByText := true, laidKinds := [.data, .data, .data], laidTests := true, laidLooks := .later }
def AmdShowsUptoCardSaid : Prop := Claim7.holds Tryd.pinned (.plain (OpenSpec.upto amdShowsSpec)) amdShowsUptoCard

/-- THE SECOND FORM's CARD OF 'ravelinlaw18.AmdWrites'. -/
def amdWritesUptoCard : Claim7 := { stood := { row := amdWritesUptoRow, standIns := [], harness := (true, "4a30c1663a3b61beb72d4e75300225aa3f6d1d47ecf8be9fbc2195304a203b50"), looks := false }, kinds := [], alts := [], laidByText := true, laidKinds := [.data, .data, .data], laidTests := true, laidLooks := .later }
def AmdWritesUptoCardSaid : Prop := Claim7.holds Tryd.pinned (.plain (OpenSpec.upto amdWritesSpec)) amdWritesUptoCard

/-- THE SECOND FORM's CARD OF 'ravelinlaw18.AmdNames'. -/
def amdNamesUptoCard : Claim7 := { stood := { row := amdNamesUptoRow, standIns := [], harness := (true, "4a30c1663a3b61beb72d4e75300225aa3f6d1d47ecf8be9fbc2195304a203b50"), looks := false }, kinds := [], alts := [], laidByText := true, laidKinds := [.data, .data, .data], laidTests := true, laidLooks := .later }
def AmdNamesUptoCardSaid : Prop := Claim7.holds Tryd.pinned (.plain (OpenSpec.upto amdNamesSpec)) amdNamesUptoCard
end Rows
end Go.Proofs.YtajcmjjgnbaahaaDoor
