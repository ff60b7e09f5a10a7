/-
  No cell of these rows narrows 'for every input' (looked for: loops, veiled, ifaces, maps, wideKeys, modest, calm, conditions, laid).
  DERIVED. THE GIVEN ROWS OF THIS SEAT. 6 by the template 'for every input the law returns true; each argument reads behind the call as it read before'; 0 by the template 'total and deterministic' (their statements: YtajcmjjgnbaahaaTotals.lean).
  GIVEN WITH THE SEED: the statements are not yours to turn. If you find one false, say at which input.
  Laid BY PROGRAM, IN A SANDBOX (cutbox-rows.mjs): the forced cells as the released guide's own fill.sh prints them over the translation cb1f9a6de7aa5d2a… (all of the seat's roots in one cut). By AI agents, Wed Nov 11 2026. No macro, syntax, notation, axiom, sorry.
-/
import Derived.Test.YtajcmjjgnbaahaaChecked
import GoSem.Claim
import GoSem.ClaimJoined
import GoSem.ClaimMapViews
import Derived.JoinedTies
import Derived.KernelRfl
namespace Go.Proofs.Ytajcmjjgnbaahaa
/- THE CELL 'sum', in the pinned program and in every row, IS THE sha256 OF THE DUMP (.gsa) THAT YtajcmjjgnbaahaaProg.lean LOADS. Nothing in Lean hashes anything: it is a label: what it is worth is what the hold of that sum in a sandbox is worth. -/
noncomputable def Try.pinned : Pinned := { name := "ytajcmjjgnbaahaa", sum := "cb1f9a6de7aa5d2a63a7c57912d7596887d6e74707de150495b0c8ceaa5a4260", checked := Try.checked }
namespace Rows
def none {H : Type} : Left H := { results := [], args := [] }

/-- 'ravelinlaw18.AmdBack': WHATEVER THE INPUT: true; the input reads as it did. -/
def amdBackSpec : ChangeSpec := { name := "amdBack", fn := fun _ => fun
  | [d1, d2, d3] => { results := [.lit (.bool true)], args := [d1, d2, d3] }
  | _ => none }
def amdBackRow : OpenClaim := { program := "ytajcmjjgnbaahaa", sum := "cb1f9a6de7aa5d2a63a7c57912d7596887d6e74707de150495b0c8ceaa5a4260", func := "ravelin/ravelinlaw18.AmdBack", spec := "amdBack", unfollowed := true, recurses := true, apart := false }
def AmdBackSaid : Prop := amdBackRow.holds Try.pinned (OpenSpec.ofChange amdBackSpec)

/-- ITS FALSE NEIGHBOUR: 'it returns false'. Refute it at one input. -/
def amdBackWrong : ChangeSpec := { name := "amdBack", fn := fun _ => fun
  | [d1, d2, d3] => { results := [.lit (.bool false)], args := [d1, d2, d3] }
  | _ => none }
def AmdBackWrongFalsely : Prop := amdBackRow.holds Try.pinned (OpenSpec.ofChange amdBackWrong)

/-- 'ravelinlaw18.AmdReads': WHATEVER THE INPUT: true; the input reads as it did. -/
def amdReadsSpec : ChangeSpec := { name := "amdReads", fn := fun _ => fun
  | [d1, d2] => { results := [.lit (.bool true)], args := [d1, d2] }
  | _ => none }
def amdReadsRow : OpenClaim := { program := "ytajcmjjgnbaahaa", sum := "cb1f9a6de7aa5d2a63a7c57912d7596887d6e74707de150495b0c8ceaa5a4260", func := "ravelin/ravelinlaw18.AmdReads", spec := "amdReads", unfollowed := true, recurses := true, apart := false }
def AmdReadsSaid : Prop := amdReadsRow.holds Try.pinned (OpenSpec.ofChange amdReadsSpec)

/-- ITS FALSE NEIGHBOUR: 'it returns false'. Refute it at one input. -/
def amdReadsWrong : ChangeSpec := { name := "amdReads", fn := fun _ => fun
  | [d1, d2] => { results := [.lit (.bool false)], args := [d1, d2] }
  | _ => none }
def AmdReadsWrongFalsely : Prop := amdReadsRow.holds Try.pinned (OpenSpec.ofChange amdReadsWrong)

/-- 'ravelinlaw18.AmdLists': WHATEVER THE INPUT: true; the input reads as it did. -/
def amdListsSpec : ChangeSpec := { name := "amdLists", fn := fun _ => fun
  | [d1, d2] => { results := [.lit (.bool true)], args := [d1, d2] }
  | _ => none }
def amdListsRow : OpenClaim := { program := "ytajcmjjgnbaahaa", sum := "cb1f9a6de7aa5d2a63a7c57912d7596887d6e74707de150495b0c8ceaa5a4260", func := "ravelin/ravelinlaw18.AmdLists", spec := "amdLists", unfollowed := true, recurses := true, apart := false }
def AmdListsSaid : Prop := amdListsRow.holds Try.pinned (OpenSpec.ofChange amdListsSpec)

/-- ITS FALSE NEIGHBOUR: 'it returns false'. Refute it at one input. -/
def amdListsWrong : ChangeSpec := { name := "amdLists", fn := fun _ => fun
  | [d1, d2] => { results := [.lit (.bool false)], args := [d1, d2] }
  | _ => none }
def AmdListsWrongFalsely : Prop := amdListsRow.holds Try.pinned (OpenSpec.ofChange amdListsWrong)

/-- 'ravelinlaw22.ScanTwo': WHATEVER THE INPUT: true; the input reads as it did. -/
def scanTwoSpec : ChangeSpec := { name := "scanTwo", fn := fun _ => fun
  | [d1, d2, d3] => { results := [.lit (.bool true)], args := [d1, d2, d3] }
  | _ => none }
def scanTwoRow : OpenClaim := { program := "ytajcmjjgnbaahaa", sum := "cb1f9a6de7aa5d2a63a7c57912d7596887d6e74707de150495b0c8ceaa5a4260", func := "ravelin/ravelinlaw22.ScanTwo", spec := "scanTwo", unfollowed := true, recurses := true, apart := false }
def ScanTwoSaid : Prop := scanTwoRow.holds Try.pinned (OpenSpec.ofChange scanTwoSpec)

/-- ITS FALSE NEIGHBOUR: 'it returns false'. Refute it at one input. -/
def scanTwoWrong : ChangeSpec := { name := "scanTwo", fn := fun _ => fun
  | [d1, d2, d3] => { results := [.lit (.bool false)], args := [d1, d2, d3] }
  | _ => none }
def ScanTwoWrongFalsely : Prop := scanTwoRow.holds Try.pinned (OpenSpec.ofChange scanTwoWrong)

/-- 'ravelinlaw22.ScanNames': WHATEVER THE INPUT: true; the input reads as it did. -/
def scanNamesSpec : ChangeSpec := { name := "scanNames", fn := fun _ => fun
  | [] => { results := [.lit (.bool true)], args := [] }
  | _ => none }
def scanNamesRow : OpenClaim := { program := "ytajcmjjgnbaahaa", sum := "cb1f9a6de7aa5d2a63a7c57912d7596887d6e74707de150495b0c8ceaa5a4260", func := "ravelin/ravelinlaw22.ScanNames", spec := "scanNames", unfollowed := true, recurses := true, apart := false }
def ScanNamesSaid : Prop := scanNamesRow.holds Try.pinned (OpenSpec.ofChange scanNamesSpec)

/-- ITS FALSE NEIGHBOUR: 'it returns false'. Refute it at one input. -/
def scanNamesWrong : ChangeSpec := { name := "scanNames", fn := fun _ => fun
  | [] => { results := [.lit (.bool false)], args := [] }
  | _ => none }
def ScanNamesWrongFalsely : Prop := scanNamesRow.holds Try.pinned (OpenSpec.ofChange scanNamesWrong)

/-- 'ravelinlaw22.ScanJumps': WHATEVER THE INPUT: true; the input reads as it did. -/
def scanJumpsSpec : ChangeSpec := { name := "scanJumps", fn := fun _ => fun
  | [d1, d2] => { results := [.lit (.bool true)], args := [d1, d2] }
  | _ => none }
def scanJumpsRow : OpenClaim := { program := "ytajcmjjgnbaahaa", sum := "cb1f9a6de7aa5d2a63a7c57912d7596887d6e74707de150495b0c8ceaa5a4260", func := "ravelin/ravelinlaw22.ScanJumps", spec := "scanJumps", unfollowed := true, recurses := true, apart := false }
def ScanJumpsSaid : Prop := scanJumpsRow.holds Try.pinned (OpenSpec.ofChange scanJumpsSpec)

/-- ITS FALSE NEIGHBOUR: 'it returns false'. Refute it at one input. -/
def scanJumpsWrong : ChangeSpec := { name := "scanJumps", fn := fun _ => fun
  | [d1, d2] => { results := [.lit (.bool false)], args := [d1, d2] }
  | _ => none }
def ScanJumpsWrongFalsely : Prop := scanJumpsRow.holds Try.pinned (OpenSpec.ofChange scanJumpsWrong)

/- THE SECOND FORM. 'bulk': how many values and letters a reading holds, each counted each time it is reached (what is shared counts as often as it is met; a slice's spare places count too). A statement '..UptoSaid' is the law's where the arguments, and the package variables that the reading takes, are together of bulk at most 1048576: NARROWER than '..Said'. Prove '..Said' where nothing that the law and all that it calls make is longer than what came in: it says more and counts as full. Else prove '..UptoSaid'. A law counts once. -/
mutual
def uptoBulk {H : Type} : DataW H → Nat
  | .lit (.string bytes) => bytes.length + 1
  | .lit _ => 1
  | .nil => 1
  | .ptr d => uptoBulk d + 1
  | .slice elems spare => uptoBulkAll elems + uptoBulkAll spare + 1
  | .agg parts => uptoBulkAll parts + 1
  | .iface _ d => uptoBulk d + 1
  | .map entries => uptoBulkEntries entries + 1
  | .held _ => 1
def uptoBulkAll {H : Type} : List (DataW H) → Nat
  | [] => 0
  | d :: r => uptoBulk d + uptoBulkAll r
def uptoBulkEntries {H : Type} : List (Lit × DataW H) → Nat
  | [] => 0
  | x :: r => uptoBulkEntry x + uptoBulkEntries r
def uptoBulkEntry {H : Type} : Lit × DataW H → Nat
  | (.string bytes, d) => bytes.length + uptoBulk d + 1
  | (_, d) => uptoBulk d + 1
 end
def uptoSmall : (H : Type) → List (DataW H) → Bool := fun _ ds => decide (uptoBulkAll ds ≤ 1048576)
def OpenSpec.upto (s : _root_.Go.ChangeSpec) : _root_.Go.OpenSpec := { _root_.Go.OpenSpec.ofChange s with cond := some uptoSmall }

/-- 'ravelinlaw18.AmdBack', WHERE WHAT IT READS IS OF BULK AT MOST 1048576: true; the input reads as it did. -/
def amdBackUptoRow : OpenClaim := { program := "ytajcmjjgnbaahaa", sum := "cb1f9a6de7aa5d2a63a7c57912d7596887d6e74707de150495b0c8ceaa5a4260", func := "ravelin/ravelinlaw18.AmdBack", spec := "amdBack", unfollowed := true, recurses := true, apart := false, narrowed := true }
def AmdBackUptoSaid : Prop := amdBackUptoRow.holds Try.pinned (OpenSpec.upto amdBackSpec)

/-- 'ravelinlaw18.AmdReads', WHERE WHAT IT READS IS OF BULK AT MOST 1048576: true; the input reads as it did. -/
def amdReadsUptoRow : OpenClaim := { program := "ytajcmjjgnbaahaa", sum := "cb1f9a6de7aa5d2a63a7c57912d7596887d6e74707de150495b0c8ceaa5a4260", func := "ravelin/ravelinlaw18.AmdReads", spec := "amdReads", unfollowed := true, recurses := true, apart := false, narrowed := true }
def AmdReadsUptoSaid : Prop := amdReadsUptoRow.holds Try.pinned (OpenSpec.upto amdReadsSpec)

/-- 'ravelinlaw18.AmdLists', WHERE WHAT IT READS IS OF BULK AT MOST 1048576: true; the input reads as it did. -/
def amdListsUptoRow : OpenClaim := { program := "ytajcmjjgnbaahaa", sum := "cb1f9a6de7aa5d2a63a7c57912d7596887d6e74707de150495b0c8ceaa5a4260", func := "ravelin/ravelinlaw18.AmdLists", spec := "amdLists", unfollowed := true, recurses := true, apart := false, narrowed := true }
def AmdListsUptoSaid : Prop := amdListsUptoRow.holds Try.pinned (OpenSpec.upto amdListsSpec)

/-- 'ravelinlaw22.ScanTwo', WHERE WHAT IT READS IS OF BULK AT MOST 1048576: true; the input reads as it did. -/
def scanTwoUptoRow : OpenClaim := { program := "ytajcmjjgnbaahaa", sum := "cb1f9a6de7aa5d2a63a7c57912d7596887d6e74707de150495b0c8ceaa5a4260", func := "ravelin/ravelinlaw22.ScanTwo", spec := "scanTwo", unfollowed := true, recurses := true, apart := false, narrowed := true }
def ScanTwoUptoSaid : Prop := scanTwoUptoRow.holds Try.pinned (OpenSpec.upto scanTwoSpec)

/-- 'ravelinlaw22.ScanNames', WHERE WHAT IT READS IS OF BULK AT MOST 1048576: true; the input reads as it did. -/
def scanNamesUptoRow : OpenClaim := { program := "ytajcmjjgnbaahaa", sum := "cb1f9a6de7aa5d2a63a7c57912d7596887d6e74707de150495b0c8ceaa5a4260", func := "ravelin/ravelinlaw22.ScanNames", spec := "scanNames", unfollowed := true, recurses := true, apart := false, narrowed := true }
def ScanNamesUptoSaid : Prop := scanNamesUptoRow.holds Try.pinned (OpenSpec.upto scanNamesSpec)

/-- 'ravelinlaw22.ScanJumps', WHERE WHAT IT READS IS OF BULK AT MOST 1048576: true; the input reads as it did. -/
def scanJumpsUptoRow : OpenClaim := { program := "ytajcmjjgnbaahaa", sum := "cb1f9a6de7aa5d2a63a7c57912d7596887d6e74707de150495b0c8ceaa5a4260", func := "ravelin/ravelinlaw22.ScanJumps", spec := "scanJumps", unfollowed := true, recurses := true, apart := false, narrowed := true }
def ScanJumpsUptoSaid : Prop := scanJumpsUptoRow.holds Try.pinned (OpenSpec.upto scanJumpsSpec)

end Rows
end Go.Proofs.Ytajcmjjgnbaahaa
