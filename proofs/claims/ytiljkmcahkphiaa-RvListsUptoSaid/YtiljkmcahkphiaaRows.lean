/-
  No cell of these rows narrows 'for every input' (looked for: loops, veiled, ifaces, maps, wideKeys, modest, calm, conditions, laid).
  DERIVED. THE GIVEN ROWS OF THIS SEAT. 4 by the template 'for every input the law returns true; each argument reads behind the call as it read before'; 0 by the template 'total and deterministic' (their statements: YtiljkmcahkphiaaTotals.lean).
  GIVEN WITH THE SEED: the statements are not yours to turn. If you find one false, say at which input.
  Laid BY PROGRAM, IN A SANDBOX (cutbox-rows.mjs): the forced cells as the released guide's own fill.sh prints them over the translation 580337ceac9c01e3… (all of the seat's roots in one cut). By AI agents, Wed Nov 11 2026. No macro, syntax, notation, axiom, sorry.
-/
import Derived.Test.YtiljkmcahkphiaaChecked
import GoSem.Claim
import GoSem.ClaimJoined
import GoSem.ClaimMapViews
import Derived.JoinedTies
import Derived.KernelRfl
namespace Go.Proofs.Ytiljkmcahkphiaa
/- THE CELL 'sum', in the pinned program and in every row, IS THE sha256 OF THE DUMP (.gsa) THAT YtiljkmcahkphiaaProg.lean LOADS. Nothing in Lean hashes anything: it is a label: what it is worth is what the hold of that sum in a sandbox is worth. -/
noncomputable def Try.pinned : Pinned := { name := "ytiljkmcahkphiaa", sum := "580337ceac9c01e39d9d81435d7edb0c4048a32bbe0a617472701c91ef93a3de", checked := Try.checked }
namespace Rows
def none {H : Type} : Left H := { results := [], args := [] }

/-- 'ravelinlaw15.RvReads': WHATEVER THE INPUT: true; the input reads as it did. -/
def rvReadsSpec : ChangeSpec := { name := "rvReads", fn := fun _ => fun
  | [d] => { results := [.lit (.bool true)], args := [d] }
  | _ => none }
def rvReadsRow : OpenClaim := { program := "ytiljkmcahkphiaa", sum := "580337ceac9c01e39d9d81435d7edb0c4048a32bbe0a617472701c91ef93a3de", func := "ravelin/ravelinlaw15.RvReads", spec := "rvReads", unfollowed := true, recurses := true, apart := false }
def RvReadsSaid : Prop := rvReadsRow.holds Try.pinned (OpenSpec.ofChange rvReadsSpec)

/-- ITS FALSE NEIGHBOUR: 'it returns false'. Refute it at one input. -/
def rvReadsWrong : ChangeSpec := { name := "rvReads", fn := fun _ => fun
  | [d] => { results := [.lit (.bool false)], args := [d] }
  | _ => none }
def RvReadsWrongFalsely : Prop := rvReadsRow.holds Try.pinned (OpenSpec.ofChange rvReadsWrong)

/-- 'ravelinlaw15.RvApart': WHATEVER THE INPUT: true; the input reads as it did. -/
def rvApartSpec : ChangeSpec := { name := "rvApart", fn := fun _ => fun
  | [d1, d2] => { results := [.lit (.bool true)], args := [d1, d2] }
  | _ => none }
def rvApartRow : OpenClaim := { program := "ytiljkmcahkphiaa", sum := "580337ceac9c01e39d9d81435d7edb0c4048a32bbe0a617472701c91ef93a3de", func := "ravelin/ravelinlaw15.RvApart", spec := "rvApart", unfollowed := true, recurses := true, apart := false }
def RvApartSaid : Prop := rvApartRow.holds Try.pinned (OpenSpec.ofChange rvApartSpec)

/-- ITS FALSE NEIGHBOUR: 'it returns false'. Refute it at one input. -/
def rvApartWrong : ChangeSpec := { name := "rvApart", fn := fun _ => fun
  | [d1, d2] => { results := [.lit (.bool false)], args := [d1, d2] }
  | _ => none }
def RvApartWrongFalsely : Prop := rvApartRow.holds Try.pinned (OpenSpec.ofChange rvApartWrong)

/-- 'ravelinlaw15.RvBounds': WHATEVER THE INPUT: true; the input reads as it did. -/
def rvBoundsSpec : ChangeSpec := { name := "rvBounds", fn := fun _ => fun
  | [d1, d2] => { results := [.lit (.bool true)], args := [d1, d2] }
  | _ => none }
def rvBoundsRow : OpenClaim := { program := "ytiljkmcahkphiaa", sum := "580337ceac9c01e39d9d81435d7edb0c4048a32bbe0a617472701c91ef93a3de", func := "ravelin/ravelinlaw15.RvBounds", spec := "rvBounds", unfollowed := true, recurses := true, apart := false }
def RvBoundsSaid : Prop := rvBoundsRow.holds Try.pinned (OpenSpec.ofChange rvBoundsSpec)

/-- ITS FALSE NEIGHBOUR: 'it returns false'. Refute it at one input. -/
def rvBoundsWrong : ChangeSpec := { name := "rvBounds", fn := fun _ => fun
  | [d1, d2] => { results := [.lit (.bool false)], args := [d1, d2] }
  | _ => none }
def RvBoundsWrongFalsely : Prop := rvBoundsRow.holds Try.pinned (OpenSpec.ofChange rvBoundsWrong)

/-- 'ravelinlaw15.RvLists': WHATEVER THE INPUT: true; the input reads as it did. -/
def rvListsSpec : ChangeSpec := { name := "rvLists", fn := fun _ => fun
  | [d1, d2] => { results := [.lit (.bool true)], args := [d1, d2] }
  | _ => none }
def rvListsRow : OpenClaim := { program := "ytiljkmcahkphiaa", sum := "580337ceac9c01e39d9d81435d7edb0c4048a32bbe0a617472701c91ef93a3de", func := "ravelin/ravelinlaw15.RvLists", spec := "rvLists", unfollowed := true, recurses := true, apart := false }
def RvListsSaid : Prop := rvListsRow.holds Try.pinned (OpenSpec.ofChange rvListsSpec)

/-- ITS FALSE NEIGHBOUR: 'it returns false'. Refute it at one input. -/
def rvListsWrong : ChangeSpec := { name := "rvLists", fn := fun _ => fun
  | [d1, d2] => { results := [.lit (.bool false)], args := [d1, d2] }
  | _ => none }
def RvListsWrongFalsely : Prop := rvListsRow.holds Try.pinned (OpenSpec.ofChange rvListsWrong)

/- THE SECOND FORM. 'bulk': how many values and letters a reading holds, each counted each time it is reached (what is shared counts as often as it is met; a slice's spare places count too). A statement '..UptoSaid' is the law's where the arguments, and the package variables that the reading takes, are together of bulk at most 1048576: NARROWER than '..Said'. Prove '..Said' where nothing that the law and all that it calls make is longer than what came in: it says more and counts as full. Else prove '..UptoSaid'. A law counts once. -/
mutual
def uptoBulk {H : Type} : DataW H → Nat
  | .lit (.string bytes) => bytes.length + 1
  | .lit _ => 1
  | .nil => 1
  | .ptr d => uptoBulk d + 1
  | .slice elems spare => uptoBulkAll elems + uptoBulkAll spare + 1
  | .agg parts => uptoBulkAll parts + 1
  | .iface _ d => uptoBulk d + 1
  | .map entries => uptoBulkEntries entries + 1
  | .held _ => 1
def uptoBulkAll {H : Type} : List (DataW H) → Nat
  | [] => 0
  | d :: r => uptoBulk d + uptoBulkAll r
def uptoBulkEntries {H : Type} : List (Lit × DataW H) → Nat
  | [] => 0
  | x :: r => uptoBulkEntry x + uptoBulkEntries r
def uptoBulkEntry {H : Type} : Lit × DataW H → Nat
  | (.string bytes, d) => bytes.length + uptoBulk d + 1
  | (_, d) => uptoBulk d + 1
 end
def uptoSmall : (H : Type) → List (DataW H) → Bool := fun _ ds => decide (uptoBulkAll ds ≤ 1048576)
def OpenSpec.upto (s : _root_.Go.ChangeSpec) : _root_.Go.OpenSpec := { _root_.Go.OpenSpec.ofChange s with cond := some uptoSmall }

/-- 'ravelinlaw15.RvReads', WHERE WHAT IT READS IS OF BULK AT MOST 1048576: true; the input reads as it did. -/
def rvReadsUptoRow : OpenClaim := { program := "ytiljkmcahkphiaa", sum := "580337ceac9c01e39d9d81435d7edb0c4048a32bbe0a617472701c91ef93a3de", func := "ravelin/ravelinlaw15.RvReads", spec := "rvReads", unfollowed := true, recurses := true, apart := false, narrowed := true }
def RvReadsUptoSaid : Prop := rvReadsUptoRow.holds Try.pinned (OpenSpec.upto rvReadsSpec)

/-- 'ravelinlaw15.RvApart', WHERE WHAT IT READS IS OF BULK AT MOST 1048576: true; the input reads as it did. -/
def rvApartUptoRow : OpenClaim := { program := "ytiljkmcahkphiaa", sum := "580337ceac9c01e39d9d81435d7edb0c4048a32bbe0a617472701c91ef93a3de", func := "ravelin/ravelinlaw15.RvApart", spec := "rvApart", unfollowed := true, recurses := true, apart := false, narrowed := true }
def RvApartUptoSaid : Prop := rvApartUptoRow.holds Try.pinned (OpenSpec.upto rvApartSpec)

/-- 'ravelinlaw15.RvBounds', WHERE WHAT IT READS IS OF BULK AT MOST 1048576: true; the input reads as it did. -/
def rvBoundsUptoRow : OpenClaim := { program := "ytiljkmcahkphiaa", sum := "580337ceac9c01e39d9d81435d7edb0c4048a32bbe0a617472701c91ef93a3de", func := "ravelin/ravelinlaw15.RvBounds", spec := "rvBounds", unfollowed := true, recurses := true, apart := false, narrowed := true }
def RvBoundsUptoSaid : Prop := rvBoundsUptoRow.holds Try.pinned (OpenSpec.upto rvBoundsSpec)

/-- 'ravelinlaw15.RvLists', WHERE WHAT IT READS IS OF BULK AT MOST 1048576: true; the input reads as it did. -/
def rvListsUptoRow : OpenClaim := { program := "ytiljkmcahkphiaa", sum := "580337ceac9c01e39d9d81435d7edb0c4048a32bbe0a617472701c91ef93a3de", func := "ravelin/ravelinlaw15.RvLists", spec := "rvLists", unfollowed := true, recurses := true, apart := false, narrowed := true }
def RvListsUptoSaid : Prop := rvListsUptoRow.holds Try.pinned (OpenSpec.upto rvListsSpec)

end Rows
end Go.Proofs.Ytiljkmcahkphiaa
