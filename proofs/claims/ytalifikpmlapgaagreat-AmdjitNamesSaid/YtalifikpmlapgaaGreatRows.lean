/-
  No cell of these rows narrows 'for every input' (looked for: loops, veiled, ifaces, maps, wideKeys, modest, calm, conditions, laid).
  DERIVED. THE GIVEN ROWS OF THIS SEAT. 9 by the template 'for every input the law returns true; each argument reads behind the call as it read before'; 0 by the template 'total and deterministic' (their statements: YtalifikpmlapgaaGreatTotals.lean).
  GIVEN WITH THE SEED: the statements are not yours to turn. If you find one false, say at which input.
  Laid BY PROGRAM, IN A SANDBOX (cutbox-rows.mjs): the forced cells as the released guide's own fill.sh prints them over the translation b4e96b4e50121a08… (all of the seat's roots in one cut). By AI agents, Wed Nov 11 2026. No macro, syntax, notation, axiom, sorry.
-/
import Derived.Test.YtalifikpmlapgaaGreatChecked
import GoSem.Claim
import GoSem.ClaimJoined
import GoSem.ClaimMapViews
import Derived.JoinedTies
import Derived.KernelRfl
namespace Go.Proofs.YtalifikpmlapgaaGreat
/- THE CELL 'sum', in the pinned program and in every row, IS THE sha256 OF THE DUMP (.gsa) THAT YtalifikpmlapgaaGreatProg.lean LOADS. Nothing in Lean hashes anything: it is a label: what it is worth is what the hold of that sum in a sandbox is worth. -/
noncomputable def Tryz.pinned : Pinned := { name := "ytalifikpmlapgaagreat", sum := "b4e96b4e50121a085f8c724eba2d66c26fedcf6c8442bde99891bc4492bb7df4", checked := Tryz.checked }
namespace Rows
def none {H : Type} : Left H := { results := [], args := [] }

/-- 'ravelinlaw17.RvjitShape': WHATEVER THE INPUT: true; the input reads as it did. -/
def rvjitShapeSpec : ChangeSpec := { name := "rvjitShape", fn := fun _ => fun
  | [d1, d2] => { results := [.lit (.bool true)], args := [d1, d2] }
  | _ => none }
def rvjitShapeRow : OpenClaim := { program := "ytalifikpmlapgaagreat", sum := "b4e96b4e50121a085f8c724eba2d66c26fedcf6c8442bde99891bc4492bb7df4", func := "ravelin/ravelinlaw17.RvjitShape", spec := "rvjitShape", unfollowed := true, recurses := true, plainKeys := false, apart := false }
def RvjitShapeSaid : Prop := rvjitShapeRow.holds Tryz.pinned (OpenSpec.ofChange rvjitShapeSpec)

/-- ITS FALSE NEIGHBOUR: 'it returns false'. Refute it at one input. -/
def rvjitShapeWrong : ChangeSpec := { name := "rvjitShape", fn := fun _ => fun
  | [d1, d2] => { results := [.lit (.bool false)], args := [d1, d2] }
  | _ => none }
def RvjitShapeWrongFalsely : Prop := rvjitShapeRow.holds Tryz.pinned (OpenSpec.ofChange rvjitShapeWrong)

/-- 'ravelinlaw17.RvjitFar': WHATEVER THE INPUT: true; the input reads as it did. -/
def rvjitFarSpec : ChangeSpec := { name := "rvjitFar", fn := fun _ => fun
  | [d1, d2, d3] => { results := [.lit (.bool true)], args := [d1, d2, d3] }
  | _ => none }
def rvjitFarRow : OpenClaim := { program := "ytalifikpmlapgaagreat", sum := "b4e96b4e50121a085f8c724eba2d66c26fedcf6c8442bde99891bc4492bb7df4", func := "ravelin/ravelinlaw17.RvjitFar", spec := "rvjitFar", unfollowed := true, recurses := true, plainKeys := false, apart := false }
def RvjitFarSaid : Prop := rvjitFarRow.holds Tryz.pinned (OpenSpec.ofChange rvjitFarSpec)

/-- ITS FALSE NEIGHBOUR: 'it returns false'. Refute it at one input. -/
def rvjitFarWrong : ChangeSpec := { name := "rvjitFar", fn := fun _ => fun
  | [d1, d2, d3] => { results := [.lit (.bool false)], args := [d1, d2, d3] }
  | _ => none }
def RvjitFarWrongFalsely : Prop := rvjitFarRow.holds Tryz.pinned (OpenSpec.ofChange rvjitFarWrong)

/-- 'ravelinlaw17.RvjitConst': WHATEVER THE INPUT: true; the input reads as it did. -/
def rvjitConstSpec : ChangeSpec := { name := "rvjitConst", fn := fun _ => fun
  | [d1, d2, d3] => { results := [.lit (.bool true)], args := [d1, d2, d3] }
  | _ => none }
def rvjitConstRow : OpenClaim := { program := "ytalifikpmlapgaagreat", sum := "b4e96b4e50121a085f8c724eba2d66c26fedcf6c8442bde99891bc4492bb7df4", func := "ravelin/ravelinlaw17.RvjitConst", spec := "rvjitConst", unfollowed := true, recurses := true, plainKeys := false, apart := false }
def RvjitConstSaid : Prop := rvjitConstRow.holds Tryz.pinned (OpenSpec.ofChange rvjitConstSpec)

/-- ITS FALSE NEIGHBOUR: 'it returns false'. Refute it at one input. -/
def rvjitConstWrong : ChangeSpec := { name := "rvjitConst", fn := fun _ => fun
  | [d1, d2, d3] => { results := [.lit (.bool false)], args := [d1, d2, d3] }
  | _ => none }
def RvjitConstWrongFalsely : Prop := rvjitConstRow.holds Tryz.pinned (OpenSpec.ofChange rvjitConstWrong)

/-- 'ravelinlaw20.AmdjitNames': WHATEVER THE INPUT: true; the input reads as it did. -/
def amdjitNamesSpec : ChangeSpec := { name := "amdjitNames", fn := fun _ => fun
  | [] => { results := [.lit (.bool true)], args := [] }
  | _ => none }
def amdjitNamesRow : OpenClaim := { program := "ytalifikpmlapgaagreat", sum := "b4e96b4e50121a085f8c724eba2d66c26fedcf6c8442bde99891bc4492bb7df4", func := "ravelin/ravelinlaw20.AmdjitNames", spec := "amdjitNames", unfollowed := true, recurses := true, plainKeys := false, apart := false }
def AmdjitNamesSaid : Prop := amdjitNamesRow.holds Tryz.pinned (OpenSpec.ofChange amdjitNamesSpec)

/-- ITS FALSE NEIGHBOUR: 'it returns false'. Refute it at one input. -/
def amdjitNamesWrong : ChangeSpec := { name := "amdjitNames", fn := fun _ => fun
  | [] => { results := [.lit (.bool false)], args := [] }
  | _ => none }
def AmdjitNamesWrongFalsely : Prop := amdjitNamesRow.holds Tryz.pinned (OpenSpec.ofChange amdjitNamesWrong)

/-- 'ravelinlaw20.AmdjitRegisters': WHATEVER THE INPUT: true; the input reads as it did. -/
def amdjitRegistersSpec : ChangeSpec := { name := "amdjitRegisters", fn := fun _ => fun
  | [d] => { results := [.lit (.bool true)], args := [d] }
  | _ => none }
def amdjitRegistersRow : OpenClaim := { program := "ytalifikpmlapgaagreat", sum := "b4e96b4e50121a085f8c724eba2d66c26fedcf6c8442bde99891bc4492bb7df4", func := "ravelin/ravelinlaw20.AmdjitRegisters", spec := "amdjitRegisters", unfollowed := true, recurses := true, plainKeys := false, apart := false }
def AmdjitRegistersSaid : Prop := amdjitRegistersRow.holds Tryz.pinned (OpenSpec.ofChange amdjitRegistersSpec)

/-- ITS FALSE NEIGHBOUR: 'it returns false'. Refute it at one input. -/
def amdjitRegistersWrong : ChangeSpec := { name := "amdjitRegisters", fn := fun _ => fun
  | [d] => { results := [.lit (.bool false)], args := [d] }
  | _ => none }
def AmdjitRegistersWrongFalsely : Prop := amdjitRegistersRow.holds Tryz.pinned (OpenSpec.ofChange amdjitRegistersWrong)

/-- 'ravelinlaw17.RvjitHomes': WHATEVER THE INPUT: true; the input reads as it did. -/
def rvjitHomesSpec : ChangeSpec := { name := "rvjitHomes", fn := fun _ => fun
  | [d1, d2, d3] => { results := [.lit (.bool true)], args := [d1, d2, d3] }
  | _ => none }
def rvjitHomesRow : OpenClaim := { program := "ytalifikpmlapgaagreat", sum := "b4e96b4e50121a085f8c724eba2d66c26fedcf6c8442bde99891bc4492bb7df4", func := "ravelin/ravelinlaw17.RvjitHomes", spec := "rvjitHomes", unfollowed := true, recurses := true, plainKeys := false, apart := false }
def RvjitHomesSaid : Prop := rvjitHomesRow.holds Tryz.pinned (OpenSpec.ofChange rvjitHomesSpec)

/-- ITS FALSE NEIGHBOUR: 'it returns false'. Refute it at one input. -/
def rvjitHomesWrong : ChangeSpec := { name := "rvjitHomes", fn := fun _ => fun
  | [d1, d2, d3] => { results := [.lit (.bool false)], args := [d1, d2, d3] }
  | _ => none }
def RvjitHomesWrongFalsely : Prop := rvjitHomesRow.holds Tryz.pinned (OpenSpec.ofChange rvjitHomesWrong)

/-- 'ravelinlaw20.AmdjitRuns': WHATEVER THE INPUT: true; the input reads as it did. -/
def amdjitRunsSpec : ChangeSpec := { name := "amdjitRuns", fn := fun _ => fun
  | [d] => { results := [.lit (.bool true)], args := [d] }
  | _ => none }
def amdjitRunsRow : OpenClaim := { program := "ytalifikpmlapgaagreat", sum := "b4e96b4e50121a085f8c724eba2d66c26fedcf6c8442bde99891bc4492bb7df4", func := "ravelin/ravelinlaw20.AmdjitRuns", spec := "amdjitRuns", unfollowed := true, recurses := true, plainKeys := false, apart := false }
def AmdjitRunsSaid : Prop := amdjitRunsRow.holds Tryz.pinned (OpenSpec.ofChange amdjitRunsSpec)

/-- ITS FALSE NEIGHBOUR: 'it returns false'. Refute it at one input. -/
def amdjitRunsWrong : ChangeSpec := { name := "amdjitRuns", fn := fun _ => fun
  | [d] => { results := [.lit (.bool false)], args := [d] }
  | _ => none }
def AmdjitRunsWrongFalsely : Prop := amdjitRunsRow.holds Tryz.pinned (OpenSpec.ofChange amdjitRunsWrong)

/-- 'ravelinlaw17.RvjitWhole': WHATEVER THE INPUT: true; the input reads as it did. -/
def rvjitWholeSpec : ChangeSpec := { name := "rvjitWhole", fn := fun _ => fun
  | [d1, d2, d3] => { results := [.lit (.bool true)], args := [d1, d2, d3] }
  | _ => none }
def rvjitWholeRow : OpenClaim := { program := "ytalifikpmlapgaagreat", sum := "b4e96b4e50121a085f8c724eba2d66c26fedcf6c8442bde99891bc4492bb7df4", func := "ravelin/ravelinlaw17.RvjitWhole", spec := "rvjitWhole", unfollowed := true, recurses := true, plainKeys := false, apart := false }
def RvjitWholeSaid : Prop := rvjitWholeRow.holds Tryz.pinned (OpenSpec.ofChange rvjitWholeSpec)

/-- ITS FALSE NEIGHBOUR: 'it returns false'. Refute it at one input. -/
def rvjitWholeWrong : ChangeSpec := { name := "rvjitWhole", fn := fun _ => fun
  | [d1, d2, d3] => { results := [.lit (.bool false)], args := [d1, d2, d3] }
  | _ => none }
def RvjitWholeWrongFalsely : Prop := rvjitWholeRow.holds Tryz.pinned (OpenSpec.ofChange rvjitWholeWrong)

/-- 'ravelinlaw20.AmdjitOwn': WHATEVER THE INPUT: true; the input reads as it did. -/
def amdjitOwnSpec : ChangeSpec := { name := "amdjitOwn", fn := fun _ => fun
  | [d] => { results := [.lit (.bool true)], args := [d] }
  | _ => none }
def amdjitOwnRow : OpenClaim := { program := "ytalifikpmlapgaagreat", sum := "b4e96b4e50121a085f8c724eba2d66c26fedcf6c8442bde99891bc4492bb7df4", func := "ravelin/ravelinlaw20.AmdjitOwn", spec := "amdjitOwn", unfollowed := true, recurses := true, named := ["math/bits.divideError", "math/bits.overflowError"], plainKeys := false, apart := false }
def AmdjitOwnSaid : Prop := amdjitOwnRow.holds Tryz.pinned (OpenSpec.ofChange amdjitOwnSpec)

/-- ITS FALSE NEIGHBOUR: 'it returns false'. Refute it at one input. -/
def amdjitOwnWrong : ChangeSpec := { name := "amdjitOwn", fn := fun _ => fun
  | [d] => { results := [.lit (.bool false)], args := [d] }
  | _ => none }
def AmdjitOwnWrongFalsely : Prop := amdjitOwnRow.holds Tryz.pinned (OpenSpec.ofChange amdjitOwnWrong)

/- THE SECOND FORM. 'bulk': how many values and letters a reading holds, each counted each time it is reached (what is shared counts as often as it is met; a slice's spare places count too). A statement '..UptoSaid' is the law's where the arguments, and the package variables that the reading takes, are together of bulk at most 1048576: NARROWER than '..Said'. Prove '..Said' where nothing that the law and all that it calls make is longer than what came in: it says more and counts as full. Else prove '..UptoSaid'. A law counts once. -/
mutual
def uptoBulk {H : Type} : DataW H → Nat
  | .lit (.string bytes) => bytes.length + 1
  | .lit _ => 1
  | .nil => 1
  | .ptr d => uptoBulk d + 1
  | .slice elems spare => uptoBulkAll elems + uptoBulkAll spare + 1
  | .agg parts => uptoBulkAll parts + 1
  | .iface _ d => uptoBulk d + 1
  | .map entries => uptoBulkEntries entries + 1
  | .held _ => 1
def uptoBulkAll {H : Type} : List (DataW H) → Nat
  | [] => 0
  | d :: r => uptoBulk d + uptoBulkAll r
def uptoBulkEntries {H : Type} : List (Lit × DataW H) → Nat
  | [] => 0
  | x :: r => uptoBulkEntry x + uptoBulkEntries r
def uptoBulkEntry {H : Type} : Lit × DataW H → Nat
  | (.string bytes, d) => bytes.length + uptoBulk d + 1
  | (_, d) => uptoBulk d + 1
 end
def uptoSmall : (H : Type) → List (DataW H) → Bool := fun _ ds => decide (uptoBulkAll ds ≤ 1048576)
def OpenSpec.upto (s : _root_.Go.ChangeSpec) : _root_.Go.OpenSpec := { _root_.Go.OpenSpec.ofChange s with cond := some uptoSmall }

/-- 'ravelinlaw17.RvjitShape', WHERE WHAT IT READS IS OF BULK AT MOST 1048576: true; the input reads as it did. -/
def rvjitShapeUptoRow : OpenClaim := { program := "ytalifikpmlapgaagreat", sum := "b4e96b4e50121a085f8c724eba2d66c26fedcf6c8442bde99891bc4492bb7df4", func := "ravelin/ravelinlaw17.RvjitShape", spec := "rvjitShape", unfollowed := true, recurses := true, plainKeys := false, apart := false, narrowed := true }
def RvjitShapeUptoSaid : Prop := rvjitShapeUptoRow.holds Tryz.pinned (OpenSpec.upto rvjitShapeSpec)

/-- 'ravelinlaw17.RvjitFar', WHERE WHAT IT READS IS OF BULK AT MOST 1048576: true; the input reads as it did. -/
def rvjitFarUptoRow : OpenClaim := { program := "ytalifikpmlapgaagreat", sum := "b4e96b4e50121a085f8c724eba2d66c26fedcf6c8442bde99891bc4492bb7df4", func := "ravelin/ravelinlaw17.RvjitFar", spec := "rvjitFar", unfollowed := true, recurses := true, plainKeys := false, apart := false, narrowed := true }
def RvjitFarUptoSaid : Prop := rvjitFarUptoRow.holds Tryz.pinned (OpenSpec.upto rvjitFarSpec)

/-- 'ravelinlaw17.RvjitConst', WHERE WHAT IT READS IS OF BULK AT MOST 1048576: true; the input reads as it did. -/
def rvjitConstUptoRow : OpenClaim := { program := "ytalifikpmlapgaagreat", sum := "b4e96b4e50121a085f8c724eba2d66c26fedcf6c8442bde99891bc4492bb7df4", func := "ravelin/ravelinlaw17.RvjitConst", spec := "rvjitConst", unfollowed := true, recurses := true, plainKeys := false, apart := false, narrowed := true }
def RvjitConstUptoSaid : Prop := rvjitConstUptoRow.holds Tryz.pinned (OpenSpec.upto rvjitConstSpec)

/-- 'ravelinlaw20.AmdjitNames', WHERE WHAT IT READS IS OF BULK AT MOST 1048576: true; the input reads as it did. -/
def amdjitNamesUptoRow : OpenClaim := { program := "ytalifikpmlapgaagreat", sum := "b4e96b4e50121a085f8c724eba2d66c26fedcf6c8442bde99891bc4492bb7df4", func := "ravelin/ravelinlaw20.AmdjitNames", spec := "amdjitNames", unfollowed := true, recurses := true, plainKeys := false, apart := false, narrowed := true }
def AmdjitNamesUptoSaid : Prop := amdjitNamesUptoRow.holds Tryz.pinned (OpenSpec.upto amdjitNamesSpec)

/-- 'ravelinlaw20.AmdjitRegisters', WHERE WHAT IT READS IS OF BULK AT MOST 1048576: true; the input reads as it did. -/
def amdjitRegistersUptoRow : OpenClaim := { program := "ytalifikpmlapgaagreat", sum := "b4e96b4e50121a085f8c724eba2d66c26fedcf6c8442bde99891bc4492bb7df4", func := "ravelin/ravelinlaw20.AmdjitRegisters", spec := "amdjitRegisters", unfollowed := true, recurses := true, plainKeys := false, apart := false, narrowed := true }
def AmdjitRegistersUptoSaid : Prop := amdjitRegistersUptoRow.holds Tryz.pinned (OpenSpec.upto amdjitRegistersSpec)

/-- 'ravelinlaw17.RvjitHomes', WHERE WHAT IT READS IS OF BULK AT MOST 1048576: true; the input reads as it did. -/
def rvjitHomesUptoRow : OpenClaim := { program := "ytalifikpmlapgaagreat", sum := "b4e96b4e50121a085f8c724eba2d66c26fedcf6c8442bde99891bc4492bb7df4", func := "ravelin/ravelinlaw17.RvjitHomes", spec := "rvjitHomes", unfollowed := true, recurses := true, plainKeys := false, apart := false, narrowed := true }
def RvjitHomesUptoSaid : Prop := rvjitHomesUptoRow.holds Tryz.pinned (OpenSpec.upto rvjitHomesSpec)

/-- 'ravelinlaw20.AmdjitRuns', WHERE WHAT IT READS IS OF BULK AT MOST 1048576: true; the input reads as it did. -/
def amdjitRunsUptoRow : OpenClaim := { program := "ytalifikpmlapgaagreat", sum := "b4e96b4e50121a085f8c724eba2d66c26fedcf6c8442bde99891bc4492bb7df4", func := "ravelin/ravelinlaw20.AmdjitRuns", spec := "amdjitRuns", unfollowed := true, recurses := true, plainKeys := false, apart := false, narrowed := true }
def AmdjitRunsUptoSaid : Prop := amdjitRunsUptoRow.holds Tryz.pinned (OpenSpec.upto amdjitRunsSpec)

/-- 'ravelinlaw17.RvjitWhole', WHERE WHAT IT READS IS OF BULK AT MOST 1048576: true; the input reads as it did. -/
def rvjitWholeUptoRow : OpenClaim := { program := "ytalifikpmlapgaagreat", sum := "b4e96b4e50121a085f8c724eba2d66c26fedcf6c8442bde99891bc4492bb7df4", func := "ravelin/ravelinlaw17.RvjitWhole", spec := "rvjitWhole", unfollowed := true, recurses := true, plainKeys := false, apart := false, narrowed := true }
def RvjitWholeUptoSaid : Prop := rvjitWholeUptoRow.holds Tryz.pinned (OpenSpec.upto rvjitWholeSpec)

/-- 'ravelinlaw20.AmdjitOwn', WHERE WHAT IT READS IS OF BULK AT MOST 1048576: true; the input reads as it did. -/
def amdjitOwnUptoRow : OpenClaim := { program := "ytalifikpmlapgaagreat", sum := "b4e96b4e50121a085f8c724eba2d66c26fedcf6c8442bde99891bc4492bb7df4", func := "ravelin/ravelinlaw20.AmdjitOwn", spec := "amdjitOwn", unfollowed := true, recurses := true, named := ["math/bits.divideError", "math/bits.overflowError"], plainKeys := false, apart := false, narrowed := true }
def AmdjitOwnUptoSaid : Prop := amdjitOwnUptoRow.holds Tryz.pinned (OpenSpec.upto amdjitOwnSpec)

end Rows
end Go.Proofs.YtalifikpmlapgaaGreat
