/-
  No cell of these rows narrows 'for every input' (looked for: loops, veiled, ifaces, maps, wideKeys, modest, calm, conditions, laid).
  DERIVED. THE GIVEN ROWS OF THIS SEAT. 14 by the template 'for every input the law returns true; each argument reads behind the call as it read before'; 0 by the template 'total and deterministic' (their statements: YtkgfcdpckfhknaaTotals.lean).
  GIVEN WITH THE SEED: the statements are not yours to turn. If you find one false, say at which input.
  Laid BY PROGRAM, IN A SANDBOX (cutbox-rows.mjs): the forced cells as the released guide's own fill.sh prints them over the translation b3fa7267739573bc… (all of the seat's roots in one cut). By AI agents, Wed Nov 11 2026. No macro, syntax, notation, axiom, sorry.
-/
import Derived.Test.YtkgfcdpckfhknaaChecked
import GoSem.Claim
import GoSem.ClaimJoined
import GoSem.ClaimMapViews
import Derived.JoinedTies
import Derived.KernelRfl
namespace Go.Proofs.Ytkgfcdpckfhknaa
/- THE CELL 'sum', in the pinned program and in every row, IS THE sha256 OF THE DUMP (.gsa) THAT YtkgfcdpckfhknaaProg.lean LOADS. Nothing in Lean hashes anything: it is a label: what it is worth is what the hold of that sum in a sandbox is worth. -/
noncomputable def Try.pinned : Pinned := { name := "ytkgfcdpckfhknaa", sum := "b3fa7267739573bca39bead3d0247a5fd214c3a187b31f801baa126d7305131c", checked := Try.checked }
namespace Rows
def none {H : Type} : Left H := { results := [], args := [] }

/-- 'selionlaw04.RoadRanges': WHATEVER THE INPUT: true; the input reads as it did. -/
def roadRangesSpec : ChangeSpec := { name := "roadRanges", fn := fun _ => fun
  | [d1, d2] => { results := [.lit (.bool true)], args := [d1, d2] }
  | _ => none }
def roadRangesRow : OpenClaim := { program := "ytkgfcdpckfhknaa", sum := "b3fa7267739573bca39bead3d0247a5fd214c3a187b31f801baa126d7305131c", func := "selion/selionlaw04.RoadRanges", spec := "roadRanges", unfollowed := true, recurses := true, apart := false }
def RoadRangesSaid : Prop := roadRangesRow.holds Try.pinned (OpenSpec.ofChange roadRangesSpec)

/-- ITS FALSE NEIGHBOUR: 'it returns false'. Refute it at one input. -/
def roadRangesWrong : ChangeSpec := { name := "roadRanges", fn := fun _ => fun
  | [d1, d2] => { results := [.lit (.bool false)], args := [d1, d2] }
  | _ => none }
def RoadRangesWrongFalsely : Prop := roadRangesRow.holds Try.pinned (OpenSpec.ofChange roadRangesWrong)

/-- 'selionlaw04.RoadTrees': WHATEVER THE INPUT: true; the input reads as it did. -/
def roadTreesSpec : ChangeSpec := { name := "roadTrees", fn := fun _ => fun
  | [d] => { results := [.lit (.bool true)], args := [d] }
  | _ => none }
def roadTreesRow : OpenClaim := { program := "ytkgfcdpckfhknaa", sum := "b3fa7267739573bca39bead3d0247a5fd214c3a187b31f801baa126d7305131c", func := "selion/selionlaw04.RoadTrees", spec := "roadTrees", unfollowed := true, recurses := true, apart := false }
def RoadTreesSaid : Prop := roadTreesRow.holds Try.pinned (OpenSpec.ofChange roadTreesSpec)

/-- ITS FALSE NEIGHBOUR: 'it returns false'. Refute it at one input. -/
def roadTreesWrong : ChangeSpec := { name := "roadTrees", fn := fun _ => fun
  | [d] => { results := [.lit (.bool false)], args := [d] }
  | _ => none }
def RoadTreesWrongFalsely : Prop := roadTreesRow.holds Try.pinned (OpenSpec.ofChange roadTreesWrong)

/-- 'selionlaw04.RoadThrough': WHATEVER THE INPUT: true; the input reads as it did. -/
def roadThroughSpec : ChangeSpec := { name := "roadThrough", fn := fun _ => fun
  | [d1, d2] => { results := [.lit (.bool true)], args := [d1, d2] }
  | _ => none }
def roadThroughRow : OpenClaim := { program := "ytkgfcdpckfhknaa", sum := "b3fa7267739573bca39bead3d0247a5fd214c3a187b31f801baa126d7305131c", func := "selion/selionlaw04.RoadThrough", spec := "roadThrough", unfollowed := true, recurses := true, apart := false }
def RoadThroughSaid : Prop := roadThroughRow.holds Try.pinned (OpenSpec.ofChange roadThroughSpec)

/-- ITS FALSE NEIGHBOUR: 'it returns false'. Refute it at one input. -/
def roadThroughWrong : ChangeSpec := { name := "roadThrough", fn := fun _ => fun
  | [d1, d2] => { results := [.lit (.bool false)], args := [d1, d2] }
  | _ => none }
def RoadThroughWrongFalsely : Prop := roadThroughRow.holds Try.pinned (OpenSpec.ofChange roadThroughWrong)

/-- 'selionlaw04.RoadGroups': WHATEVER THE INPUT: true; the input reads as it did. -/
def roadGroupsSpec : ChangeSpec := { name := "roadGroups", fn := fun _ => fun
  | [d1, d2] => { results := [.lit (.bool true)], args := [d1, d2] }
  | _ => none }
def roadGroupsRow : OpenClaim := { program := "ytkgfcdpckfhknaa", sum := "b3fa7267739573bca39bead3d0247a5fd214c3a187b31f801baa126d7305131c", func := "selion/selionlaw04.RoadGroups", spec := "roadGroups", unfollowed := true, recurses := true, apart := false }
def RoadGroupsSaid : Prop := roadGroupsRow.holds Try.pinned (OpenSpec.ofChange roadGroupsSpec)

/-- ITS FALSE NEIGHBOUR: 'it returns false'. Refute it at one input. -/
def roadGroupsWrong : ChangeSpec := { name := "roadGroups", fn := fun _ => fun
  | [d1, d2] => { results := [.lit (.bool false)], args := [d1, d2] }
  | _ => none }
def RoadGroupsWrongFalsely : Prop := roadGroupsRow.holds Try.pinned (OpenSpec.ofChange roadGroupsWrong)

/-- 'selionlaw04.RoadWays': WHATEVER THE INPUT: true; the input reads as it did. -/
def roadWaysSpec : ChangeSpec := { name := "roadWays", fn := fun _ => fun
  | [d1, d2, d3] => { results := [.lit (.bool true)], args := [d1, d2, d3] }
  | _ => none }
def roadWaysRow : OpenClaim := { program := "ytkgfcdpckfhknaa", sum := "b3fa7267739573bca39bead3d0247a5fd214c3a187b31f801baa126d7305131c", func := "selion/selionlaw04.RoadWays", spec := "roadWays", unfollowed := true, recurses := true, apart := false }
def RoadWaysSaid : Prop := roadWaysRow.holds Try.pinned (OpenSpec.ofChange roadWaysSpec)

/-- ITS FALSE NEIGHBOUR: 'it returns false'. Refute it at one input. -/
def roadWaysWrong : ChangeSpec := { name := "roadWays", fn := fun _ => fun
  | [d1, d2, d3] => { results := [.lit (.bool false)], args := [d1, d2, d3] }
  | _ => none }
def RoadWaysWrongFalsely : Prop := roadWaysRow.holds Try.pinned (OpenSpec.ofChange roadWaysWrong)

/-- 'selionlaw04.RoadChecks': WHATEVER THE INPUT: true; the input reads as it did. -/
def roadChecksSpec : ChangeSpec := { name := "roadChecks", fn := fun _ => fun
  | [d1, d2] => { results := [.lit (.bool true)], args := [d1, d2] }
  | _ => none }
def roadChecksRow : OpenClaim := { program := "ytkgfcdpckfhknaa", sum := "b3fa7267739573bca39bead3d0247a5fd214c3a187b31f801baa126d7305131c", func := "selion/selionlaw04.RoadChecks", spec := "roadChecks", unfollowed := true, recurses := true, apart := false }
def RoadChecksSaid : Prop := roadChecksRow.holds Try.pinned (OpenSpec.ofChange roadChecksSpec)

/-- ITS FALSE NEIGHBOUR: 'it returns false'. Refute it at one input. -/
def roadChecksWrong : ChangeSpec := { name := "roadChecks", fn := fun _ => fun
  | [d1, d2] => { results := [.lit (.bool false)], args := [d1, d2] }
  | _ => none }
def RoadChecksWrongFalsely : Prop := roadChecksRow.holds Try.pinned (OpenSpec.ofChange roadChecksWrong)

/-- 'selionlaw04.RoadWorsts': WHATEVER THE INPUT: true; the input reads as it did. -/
def roadWorstsSpec : ChangeSpec := { name := "roadWorsts", fn := fun _ => fun
  | [d1, d2] => { results := [.lit (.bool true)], args := [d1, d2] }
  | _ => none }
def roadWorstsRow : OpenClaim := { program := "ytkgfcdpckfhknaa", sum := "b3fa7267739573bca39bead3d0247a5fd214c3a187b31f801baa126d7305131c", func := "selion/selionlaw04.RoadWorsts", spec := "roadWorsts", unfollowed := true, recurses := true, apart := false }
def RoadWorstsSaid : Prop := roadWorstsRow.holds Try.pinned (OpenSpec.ofChange roadWorstsSpec)

/-- ITS FALSE NEIGHBOUR: 'it returns false'. Refute it at one input. -/
def roadWorstsWrong : ChangeSpec := { name := "roadWorsts", fn := fun _ => fun
  | [d1, d2] => { results := [.lit (.bool false)], args := [d1, d2] }
  | _ => none }
def RoadWorstsWrongFalsely : Prop := roadWorstsRow.holds Try.pinned (OpenSpec.ofChange roadWorstsWrong)

/-- 'selionlaw04.RoadWalls': WHATEVER THE INPUT: true; the input reads as it did. -/
def roadWallsSpec : ChangeSpec := { name := "roadWalls", fn := fun _ => fun
  | [d1, d2, d3] => { results := [.lit (.bool true)], args := [d1, d2, d3] }
  | _ => none }
def roadWallsRow : OpenClaim := { program := "ytkgfcdpckfhknaa", sum := "b3fa7267739573bca39bead3d0247a5fd214c3a187b31f801baa126d7305131c", func := "selion/selionlaw04.RoadWalls", spec := "roadWalls", unfollowed := true, recurses := true, apart := false }
def RoadWallsSaid : Prop := roadWallsRow.holds Try.pinned (OpenSpec.ofChange roadWallsSpec)

/-- ITS FALSE NEIGHBOUR: 'it returns false'. Refute it at one input. -/
def roadWallsWrong : ChangeSpec := { name := "roadWalls", fn := fun _ => fun
  | [d1, d2, d3] => { results := [.lit (.bool false)], args := [d1, d2, d3] }
  | _ => none }
def RoadWallsWrongFalsely : Prop := roadWallsRow.holds Try.pinned (OpenSpec.ofChange roadWallsWrong)

/-- 'selionlaw04.RoadProves': WHATEVER THE INPUT: true; the input reads as it did. -/
def roadProvesSpec : ChangeSpec := { name := "roadProves", fn := fun _ => fun
  | [d1, d2, d3] => { results := [.lit (.bool true)], args := [d1, d2, d3] }
  | _ => none }
def roadProvesRow : OpenClaim := { program := "ytkgfcdpckfhknaa", sum := "b3fa7267739573bca39bead3d0247a5fd214c3a187b31f801baa126d7305131c", func := "selion/selionlaw04.RoadProves", spec := "roadProves", unfollowed := true, recurses := true, apart := false }
def RoadProvesSaid : Prop := roadProvesRow.holds Try.pinned (OpenSpec.ofChange roadProvesSpec)

/-- ITS FALSE NEIGHBOUR: 'it returns false'. Refute it at one input. -/
def roadProvesWrong : ChangeSpec := { name := "roadProves", fn := fun _ => fun
  | [d1, d2, d3] => { results := [.lit (.bool false)], args := [d1, d2, d3] }
  | _ => none }
def RoadProvesWrongFalsely : Prop := roadProvesRow.holds Try.pinned (OpenSpec.ofChange roadProvesWrong)

/-- 'selionlaw04.RoadBetters': WHATEVER THE INPUT: true; the input reads as it did. -/
def roadBettersSpec : ChangeSpec := { name := "roadBetters", fn := fun _ => fun
  | [d1, d2] => { results := [.lit (.bool true)], args := [d1, d2] }
  | _ => none }
def roadBettersRow : OpenClaim := { program := "ytkgfcdpckfhknaa", sum := "b3fa7267739573bca39bead3d0247a5fd214c3a187b31f801baa126d7305131c", func := "selion/selionlaw04.RoadBetters", spec := "roadBetters", unfollowed := true, recurses := true, apart := false }
def RoadBettersSaid : Prop := roadBettersRow.holds Try.pinned (OpenSpec.ofChange roadBettersSpec)

/-- ITS FALSE NEIGHBOUR: 'it returns false'. Refute it at one input. -/
def roadBettersWrong : ChangeSpec := { name := "roadBetters", fn := fun _ => fun
  | [d1, d2] => { results := [.lit (.bool false)], args := [d1, d2] }
  | _ => none }
def RoadBettersWrongFalsely : Prop := roadBettersRow.holds Try.pinned (OpenSpec.ofChange roadBettersWrong)

/-- 'selionlaw04.RoadCounts': WHATEVER THE INPUT: true; the input reads as it did. -/
def roadCountsSpec : ChangeSpec := { name := "roadCounts", fn := fun _ => fun
  | [d] => { results := [.lit (.bool true)], args := [d] }
  | _ => none }
def roadCountsRow : OpenClaim := { program := "ytkgfcdpckfhknaa", sum := "b3fa7267739573bca39bead3d0247a5fd214c3a187b31f801baa126d7305131c", func := "selion/selionlaw04.RoadCounts", spec := "roadCounts", unfollowed := true, recurses := true, apart := false }
def RoadCountsSaid : Prop := roadCountsRow.holds Try.pinned (OpenSpec.ofChange roadCountsSpec)

/-- ITS FALSE NEIGHBOUR: 'it returns false'. Refute it at one input. -/
def roadCountsWrong : ChangeSpec := { name := "roadCounts", fn := fun _ => fun
  | [d] => { results := [.lit (.bool false)], args := [d] }
  | _ => none }
def RoadCountsWrongFalsely : Prop := roadCountsRow.holds Try.pinned (OpenSpec.ofChange roadCountsWrong)

/-- 'selionlaw04.RoadTrades': WHATEVER THE INPUT: true; the input reads as it did. -/
def roadTradesSpec : ChangeSpec := { name := "roadTrades", fn := fun _ => fun
  | [d1, d2, d3] => { results := [.lit (.bool true)], args := [d1, d2, d3] }
  | _ => none }
def roadTradesRow : OpenClaim := { program := "ytkgfcdpckfhknaa", sum := "b3fa7267739573bca39bead3d0247a5fd214c3a187b31f801baa126d7305131c", func := "selion/selionlaw04.RoadTrades", spec := "roadTrades", unfollowed := true, recurses := true, apart := false }
def RoadTradesSaid : Prop := roadTradesRow.holds Try.pinned (OpenSpec.ofChange roadTradesSpec)

/-- ITS FALSE NEIGHBOUR: 'it returns false'. Refute it at one input. -/
def roadTradesWrong : ChangeSpec := { name := "roadTrades", fn := fun _ => fun
  | [d1, d2, d3] => { results := [.lit (.bool false)], args := [d1, d2, d3] }
  | _ => none }
def RoadTradesWrongFalsely : Prop := roadTradesRow.holds Try.pinned (OpenSpec.ofChange roadTradesWrong)

/-- 'selionlaw04.RoadChanges': WHATEVER THE INPUT: true; the input reads as it did. -/
def roadChangesSpec : ChangeSpec := { name := "roadChanges", fn := fun _ => fun
  | [d1, d2] => { results := [.lit (.bool true)], args := [d1, d2] }
  | _ => none }
def roadChangesRow : OpenClaim := { program := "ytkgfcdpckfhknaa", sum := "b3fa7267739573bca39bead3d0247a5fd214c3a187b31f801baa126d7305131c", func := "selion/selionlaw04.RoadChanges", spec := "roadChanges", unfollowed := true, recurses := true, apart := false }
def RoadChangesSaid : Prop := roadChangesRow.holds Try.pinned (OpenSpec.ofChange roadChangesSpec)

/-- ITS FALSE NEIGHBOUR: 'it returns false'. Refute it at one input. -/
def roadChangesWrong : ChangeSpec := { name := "roadChanges", fn := fun _ => fun
  | [d1, d2] => { results := [.lit (.bool false)], args := [d1, d2] }
  | _ => none }
def RoadChangesWrongFalsely : Prop := roadChangesRow.holds Try.pinned (OpenSpec.ofChange roadChangesWrong)

/-- 'seliontop.TopRoads': WHATEVER THE INPUT: true; the input reads as it did. -/
def topRoadsSpec : ChangeSpec := { name := "topRoads", fn := fun _ => fun
  | [d1, d2] => { results := [.lit (.bool true)], args := [d1, d2] }
  | _ => none }
def topRoadsRow : OpenClaim := { program := "ytkgfcdpckfhknaa", sum := "b3fa7267739573bca39bead3d0247a5fd214c3a187b31f801baa126d7305131c", func := "selion/seliontop.TopRoads", spec := "topRoads", unfollowed := true, recurses := true, apart := false }
def TopRoadsSaid : Prop := topRoadsRow.holds Try.pinned (OpenSpec.ofChange topRoadsSpec)

/-- ITS FALSE NEIGHBOUR: 'it returns false'. Refute it at one input. -/
def topRoadsWrong : ChangeSpec := { name := "topRoads", fn := fun _ => fun
  | [d1, d2] => { results := [.lit (.bool false)], args := [d1, d2] }
  | _ => none }
def TopRoadsWrongFalsely : Prop := topRoadsRow.holds Try.pinned (OpenSpec.ofChange topRoadsWrong)

/- THE SECOND FORM. 'bulk': how many values and letters a reading holds, each counted each time it is reached (what is shared counts as often as it is met; a slice's spare places count too). A statement '..UptoSaid' is the law's where the arguments, and the package variables that the reading takes, are together of bulk at most 1048576: NARROWER than '..Said'. Prove '..Said' where nothing that the law and all that it calls make is longer than what came in: it says more and counts as full. Else prove '..UptoSaid'. A law counts once. -/
mutual
def uptoBulk {H : Type} : DataW H → Nat
  | .lit (.string bytes) => bytes.length + 1
  | .lit _ => 1
  | .nil => 1
  | .ptr d => uptoBulk d + 1
  | .slice elems spare => uptoBulkAll elems + uptoBulkAll spare + 1
  | .agg parts => uptoBulkAll parts + 1
  | .iface _ d => uptoBulk d + 1
  | .map entries => uptoBulkEntries entries + 1
  | .held _ => 1
def uptoBulkAll {H : Type} : List (DataW H) → Nat
  | [] => 0
  | d :: r => uptoBulk d + uptoBulkAll r
def uptoBulkEntries {H : Type} : List (Lit × DataW H) → Nat
  | [] => 0
  | x :: r => uptoBulkEntry x + uptoBulkEntries r
def uptoBulkEntry {H : Type} : Lit × DataW H → Nat
  | (.string bytes, d) => bytes.length + uptoBulk d + 1
  | (_, d) => uptoBulk d + 1
 end
def uptoSmall : (H : Type) → List (DataW H) → Bool := fun _ ds => decide (uptoBulkAll ds ≤ 1048576)
def OpenSpec.upto (s : _root_.Go.ChangeSpec) : _root_.Go.OpenSpec := { _root_.Go.OpenSpec.ofChange s with cond := some uptoSmall }

/-- 'selionlaw04.RoadRanges', WHERE WHAT IT READS IS OF BULK AT MOST 1048576: true; the input reads as it did. -/
def roadRangesUptoRow : OpenClaim := { program := "ytkgfcdpckfhknaa", sum := "b3fa7267739573bca39bead3d0247a5fd214c3a187b31f801baa126d7305131c", func := "selion/selionlaw04.RoadRanges", spec := "roadRanges", unfollowed := true, recurses := true, apart := false, narrowed := true }
def RoadRangesUptoSaid : Prop := roadRangesUptoRow.holds Try.pinned (OpenSpec.upto roadRangesSpec)

/-- 'selionlaw04.RoadTrees', WHERE WHAT IT READS IS OF BULK AT MOST 1048576: true; the input reads as it did. -/
def roadTreesUptoRow : OpenClaim := { program := "ytkgfcdpckfhknaa", sum := "b3fa7267739573bca39bead3d0247a5fd214c3a187b31f801baa126d7305131c", func := "selion/selionlaw04.RoadTrees", spec := "roadTrees", unfollowed := true, recurses := true, apart := false, narrowed := true }
def RoadTreesUptoSaid : Prop := roadTreesUptoRow.holds Try.pinned (OpenSpec.upto roadTreesSpec)

/-- 'selionlaw04.RoadThrough', WHERE WHAT IT READS IS OF BULK AT MOST 1048576: true; the input reads as it did. -/
def roadThroughUptoRow : OpenClaim := { program := "ytkgfcdpckfhknaa", sum := "b3fa7267739573bca39bead3d0247a5fd214c3a187b31f801baa126d7305131c", func := "selion/selionlaw04.RoadThrough", spec := "roadThrough", unfollowed := true, recurses := true, apart := false, narrowed := true }
def RoadThroughUptoSaid : Prop := roadThroughUptoRow.holds Try.pinned (OpenSpec.upto roadThroughSpec)

/-- 'selionlaw04.RoadGroups', WHERE WHAT IT READS IS OF BULK AT MOST 1048576: true; the input reads as it did. -/
def roadGroupsUptoRow : OpenClaim := { program := "ytkgfcdpckfhknaa", sum := "b3fa7267739573bca39bead3d0247a5fd214c3a187b31f801baa126d7305131c", func := "selion/selionlaw04.RoadGroups", spec := "roadGroups", unfollowed := true, recurses := true, apart := false, narrowed := true }
def RoadGroupsUptoSaid : Prop := roadGroupsUptoRow.holds Try.pinned (OpenSpec.upto roadGroupsSpec)

/-- 'selionlaw04.RoadWays', WHERE WHAT IT READS IS OF BULK AT MOST 1048576: true; the input reads as it did. -/
def roadWaysUptoRow : OpenClaim := { program := "ytkgfcdpckfhknaa", sum := "b3fa7267739573bca39bead3d0247a5fd214c3a187b31f801baa126d7305131c", func := "selion/selionlaw04.RoadWays", spec := "roadWays", unfollowed := true, recurses := true, apart := false, narrowed := true }
def RoadWaysUptoSaid : Prop := roadWaysUptoRow.holds Try.pinned (OpenSpec.upto roadWaysSpec)

/-- 'selionlaw04.RoadChecks', WHERE WHAT IT READS IS OF BULK AT MOST 1048576: true; the input reads as it did. -/
def roadChecksUptoRow : OpenClaim := { program := "ytkgfcdpckfhknaa", sum := "b3fa7267739573bca39bead3d0247a5fd214c3a187b31f801baa126d7305131c", func := "selion/selionlaw04.RoadChecks", spec := "roadChecks", unfollowed := true, recurses := true, apart := false, narrowed := true }
def RoadChecksUptoSaid : Prop := roadChecksUptoRow.holds Try.pinned (OpenSpec.upto roadChecksSpec)

/-- 'selionlaw04.RoadWorsts', WHERE WHAT IT READS IS OF BULK AT MOST 1048576: true; the input reads as it did. -/
def roadWorstsUptoRow : OpenClaim := { program := "ytkgfcdpckfhknaa", sum := "b3fa7267739573bca39bead3d0247a5fd214c3a187b31f801baa126d7305131c", func := "selion/selionlaw04.RoadWorsts", spec := "roadWorsts", unfollowed := true, recurses := true, apart := false, narrowed := true }
def RoadWorstsUptoSaid : Prop := roadWorstsUptoRow.holds Try.pinned (OpenSpec.upto roadWorstsSpec)

/-- 'selionlaw04.RoadWalls', WHERE WHAT IT READS IS OF BULK AT MOST 1048576: true; the input reads as it did. -/
def roadWallsUptoRow : OpenClaim := { program := "ytkgfcdpckfhknaa", sum := "b3fa7267739573bca39bead3d0247a5fd214c3a187b31f801baa126d7305131c", func := "selion/selionlaw04.RoadWalls", spec := "roadWalls", unfollowed := true, recurses := true, apart := false, narrowed := true }
def RoadWallsUptoSaid : Prop := roadWallsUptoRow.holds Try.pinned (OpenSpec.upto roadWallsSpec)

/-- 'selionlaw04.RoadProves', WHERE WHAT IT READS IS OF BULK AT MOST 1048576: true; the input reads as it did. -/
def roadProvesUptoRow : OpenClaim := { program := "ytkgfcdpckfhknaa", sum := "b3fa7267739573bca39bead3d0247a5fd214c3a187b31f801baa126d7305131c", func := "selion/selionlaw04.RoadProves", spec := "roadProves", unfollowed := true, recurses := true, apart := false, narrowed := true }
def RoadProvesUptoSaid : Prop := roadProvesUptoRow.holds Try.pinned (OpenSpec.upto roadProvesSpec)

/-- 'selionlaw04.RoadBetters', WHERE WHAT IT READS IS OF BULK AT MOST 1048576: true; the input reads as it did. -/
def roadBettersUptoRow : OpenClaim := { program := "ytkgfcdpckfhknaa", sum := "b3fa7267739573bca39bead3d0247a5fd214c3a187b31f801baa126d7305131c", func := "selion/selionlaw04.RoadBetters", spec := "roadBetters", unfollowed := true, recurses := true, apart := false, narrowed := true }
def RoadBettersUptoSaid : Prop := roadBettersUptoRow.holds Try.pinned (OpenSpec.upto roadBettersSpec)

/-- 'selionlaw04.RoadCounts', WHERE WHAT IT READS IS OF BULK AT MOST 1048576: true; the input reads as it did. -/
def roadCountsUptoRow : OpenClaim := { program := "ytkgfcdpckfhknaa", sum := "b3fa7267739573bca39bead3d0247a5fd214c3a187b31f801baa126d7305131c", func := "selion/selionlaw04.RoadCounts", spec := "roadCounts", unfollowed := true, recurses := true, apart := false, narrowed := true }
def RoadCountsUptoSaid : Prop := roadCountsUptoRow.holds Try.pinned (OpenSpec.upto roadCountsSpec)

/-- 'selionlaw04.RoadTrades', WHERE WHAT IT READS IS OF BULK AT MOST 1048576: true; the input reads as it did. -/
def roadTradesUptoRow : OpenClaim := { program := "ytkgfcdpckfhknaa", sum := "b3fa7267739573bca39bead3d0247a5fd214c3a187b31f801baa126d7305131c", func := "selion/selionlaw04.RoadTrades", spec := "roadTrades", unfollowed := true, recurses := true, apart := false, narrowed := true }
def RoadTradesUptoSaid : Prop := roadTradesUptoRow.holds Try.pinned (OpenSpec.upto roadTradesSpec)

/-- 'selionlaw04.RoadChanges', WHERE WHAT IT READS IS OF BULK AT MOST 1048576: true; the input reads as it did. -/
def roadChangesUptoRow : OpenClaim := { program := "ytkgfcdpckfhknaa", sum := "b3fa7267739573bca39bead3d0247a5fd214c3a187b31f801baa126d7305131c", func := "selion/selionlaw04.RoadChanges", spec := "roadChanges", unfollowed := true, recurses := true, apart := false, narrowed := true }
def RoadChangesUptoSaid : Prop := roadChangesUptoRow.holds Try.pinned (OpenSpec.upto roadChangesSpec)

/-- 'seliontop.TopRoads', WHERE WHAT IT READS IS OF BULK AT MOST 1048576: true; the input reads as it did. -/
def topRoadsUptoRow : OpenClaim := { program := "ytkgfcdpckfhknaa", sum := "b3fa7267739573bca39bead3d0247a5fd214c3a187b31f801baa126d7305131c", func := "selion/seliontop.TopRoads", spec := "topRoads", unfollowed := true, recurses := true, apart := false, narrowed := true }
def TopRoadsUptoSaid : Prop := topRoadsUptoRow.holds Try.pinned (OpenSpec.upto topRoadsSpec)

end Rows
end Go.Proofs.Ytkgfcdpckfhknaa
