/-
  No cell of these rows narrows 'for every input' (looked for: loops, veiled, ifaces, maps, wideKeys, modest, calm, conditions, laid).
  DERIVED. THE GIVEN ROWS OF THIS SEAT. 12 by the template 'for every input the law returns true; each argument reads behind the call as it read before'; 0 by the template 'total and deterministic' (their statements: YtdcdjhhjlpegjaaTotals.lean).
  GIVEN WITH THE SEED: the statements are not yours to turn. If you find one false, say at which input.
  Laid BY PROGRAM, IN A SANDBOX (cutbox-rows.mjs): the forced cells as the released guide's own fill.sh prints them over the translation f7facd785edd64ac… (all of the seat's roots in one cut). By AI agents, Wed Nov 11 2026. No macro, syntax, notation, axiom, sorry.
-/
import Derived.Test.YtdcdjhhjlpegjaaChecked
import GoSem.Claim
import GoSem.ClaimJoined
import GoSem.ClaimMapViews
import Derived.JoinedTies
import Derived.KernelRfl
namespace Go.Proofs.Ytdcdjhhjlpegjaa
/- THE CELL 'sum', in the pinned program and in every row, IS THE sha256 OF THE DUMP (.gsa) THAT YtdcdjhhjlpegjaaProg.lean LOADS. Nothing in Lean hashes anything: it is a label: what it is worth is what the hold of that sum in a sandbox is worth. -/
noncomputable def Try.pinned : Pinned := { name := "ytdcdjhhjlpegjaa", sum := "f7facd785edd64acc49191dc3ae8d1f43aad198494c0d0519a43042abee6b2cc", checked := Try.checked }
namespace Rows
def none {H : Type} : Left H := { results := [], args := [] }

/-- 'selionlaw03.ClaimOrders': WHATEVER THE INPUT: true; the input reads as it did. -/
def claimOrdersSpec : ChangeSpec := { name := "claimOrders", fn := fun _ => fun
  | [d] => { results := [.lit (.bool true)], args := [d] }
  | _ => none }
def claimOrdersRow : OpenClaim := { program := "ytdcdjhhjlpegjaa", sum := "f7facd785edd64acc49191dc3ae8d1f43aad198494c0d0519a43042abee6b2cc", func := "selion/selionlaw03.ClaimOrders", spec := "claimOrders", unfollowed := true, recurses := true, apart := false }
def ClaimOrdersSaid : Prop := claimOrdersRow.holds Try.pinned (OpenSpec.ofChange claimOrdersSpec)

/-- ITS FALSE NEIGHBOUR: 'it returns false'. Refute it at one input. -/
def claimOrdersWrong : ChangeSpec := { name := "claimOrders", fn := fun _ => fun
  | [d] => { results := [.lit (.bool false)], args := [d] }
  | _ => none }
def ClaimOrdersWrongFalsely : Prop := claimOrdersRow.holds Try.pinned (OpenSpec.ofChange claimOrdersWrong)

/-- 'selionlaw03.ClaimPays': WHATEVER THE INPUT: true; the input reads as it did. -/
def claimPaysSpec : ChangeSpec := { name := "claimPays", fn := fun _ => fun
  | [d1, d2, d3] => { results := [.lit (.bool true)], args := [d1, d2, d3] }
  | _ => none }
def claimPaysRow : OpenClaim := { program := "ytdcdjhhjlpegjaa", sum := "f7facd785edd64acc49191dc3ae8d1f43aad198494c0d0519a43042abee6b2cc", func := "selion/selionlaw03.ClaimPays", spec := "claimPays", unfollowed := true, recurses := true, apart := false }
def ClaimPaysSaid : Prop := claimPaysRow.holds Try.pinned (OpenSpec.ofChange claimPaysSpec)

/-- ITS FALSE NEIGHBOUR: 'it returns false'. Refute it at one input. -/
def claimPaysWrong : ChangeSpec := { name := "claimPays", fn := fun _ => fun
  | [d1, d2, d3] => { results := [.lit (.bool false)], args := [d1, d2, d3] }
  | _ => none }
def ClaimPaysWrongFalsely : Prop := claimPaysRow.holds Try.pinned (OpenSpec.ofChange claimPaysWrong)

/-- 'selionlaw03.ClaimTwo': WHATEVER THE INPUT: true; the input reads as it did. -/
def claimTwoSpec : ChangeSpec := { name := "claimTwo", fn := fun _ => fun
  | [d] => { results := [.lit (.bool true)], args := [d] }
  | _ => none }
def claimTwoRow : OpenClaim := { program := "ytdcdjhhjlpegjaa", sum := "f7facd785edd64acc49191dc3ae8d1f43aad198494c0d0519a43042abee6b2cc", func := "selion/selionlaw03.ClaimTwo", spec := "claimTwo", unfollowed := true, recurses := true, apart := false }
def ClaimTwoSaid : Prop := claimTwoRow.holds Try.pinned (OpenSpec.ofChange claimTwoSpec)

/-- ITS FALSE NEIGHBOUR: 'it returns false'. Refute it at one input. -/
def claimTwoWrong : ChangeSpec := { name := "claimTwo", fn := fun _ => fun
  | [d] => { results := [.lit (.bool false)], args := [d] }
  | _ => none }
def ClaimTwoWrongFalsely : Prop := claimTwoRow.holds Try.pinned (OpenSpec.ofChange claimTwoWrong)

/-- 'selionlaw03.ClaimWholes': WHATEVER THE INPUT: true; the input reads as it did. -/
def claimWholesSpec : ChangeSpec := { name := "claimWholes", fn := fun _ => fun
  | [d1, d2] => { results := [.lit (.bool true)], args := [d1, d2] }
  | _ => none }
def claimWholesRow : OpenClaim := { program := "ytdcdjhhjlpegjaa", sum := "f7facd785edd64acc49191dc3ae8d1f43aad198494c0d0519a43042abee6b2cc", func := "selion/selionlaw03.ClaimWholes", spec := "claimWholes", unfollowed := true, recurses := true, apart := false }
def ClaimWholesSaid : Prop := claimWholesRow.holds Try.pinned (OpenSpec.ofChange claimWholesSpec)

/-- ITS FALSE NEIGHBOUR: 'it returns false'. Refute it at one input. -/
def claimWholesWrong : ChangeSpec := { name := "claimWholes", fn := fun _ => fun
  | [d1, d2] => { results := [.lit (.bool false)], args := [d1, d2] }
  | _ => none }
def ClaimWholesWrongFalsely : Prop := claimWholesRow.holds Try.pinned (OpenSpec.ofChange claimWholesWrong)

/-- 'selionlaw03.ClaimCourts': WHATEVER THE INPUT: true; the input reads as it did. -/
def claimCourtsSpec : ChangeSpec := { name := "claimCourts", fn := fun _ => fun
  | [d] => { results := [.lit (.bool true)], args := [d] }
  | _ => none }
def claimCourtsRow : OpenClaim := { program := "ytdcdjhhjlpegjaa", sum := "f7facd785edd64acc49191dc3ae8d1f43aad198494c0d0519a43042abee6b2cc", func := "selion/selionlaw03.ClaimCourts", spec := "claimCourts", unfollowed := true, recurses := true, apart := false }
def ClaimCourtsSaid : Prop := claimCourtsRow.holds Try.pinned (OpenSpec.ofChange claimCourtsSpec)

/-- ITS FALSE NEIGHBOUR: 'it returns false'. Refute it at one input. -/
def claimCourtsWrong : ChangeSpec := { name := "claimCourts", fn := fun _ => fun
  | [d] => { results := [.lit (.bool false)], args := [d] }
  | _ => none }
def ClaimCourtsWrongFalsely : Prop := claimCourtsRow.holds Try.pinned (OpenSpec.ofChange claimCourtsWrong)

/-- 'selionlaw03.ClaimParts': WHATEVER THE INPUT: true; the input reads as it did. -/
def claimPartsSpec : ChangeSpec := { name := "claimParts", fn := fun _ => fun
  | [d] => { results := [.lit (.bool true)], args := [d] }
  | _ => none }
def claimPartsRow : OpenClaim := { program := "ytdcdjhhjlpegjaa", sum := "f7facd785edd64acc49191dc3ae8d1f43aad198494c0d0519a43042abee6b2cc", func := "selion/selionlaw03.ClaimParts", spec := "claimParts", unfollowed := true, recurses := true, apart := false }
def ClaimPartsSaid : Prop := claimPartsRow.holds Try.pinned (OpenSpec.ofChange claimPartsSpec)

/-- ITS FALSE NEIGHBOUR: 'it returns false'. Refute it at one input. -/
def claimPartsWrong : ChangeSpec := { name := "claimParts", fn := fun _ => fun
  | [d] => { results := [.lit (.bool false)], args := [d] }
  | _ => none }
def ClaimPartsWrongFalsely : Prop := claimPartsRow.holds Try.pinned (OpenSpec.ofChange claimPartsWrong)

/-- 'selionlaw03.ClaimEquals': WHATEVER THE INPUT: true; the input reads as it did. -/
def claimEqualsSpec : ChangeSpec := { name := "claimEquals", fn := fun _ => fun
  | [d1, d2] => { results := [.lit (.bool true)], args := [d1, d2] }
  | _ => none }
def claimEqualsRow : OpenClaim := { program := "ytdcdjhhjlpegjaa", sum := "f7facd785edd64acc49191dc3ae8d1f43aad198494c0d0519a43042abee6b2cc", func := "selion/selionlaw03.ClaimEquals", spec := "claimEquals", unfollowed := true, recurses := true, apart := false }
def ClaimEqualsSaid : Prop := claimEqualsRow.holds Try.pinned (OpenSpec.ofChange claimEqualsSpec)

/-- ITS FALSE NEIGHBOUR: 'it returns false'. Refute it at one input. -/
def claimEqualsWrong : ChangeSpec := { name := "claimEquals", fn := fun _ => fun
  | [d1, d2] => { results := [.lit (.bool false)], args := [d1, d2] }
  | _ => none }
def ClaimEqualsWrongFalsely : Prop := claimEqualsRow.holds Try.pinned (OpenSpec.ofChange claimEqualsWrong)

/-- 'selionlaw03.ClaimChecks': WHATEVER THE INPUT: true; the input reads as it did. -/
def claimChecksSpec : ChangeSpec := { name := "claimChecks", fn := fun _ => fun
  | [d1, d2] => { results := [.lit (.bool true)], args := [d1, d2] }
  | _ => none }
def claimChecksRow : OpenClaim := { program := "ytdcdjhhjlpegjaa", sum := "f7facd785edd64acc49191dc3ae8d1f43aad198494c0d0519a43042abee6b2cc", func := "selion/selionlaw03.ClaimChecks", spec := "claimChecks", unfollowed := true, recurses := true, apart := false }
def ClaimChecksSaid : Prop := claimChecksRow.holds Try.pinned (OpenSpec.ofChange claimChecksSpec)

/-- ITS FALSE NEIGHBOUR: 'it returns false'. Refute it at one input. -/
def claimChecksWrong : ChangeSpec := { name := "claimChecks", fn := fun _ => fun
  | [d1, d2] => { results := [.lit (.bool false)], args := [d1, d2] }
  | _ => none }
def ClaimChecksWrongFalsely : Prop := claimChecksRow.holds Try.pinned (OpenSpec.ofChange claimChecksWrong)

/-- 'selionlaw03.ClaimTurned': WHATEVER THE INPUT: true; the input reads as it did. -/
def claimTurnedSpec : ChangeSpec := { name := "claimTurned", fn := fun _ => fun
  | [d] => { results := [.lit (.bool true)], args := [d] }
  | _ => none }
def claimTurnedRow : OpenClaim := { program := "ytdcdjhhjlpegjaa", sum := "f7facd785edd64acc49191dc3ae8d1f43aad198494c0d0519a43042abee6b2cc", func := "selion/selionlaw03.ClaimTurned", spec := "claimTurned", unfollowed := true, recurses := true, apart := false }
def ClaimTurnedSaid : Prop := claimTurnedRow.holds Try.pinned (OpenSpec.ofChange claimTurnedSpec)

/-- ITS FALSE NEIGHBOUR: 'it returns false'. Refute it at one input. -/
def claimTurnedWrong : ChangeSpec := { name := "claimTurned", fn := fun _ => fun
  | [d] => { results := [.lit (.bool false)], args := [d] }
  | _ => none }
def ClaimTurnedWrongFalsely : Prop := claimTurnedRow.holds Try.pinned (OpenSpec.ofChange claimTurnedWrong)

/-- 'selionlaw03.ClaimLevels': WHATEVER THE INPUT: true; the input reads as it did. -/
def claimLevelsSpec : ChangeSpec := { name := "claimLevels", fn := fun _ => fun
  | [d] => { results := [.lit (.bool true)], args := [d] }
  | _ => none }
def claimLevelsRow : OpenClaim := { program := "ytdcdjhhjlpegjaa", sum := "f7facd785edd64acc49191dc3ae8d1f43aad198494c0d0519a43042abee6b2cc", func := "selion/selionlaw03.ClaimLevels", spec := "claimLevels", unfollowed := true, recurses := true, apart := false }
def ClaimLevelsSaid : Prop := claimLevelsRow.holds Try.pinned (OpenSpec.ofChange claimLevelsSpec)

/-- ITS FALSE NEIGHBOUR: 'it returns false'. Refute it at one input. -/
def claimLevelsWrong : ChangeSpec := { name := "claimLevels", fn := fun _ => fun
  | [d] => { results := [.lit (.bool false)], args := [d] }
  | _ => none }
def ClaimLevelsWrongFalsely : Prop := claimLevelsRow.holds Try.pinned (OpenSpec.ofChange claimLevelsWrong)

/-- 'selionlaw03.ClaimEvens': WHATEVER THE INPUT: true; the input reads as it did. -/
def claimEvensSpec : ChangeSpec := { name := "claimEvens", fn := fun _ => fun
  | [d1, d2] => { results := [.lit (.bool true)], args := [d1, d2] }
  | _ => none }
def claimEvensRow : OpenClaim := { program := "ytdcdjhhjlpegjaa", sum := "f7facd785edd64acc49191dc3ae8d1f43aad198494c0d0519a43042abee6b2cc", func := "selion/selionlaw03.ClaimEvens", spec := "claimEvens", unfollowed := true, recurses := true, apart := false }
def ClaimEvensSaid : Prop := claimEvensRow.holds Try.pinned (OpenSpec.ofChange claimEvensSpec)

/-- ITS FALSE NEIGHBOUR: 'it returns false'. Refute it at one input. -/
def claimEvensWrong : ChangeSpec := { name := "claimEvens", fn := fun _ => fun
  | [d1, d2] => { results := [.lit (.bool false)], args := [d1, d2] }
  | _ => none }
def ClaimEvensWrongFalsely : Prop := claimEvensRow.holds Try.pinned (OpenSpec.ofChange claimEvensWrong)

/-- 'selionlaw03.ClaimLeaves': WHATEVER THE INPUT: true; the input reads as it did. -/
def claimLeavesSpec : ChangeSpec := { name := "claimLeaves", fn := fun _ => fun
  | [d1, d2, d3] => { results := [.lit (.bool true)], args := [d1, d2, d3] }
  | _ => none }
def claimLeavesRow : OpenClaim := { program := "ytdcdjhhjlpegjaa", sum := "f7facd785edd64acc49191dc3ae8d1f43aad198494c0d0519a43042abee6b2cc", func := "selion/selionlaw03.ClaimLeaves", spec := "claimLeaves", unfollowed := true, recurses := true, apart := false }
def ClaimLeavesSaid : Prop := claimLeavesRow.holds Try.pinned (OpenSpec.ofChange claimLeavesSpec)

/-- ITS FALSE NEIGHBOUR: 'it returns false'. Refute it at one input. -/
def claimLeavesWrong : ChangeSpec := { name := "claimLeaves", fn := fun _ => fun
  | [d1, d2, d3] => { results := [.lit (.bool false)], args := [d1, d2, d3] }
  | _ => none }
def ClaimLeavesWrongFalsely : Prop := claimLeavesRow.holds Try.pinned (OpenSpec.ofChange claimLeavesWrong)

/- THE SECOND FORM. 'bulk': how many values and letters a reading holds, each counted each time it is reached (what is shared counts as often as it is met; a slice's spare places count too). A statement '..UptoSaid' is the law's where the arguments, and the package variables that the reading takes, are together of bulk at most 1048576: NARROWER than '..Said'. Prove '..Said' where nothing that the law and all that it calls make is longer than what came in: it says more and counts as full. Else prove '..UptoSaid'. A law counts once. -/
mutual
def uptoBulk {H : Type} : DataW H → Nat
  | .lit (.string bytes) => bytes.length + 1
  | .lit _ => 1
  | .nil => 1
  | .ptr d => uptoBulk d + 1
  | .slice elems spare => uptoBulkAll elems + uptoBulkAll spare + 1
  | .agg parts => uptoBulkAll parts + 1
  | .iface _ d => uptoBulk d + 1
  | .map entries => uptoBulkEntries entries + 1
  | .held _ => 1
def uptoBulkAll {H : Type} : List (DataW H) → Nat
  | [] => 0
  | d :: r => uptoBulk d + uptoBulkAll r
def uptoBulkEntries {H : Type} : List (Lit × DataW H) → Nat
  | [] => 0
  | x :: r => uptoBulkEntry x + uptoBulkEntries r
def uptoBulkEntry {H : Type} : Lit × DataW H → Nat
  | (.string bytes, d) => bytes.length + uptoBulk d + 1
  | (_, d) => uptoBulk d + 1
 end
def uptoSmall : (H : Type) → List (DataW H) → Bool := fun _ ds => decide (uptoBulkAll ds ≤ 1048576)
def OpenSpec.upto (s : _root_.Go.ChangeSpec) : _root_.Go.OpenSpec := { _root_.Go.OpenSpec.ofChange s with cond := some uptoSmall }

/-- 'selionlaw03.ClaimOrders', WHERE WHAT IT READS IS OF BULK AT MOST 1048576: true; the input reads as it did. -/
def claimOrdersUptoRow : OpenClaim := { program := "ytdcdjhhjlpegjaa", sum := "f7facd785edd64acc49191dc3ae8d1f43aad198494c0d0519a43042abee6b2cc", func := "selion/selionlaw03.ClaimOrders", spec := "claimOrders", unfollowed := true, recurses := true, apart := false, narrowed := true }
def ClaimOrdersUptoSaid : Prop := claimOrdersUptoRow.holds Try.pinned (OpenSpec.upto claimOrdersSpec)

/-- 'selionlaw03.ClaimPays', WHERE WHAT IT READS IS OF BULK AT MOST 1048576: true; the input reads as it did. -/
def claimPaysUptoRow : OpenClaim := { program := "ytdcdjhhjlpegjaa", sum := "f7facd785edd64acc49191dc3ae8d1f43aad198494c0d0519a43042abee6b2cc", func := "selion/selionlaw03.ClaimPays", spec := "claimPays", unfollowed := true, recurses := true, apart := false, narrowed := true }
def ClaimPaysUptoSaid : Prop := claimPaysUptoRow.holds Try.pinned (OpenSpec.upto claimPaysSpec)

/-- 'selionlaw03.ClaimTwo', WHERE WHAT IT READS IS OF BULK AT MOST 1048576: true; the input reads as it did. -/
def claimTwoUptoRow : OpenClaim := { program := "ytdcdjhhjlpegjaa", sum := "f7facd785edd64acc49191dc3ae8d1f43aad198494c0d0519a43042abee6b2cc", func := "selion/selionlaw03.ClaimTwo", spec := "claimTwo", unfollowed := true, recurses := true, apart := false, narrowed := true }
def ClaimTwoUptoSaid : Prop := claimTwoUptoRow.holds Try.pinned (OpenSpec.upto claimTwoSpec)

/-- 'selionlaw03.ClaimWholes', WHERE WHAT IT READS IS OF BULK AT MOST 1048576: true; the input reads as it did. -/
def claimWholesUptoRow : OpenClaim := { program := "ytdcdjhhjlpegjaa", sum := "f7facd785edd64acc49191dc3ae8d1f43aad198494c0d0519a43042abee6b2cc", func := "selion/selionlaw03.ClaimWholes", spec := "claimWholes", unfollowed := true, recurses := true, apart := false, narrowed := true }
def ClaimWholesUptoSaid : Prop := claimWholesUptoRow.holds Try.pinned (OpenSpec.upto claimWholesSpec)

/-- 'selionlaw03.ClaimCourts', WHERE WHAT IT READS IS OF BULK AT MOST 1048576: true; the input reads as it did. -/
def claimCourtsUptoRow : OpenClaim := { program := "ytdcdjhhjlpegjaa", sum := "f7facd785edd64acc49191dc3ae8d1f43aad198494c0d0519a43042abee6b2cc", func := "selion/selionlaw03.ClaimCourts", spec := "claimCourts", unfollowed := true, recurses := true, apart := false, narrowed := true }
def ClaimCourtsUptoSaid : Prop := claimCourtsUptoRow.holds Try.pinned (OpenSpec.upto claimCourtsSpec)

/-- 'selionlaw03.ClaimParts', WHERE WHAT IT READS IS OF BULK AT MOST 1048576: true; the input reads as it did. -/
def claimPartsUptoRow : OpenClaim := { program := "ytdcdjhhjlpegjaa", sum := "f7facd785edd64acc49191dc3ae8d1f43aad198494c0d0519a43042abee6b2cc", func := "selion/selionlaw03.ClaimParts", spec := "claimParts", unfollowed := true, recurses := true, apart := false, narrowed := true }
def ClaimPartsUptoSaid : Prop := claimPartsUptoRow.holds Try.pinned (OpenSpec.upto claimPartsSpec)

/-- 'selionlaw03.ClaimEquals', WHERE WHAT IT READS IS OF BULK AT MOST 1048576: true; the input reads as it did. -/
def claimEqualsUptoRow : OpenClaim := { program := "ytdcdjhhjlpegjaa", sum := "f7facd785edd64acc49191dc3ae8d1f43aad198494c0d0519a43042abee6b2cc", func := "selion/selionlaw03.ClaimEquals", spec := "claimEquals", unfollowed := true, recurses := true, apart := false, narrowed := true }
def ClaimEqualsUptoSaid : Prop := claimEqualsUptoRow.holds Try.pinned (OpenSpec.upto claimEqualsSpec)

/-- 'selionlaw03.ClaimChecks', WHERE WHAT IT READS IS OF BULK AT MOST 1048576: true; the input reads as it did. -/
def claimChecksUptoRow : OpenClaim := { program := "ytdcdjhhjlpegjaa", sum := "f7facd785edd64acc49191dc3ae8d1f43aad198494c0d0519a43042abee6b2cc", func := "selion/selionlaw03.ClaimChecks", spec := "claimChecks", unfollowed := true, recurses := true, apart := false, narrowed := true }
def ClaimChecksUptoSaid : Prop := claimChecksUptoRow.holds Try.pinned (OpenSpec.upto claimChecksSpec)

/-- 'selionlaw03.ClaimTurned', WHERE WHAT IT READS IS OF BULK AT MOST 1048576: true; the input reads as it did. -/
def claimTurnedUptoRow : OpenClaim := { program := "ytdcdjhhjlpegjaa", sum := "f7facd785edd64acc49191dc3ae8d1f43aad198494c0d0519a43042abee6b2cc", func := "selion/selionlaw03.ClaimTurned", spec := "claimTurned", unfollowed := true, recurses := true, apart := false, narrowed := true }
def ClaimTurnedUptoSaid : Prop := claimTurnedUptoRow.holds Try.pinned (OpenSpec.upto claimTurnedSpec)

/-- 'selionlaw03.ClaimLevels', WHERE WHAT IT READS IS OF BULK AT MOST 1048576: true; the input reads as it did. -/
def claimLevelsUptoRow : OpenClaim := { program := "ytdcdjhhjlpegjaa", sum := "f7facd785edd64acc49191dc3ae8d1f43aad198494c0d0519a43042abee6b2cc", func := "selion/selionlaw03.ClaimLevels", spec := "claimLevels", unfollowed := true, recurses := true, apart := false, narrowed := true }
def ClaimLevelsUptoSaid : Prop := claimLevelsUptoRow.holds Try.pinned (OpenSpec.upto claimLevelsSpec)

/-- 'selionlaw03.ClaimEvens', WHERE WHAT IT READS IS OF BULK AT MOST 1048576: true; the input reads as it did. -/
def claimEvensUptoRow : OpenClaim := { program := "ytdcdjhhjlpegjaa", sum := "f7facd785edd64acc49191dc3ae8d1f43aad198494c0d0519a43042abee6b2cc", func := "selion/selionlaw03.ClaimEvens", spec := "claimEvens", unfollowed := true, recurses := true, apart := false, narrowed := true }
def ClaimEvensUptoSaid : Prop := claimEvensUptoRow.holds Try.pinned (OpenSpec.upto claimEvensSpec)

/-- 'selionlaw03.ClaimLeaves', WHERE WHAT IT READS IS OF BULK AT MOST 1048576: true; the input reads as it did. -/
def claimLeavesUptoRow : OpenClaim := { program := "ytdcdjhhjlpegjaa", sum := "f7facd785edd64acc49191dc3ae8d1f43aad198494c0d0519a43042abee6b2cc", func := "selion/selionlaw03.ClaimLeaves", spec := "claimLeaves", unfollowed := true, recurses := true, apart := false, narrowed := true }
def ClaimLeavesUptoSaid : Prop := claimLeavesUptoRow.holds Try.pinned (OpenSpec.upto claimLeavesSpec)

end Rows
end Go.Proofs.Ytdcdjhhjlpegjaa
