/-
  No cell of these rows narrows 'for every input' (looked for: loops, veiled, ifaces, maps, wideKeys, modest, calm, conditions, laid).
  DERIVED. THE GIVEN ROWS OF THIS SEAT. 10 by the template 'for every input the law returns true; each argument reads behind the call as it read before'; 0 by the template 'total and deterministic' (their statements: YtmblehbjedpjoaaTotals.lean).
  GIVEN WITH THE SEED: the statements are not yours to turn. If you find one false, say at which input.
  Laid BY PROGRAM, IN A SANDBOX (cutbox-rows.mjs): the forced cells as the released guide's own fill.sh prints them over the translation 9b6b8014f703c672… (all of the seat's roots in one cut). By AI agents, Wed Nov 11 2026. No macro, syntax, notation, axiom, sorry.
-/
import Derived.Test.YtmblehbjedpjoaaChecked
import GoSem.Claim
import GoSem.ClaimJoined
import GoSem.ClaimMapViews
import Derived.JoinedTies
import Derived.KernelRfl
namespace Go.Proofs.Ytmblehbjedpjoaa
/- THE CELL 'sum', in the pinned program and in every row, IS THE sha256 OF THE DUMP (.gsa) THAT YtmblehbjedpjoaaProg.lean LOADS. Nothing in Lean hashes anything: it is a label: what it is worth is what the hold of that sum in a sandbox is worth. -/
noncomputable def Try.pinned : Pinned := { name := "ytmblehbjedpjoaa", sum := "9b6b8014f703c67253e8d4366b7d988980cd0b4349992f59c9012c8fd671b502", checked := Try.checked }
namespace Rows
def none {H : Type} : Left H := { results := [], args := [] }

/-- 'selionlaw06.KnifeCalls': WHATEVER THE INPUT: true; the input reads as it did. -/
def knifeCallsSpec : ChangeSpec := { name := "knifeCalls", fn := fun _ => fun
  | [d1, d2] => { results := [.lit (.bool true)], args := [d1, d2] }
  | _ => none }
def knifeCallsRow : OpenClaim := { program := "ytmblehbjedpjoaa", sum := "9b6b8014f703c67253e8d4366b7d988980cd0b4349992f59c9012c8fd671b502", func := "selion/selionlaw06.KnifeCalls", spec := "knifeCalls", unfollowed := true, recurses := true, apart := false }
def KnifeCallsSaid : Prop := knifeCallsRow.holds Try.pinned (OpenSpec.ofChange knifeCallsSpec)

/-- ITS FALSE NEIGHBOUR: 'it returns false'. Refute it at one input. -/
def knifeCallsWrong : ChangeSpec := { name := "knifeCalls", fn := fun _ => fun
  | [d1, d2] => { results := [.lit (.bool false)], args := [d1, d2] }
  | _ => none }
def KnifeCallsWrongFalsely : Prop := knifeCallsRow.holds Try.pinned (OpenSpec.ofChange knifeCallsWrong)

/-- 'selionlaw06.KnifeMarks': WHATEVER THE INPUT: true; the input reads as it did. -/
def knifeMarksSpec : ChangeSpec := { name := "knifeMarks", fn := fun _ => fun
  | [d1, d2, d3] => { results := [.lit (.bool true)], args := [d1, d2, d3] }
  | _ => none }
def knifeMarksRow : OpenClaim := { program := "ytmblehbjedpjoaa", sum := "9b6b8014f703c67253e8d4366b7d988980cd0b4349992f59c9012c8fd671b502", func := "selion/selionlaw06.KnifeMarks", spec := "knifeMarks", unfollowed := true, recurses := true, apart := false }
def KnifeMarksSaid : Prop := knifeMarksRow.holds Try.pinned (OpenSpec.ofChange knifeMarksSpec)

/-- ITS FALSE NEIGHBOUR: 'it returns false'. Refute it at one input. -/
def knifeMarksWrong : ChangeSpec := { name := "knifeMarks", fn := fun _ => fun
  | [d1, d2, d3] => { results := [.lit (.bool false)], args := [d1, d2, d3] }
  | _ => none }
def KnifeMarksWrongFalsely : Prop := knifeMarksRow.holds Try.pinned (OpenSpec.ofChange knifeMarksWrong)

/-- 'selionlaw06.KnifeWorths': WHATEVER THE INPUT: true; the input reads as it did. -/
def knifeWorthsSpec : ChangeSpec := { name := "knifeWorths", fn := fun _ => fun
  | [d1, d2] => { results := [.lit (.bool true)], args := [d1, d2] }
  | _ => none }
def knifeWorthsRow : OpenClaim := { program := "ytmblehbjedpjoaa", sum := "9b6b8014f703c67253e8d4366b7d988980cd0b4349992f59c9012c8fd671b502", func := "selion/selionlaw06.KnifeWorths", spec := "knifeWorths", unfollowed := true, recurses := true, apart := false }
def KnifeWorthsSaid : Prop := knifeWorthsRow.holds Try.pinned (OpenSpec.ofChange knifeWorthsSpec)

/-- ITS FALSE NEIGHBOUR: 'it returns false'. Refute it at one input. -/
def knifeWorthsWrong : ChangeSpec := { name := "knifeWorths", fn := fun _ => fun
  | [d1, d2] => { results := [.lit (.bool false)], args := [d1, d2] }
  | _ => none }
def KnifeWorthsWrongFalsely : Prop := knifeWorthsRow.holds Try.pinned (OpenSpec.ofChange knifeWorthsWrong)

/-- 'selionlaw06.KnifeEvens': WHATEVER THE INPUT: true; the input reads as it did. -/
def knifeEvensSpec : ChangeSpec := { name := "knifeEvens", fn := fun _ => fun
  | [d] => { results := [.lit (.bool true)], args := [d] }
  | _ => none }
def knifeEvensRow : OpenClaim := { program := "ytmblehbjedpjoaa", sum := "9b6b8014f703c67253e8d4366b7d988980cd0b4349992f59c9012c8fd671b502", func := "selion/selionlaw06.KnifeEvens", spec := "knifeEvens", unfollowed := true, recurses := true, apart := false }
def KnifeEvensSaid : Prop := knifeEvensRow.holds Try.pinned (OpenSpec.ofChange knifeEvensSpec)

/-- ITS FALSE NEIGHBOUR: 'it returns false'. Refute it at one input. -/
def knifeEvensWrong : ChangeSpec := { name := "knifeEvens", fn := fun _ => fun
  | [d] => { results := [.lit (.bool false)], args := [d] }
  | _ => none }
def KnifeEvensWrongFalsely : Prop := knifeEvensRow.holds Try.pinned (OpenSpec.ofChange knifeEvensWrong)

/-- 'selionlaw06.KnifeKnives': WHATEVER THE INPUT: true; the input reads as it did. -/
def knifeKnivesSpec : ChangeSpec := { name := "knifeKnives", fn := fun _ => fun
  | [d] => { results := [.lit (.bool true)], args := [d] }
  | _ => none }
def knifeKnivesRow : OpenClaim := { program := "ytmblehbjedpjoaa", sum := "9b6b8014f703c67253e8d4366b7d988980cd0b4349992f59c9012c8fd671b502", func := "selion/selionlaw06.KnifeKnives", spec := "knifeKnives", unfollowed := true, recurses := true, apart := false }
def KnifeKnivesSaid : Prop := knifeKnivesRow.holds Try.pinned (OpenSpec.ofChange knifeKnivesSpec)

/-- ITS FALSE NEIGHBOUR: 'it returns false'. Refute it at one input. -/
def knifeKnivesWrong : ChangeSpec := { name := "knifeKnives", fn := fun _ => fun
  | [d] => { results := [.lit (.bool false)], args := [d] }
  | _ => none }
def KnifeKnivesWrongFalsely : Prop := knifeKnivesRow.holds Try.pinned (OpenSpec.ofChange knifeKnivesWrong)

/-- 'selionlaw06.KnifeSums': WHATEVER THE INPUT: true; the input reads as it did. -/
def knifeSumsSpec : ChangeSpec := { name := "knifeSums", fn := fun _ => fun
  | [d1, d2, d3] => { results := [.lit (.bool true)], args := [d1, d2, d3] }
  | _ => none }
def knifeSumsRow : OpenClaim := { program := "ytmblehbjedpjoaa", sum := "9b6b8014f703c67253e8d4366b7d988980cd0b4349992f59c9012c8fd671b502", func := "selion/selionlaw06.KnifeSums", spec := "knifeSums", unfollowed := true, recurses := true, apart := false }
def KnifeSumsSaid : Prop := knifeSumsRow.holds Try.pinned (OpenSpec.ofChange knifeSumsSpec)

/-- ITS FALSE NEIGHBOUR: 'it returns false'. Refute it at one input. -/
def knifeSumsWrong : ChangeSpec := { name := "knifeSums", fn := fun _ => fun
  | [d1, d2, d3] => { results := [.lit (.bool false)], args := [d1, d2, d3] }
  | _ => none }
def KnifeSumsWrongFalsely : Prop := knifeSumsRow.holds Try.pinned (OpenSpec.ofChange knifeSumsWrong)

/-- 'seliontop.TopKnife': WHATEVER THE INPUT: true; the input reads as it did. -/
def topKnifeSpec : ChangeSpec := { name := "topKnife", fn := fun _ => fun
  | [d] => { results := [.lit (.bool true)], args := [d] }
  | _ => none }
def topKnifeRow : OpenClaim := { program := "ytmblehbjedpjoaa", sum := "9b6b8014f703c67253e8d4366b7d988980cd0b4349992f59c9012c8fd671b502", func := "selion/seliontop.TopKnife", spec := "topKnife", unfollowed := true, recurses := true, apart := false }
def TopKnifeSaid : Prop := topKnifeRow.holds Try.pinned (OpenSpec.ofChange topKnifeSpec)

/-- ITS FALSE NEIGHBOUR: 'it returns false'. Refute it at one input. -/
def topKnifeWrong : ChangeSpec := { name := "topKnife", fn := fun _ => fun
  | [d] => { results := [.lit (.bool false)], args := [d] }
  | _ => none }
def TopKnifeWrongFalsely : Prop := topKnifeRow.holds Try.pinned (OpenSpec.ofChange topKnifeWrong)

/-- 'selionlaw06.KnifeWithout': WHATEVER THE INPUT: true; the input reads as it did. -/
def knifeWithoutSpec : ChangeSpec := { name := "knifeWithout", fn := fun _ => fun
  | [d1, d2] => { results := [.lit (.bool true)], args := [d1, d2] }
  | _ => none }
def knifeWithoutRow : OpenClaim := { program := "ytmblehbjedpjoaa", sum := "9b6b8014f703c67253e8d4366b7d988980cd0b4349992f59c9012c8fd671b502", func := "selion/selionlaw06.KnifeWithout", spec := "knifeWithout", unfollowed := true, recurses := true, apart := false }
def KnifeWithoutSaid : Prop := knifeWithoutRow.holds Try.pinned (OpenSpec.ofChange knifeWithoutSpec)

/-- ITS FALSE NEIGHBOUR: 'it returns false'. Refute it at one input. -/
def knifeWithoutWrong : ChangeSpec := { name := "knifeWithout", fn := fun _ => fun
  | [d1, d2] => { results := [.lit (.bool false)], args := [d1, d2] }
  | _ => none }
def KnifeWithoutWrongFalsely : Prop := knifeWithoutRow.holds Try.pinned (OpenSpec.ofChange knifeWithoutWrong)

/-- 'selionlaw06.KnifeChoices': WHATEVER THE INPUT: true; the input reads as it did. -/
def knifeChoicesSpec : ChangeSpec := { name := "knifeChoices", fn := fun _ => fun
  | [d] => { results := [.lit (.bool true)], args := [d] }
  | _ => none }
def knifeChoicesRow : OpenClaim := { program := "ytmblehbjedpjoaa", sum := "9b6b8014f703c67253e8d4366b7d988980cd0b4349992f59c9012c8fd671b502", func := "selion/selionlaw06.KnifeChoices", spec := "knifeChoices", unfollowed := true, recurses := true, apart := false }
def KnifeChoicesSaid : Prop := knifeChoicesRow.holds Try.pinned (OpenSpec.ofChange knifeChoicesSpec)

/-- ITS FALSE NEIGHBOUR: 'it returns false'. Refute it at one input. -/
def knifeChoicesWrong : ChangeSpec := { name := "knifeChoices", fn := fun _ => fun
  | [d] => { results := [.lit (.bool false)], args := [d] }
  | _ => none }
def KnifeChoicesWrongFalsely : Prop := knifeChoicesRow.holds Try.pinned (OpenSpec.ofChange knifeChoicesWrong)

/-- 'selionlaw06.KnifeWeighs': WHATEVER THE INPUT: true; the input reads as it did. -/
def knifeWeighsSpec : ChangeSpec := { name := "knifeWeighs", fn := fun _ => fun
  | [d1, d2, d3] => { results := [.lit (.bool true)], args := [d1, d2, d3] }
  | _ => none }
def knifeWeighsRow : OpenClaim := { program := "ytmblehbjedpjoaa", sum := "9b6b8014f703c67253e8d4366b7d988980cd0b4349992f59c9012c8fd671b502", func := "selion/selionlaw06.KnifeWeighs", spec := "knifeWeighs", unfollowed := true, recurses := true, apart := false }
def KnifeWeighsSaid : Prop := knifeWeighsRow.holds Try.pinned (OpenSpec.ofChange knifeWeighsSpec)

/-- ITS FALSE NEIGHBOUR: 'it returns false'. Refute it at one input. -/
def knifeWeighsWrong : ChangeSpec := { name := "knifeWeighs", fn := fun _ => fun
  | [d1, d2, d3] => { results := [.lit (.bool false)], args := [d1, d2, d3] }
  | _ => none }
def KnifeWeighsWrongFalsely : Prop := knifeWeighsRow.holds Try.pinned (OpenSpec.ofChange knifeWeighsWrong)

/- THE SECOND FORM. 'bulk': how many values and letters a reading holds, each counted each time it is reached (what is shared counts as often as it is met; a slice's spare places count too). A statement '..UptoSaid' is the law's where the arguments, and the package variables that the reading takes, are together of bulk at most 1048576: NARROWER than '..Said'. Prove '..Said' where nothing that the law and all that it calls make is longer than what came in: it says more and counts as full. Else prove '..UptoSaid'. A law counts once. -/
mutual
def uptoBulk {H : Type} : DataW H → Nat
  | .lit (.string bytes) => bytes.length + 1
  | .lit _ => 1
  | .nil => 1
  | .ptr d => uptoBulk d + 1
  | .slice elems spare => uptoBulkAll elems + uptoBulkAll spare + 1
  | .agg parts => uptoBulkAll parts + 1
  | .iface _ d => uptoBulk d + 1
  | .map entries => uptoBulkEntries entries + 1
  | .held _ => 1
def uptoBulkAll {H : Type} : List (DataW H) → Nat
  | [] => 0
  | d :: r => uptoBulk d + uptoBulkAll r
def uptoBulkEntries {H : Type} : List (Lit × DataW H) → Nat
  | [] => 0
  | x :: r => uptoBulkEntry x + uptoBulkEntries r
def uptoBulkEntry {H : Type} : Lit × DataW H → Nat
  | (.string bytes, d) => bytes.length + uptoBulk d + 1
  | (_, d) => uptoBulk d + 1
 end
def uptoSmall : (H : Type) → List (DataW H) → Bool := fun _ ds => decide (uptoBulkAll ds ≤ 1048576)
def OpenSpec.upto (s : _root_.Go.ChangeSpec) : _root_.Go.OpenSpec := { _root_.Go.OpenSpec.ofChange s with cond := some uptoSmall }

/-- 'selionlaw06.KnifeCalls', WHERE WHAT IT READS IS OF BULK AT MOST 1048576: true; the input reads as it did. -/
def knifeCallsUptoRow : OpenClaim := { program := "ytmblehbjedpjoaa", sum := "9b6b8014f703c67253e8d4366b7d988980cd0b4349992f59c9012c8fd671b502", func := "selion/selionlaw06.KnifeCalls", spec := "knifeCalls", unfollowed := true, recurses := true, apart := false, narrowed := true }
def KnifeCallsUptoSaid : Prop := knifeCallsUptoRow.holds Try.pinned (OpenSpec.upto knifeCallsSpec)

/-- 'selionlaw06.KnifeMarks', WHERE WHAT IT READS IS OF BULK AT MOST 1048576: true; the input reads as it did. -/
def knifeMarksUptoRow : OpenClaim := { program := "ytmblehbjedpjoaa", sum := "9b6b8014f703c67253e8d4366b7d988980cd0b4349992f59c9012c8fd671b502", func := "selion/selionlaw06.KnifeMarks", spec := "knifeMarks", unfollowed := true, recurses := true, apart := false, narrowed := true }
def KnifeMarksUptoSaid : Prop := knifeMarksUptoRow.holds Try.pinned (OpenSpec.upto knifeMarksSpec)

/-- 'selionlaw06.KnifeWorths', WHERE WHAT IT READS IS OF BULK AT MOST 1048576: true; the input reads as it did. -/
def knifeWorthsUptoRow : OpenClaim := { program := "ytmblehbjedpjoaa", sum := "9b6b8014f703c67253e8d4366b7d988980cd0b4349992f59c9012c8fd671b502", func := "selion/selionlaw06.KnifeWorths", spec := "knifeWorths", unfollowed := true, recurses := true, apart := false, narrowed := true }
def KnifeWorthsUptoSaid : Prop := knifeWorthsUptoRow.holds Try.pinned (OpenSpec.upto knifeWorthsSpec)

/-- 'selionlaw06.KnifeEvens', WHERE WHAT IT READS IS OF BULK AT MOST 1048576: true; the input reads as it did. -/
def knifeEvensUptoRow : OpenClaim := { program := "ytmblehbjedpjoaa", sum := "9b6b8014f703c67253e8d4366b7d988980cd0b4349992f59c9012c8fd671b502", func := "selion/selionlaw06.KnifeEvens", spec := "knifeEvens", unfollowed := true, recurses := true, apart := false, narrowed := true }
def KnifeEvensUptoSaid : Prop := knifeEvensUptoRow.holds Try.pinned (OpenSpec.upto knifeEvensSpec)

/-- 'selionlaw06.KnifeKnives', WHERE WHAT IT READS IS OF BULK AT MOST 1048576: true; the input reads as it did. -/
def knifeKnivesUptoRow : OpenClaim := { program := "ytmblehbjedpjoaa", sum := "9b6b8014f703c67253e8d4366b7d988980cd0b4349992f59c9012c8fd671b502", func := "selion/selionlaw06.KnifeKnives", spec := "knifeKnives", unfollowed := true, recurses := true, apart := false, narrowed := true }
def KnifeKnivesUptoSaid : Prop := knifeKnivesUptoRow.holds Try.pinned (OpenSpec.upto knifeKnivesSpec)

/-- 'selionlaw06.KnifeSums', WHERE WHAT IT READS IS OF BULK AT MOST 1048576: true; the input reads as it did. -/
def knifeSumsUptoRow : OpenClaim := { program := "ytmblehbjedpjoaa", sum := "9b6b8014f703c67253e8d4366b7d988980cd0b4349992f59c9012c8fd671b502", func := "selion/selionlaw06.KnifeSums", spec := "knifeSums", unfollowed := true, recurses := true, apart := false, narrowed := true }
def KnifeSumsUptoSaid : Prop := knifeSumsUptoRow.holds Try.pinned (OpenSpec.upto knifeSumsSpec)

/-- 'seliontop.TopKnife', WHERE WHAT IT READS IS OF BULK AT MOST 1048576: true; the input reads as it did. -/
def topKnifeUptoRow : OpenClaim := { program := "ytmblehbjedpjoaa", sum := "9b6b8014f703c67253e8d4366b7d988980cd0b4349992f59c9012c8fd671b502", func := "selion/seliontop.TopKnife", spec := "topKnife", unfollowed := true, recurses := true, apart := false, narrowed := true }
def TopKnifeUptoSaid : Prop := topKnifeUptoRow.holds Try.pinned (OpenSpec.upto topKnifeSpec)

/-- 'selionlaw06.KnifeWithout', WHERE WHAT IT READS IS OF BULK AT MOST 1048576: true; the input reads as it did. -/
def knifeWithoutUptoRow : OpenClaim := { program := "ytmblehbjedpjoaa", sum := "9b6b8014f703c67253e8d4366b7d988980cd0b4349992f59c9012c8fd671b502", func := "selion/selionlaw06.KnifeWithout", spec := "knifeWithout", unfollowed := true, recurses := true, apart := false, narrowed := true }
def KnifeWithoutUptoSaid : Prop := knifeWithoutUptoRow.holds Try.pinned (OpenSpec.upto knifeWithoutSpec)

/-- 'selionlaw06.KnifeChoices', WHERE WHAT IT READS IS OF BULK AT MOST 1048576: true; the input reads as it did. -/
def knifeChoicesUptoRow : OpenClaim := { program := "ytmblehbjedpjoaa", sum := "9b6b8014f703c67253e8d4366b7d988980cd0b4349992f59c9012c8fd671b502", func := "selion/selionlaw06.KnifeChoices", spec := "knifeChoices", unfollowed := true, recurses := true, apart := false, narrowed := true }
def KnifeChoicesUptoSaid : Prop := knifeChoicesUptoRow.holds Try.pinned (OpenSpec.upto knifeChoicesSpec)

/-- 'selionlaw06.KnifeWeighs', WHERE WHAT IT READS IS OF BULK AT MOST 1048576: true; the input reads as it did. -/
def knifeWeighsUptoRow : OpenClaim := { program := "ytmblehbjedpjoaa", sum := "9b6b8014f703c67253e8d4366b7d988980cd0b4349992f59c9012c8fd671b502", func := "selion/selionlaw06.KnifeWeighs", spec := "knifeWeighs", unfollowed := true, recurses := true, apart := false, narrowed := true }
def KnifeWeighsUptoSaid : Prop := knifeWeighsUptoRow.holds Try.pinned (OpenSpec.upto knifeWeighsSpec)

end Rows
end Go.Proofs.Ytmblehbjedpjoaa
