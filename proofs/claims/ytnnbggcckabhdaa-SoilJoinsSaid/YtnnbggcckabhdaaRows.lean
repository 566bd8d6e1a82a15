/-
  No cell of these rows narrows 'for every input' (looked for: loops, veiled, ifaces, maps, wideKeys, modest, calm, conditions, laid).
  DERIVED. THE GIVEN ROWS OF THIS SEAT. 15 by the template 'for every input the law returns true; each argument reads behind the call as it read before'; 0 by the template 'total and deterministic' (their statements: YtnnbggcckabhdaaTotals.lean).
  GIVEN WITH THE SEED: the statements are not yours to turn. If you find one false, say at which input.
  Laid BY PROGRAM, IN A SANDBOX (cutbox-rows.mjs): the forced cells as the released guide's own fill.sh prints them over the translation c910802deb2c670c… (all of the seat's roots in one cut). By AI agents, Wed Nov 11 2026. No macro, syntax, notation, axiom, sorry.
-/
import Derived.Test.YtnnbggcckabhdaaChecked
import GoSem.Claim
import GoSem.ClaimJoined
import GoSem.ClaimMapViews
import Derived.JoinedTies
import Derived.KernelRfl
namespace Go.Proofs.Ytnnbggcckabhdaa
/- THE CELL 'sum', in the pinned program and in every row, IS THE sha256 OF THE DUMP (.gsa) THAT YtnnbggcckabhdaaProg.lean LOADS. Nothing in Lean hashes anything: it is a label: what it is worth is what the hold of that sum in a sandbox is worth. -/
noncomputable def Try.pinned : Pinned := { name := "ytnnbggcckabhdaa", sum := "c910802deb2c670c5c0d2979a494eaa16dc7bbb1bc21cc233cb874f54bddb6ea", checked := Try.checked }
namespace Rows
def none {H : Type} : Left H := { results := [], args := [] }

/-- 'selionlaw02.SoilEquals': WHATEVER THE INPUT: true; the input reads as it did. -/
def soilEqualsSpec : ChangeSpec := { name := "soilEquals", fn := fun _ => fun
  | [d1, d2] => { results := [.lit (.bool true)], args := [d1, d2] }
  | _ => none }
def soilEqualsRow : OpenClaim := { program := "ytnnbggcckabhdaa", sum := "c910802deb2c670c5c0d2979a494eaa16dc7bbb1bc21cc233cb874f54bddb6ea", func := "selion/selionlaw02.SoilEquals", spec := "soilEquals", unfollowed := true, recurses := true, apart := false }
def SoilEqualsSaid : Prop := soilEqualsRow.holds Try.pinned (OpenSpec.ofChange soilEqualsSpec)

/-- ITS FALSE NEIGHBOUR: 'it returns false'. Refute it at one input. -/
def soilEqualsWrong : ChangeSpec := { name := "soilEquals", fn := fun _ => fun
  | [d1, d2] => { results := [.lit (.bool false)], args := [d1, d2] }
  | _ => none }
def SoilEqualsWrongFalsely : Prop := soilEqualsRow.holds Try.pinned (OpenSpec.ofChange soilEqualsWrong)

/-- 'selionlaw02.SoilWorths': WHATEVER THE INPUT: true; the input reads as it did. -/
def soilWorthsSpec : ChangeSpec := { name := "soilWorths", fn := fun _ => fun
  | [d1, d2] => { results := [.lit (.bool true)], args := [d1, d2] }
  | _ => none }
def soilWorthsRow : OpenClaim := { program := "ytnnbggcckabhdaa", sum := "c910802deb2c670c5c0d2979a494eaa16dc7bbb1bc21cc233cb874f54bddb6ea", func := "selion/selionlaw02.SoilWorths", spec := "soilWorths", unfollowed := true, recurses := true, apart := false }
def SoilWorthsSaid : Prop := soilWorthsRow.holds Try.pinned (OpenSpec.ofChange soilWorthsSpec)

/-- ITS FALSE NEIGHBOUR: 'it returns false'. Refute it at one input. -/
def soilWorthsWrong : ChangeSpec := { name := "soilWorths", fn := fun _ => fun
  | [d1, d2] => { results := [.lit (.bool false)], args := [d1, d2] }
  | _ => none }
def SoilWorthsWrongFalsely : Prop := soilWorthsRow.holds Try.pinned (OpenSpec.ofChange soilWorthsWrong)

/-- 'selionlaw02.SoilAdds': WHATEVER THE INPUT: true; the input reads as it did. -/
def soilAddsSpec : ChangeSpec := { name := "soilAdds", fn := fun _ => fun
  | [d1, d2, d3] => { results := [.lit (.bool true)], args := [d1, d2, d3] }
  | _ => none }
def soilAddsRow : OpenClaim := { program := "ytnnbggcckabhdaa", sum := "c910802deb2c670c5c0d2979a494eaa16dc7bbb1bc21cc233cb874f54bddb6ea", func := "selion/selionlaw02.SoilAdds", spec := "soilAdds", unfollowed := true, recurses := true, apart := false }
def SoilAddsSaid : Prop := soilAddsRow.holds Try.pinned (OpenSpec.ofChange soilAddsSpec)

/-- ITS FALSE NEIGHBOUR: 'it returns false'. Refute it at one input. -/
def soilAddsWrong : ChangeSpec := { name := "soilAdds", fn := fun _ => fun
  | [d1, d2, d3] => { results := [.lit (.bool false)], args := [d1, d2, d3] }
  | _ => none }
def SoilAddsWrongFalsely : Prop := soilAddsRow.holds Try.pinned (OpenSpec.ofChange soilAddsWrong)

/-- 'selionlaw02.SoilDearest': WHATEVER THE INPUT: true; the input reads as it did. -/
def soilDearestSpec : ChangeSpec := { name := "soilDearest", fn := fun _ => fun
  | [d1, d2, d3] => { results := [.lit (.bool true)], args := [d1, d2, d3] }
  | _ => none }
def soilDearestRow : OpenClaim := { program := "ytnnbggcckabhdaa", sum := "c910802deb2c670c5c0d2979a494eaa16dc7bbb1bc21cc233cb874f54bddb6ea", func := "selion/selionlaw02.SoilDearest", spec := "soilDearest", unfollowed := true, recurses := true, apart := false }
def SoilDearestSaid : Prop := soilDearestRow.holds Try.pinned (OpenSpec.ofChange soilDearestSpec)

/-- ITS FALSE NEIGHBOUR: 'it returns false'. Refute it at one input. -/
def soilDearestWrong : ChangeSpec := { name := "soilDearest", fn := fun _ => fun
  | [d1, d2, d3] => { results := [.lit (.bool false)], args := [d1, d2, d3] }
  | _ => none }
def SoilDearestWrongFalsely : Prop := soilDearestRow.holds Try.pinned (OpenSpec.ofChange soilDearestWrong)

/-- 'selionlaw02.SoilFields': WHATEVER THE INPUT: true; the input reads as it did. -/
def soilFieldsSpec : ChangeSpec := { name := "soilFields", fn := fun _ => fun
  | [d] => { results := [.lit (.bool true)], args := [d] }
  | _ => none }
def soilFieldsRow : OpenClaim := { program := "ytnnbggcckabhdaa", sum := "c910802deb2c670c5c0d2979a494eaa16dc7bbb1bc21cc233cb874f54bddb6ea", func := "selion/selionlaw02.SoilFields", spec := "soilFields", unfollowed := true, recurses := true, apart := false }
def SoilFieldsSaid : Prop := soilFieldsRow.holds Try.pinned (OpenSpec.ofChange soilFieldsSpec)

/-- ITS FALSE NEIGHBOUR: 'it returns false'. Refute it at one input. -/
def soilFieldsWrong : ChangeSpec := { name := "soilFields", fn := fun _ => fun
  | [d] => { results := [.lit (.bool false)], args := [d] }
  | _ => none }
def SoilFieldsWrongFalsely : Prop := soilFieldsRow.holds Try.pinned (OpenSpec.ofChange soilFieldsWrong)

/-- 'selionlaw02.SoilPlaces': WHATEVER THE INPUT: true; the input reads as it did. -/
def soilPlacesSpec : ChangeSpec := { name := "soilPlaces", fn := fun _ => fun
  | [d1, d2, d3] => { results := [.lit (.bool true)], args := [d1, d2, d3] }
  | _ => none }
def soilPlacesRow : OpenClaim := { program := "ytnnbggcckabhdaa", sum := "c910802deb2c670c5c0d2979a494eaa16dc7bbb1bc21cc233cb874f54bddb6ea", func := "selion/selionlaw02.SoilPlaces", spec := "soilPlaces", unfollowed := true, recurses := true, apart := false }
def SoilPlacesSaid : Prop := soilPlacesRow.holds Try.pinned (OpenSpec.ofChange soilPlacesSpec)

/-- ITS FALSE NEIGHBOUR: 'it returns false'. Refute it at one input. -/
def soilPlacesWrong : ChangeSpec := { name := "soilPlaces", fn := fun _ => fun
  | [d1, d2, d3] => { results := [.lit (.bool false)], args := [d1, d2, d3] }
  | _ => none }
def SoilPlacesWrongFalsely : Prop := soilPlacesRow.holds Try.pinned (OpenSpec.ofChange soilPlacesWrong)

/-- 'selionlaw02.SoilParts': WHATEVER THE INPUT: true; the input reads as it did. -/
def soilPartsSpec : ChangeSpec := { name := "soilParts", fn := fun _ => fun
  | [d1, d2, d3] => { results := [.lit (.bool true)], args := [d1, d2, d3] }
  | _ => none }
def soilPartsRow : OpenClaim := { program := "ytnnbggcckabhdaa", sum := "c910802deb2c670c5c0d2979a494eaa16dc7bbb1bc21cc233cb874f54bddb6ea", func := "selion/selionlaw02.SoilParts", spec := "soilParts", unfollowed := true, recurses := true, apart := false }
def SoilPartsSaid : Prop := soilPartsRow.holds Try.pinned (OpenSpec.ofChange soilPartsSpec)

/-- ITS FALSE NEIGHBOUR: 'it returns false'. Refute it at one input. -/
def soilPartsWrong : ChangeSpec := { name := "soilParts", fn := fun _ => fun
  | [d1, d2, d3] => { results := [.lit (.bool false)], args := [d1, d2, d3] }
  | _ => none }
def SoilPartsWrongFalsely : Prop := soilPartsRow.holds Try.pinned (OpenSpec.ofChange soilPartsWrong)

/-- 'selionlaw02.SoilBetter': WHATEVER THE INPUT: true; the input reads as it did. -/
def soilBetterSpec : ChangeSpec := { name := "soilBetter", fn := fun _ => fun
  | [d1, d2, d3] => { results := [.lit (.bool true)], args := [d1, d2, d3] }
  | _ => none }
def soilBetterRow : OpenClaim := { program := "ytnnbggcckabhdaa", sum := "c910802deb2c670c5c0d2979a494eaa16dc7bbb1bc21cc233cb874f54bddb6ea", func := "selion/selionlaw02.SoilBetter", spec := "soilBetter", unfollowed := true, recurses := true, apart := false }
def SoilBetterSaid : Prop := soilBetterRow.holds Try.pinned (OpenSpec.ofChange soilBetterSpec)

/-- ITS FALSE NEIGHBOUR: 'it returns false'. Refute it at one input. -/
def soilBetterWrong : ChangeSpec := { name := "soilBetter", fn := fun _ => fun
  | [d1, d2, d3] => { results := [.lit (.bool false)], args := [d1, d2, d3] }
  | _ => none }
def SoilBetterWrongFalsely : Prop := soilBetterRow.holds Try.pinned (OpenSpec.ofChange soilBetterWrong)

/-- 'selionlaw02.SoilPlains': WHATEVER THE INPUT: true; the input reads as it did. -/
def soilPlainsSpec : ChangeSpec := { name := "soilPlains", fn := fun _ => fun
  | [d1, d2] => { results := [.lit (.bool true)], args := [d1, d2] }
  | _ => none }
def soilPlainsRow : OpenClaim := { program := "ytnnbggcckabhdaa", sum := "c910802deb2c670c5c0d2979a494eaa16dc7bbb1bc21cc233cb874f54bddb6ea", func := "selion/selionlaw02.SoilPlains", spec := "soilPlains", unfollowed := true, recurses := true, apart := false }
def SoilPlainsSaid : Prop := soilPlainsRow.holds Try.pinned (OpenSpec.ofChange soilPlainsSpec)

/-- ITS FALSE NEIGHBOUR: 'it returns false'. Refute it at one input. -/
def soilPlainsWrong : ChangeSpec := { name := "soilPlains", fn := fun _ => fun
  | [d1, d2] => { results := [.lit (.bool false)], args := [d1, d2] }
  | _ => none }
def SoilPlainsWrongFalsely : Prop := soilPlainsRow.holds Try.pinned (OpenSpec.ofChange soilPlainsWrong)

/-- 'seliontop.TopSoil': WHATEVER THE INPUT: true; the input reads as it did. -/
def topSoilSpec : ChangeSpec := { name := "topSoil", fn := fun _ => fun
  | [d1, d2] => { results := [.lit (.bool true)], args := [d1, d2] }
  | _ => none }
def topSoilRow : OpenClaim := { program := "ytnnbggcckabhdaa", sum := "c910802deb2c670c5c0d2979a494eaa16dc7bbb1bc21cc233cb874f54bddb6ea", func := "selion/seliontop.TopSoil", spec := "topSoil", unfollowed := true, recurses := true, apart := false }
def TopSoilSaid : Prop := topSoilRow.holds Try.pinned (OpenSpec.ofChange topSoilSpec)

/-- ITS FALSE NEIGHBOUR: 'it returns false'. Refute it at one input. -/
def topSoilWrong : ChangeSpec := { name := "topSoil", fn := fun _ => fun
  | [d1, d2] => { results := [.lit (.bool false)], args := [d1, d2] }
  | _ => none }
def TopSoilWrongFalsely : Prop := topSoilRow.holds Try.pinned (OpenSpec.ofChange topSoilWrong)

/-- 'selionlaw02.SoilEnds': WHATEVER THE INPUT: true; the input reads as it did. -/
def soilEndsSpec : ChangeSpec := { name := "soilEnds", fn := fun _ => fun
  | [d1, d2] => { results := [.lit (.bool true)], args := [d1, d2] }
  | _ => none }
def soilEndsRow : OpenClaim := { program := "ytnnbggcckabhdaa", sum := "c910802deb2c670c5c0d2979a494eaa16dc7bbb1bc21cc233cb874f54bddb6ea", func := "selion/selionlaw02.SoilEnds", spec := "soilEnds", unfollowed := true, recurses := true, apart := false }
def SoilEndsSaid : Prop := soilEndsRow.holds Try.pinned (OpenSpec.ofChange soilEndsSpec)

/-- ITS FALSE NEIGHBOUR: 'it returns false'. Refute it at one input. -/
def soilEndsWrong : ChangeSpec := { name := "soilEnds", fn := fun _ => fun
  | [d1, d2] => { results := [.lit (.bool false)], args := [d1, d2] }
  | _ => none }
def SoilEndsWrongFalsely : Prop := soilEndsRow.holds Try.pinned (OpenSpec.ofChange soilEndsWrong)

/-- 'selionlaw02.SoilJoins': WHATEVER THE INPUT: true; the input reads as it did. -/
def soilJoinsSpec : ChangeSpec := { name := "soilJoins", fn := fun _ => fun
  | [d1, d2] => { results := [.lit (.bool true)], args := [d1, d2] }
  | _ => none }
def soilJoinsRow : OpenClaim := { program := "ytnnbggcckabhdaa", sum := "c910802deb2c670c5c0d2979a494eaa16dc7bbb1bc21cc233cb874f54bddb6ea", func := "selion/selionlaw02.SoilJoins", spec := "soilJoins", unfollowed := true, recurses := true, apart := false }
def SoilJoinsSaid : Prop := soilJoinsRow.holds Try.pinned (OpenSpec.ofChange soilJoinsSpec)

/-- ITS FALSE NEIGHBOUR: 'it returns false'. Refute it at one input. -/
def soilJoinsWrong : ChangeSpec := { name := "soilJoins", fn := fun _ => fun
  | [d1, d2] => { results := [.lit (.bool false)], args := [d1, d2] }
  | _ => none }
def SoilJoinsWrongFalsely : Prop := soilJoinsRow.holds Try.pinned (OpenSpec.ofChange soilJoinsWrong)

/-- 'selionlaw02.SoilSums': WHATEVER THE INPUT: true; the input reads as it did. -/
def soilSumsSpec : ChangeSpec := { name := "soilSums", fn := fun _ => fun
  | [d1, d2, d3] => { results := [.lit (.bool true)], args := [d1, d2, d3] }
  | _ => none }
def soilSumsRow : OpenClaim := { program := "ytnnbggcckabhdaa", sum := "c910802deb2c670c5c0d2979a494eaa16dc7bbb1bc21cc233cb874f54bddb6ea", func := "selion/selionlaw02.SoilSums", spec := "soilSums", unfollowed := true, recurses := true, apart := false }
def SoilSumsSaid : Prop := soilSumsRow.holds Try.pinned (OpenSpec.ofChange soilSumsSpec)

/-- ITS FALSE NEIGHBOUR: 'it returns false'. Refute it at one input. -/
def soilSumsWrong : ChangeSpec := { name := "soilSums", fn := fun _ => fun
  | [d1, d2, d3] => { results := [.lit (.bool false)], args := [d1, d2, d3] }
  | _ => none }
def SoilSumsWrongFalsely : Prop := soilSumsRow.holds Try.pinned (OpenSpec.ofChange soilSumsWrong)

/-- 'selionlaw02.SoilCuts': WHATEVER THE INPUT: true; the input reads as it did. -/
def soilCutsSpec : ChangeSpec := { name := "soilCuts", fn := fun _ => fun
  | [d1, d2] => { results := [.lit (.bool true)], args := [d1, d2] }
  | _ => none }
def soilCutsRow : OpenClaim := { program := "ytnnbggcckabhdaa", sum := "c910802deb2c670c5c0d2979a494eaa16dc7bbb1bc21cc233cb874f54bddb6ea", func := "selion/selionlaw02.SoilCuts", spec := "soilCuts", unfollowed := true, recurses := true, apart := false }
def SoilCutsSaid : Prop := soilCutsRow.holds Try.pinned (OpenSpec.ofChange soilCutsSpec)

/-- ITS FALSE NEIGHBOUR: 'it returns false'. Refute it at one input. -/
def soilCutsWrong : ChangeSpec := { name := "soilCuts", fn := fun _ => fun
  | [d1, d2] => { results := [.lit (.bool false)], args := [d1, d2] }
  | _ => none }
def SoilCutsWrongFalsely : Prop := soilCutsRow.holds Try.pinned (OpenSpec.ofChange soilCutsWrong)

/-- 'selionlaw02.SoilChecks': WHATEVER THE INPUT: true; the input reads as it did. -/
def soilChecksSpec : ChangeSpec := { name := "soilChecks", fn := fun _ => fun
  | [d1, d2] => { results := [.lit (.bool true)], args := [d1, d2] }
  | _ => none }
def soilChecksRow : OpenClaim := { program := "ytnnbggcckabhdaa", sum := "c910802deb2c670c5c0d2979a494eaa16dc7bbb1bc21cc233cb874f54bddb6ea", func := "selion/selionlaw02.SoilChecks", spec := "soilChecks", unfollowed := true, recurses := true, apart := false }
def SoilChecksSaid : Prop := soilChecksRow.holds Try.pinned (OpenSpec.ofChange soilChecksSpec)

/-- ITS FALSE NEIGHBOUR: 'it returns false'. Refute it at one input. -/
def soilChecksWrong : ChangeSpec := { name := "soilChecks", fn := fun _ => fun
  | [d1, d2] => { results := [.lit (.bool false)], args := [d1, d2] }
  | _ => none }
def SoilChecksWrongFalsely : Prop := soilChecksRow.holds Try.pinned (OpenSpec.ofChange soilChecksWrong)

/- THE SECOND FORM. 'bulk': how many values and letters a reading holds, each counted each time it is reached (what is shared counts as often as it is met; a slice's spare places count too). A statement '..UptoSaid' is the law's where the arguments, and the package variables that the reading takes, are together of bulk at most 1048576: NARROWER than '..Said'. Prove '..Said' where nothing that the law and all that it calls make is longer than what came in: it says more and counts as full. Else prove '..UptoSaid'. A law counts once. -/
mutual
def uptoBulk {H : Type} : DataW H → Nat
  | .lit (.string bytes) => bytes.length + 1
  | .lit _ => 1
  | .nil => 1
  | .ptr d => uptoBulk d + 1
  | .slice elems spare => uptoBulkAll elems + uptoBulkAll spare + 1
  | .agg parts => uptoBulkAll parts + 1
  | .iface _ d => uptoBulk d + 1
  | .map entries => uptoBulkEntries entries + 1
  | .held _ => 1
def uptoBulkAll {H : Type} : List (DataW H) → Nat
  | [] => 0
  | d :: r => uptoBulk d + uptoBulkAll r
def uptoBulkEntries {H : Type} : List (Lit × DataW H) → Nat
  | [] => 0
  | x :: r => uptoBulkEntry x + uptoBulkEntries r
def uptoBulkEntry {H : Type} : Lit × DataW H → Nat
  | (.string bytes, d) => bytes.length + uptoBulk d + 1
  | (_, d) => uptoBulk d + 1
 end
def uptoSmall : (H : Type) → List (DataW H) → Bool := fun _ ds => decide (uptoBulkAll ds ≤ 1048576)
def OpenSpec.upto (s : _root_.Go.ChangeSpec) : _root_.Go.OpenSpec := { _root_.Go.OpenSpec.ofChange s with cond := some uptoSmall }

/-- 'selionlaw02.SoilEquals', WHERE WHAT IT READS IS OF BULK AT MOST 1048576: true; the input reads as it did. -/
def soilEqualsUptoRow : OpenClaim := { program := "ytnnbggcckabhdaa", sum := "c910802deb2c670c5c0d2979a494eaa16dc7bbb1bc21cc233cb874f54bddb6ea", func := "selion/selionlaw02.SoilEquals", spec := "soilEquals", unfollowed := true, recurses := true, apart := false, narrowed := true }
def SoilEqualsUptoSaid : Prop := soilEqualsUptoRow.holds Try.pinned (OpenSpec.upto soilEqualsSpec)

/-- 'selionlaw02.SoilWorths', WHERE WHAT IT READS IS OF BULK AT MOST 1048576: true; the input reads as it did. -/
def soilWorthsUptoRow : OpenClaim := { program := "ytnnbggcckabhdaa", sum := "c910802deb2c670c5c0d2979a494eaa16dc7bbb1bc21cc233cb874f54bddb6ea", func := "selion/selionlaw02.SoilWorths", spec := "soilWorths", unfollowed := true, recurses := true, apart := false, narrowed := true }
def SoilWorthsUptoSaid : Prop := soilWorthsUptoRow.holds Try.pinned (OpenSpec.upto soilWorthsSpec)

/-- 'selionlaw02.SoilAdds', WHERE WHAT IT READS IS OF BULK AT MOST 1048576: true; the input reads as it did. -/
def soilAddsUptoRow : OpenClaim := { program := "ytnnbggcckabhdaa", sum := "c910802deb2c670c5c0d2979a494eaa16dc7bbb1bc21cc233cb874f54bddb6ea", func := "selion/selionlaw02.SoilAdds", spec := "soilAdds", unfollowed := true, recurses := true, apart := false, narrowed := true }
def SoilAddsUptoSaid : Prop := soilAddsUptoRow.holds Try.pinned (OpenSpec.upto soilAddsSpec)

/-- 'selionlaw02.SoilDearest', WHERE WHAT IT READS IS OF BULK AT MOST 1048576: true; the input reads as it did. -/
def soilDearestUptoRow : OpenClaim := { program := "ytnnbggcckabhdaa", sum := "c910802deb2c670c5c0d2979a494eaa16dc7bbb1bc21cc233cb874f54bddb6ea", func := "selion/selionlaw02.SoilDearest", spec := "soilDearest", unfollowed := true, recurses := true, apart := false, narrowed := true }
def SoilDearestUptoSaid : Prop := soilDearestUptoRow.holds Try.pinned (OpenSpec.upto soilDearestSpec)

/-- 'selionlaw02.SoilFields', WHERE WHAT IT READS IS OF BULK AT MOST 1048576: true; the input reads as it did. -/
def soilFieldsUptoRow : OpenClaim := { program := "ytnnbggcckabhdaa", sum := "c910802deb2c670c5c0d2979a494eaa16dc7bbb1bc21cc233cb874f54bddb6ea", func := "selion/selionlaw02.SoilFields", spec := "soilFields", unfollowed := true, recurses := true, apart := false, narrowed := true }
def SoilFieldsUptoSaid : Prop := soilFieldsUptoRow.holds Try.pinned (OpenSpec.upto soilFieldsSpec)

/-- 'selionlaw02.SoilPlaces', WHERE WHAT IT READS IS OF BULK AT MOST 1048576: true; the input reads as it did. -/
def soilPlacesUptoRow : OpenClaim := { program := "ytnnbggcckabhdaa", sum := "c910802deb2c670c5c0d2979a494eaa16dc7bbb1bc21cc233cb874f54bddb6ea", func := "selion/selionlaw02.SoilPlaces", spec := "soilPlaces", unfollowed := true, recurses := true, apart := false, narrowed := true }
def SoilPlacesUptoSaid : Prop := soilPlacesUptoRow.holds Try.pinned (OpenSpec.upto soilPlacesSpec)

/-- 'selionlaw02.SoilParts', WHERE WHAT IT READS IS OF BULK AT MOST 1048576: true; the input reads as it did. -/
def soilPartsUptoRow : OpenClaim := { program := "ytnnbggcckabhdaa", sum := "c910802deb2c670c5c0d2979a494eaa16dc7bbb1bc21cc233cb874f54bddb6ea", func := "selion/selionlaw02.SoilParts", spec := "soilParts", unfollowed := true, recurses := true, apart := false, narrowed := true }
def SoilPartsUptoSaid : Prop := soilPartsUptoRow.holds Try.pinned (OpenSpec.upto soilPartsSpec)

/-- 'selionlaw02.SoilBetter', WHERE WHAT IT READS IS OF BULK AT MOST 1048576: true; the input reads as it did. -/
def soilBetterUptoRow : OpenClaim := { program := "ytnnbggcckabhdaa", sum := "c910802deb2c670c5c0d2979a494eaa16dc7bbb1bc21cc233cb874f54bddb6ea", func := "selion/selionlaw02.SoilBetter", spec := "soilBetter", unfollowed := true, recurses := true, apart := false, narrowed := true }
def SoilBetterUptoSaid : Prop := soilBetterUptoRow.holds Try.pinned (OpenSpec.upto soilBetterSpec)

/-- 'selionlaw02.SoilPlains', WHERE WHAT IT READS IS OF BULK AT MOST 1048576: true; the input reads as it did. -/
def soilPlainsUptoRow : OpenClaim := { program := "ytnnbggcckabhdaa", sum := "c910802deb2c670c5c0d2979a494eaa16dc7bbb1bc21cc233cb874f54bddb6ea", func := "selion/selionlaw02.SoilPlains", spec := "soilPlains", unfollowed := true, recurses := true, apart := false, narrowed := true }
def SoilPlainsUptoSaid : Prop := soilPlainsUptoRow.holds Try.pinned (OpenSpec.upto soilPlainsSpec)

/-- 'seliontop.TopSoil', WHERE WHAT IT READS IS OF BULK AT MOST 1048576: true; the input reads as it did. -/
def topSoilUptoRow : OpenClaim := { program := "ytnnbggcckabhdaa", sum := "c910802deb2c670c5c0d2979a494eaa16dc7bbb1bc21cc233cb874f54bddb6ea", func := "selion/seliontop.TopSoil", spec := "topSoil", unfollowed := true, recurses := true, apart := false, narrowed := true }
def TopSoilUptoSaid : Prop := topSoilUptoRow.holds Try.pinned (OpenSpec.upto topSoilSpec)

/-- 'selionlaw02.SoilEnds', WHERE WHAT IT READS IS OF BULK AT MOST 1048576: true; the input reads as it did. -/
def soilEndsUptoRow : OpenClaim := { program := "ytnnbggcckabhdaa", sum := "c910802deb2c670c5c0d2979a494eaa16dc7bbb1bc21cc233cb874f54bddb6ea", func := "selion/selionlaw02.SoilEnds", spec := "soilEnds", unfollowed := true, recurses := true, apart := false, narrowed := true }
def SoilEndsUptoSaid : Prop := soilEndsUptoRow.holds Try.pinned (OpenSpec.upto soilEndsSpec)

/-- 'selionlaw02.SoilJoins', WHERE WHAT IT READS IS OF BULK AT MOST 1048576: true; the input reads as it did. -/
def soilJoinsUptoRow : OpenClaim := { program := "ytnnbggcckabhdaa", sum := "c910802deb2c670c5c0d2979a494eaa16dc7bbb1bc21cc233cb874f54bddb6ea", func := "selion/selionlaw02.SoilJoins", spec := "soilJoins", unfollowed := true, recurses := true, apart := false, narrowed := true }
def SoilJoinsUptoSaid : Prop := soilJoinsUptoRow.holds Try.pinned (OpenSpec.upto soilJoinsSpec)

/-- 'selionlaw02.SoilSums', WHERE WHAT IT READS IS OF BULK AT MOST 1048576: true; the input reads as it did. -/
def soilSumsUptoRow : OpenClaim := { program := "ytnnbggcckabhdaa", sum := "c910802deb2c670c5c0d2979a494eaa16dc7bbb1bc21cc233cb874f54bddb6ea", func := "selion/selionlaw02.SoilSums", spec := "soilSums", unfollowed := true, recurses := true, apart := false, narrowed := true }
def SoilSumsUptoSaid : Prop := soilSumsUptoRow.holds Try.pinned (OpenSpec.upto soilSumsSpec)

/-- 'selionlaw02.SoilCuts', WHERE WHAT IT READS IS OF BULK AT MOST 1048576: true; the input reads as it did. -/
def soilCutsUptoRow : OpenClaim := { program := "ytnnbggcckabhdaa", sum := "c910802deb2c670c5c0d2979a494eaa16dc7bbb1bc21cc233cb874f54bddb6ea", func := "selion/selionlaw02.SoilCuts", spec := "soilCuts", unfollowed := true, recurses := true, apart := false, narrowed := true }
def SoilCutsUptoSaid : Prop := soilCutsUptoRow.holds Try.pinned (OpenSpec.upto soilCutsSpec)

/-- 'selionlaw02.SoilChecks', WHERE WHAT IT READS IS OF BULK AT MOST 1048576: true; the input reads as it did. -/
def soilChecksUptoRow : OpenClaim := { program := "ytnnbggcckabhdaa", sum := "c910802deb2c670c5c0d2979a494eaa16dc7bbb1bc21cc233cb874f54bddb6ea", func := "selion/selionlaw02.SoilChecks", spec := "soilChecks", unfollowed := true, recurses := true, apart := false, narrowed := true }
def SoilChecksUptoSaid : Prop := soilChecksUptoRow.holds Try.pinned (OpenSpec.upto soilChecksSpec)

end Rows
end Go.Proofs.Ytnnbggcckabhdaa
