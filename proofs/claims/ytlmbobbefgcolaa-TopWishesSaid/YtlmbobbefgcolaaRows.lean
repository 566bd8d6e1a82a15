/-
  No cell of these rows narrows 'for every input' (looked for: loops, veiled, ifaces, maps, wideKeys, modest, calm, conditions, laid).
  DERIVED. THE GIVEN ROWS OF THIS SEAT. 14 by the template 'for every input the law returns true; each argument reads behind the call as it read before'; 0 by the template 'total and deterministic' (their statements: YtlmbobbefgcolaaTotals.lean).
  GIVEN WITH THE SEED: the statements are not yours to turn. If you find one false, say at which input.
  Laid BY PROGRAM, IN A SANDBOX (cutbox-rows.mjs): the forced cells as the released guide's own fill.sh prints them over the translation 063f5ee8d34b2fac… (all of the seat's roots in one cut). By AI agents, Wed Nov 11 2026. No macro, syntax, notation, axiom, sorry.
-/
import Derived.Test.YtlmbobbefgcolaaChecked
import GoSem.Claim
import GoSem.ClaimJoined
import GoSem.ClaimMapViews
import Derived.JoinedTies
import Derived.KernelRfl
namespace Go.Proofs.Ytlmbobbefgcolaa
/- THE CELL 'sum', in the pinned program and in every row, IS THE sha256 OF THE DUMP (.gsa) THAT YtlmbobbefgcolaaProg.lean LOADS. Nothing in Lean hashes anything: it is a label: what it is worth is what the hold of that sum in a sandbox is worth. -/
noncomputable def Try.pinned : Pinned := { name := "ytlmbobbefgcolaa", sum := "063f5ee8d34b2fac92985a1e59ff54bfeefaf95b006766ac9119d15ed33f87f7", checked := Try.checked }
namespace Rows
def none {H : Type} : Left H := { results := [], args := [] }

/-- 'selionlaw07.WishSures': WHATEVER THE INPUT: true; the input reads as it did. -/
def wishSuresSpec : ChangeSpec := { name := "wishSures", fn := fun _ => fun
  | [d] => { results := [.lit (.bool true)], args := [d] }
  | _ => none }
def wishSuresRow : OpenClaim := { program := "ytlmbobbefgcolaa", sum := "063f5ee8d34b2fac92985a1e59ff54bfeefaf95b006766ac9119d15ed33f87f7", func := "selion/selionlaw07.WishSures", spec := "wishSures", unfollowed := true, recurses := true, apart := false }
def WishSuresSaid : Prop := wishSuresRow.holds Try.pinned (OpenSpec.ofChange wishSuresSpec)

/-- ITS FALSE NEIGHBOUR: 'it returns false'. Refute it at one input. -/
def wishSuresWrong : ChangeSpec := { name := "wishSures", fn := fun _ => fun
  | [d] => { results := [.lit (.bool false)], args := [d] }
  | _ => none }
def WishSuresWrongFalsely : Prop := wishSuresRow.holds Try.pinned (OpenSpec.ofChange wishSuresWrong)

/-- 'selionlaw07.WishMost': WHATEVER THE INPUT: true; the input reads as it did. -/
def wishMostSpec : ChangeSpec := { name := "wishMost", fn := fun _ => fun
  | [d] => { results := [.lit (.bool true)], args := [d] }
  | _ => none }
def wishMostRow : OpenClaim := { program := "ytlmbobbefgcolaa", sum := "063f5ee8d34b2fac92985a1e59ff54bfeefaf95b006766ac9119d15ed33f87f7", func := "selion/selionlaw07.WishMost", spec := "wishMost", unfollowed := true, recurses := true, apart := false }
def WishMostSaid : Prop := wishMostRow.holds Try.pinned (OpenSpec.ofChange wishMostSpec)

/-- ITS FALSE NEIGHBOUR: 'it returns false'. Refute it at one input. -/
def wishMostWrong : ChangeSpec := { name := "wishMost", fn := fun _ => fun
  | [d] => { results := [.lit (.bool false)], args := [d] }
  | _ => none }
def WishMostWrongFalsely : Prop := wishMostRow.holds Try.pinned (OpenSpec.ofChange wishMostWrong)

/-- 'selionlaw07.WishTurns': WHATEVER THE INPUT: true; the input reads as it did. -/
def wishTurnsSpec : ChangeSpec := { name := "wishTurns", fn := fun _ => fun
  | [d] => { results := [.lit (.bool true)], args := [d] }
  | _ => none }
def wishTurnsRow : OpenClaim := { program := "ytlmbobbefgcolaa", sum := "063f5ee8d34b2fac92985a1e59ff54bfeefaf95b006766ac9119d15ed33f87f7", func := "selion/selionlaw07.WishTurns", spec := "wishTurns", unfollowed := true, recurses := true, apart := false }
def WishTurnsSaid : Prop := wishTurnsRow.holds Try.pinned (OpenSpec.ofChange wishTurnsSpec)

/-- ITS FALSE NEIGHBOUR: 'it returns false'. Refute it at one input. -/
def wishTurnsWrong : ChangeSpec := { name := "wishTurns", fn := fun _ => fun
  | [d] => { results := [.lit (.bool false)], args := [d] }
  | _ => none }
def WishTurnsWrongFalsely : Prop := wishTurnsRow.holds Try.pinned (OpenSpec.ofChange wishTurnsWrong)

/-- 'selionlaw07.WishServes': WHATEVER THE INPUT: true; the input reads as it did. -/
def wishServesSpec : ChangeSpec := { name := "wishServes", fn := fun _ => fun
  | [d1, d2] => { results := [.lit (.bool true)], args := [d1, d2] }
  | _ => none }
def wishServesRow : OpenClaim := { program := "ytlmbobbefgcolaa", sum := "063f5ee8d34b2fac92985a1e59ff54bfeefaf95b006766ac9119d15ed33f87f7", func := "selion/selionlaw07.WishServes", spec := "wishServes", unfollowed := true, recurses := true, apart := false }
def WishServesSaid : Prop := wishServesRow.holds Try.pinned (OpenSpec.ofChange wishServesSpec)

/-- ITS FALSE NEIGHBOUR: 'it returns false'. Refute it at one input. -/
def wishServesWrong : ChangeSpec := { name := "wishServes", fn := fun _ => fun
  | [d1, d2] => { results := [.lit (.bool false)], args := [d1, d2] }
  | _ => none }
def WishServesWrongFalsely : Prop := wishServesRow.holds Try.pinned (OpenSpec.ofChange wishServesWrong)

/-- 'selionlaw07.WishWithouts': WHATEVER THE INPUT: true; the input reads as it did. -/
def wishWithoutsSpec : ChangeSpec := { name := "wishWithouts", fn := fun _ => fun
  | [d1, d2] => { results := [.lit (.bool true)], args := [d1, d2] }
  | _ => none }
def wishWithoutsRow : OpenClaim := { program := "ytlmbobbefgcolaa", sum := "063f5ee8d34b2fac92985a1e59ff54bfeefaf95b006766ac9119d15ed33f87f7", func := "selion/selionlaw07.WishWithouts", spec := "wishWithouts", unfollowed := true, recurses := true, apart := false }
def WishWithoutsSaid : Prop := wishWithoutsRow.holds Try.pinned (OpenSpec.ofChange wishWithoutsSpec)

/-- ITS FALSE NEIGHBOUR: 'it returns false'. Refute it at one input. -/
def wishWithoutsWrong : ChangeSpec := { name := "wishWithouts", fn := fun _ => fun
  | [d1, d2] => { results := [.lit (.bool false)], args := [d1, d2] }
  | _ => none }
def WishWithoutsWrongFalsely : Prop := wishWithoutsRow.holds Try.pinned (OpenSpec.ofChange wishWithoutsWrong)

/-- 'selionlaw07.WishBetter': WHATEVER THE INPUT: true; the input reads as it did. -/
def wishBetterSpec : ChangeSpec := { name := "wishBetter", fn := fun _ => fun
  | [d1, d2] => { results := [.lit (.bool true)], args := [d1, d2] }
  | _ => none }
def wishBetterRow : OpenClaim := { program := "ytlmbobbefgcolaa", sum := "063f5ee8d34b2fac92985a1e59ff54bfeefaf95b006766ac9119d15ed33f87f7", func := "selion/selionlaw07.WishBetter", spec := "wishBetter", unfollowed := true, recurses := true, apart := false }
def WishBetterSaid : Prop := wishBetterRow.holds Try.pinned (OpenSpec.ofChange wishBetterSpec)

/-- ITS FALSE NEIGHBOUR: 'it returns false'. Refute it at one input. -/
def wishBetterWrong : ChangeSpec := { name := "wishBetter", fn := fun _ => fun
  | [d1, d2] => { results := [.lit (.bool false)], args := [d1, d2] }
  | _ => none }
def WishBetterWrongFalsely : Prop := wishBetterRow.holds Try.pinned (OpenSpec.ofChange wishBetterWrong)

/-- 'selionlaw07.WishGivings': WHATEVER THE INPUT: true; the input reads as it did. -/
def wishGivingsSpec : ChangeSpec := { name := "wishGivings", fn := fun _ => fun
  | [d1, d2] => { results := [.lit (.bool true)], args := [d1, d2] }
  | _ => none }
def wishGivingsRow : OpenClaim := { program := "ytlmbobbefgcolaa", sum := "063f5ee8d34b2fac92985a1e59ff54bfeefaf95b006766ac9119d15ed33f87f7", func := "selion/selionlaw07.WishGivings", spec := "wishGivings", unfollowed := true, recurses := true, apart := false }
def WishGivingsSaid : Prop := wishGivingsRow.holds Try.pinned (OpenSpec.ofChange wishGivingsSpec)

/-- ITS FALSE NEIGHBOUR: 'it returns false'. Refute it at one input. -/
def wishGivingsWrong : ChangeSpec := { name := "wishGivings", fn := fun _ => fun
  | [d1, d2] => { results := [.lit (.bool false)], args := [d1, d2] }
  | _ => none }
def WishGivingsWrongFalsely : Prop := wishGivingsRow.holds Try.pinned (OpenSpec.ofChange wishGivingsWrong)

/-- 'selionlaw07.WishLacks': WHATEVER THE INPUT: true; the input reads as it did. -/
def wishLacksSpec : ChangeSpec := { name := "wishLacks", fn := fun _ => fun
  | [d1, d2] => { results := [.lit (.bool true)], args := [d1, d2] }
  | _ => none }
def wishLacksRow : OpenClaim := { program := "ytlmbobbefgcolaa", sum := "063f5ee8d34b2fac92985a1e59ff54bfeefaf95b006766ac9119d15ed33f87f7", func := "selion/selionlaw07.WishLacks", spec := "wishLacks", unfollowed := true, recurses := true, apart := false }
def WishLacksSaid : Prop := wishLacksRow.holds Try.pinned (OpenSpec.ofChange wishLacksSpec)

/-- ITS FALSE NEIGHBOUR: 'it returns false'. Refute it at one input. -/
def wishLacksWrong : ChangeSpec := { name := "wishLacks", fn := fun _ => fun
  | [d1, d2] => { results := [.lit (.bool false)], args := [d1, d2] }
  | _ => none }
def WishLacksWrongFalsely : Prop := wishLacksRow.holds Try.pinned (OpenSpec.ofChange wishLacksWrong)

/-- 'selionlaw07.WishMeets': WHATEVER THE INPUT: true; the input reads as it did. -/
def wishMeetsSpec : ChangeSpec := { name := "wishMeets", fn := fun _ => fun
  | [d1, d2, d3] => { results := [.lit (.bool true)], args := [d1, d2, d3] }
  | _ => none }
def wishMeetsRow : OpenClaim := { program := "ytlmbobbefgcolaa", sum := "063f5ee8d34b2fac92985a1e59ff54bfeefaf95b006766ac9119d15ed33f87f7", func := "selion/selionlaw07.WishMeets", spec := "wishMeets", unfollowed := true, recurses := true, apart := false }
def WishMeetsSaid : Prop := wishMeetsRow.holds Try.pinned (OpenSpec.ofChange wishMeetsSpec)

/-- ITS FALSE NEIGHBOUR: 'it returns false'. Refute it at one input. -/
def wishMeetsWrong : ChangeSpec := { name := "wishMeets", fn := fun _ => fun
  | [d1, d2, d3] => { results := [.lit (.bool false)], args := [d1, d2, d3] }
  | _ => none }
def WishMeetsWrongFalsely : Prop := wishMeetsRow.holds Try.pinned (OpenSpec.ofChange wishMeetsWrong)

/-- 'selionlaw07.WishShorts': WHATEVER THE INPUT: true; the input reads as it did. -/
def wishShortsSpec : ChangeSpec := { name := "wishShorts", fn := fun _ => fun
  | [d1, d2] => { results := [.lit (.bool true)], args := [d1, d2] }
  | _ => none }
def wishShortsRow : OpenClaim := { program := "ytlmbobbefgcolaa", sum := "063f5ee8d34b2fac92985a1e59ff54bfeefaf95b006766ac9119d15ed33f87f7", func := "selion/selionlaw07.WishShorts", spec := "wishShorts", unfollowed := true, recurses := true, apart := false }
def WishShortsSaid : Prop := wishShortsRow.holds Try.pinned (OpenSpec.ofChange wishShortsSpec)

/-- ITS FALSE NEIGHBOUR: 'it returns false'. Refute it at one input. -/
def wishShortsWrong : ChangeSpec := { name := "wishShorts", fn := fun _ => fun
  | [d1, d2] => { results := [.lit (.bool false)], args := [d1, d2] }
  | _ => none }
def WishShortsWrongFalsely : Prop := wishShortsRow.holds Try.pinned (OpenSpec.ofChange wishShortsWrong)

/-- 'selionlaw07.WishHappiest': WHATEVER THE INPUT: true; the input reads as it did. -/
def wishHappiestSpec : ChangeSpec := { name := "wishHappiest", fn := fun _ => fun
  | [d] => { results := [.lit (.bool true)], args := [d] }
  | _ => none }
def wishHappiestRow : OpenClaim := { program := "ytlmbobbefgcolaa", sum := "063f5ee8d34b2fac92985a1e59ff54bfeefaf95b006766ac9119d15ed33f87f7", func := "selion/selionlaw07.WishHappiest", spec := "wishHappiest", unfollowed := true, recurses := true, apart := false }
def WishHappiestSaid : Prop := wishHappiestRow.holds Try.pinned (OpenSpec.ofChange wishHappiestSpec)

/-- ITS FALSE NEIGHBOUR: 'it returns false'. Refute it at one input. -/
def wishHappiestWrong : ChangeSpec := { name := "wishHappiest", fn := fun _ => fun
  | [d] => { results := [.lit (.bool false)], args := [d] }
  | _ => none }
def WishHappiestWrongFalsely : Prop := wishHappiestRow.holds Try.pinned (OpenSpec.ofChange wishHappiestWrong)

/-- 'selionlaw07.WishCovers': WHATEVER THE INPUT: true; the input reads as it did. -/
def wishCoversSpec : ChangeSpec := { name := "wishCovers", fn := fun _ => fun
  | [d1, d2, d3] => { results := [.lit (.bool true)], args := [d1, d2, d3] }
  | _ => none }
def wishCoversRow : OpenClaim := { program := "ytlmbobbefgcolaa", sum := "063f5ee8d34b2fac92985a1e59ff54bfeefaf95b006766ac9119d15ed33f87f7", func := "selion/selionlaw07.WishCovers", spec := "wishCovers", unfollowed := true, recurses := true, apart := false }
def WishCoversSaid : Prop := wishCoversRow.holds Try.pinned (OpenSpec.ofChange wishCoversSpec)

/-- ITS FALSE NEIGHBOUR: 'it returns false'. Refute it at one input. -/
def wishCoversWrong : ChangeSpec := { name := "wishCovers", fn := fun _ => fun
  | [d1, d2, d3] => { results := [.lit (.bool false)], args := [d1, d2, d3] }
  | _ => none }
def WishCoversWrongFalsely : Prop := wishCoversRow.holds Try.pinned (OpenSpec.ofChange wishCoversWrong)

/-- 'selionlaw07.WishLines': WHATEVER THE INPUT: true; the input reads as it did. -/
def wishLinesSpec : ChangeSpec := { name := "wishLines", fn := fun _ => fun
  | [d1, d2] => { results := [.lit (.bool true)], args := [d1, d2] }
  | _ => none }
def wishLinesRow : OpenClaim := { program := "ytlmbobbefgcolaa", sum := "063f5ee8d34b2fac92985a1e59ff54bfeefaf95b006766ac9119d15ed33f87f7", func := "selion/selionlaw07.WishLines", spec := "wishLines", unfollowed := true, recurses := true, apart := false }
def WishLinesSaid : Prop := wishLinesRow.holds Try.pinned (OpenSpec.ofChange wishLinesSpec)

/-- ITS FALSE NEIGHBOUR: 'it returns false'. Refute it at one input. -/
def wishLinesWrong : ChangeSpec := { name := "wishLines", fn := fun _ => fun
  | [d1, d2] => { results := [.lit (.bool false)], args := [d1, d2] }
  | _ => none }
def WishLinesWrongFalsely : Prop := wishLinesRow.holds Try.pinned (OpenSpec.ofChange wishLinesWrong)

/-- 'seliontop.TopWishes': WHATEVER THE INPUT: true; the input reads as it did. -/
def topWishesSpec : ChangeSpec := { name := "topWishes", fn := fun _ => fun
  | [d1, d2, d3] => { results := [.lit (.bool true)], args := [d1, d2, d3] }
  | _ => none }
def topWishesRow : OpenClaim := { program := "ytlmbobbefgcolaa", sum := "063f5ee8d34b2fac92985a1e59ff54bfeefaf95b006766ac9119d15ed33f87f7", func := "selion/seliontop.TopWishes", spec := "topWishes", unfollowed := true, recurses := true, apart := false }
def TopWishesSaid : Prop := topWishesRow.holds Try.pinned (OpenSpec.ofChange topWishesSpec)

/-- ITS FALSE NEIGHBOUR: 'it returns false'. Refute it at one input. -/
def topWishesWrong : ChangeSpec := { name := "topWishes", fn := fun _ => fun
  | [d1, d2, d3] => { results := [.lit (.bool false)], args := [d1, d2, d3] }
  | _ => none }
def TopWishesWrongFalsely : Prop := topWishesRow.holds Try.pinned (OpenSpec.ofChange topWishesWrong)

/- THE SECOND FORM. 'bulk': how many values and letters a reading holds, each counted each time it is reached (what is shared counts as often as it is met; a slice's spare places count too). A statement '..UptoSaid' is the law's where the arguments, and the package variables that the reading takes, are together of bulk at most 1048576: NARROWER than '..Said'. Prove '..Said' where nothing that the law and all that it calls make is longer than what came in: it says more and counts as full. Else prove '..UptoSaid'. A law counts once. -/
mutual
def uptoBulk {H : Type} : DataW H → Nat
  | .lit (.string bytes) => bytes.length + 1
  | .lit _ => 1
  | .nil => 1
  | .ptr d => uptoBulk d + 1
  | .slice elems spare => uptoBulkAll elems + uptoBulkAll spare + 1
  | .agg parts => uptoBulkAll parts + 1
  | .iface _ d => uptoBulk d + 1
  | .map entries => uptoBulkEntries entries + 1
  | .held _ => 1
def uptoBulkAll {H : Type} : List (DataW H) → Nat
  | [] => 0
  | d :: r => uptoBulk d + uptoBulkAll r
def uptoBulkEntries {H : Type} : List (Lit × DataW H) → Nat
  | [] => 0
  | x :: r => uptoBulkEntry x + uptoBulkEntries r
def uptoBulkEntry {H : Type} : Lit × DataW H → Nat
  | (.string bytes, d) => bytes.length + uptoBulk d + 1
  | (_, d) => uptoBulk d + 1
 end
def uptoSmall : (H : Type) → List (DataW H) → Bool := fun _ ds => decide (uptoBulkAll ds ≤ 1048576)
def OpenSpec.upto (s : _root_.Go.ChangeSpec) : _root_.Go.OpenSpec := { _root_.Go.OpenSpec.ofChange s with cond := some uptoSmall }

/-- 'selionlaw07.WishSures', WHERE WHAT IT READS IS OF BULK AT MOST 1048576: true; the input reads as it did. -/
def wishSuresUptoRow : OpenClaim := { program := "ytlmbobbefgcolaa", sum := "063f5ee8d34b2fac92985a1e59ff54bfeefaf95b006766ac9119d15ed33f87f7", func := "selion/selionlaw07.WishSures", spec := "wishSures", unfollowed := true, recurses := true, apart := false, narrowed := true }
def WishSuresUptoSaid : Prop := wishSuresUptoRow.holds Try.pinned (OpenSpec.upto wishSuresSpec)

/-- 'selionlaw07.WishMost', WHERE WHAT IT READS IS OF BULK AT MOST 1048576: true; the input reads as it did. -/
def wishMostUptoRow : OpenClaim := { program := "ytlmbobbefgcolaa", sum := "063f5ee8d34b2fac92985a1e59ff54bfeefaf95b006766ac9119d15ed33f87f7", func := "selion/selionlaw07.WishMost", spec := "wishMost", unfollowed := true, recurses := true, apart := false, narrowed := true }
def WishMostUptoSaid : Prop := wishMostUptoRow.holds Try.pinned (OpenSpec.upto wishMostSpec)

/-- 'selionlaw07.WishTurns', WHERE WHAT IT READS IS OF BULK AT MOST 1048576: true; the input reads as it did. -/
def wishTurnsUptoRow : OpenClaim := { program := "ytlmbobbefgcolaa", sum := "063f5ee8d34b2fac92985a1e59ff54bfeefaf95b006766ac9119d15ed33f87f7", func := "selion/selionlaw07.WishTurns", spec := "wishTurns", unfollowed := true, recurses := true, apart := false, narrowed := true }
def WishTurnsUptoSaid : Prop := wishTurnsUptoRow.holds Try.pinned (OpenSpec.upto wishTurnsSpec)

/-- 'selionlaw07.WishServes', WHERE WHAT IT READS IS OF BULK AT MOST 1048576: true; the input reads as it did. -/
def wishServesUptoRow : OpenClaim := { program := "ytlmbobbefgcolaa", sum := "063f5ee8d34b2fac92985a1e59ff54bfeefaf95b006766ac9119d15ed33f87f7", func := "selion/selionlaw07.WishServes", spec := "wishServes", unfollowed := true, recurses := true, apart := false, narrowed := true }
def WishServesUptoSaid : Prop := wishServesUptoRow.holds Try.pinned (OpenSpec.upto wishServesSpec)

/-- 'selionlaw07.WishWithouts', WHERE WHAT IT READS IS OF BULK AT MOST 1048576: true; the input reads as it did. -/
def wishWithoutsUptoRow : OpenClaim := { program := "ytlmbobbefgcolaa", sum := "063f5ee8d34b2fac92985a1e59ff54bfeefaf95b006766ac9119d15ed33f87f7", func := "selion/selionlaw07.WishWithouts", spec := "wishWithouts", unfollowed := true, recurses := true, apart := false, narrowed := true }
def WishWithoutsUptoSaid : Prop := wishWithoutsUptoRow.holds Try.pinned (OpenSpec.upto wishWithoutsSpec)

/-- 'selionlaw07.WishBetter', WHERE WHAT IT READS IS OF BULK AT MOST 1048576: true; the input reads as it did. -/
def wishBetterUptoRow : OpenClaim := { program := "ytlmbobbefgcolaa", sum := "063f5ee8d34b2fac92985a1e59ff54bfeefaf95b006766ac9119d15ed33f87f7", func := "selion/selionlaw07.WishBetter", spec := "wishBetter", unfollowed := true, recurses := true, apart := false, narrowed := true }
def WishBetterUptoSaid : Prop := wishBetterUptoRow.holds Try.pinned (OpenSpec.upto wishBetterSpec)

/-- 'selionlaw07.WishGivings', WHERE WHAT IT READS IS OF BULK AT MOST 1048576: true; the input reads as it did. -/
def wishGivingsUptoRow : OpenClaim := { program := "ytlmbobbefgcolaa", sum := "063f5ee8d34b2fac92985a1e59ff54bfeefaf95b006766ac9119d15ed33f87f7", func := "selion/selionlaw07.WishGivings", spec := "wishGivings", unfollowed := true, recurses := true, apart := false, narrowed := true }
def WishGivingsUptoSaid : Prop := wishGivingsUptoRow.holds Try.pinned (OpenSpec.upto wishGivingsSpec)

/-- 'selionlaw07.WishLacks', WHERE WHAT IT READS IS OF BULK AT MOST 1048576: true; the input reads as it did. -/
def wishLacksUptoRow : OpenClaim := { program := "ytlmbobbefgcolaa", sum := "063f5ee8d34b2fac92985a1e59ff54bfeefaf95b006766ac9119d15ed33f87f7", func := "selion/selionlaw07.WishLacks", spec := "wishLacks", unfollowed := true, recurses := true, apart := false, narrowed := true }
def WishLacksUptoSaid : Prop := wishLacksUptoRow.holds Try.pinned (OpenSpec.upto wishLacksSpec)

/-- 'selionlaw07.WishMeets', WHERE WHAT IT READS IS OF BULK AT MOST 1048576: true; the input reads as it did. -/
def wishMeetsUptoRow : OpenClaim := { program := "ytlmbobbefgcolaa", sum := "063f5ee8d34b2fac92985a1e59ff54bfeefaf95b006766ac9119d15ed33f87f7", func := "selion/selionlaw07.WishMeets", spec := "wishMeets", unfollowed := true, recurses := true, apart := false, narrowed := true }
def WishMeetsUptoSaid : Prop := wishMeetsUptoRow.holds Try.pinned (OpenSpec.upto wishMeetsSpec)

/-- 'selionlaw07.WishShorts', WHERE WHAT IT READS IS OF BULK AT MOST 1048576: true; the input reads as it did. -/
def wishShortsUptoRow : OpenClaim := { program := "ytlmbobbefgcolaa", sum := "063f5ee8d34b2fac92985a1e59ff54bfeefaf95b006766ac9119d15ed33f87f7", func := "selion/selionlaw07.WishShorts", spec := "wishShorts", unfollowed := true, recurses := true, apart := false, narrowed := true }
def WishShortsUptoSaid : Prop := wishShortsUptoRow.holds Try.pinned (OpenSpec.upto wishShortsSpec)

/-- 'selionlaw07.WishHappiest', WHERE WHAT IT READS IS OF BULK AT MOST 1048576: true; the input reads as it did. -/
def wishHappiestUptoRow : OpenClaim := { program := "ytlmbobbefgcolaa", sum := "063f5ee8d34b2fac92985a1e59ff54bfeefaf95b006766ac9119d15ed33f87f7", func := "selion/selionlaw07.WishHappiest", spec := "wishHappiest", unfollowed := true, recurses := true, apart := false, narrowed := true }
def WishHappiestUptoSaid : Prop := wishHappiestUptoRow.holds Try.pinned (OpenSpec.upto wishHappiestSpec)

/-- 'selionlaw07.WishCovers', WHERE WHAT IT READS IS OF BULK AT MOST 1048576: true; the input reads as it did. -/
def wishCoversUptoRow : OpenClaim := { program := "ytlmbobbefgcolaa", sum := "063f5ee8d34b2fac92985a1e59ff54bfeefaf95b006766ac9119d15ed33f87f7", func := "selion/selionlaw07.WishCovers", spec := "wishCovers", unfollowed := true, recurses := true, apart := false, narrowed := true }
def WishCoversUptoSaid : Prop := wishCoversUptoRow.holds Try.pinned (OpenSpec.upto wishCoversSpec)

/-- 'selionlaw07.WishLines', WHERE WHAT IT READS IS OF BULK AT MOST 1048576: true; the input reads as it did. -/
def wishLinesUptoRow : OpenClaim := { program := "ytlmbobbefgcolaa", sum := "063f5ee8d34b2fac92985a1e59ff54bfeefaf95b006766ac9119d15ed33f87f7", func := "selion/selionlaw07.WishLines", spec := "wishLines", unfollowed := true, recurses := true, apart := false, narrowed := true }
def WishLinesUptoSaid : Prop := wishLinesUptoRow.holds Try.pinned (OpenSpec.upto wishLinesSpec)

/-- 'seliontop.TopWishes', WHERE WHAT IT READS IS OF BULK AT MOST 1048576: true; the input reads as it did. -/
def topWishesUptoRow : OpenClaim := { program := "ytlmbobbefgcolaa", sum := "063f5ee8d34b2fac92985a1e59ff54bfeefaf95b006766ac9119d15ed33f87f7", func := "selion/seliontop.TopWishes", spec := "topWishes", unfollowed := true, recurses := true, apart := false, narrowed := true }
def TopWishesUptoSaid : Prop := topWishesUptoRow.holds Try.pinned (OpenSpec.upto topWishesSpec)

end Rows
end Go.Proofs.Ytlmbobbefgcolaa
