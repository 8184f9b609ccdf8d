/-
  No cell of these rows narrows 'for every input' (looked for: loops, veiled, ifaces, maps, wideKeys, modest, calm, conditions, laid).
  DERIVED. THE GIVEN ROWS OF THIS SEAT. 8 by the template 'for every input the law returns true; each argument reads behind the call as it read before'; 0 by the template 'total and deterministic' (their statements: YtkakggagaplaiaaTotals.lean).
  GIVEN WITH THE SEED: the statements are not yours to turn. If you find one false, say at which input.
  Laid BY PROGRAM, IN A SANDBOX (cutbox-rows.mjs): the forced cells as the released guide's own fill.sh prints them over the translation e70356822c000e02… (all of the seat's roots in one cut). By AI agents, Wed Nov 11 2026. No macro, syntax, notation, axiom, sorry.
-/
import Derived.Test.YtkakggagaplaiaaChecked
import GoSem.Claim
import GoSem.ClaimJoined
import GoSem.ClaimMapViews
import Derived.JoinedTies
import Derived.KernelRfl
namespace Go.Proofs.Ytkakggagaplaiaa
/- THE CELL 'sum', in the pinned program and in every row, IS THE sha256 OF THE DUMP (.gsa) THAT YtkakggagaplaiaaProg.lean LOADS. Nothing in Lean hashes anything: it is a label: what it is worth is what the hold of that sum in a sandbox is worth. -/
noncomputable def Try.pinned : Pinned := { name := "ytkakggagaplaiaa", sum := "e70356822c000e026a937b21b0d21aea7808d9d230f8fba5d1b69d5d35300e03", checked := Try.checked }
namespace Rows
def none {H : Type} : Left H := { results := [], args := [] }

/-- 'gameroomkeep.PokerSuits': WHATEVER THE INPUT: true; the input reads as it did. -/
def pokerSuitsSpec : ChangeSpec := { name := "pokerSuits", fn := fun _ => fun
  | [d1, d2, d3] => { results := [.lit (.bool true)], args := [d1, d2, d3] }
  | _ => none }
def pokerSuitsRow : OpenClaim := { program := "ytkakggagaplaiaa", sum := "e70356822c000e026a937b21b0d21aea7808d9d230f8fba5d1b69d5d35300e03", func := "gameroom/gameroomkeep.PokerSuits", spec := "pokerSuits", unfollowed := true, recurses := true, plainKeys := false, apart := false }
def PokerSuitsSaid : Prop := pokerSuitsRow.holds Try.pinned (OpenSpec.ofChange pokerSuitsSpec)

/-- ITS FALSE NEIGHBOUR: 'it returns false'. Refute it at one input. -/
def pokerSuitsWrong : ChangeSpec := { name := "pokerSuits", fn := fun _ => fun
  | [d1, d2, d3] => { results := [.lit (.bool false)], args := [d1, d2, d3] }
  | _ => none }
def PokerSuitsWrongFalsely : Prop := pokerSuitsRow.holds Try.pinned (OpenSpec.ofChange pokerSuitsWrong)

/-- 'gameroomkeep.PokerDuels': WHATEVER THE INPUT: true; the input reads as it did. -/
def pokerDuelsSpec : ChangeSpec := { name := "pokerDuels", fn := fun _ => fun
  | [d1, d2] => { results := [.lit (.bool true)], args := [d1, d2] }
  | _ => none }
def pokerDuelsRow : OpenClaim := { program := "ytkakggagaplaiaa", sum := "e70356822c000e026a937b21b0d21aea7808d9d230f8fba5d1b69d5d35300e03", func := "gameroom/gameroomkeep.PokerDuels", spec := "pokerDuels", unfollowed := true, recurses := true, plainKeys := false, apart := false }
def PokerDuelsSaid : Prop := pokerDuelsRow.holds Try.pinned (OpenSpec.ofChange pokerDuelsSpec)

/-- ITS FALSE NEIGHBOUR: 'it returns false'. Refute it at one input. -/
def pokerDuelsWrong : ChangeSpec := { name := "pokerDuels", fn := fun _ => fun
  | [d1, d2] => { results := [.lit (.bool false)], args := [d1, d2] }
  | _ => none }
def PokerDuelsWrongFalsely : Prop := pokerDuelsRow.holds Try.pinned (OpenSpec.ofChange pokerDuelsWrong)

/-- 'gameroomkeep.DeckSigns': WHATEVER THE INPUT: true; the input reads as it did. -/
def deckSignsSpec : ChangeSpec := { name := "deckSigns", fn := fun _ => fun
  | [d1, d2, d3] => { results := [.lit (.bool true)], args := [d1, d2, d3] }
  | _ => none }
def deckSignsRow : OpenClaim := { program := "ytkakggagaplaiaa", sum := "e70356822c000e026a937b21b0d21aea7808d9d230f8fba5d1b69d5d35300e03", func := "gameroom/gameroomkeep.DeckSigns", spec := "deckSigns", unfollowed := true, recurses := true, plainKeys := false, apart := false }
def DeckSignsSaid : Prop := deckSignsRow.holds Try.pinned (OpenSpec.ofChange deckSignsSpec)

/-- ITS FALSE NEIGHBOUR: 'it returns false'. Refute it at one input. -/
def deckSignsWrong : ChangeSpec := { name := "deckSigns", fn := fun _ => fun
  | [d1, d2, d3] => { results := [.lit (.bool false)], args := [d1, d2, d3] }
  | _ => none }
def DeckSignsWrongFalsely : Prop := deckSignsRow.holds Try.pinned (OpenSpec.ofChange deckSignsWrong)

/-- 'gameroomkeep.SlideHalf': WHATEVER THE INPUT: true; the input reads as it did. -/
def slideHalfSpec : ChangeSpec := { name := "slideHalf", fn := fun _ => fun
  | [d1, d2, d3, d4, d5, d6] => { results := [.lit (.bool true)], args := [d1, d2, d3, d4, d5, d6] }
  | _ => none }
def slideHalfRow : OpenClaim := { program := "ytkakggagaplaiaa", sum := "e70356822c000e026a937b21b0d21aea7808d9d230f8fba5d1b69d5d35300e03", func := "gameroom/gameroomkeep.SlideHalf", spec := "slideHalf", unfollowed := true, recurses := true, plainKeys := false, apart := false }
def SlideHalfSaid : Prop := slideHalfRow.holds Try.pinned (OpenSpec.ofChange slideHalfSpec)

/-- ITS FALSE NEIGHBOUR: 'it returns false'. Refute it at one input. -/
def slideHalfWrong : ChangeSpec := { name := "slideHalf", fn := fun _ => fun
  | [d1, d2, d3, d4, d5, d6] => { results := [.lit (.bool false)], args := [d1, d2, d3, d4, d5, d6] }
  | _ => none }
def SlideHalfWrongFalsely : Prop := slideHalfRow.holds Try.pinned (OpenSpec.ofChange slideHalfWrong)

/-- 'gameroomkeep.BridgeTurns': WHATEVER THE INPUT: true; the input reads as it did. -/
def bridgeTurnsSpec : ChangeSpec := { name := "bridgeTurns", fn := fun _ => fun
  | [d1, d2, d3, d4] => { results := [.lit (.bool true)], args := [d1, d2, d3, d4] }
  | _ => none }
def bridgeTurnsRow : OpenClaim := { program := "ytkakggagaplaiaa", sum := "e70356822c000e026a937b21b0d21aea7808d9d230f8fba5d1b69d5d35300e03", func := "gameroom/gameroomkeep.BridgeTurns", spec := "bridgeTurns", unfollowed := true, recurses := true, plainKeys := false, apart := false }
def BridgeTurnsSaid : Prop := bridgeTurnsRow.holds Try.pinned (OpenSpec.ofChange bridgeTurnsSpec)

/-- ITS FALSE NEIGHBOUR: 'it returns false'. Refute it at one input. -/
def bridgeTurnsWrong : ChangeSpec := { name := "bridgeTurns", fn := fun _ => fun
  | [d1, d2, d3, d4] => { results := [.lit (.bool false)], args := [d1, d2, d3, d4] }
  | _ => none }
def BridgeTurnsWrongFalsely : Prop := bridgeTurnsRow.holds Try.pinned (OpenSpec.ofChange bridgeTurnsWrong)

/-- 'gameroomkeep.CribOrders': WHATEVER THE INPUT: true; the input reads as it did. -/
def cribOrdersSpec : ChangeSpec := { name := "cribOrders", fn := fun _ => fun
  | [d1, d2] => { results := [.lit (.bool true)], args := [d1, d2] }
  | _ => none }
def cribOrdersRow : OpenClaim := { program := "ytkakggagaplaiaa", sum := "e70356822c000e026a937b21b0d21aea7808d9d230f8fba5d1b69d5d35300e03", func := "gameroom/gameroomkeep.CribOrders", spec := "cribOrders", unfollowed := true, recurses := true, plainKeys := false, apart := false }
def CribOrdersSaid : Prop := cribOrdersRow.holds Try.pinned (OpenSpec.ofChange cribOrdersSpec)

/-- ITS FALSE NEIGHBOUR: 'it returns false'. Refute it at one input. -/
def cribOrdersWrong : ChangeSpec := { name := "cribOrders", fn := fun _ => fun
  | [d1, d2] => { results := [.lit (.bool false)], args := [d1, d2] }
  | _ => none }
def CribOrdersWrongFalsely : Prop := cribOrdersRow.holds Try.pinned (OpenSpec.ofChange cribOrdersWrong)

/-- 'gameroomkeep.CribKept': WHATEVER THE INPUT: true; the input reads as it did. -/
def cribKeptSpec : ChangeSpec := { name := "cribKept", fn := fun _ => fun
  | [d1, d2, d3] => { results := [.lit (.bool true)], args := [d1, d2, d3] }
  | _ => none }
def cribKeptRow : OpenClaim := { program := "ytkakggagaplaiaa", sum := "e70356822c000e026a937b21b0d21aea7808d9d230f8fba5d1b69d5d35300e03", func := "gameroom/gameroomkeep.CribKept", spec := "cribKept", unfollowed := true, recurses := true, plainKeys := false, apart := false }
def CribKeptSaid : Prop := cribKeptRow.holds Try.pinned (OpenSpec.ofChange cribKeptSpec)

/-- ITS FALSE NEIGHBOUR: 'it returns false'. Refute it at one input. -/
def cribKeptWrong : ChangeSpec := { name := "cribKept", fn := fun _ => fun
  | [d1, d2, d3] => { results := [.lit (.bool false)], args := [d1, d2, d3] }
  | _ => none }
def CribKeptWrongFalsely : Prop := cribKeptRow.holds Try.pinned (OpenSpec.ofChange cribKeptWrong)

/-- 'gameroomkeep.SlideShort': WHATEVER THE INPUT: true; the input reads as it did. -/
def slideShortSpec : ChangeSpec := { name := "slideShort", fn := fun _ => fun
  | [d1, d2] => { results := [.lit (.bool true)], args := [d1, d2] }
  | _ => none }
def slideShortRow : OpenClaim := { program := "ytkakggagaplaiaa", sum := "e70356822c000e026a937b21b0d21aea7808d9d230f8fba5d1b69d5d35300e03", func := "gameroom/gameroomkeep.SlideShort", spec := "slideShort", unfollowed := true, recurses := true, plainKeys := false, apart := false }
def SlideShortSaid : Prop := slideShortRow.holds Try.pinned (OpenSpec.ofChange slideShortSpec)

/-- ITS FALSE NEIGHBOUR: 'it returns false'. Refute it at one input. -/
def slideShortWrong : ChangeSpec := { name := "slideShort", fn := fun _ => fun
  | [d1, d2] => { results := [.lit (.bool false)], args := [d1, d2] }
  | _ => none }
def SlideShortWrongFalsely : Prop := slideShortRow.holds Try.pinned (OpenSpec.ofChange slideShortWrong)

/- THE SECOND FORM. 'bulk': how many values and letters a reading holds, each counted each time it is reached (what is shared counts as often as it is met; a slice's spare places count too). A statement '..UptoSaid' is the law's where the arguments, and the package variables that the reading takes, are together of bulk at most 1048576: NARROWER than '..Said'. Prove '..Said' where nothing that the law and all that it calls make is longer than what came in: it says more and counts as full. Else prove '..UptoSaid'. A law counts once. -/
mutual
def uptoBulk {H : Type} : DataW H → Nat
  | .lit (.string bytes) => bytes.length + 1
  | .lit _ => 1
  | .nil => 1
  | .ptr d => uptoBulk d + 1
  | .slice elems spare => uptoBulkAll elems + uptoBulkAll spare + 1
  | .agg parts => uptoBulkAll parts + 1
  | .iface _ d => uptoBulk d + 1
  | .map entries => uptoBulkEntries entries + 1
  | .held _ => 1
def uptoBulkAll {H : Type} : List (DataW H) → Nat
  | [] => 0
  | d :: r => uptoBulk d + uptoBulkAll r
def uptoBulkEntries {H : Type} : List (Lit × DataW H) → Nat
  | [] => 0
  | x :: r => uptoBulkEntry x + uptoBulkEntries r
def uptoBulkEntry {H : Type} : Lit × DataW H → Nat
  | (.string bytes, d) => bytes.length + uptoBulk d + 1
  | (_, d) => uptoBulk d + 1
 end
def uptoSmall : (H : Type) → List (DataW H) → Bool := fun _ ds => decide (uptoBulkAll ds ≤ 1048576)
def OpenSpec.upto (s : _root_.Go.ChangeSpec) : _root_.Go.OpenSpec := { _root_.Go.OpenSpec.ofChange s with cond := some uptoSmall }

/-- 'gameroomkeep.PokerSuits', WHERE WHAT IT READS IS OF BULK AT MOST 1048576: true; the input reads as it did. -/
def pokerSuitsUptoRow : OpenClaim := { program := "ytkakggagaplaiaa", sum := "e70356822c000e026a937b21b0d21aea7808d9d230f8fba5d1b69d5d35300e03", func := "gameroom/gameroomkeep.PokerSuits", spec := "pokerSuits", unfollowed := true, recurses := true, plainKeys := false, apart := false, narrowed := true }
def PokerSuitsUptoSaid : Prop := pokerSuitsUptoRow.holds Try.pinned (OpenSpec.upto pokerSuitsSpec)

/-- 'gameroomkeep.PokerDuels', WHERE WHAT IT READS IS OF BULK AT MOST 1048576: true; the input reads as it did. -/
def pokerDuelsUptoRow : OpenClaim := { program := "ytkakggagaplaiaa", sum := "e70356822c000e026a937b21b0d21aea7808d9d230f8fba5d1b69d5d35300e03", func := "gameroom/gameroomkeep.PokerDuels", spec := "pokerDuels", unfollowed := true, recurses := true, plainKeys := false, apart := false, narrowed := true }
def PokerDuelsUptoSaid : Prop := pokerDuelsUptoRow.holds Try.pinned (OpenSpec.upto pokerDuelsSpec)

/-- 'gameroomkeep.DeckSigns', WHERE WHAT IT READS IS OF BULK AT MOST 1048576: true; the input reads as it did. -/
def deckSignsUptoRow : OpenClaim := { program := "ytkakggagaplaiaa", sum := "e70356822c000e026a937b21b0d21aea7808d9d230f8fba5d1b69d5d35300e03", func := "gameroom/gameroomkeep.DeckSigns", spec := "deckSigns", unfollowed := true, recurses := true, plainKeys := false, apart := false, narrowed := true }
def DeckSignsUptoSaid : Prop := deckSignsUptoRow.holds Try.pinned (OpenSpec.upto deckSignsSpec)

/-- 'gameroomkeep.SlideHalf', WHERE WHAT IT READS IS OF BULK AT MOST 1048576: true; the input reads as it did. -/
def slideHalfUptoRow : OpenClaim := { program := "ytkakggagaplaiaa", sum := "e70356822c000e026a937b21b0d21aea7808d9d230f8fba5d1b69d5d35300e03", func := "gameroom/gameroomkeep.SlideHalf", spec := "slideHalf", unfollowed := true, recurses := true, plainKeys := false, apart := false, narrowed := true }
def SlideHalfUptoSaid : Prop := slideHalfUptoRow.holds Try.pinned (OpenSpec.upto slideHalfSpec)

/-- 'gameroomkeep.BridgeTurns', WHERE WHAT IT READS IS OF BULK AT MOST 1048576: true; the input reads as it did. -/
def bridgeTurnsUptoRow : OpenClaim := { program := "ytkakggagaplaiaa", sum := "e70356822c000e026a937b21b0d21aea7808d9d230f8fba5d1b69d5d35300e03", func := "gameroom/gameroomkeep.BridgeTurns", spec := "bridgeTurns", unfollowed := true, recurses := true, plainKeys := false, apart := false, narrowed := true }
def BridgeTurnsUptoSaid : Prop := bridgeTurnsUptoRow.holds Try.pinned (OpenSpec.upto bridgeTurnsSpec)

/-- 'gameroomkeep.CribOrders', WHERE WHAT IT READS IS OF BULK AT MOST 1048576: true; the input reads as it did. -/
def cribOrdersUptoRow : OpenClaim := { program := "ytkakggagaplaiaa", sum := "e70356822c000e026a937b21b0d21aea7808d9d230f8fba5d1b69d5d35300e03", func := "gameroom/gameroomkeep.CribOrders", spec := "cribOrders", unfollowed := true, recurses := true, plainKeys := false, apart := false, narrowed := true }
def CribOrdersUptoSaid : Prop := cribOrdersUptoRow.holds Try.pinned (OpenSpec.upto cribOrdersSpec)

/-- 'gameroomkeep.CribKept', WHERE WHAT IT READS IS OF BULK AT MOST 1048576: true; the input reads as it did. -/
def cribKeptUptoRow : OpenClaim := { program := "ytkakggagaplaiaa", sum := "e70356822c000e026a937b21b0d21aea7808d9d230f8fba5d1b69d5d35300e03", func := "gameroom/gameroomkeep.CribKept", spec := "cribKept", unfollowed := true, recurses := true, plainKeys := false, apart := false, narrowed := true }
def CribKeptUptoSaid : Prop := cribKeptUptoRow.holds Try.pinned (OpenSpec.upto cribKeptSpec)

/-- 'gameroomkeep.SlideShort', WHERE WHAT IT READS IS OF BULK AT MOST 1048576: true; the input reads as it did. -/
def slideShortUptoRow : OpenClaim := { program := "ytkakggagaplaiaa", sum := "e70356822c000e026a937b21b0d21aea7808d9d230f8fba5d1b69d5d35300e03", func := "gameroom/gameroomkeep.SlideShort", spec := "slideShort", unfollowed := true, recurses := true, plainKeys := false, apart := false, narrowed := true }
def SlideShortUptoSaid : Prop := slideShortUptoRow.holds Try.pinned (OpenSpec.upto slideShortSpec)

end Rows
end Go.Proofs.Ytkakggagaplaiaa
