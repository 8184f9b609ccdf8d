/-
  DERIVED. GIVEN WITH THE SEED: THE CARDS: each row of YtebgliipeaelhaaDoorRows.lean that lists a variable, with what it lists TIED to the program's text (the seventh form; the later family's looks); each row that meets fmt, with fmt's text TOLD by the authors' own Lean function (tested against real Go, not proved from fmt's source: count such statements apart). THE CARD IS WHAT COUNTS. Prove the row's statement (the work); the ties are given (YtebgliipeaelhaaDoorTie.lean); close each card by the builder's one call (the guide's Derived/Test/ToyasCard.lean, 'card_holds'). Laid BY PROGRAM, IN A SANDBOX (cutbox-door.mjs). By AI agents, Wed Nov 11 2026. No macro, syntax, notation, axiom, sorry.
-/
import Derived.Test.YtebgliipeaelhaaDoorRows
import GoSem.ClaimSeven
namespace Go.Proofs.YtebgliipeaelhaaDoor
namespace Rows

/-- THE TIED CARD OF 'gameroomkeep.TourColour'. -/
def tourColourCard : Claim7 := { stood := { row := tourColourRow, standIns := [], harness := (true, "b8f9ae2b03440f2877c6ee51b908ffe9aa183180e36deebd8bb5a2f3270c1bf3"), looks := false }, kinds := [], alts := [], laidByText := true, laidKinds := [.data], laidTests := true, laidLooks := .later }
def TourColourCardSaid : Prop := Claim7.holds Tryd.pinned (.plain (OpenSpec.ofChange tourColourSpec)) tourColourCard

/-- THE TIED CARD OF 'gameroomkeep.TourGreedy'. -/
def tourGreedyCard : Claim7 := { stood := { row := tourGreedyRow, standIns := [], harness := (true, "b8f9ae2b03440f2877c6ee51b908ffe9aa183180e36deebd8bb5a2f3270c1bf3"), looks := false }, kinds := [], alts := [], laidByText := true, laidKinds := [.data], laidTests := true, laidLooks := .later }
def TourGreedyCardSaid : Prop := Claim7.holds Tryd.pinned (.plain (OpenSpec.ofChange tourGreedySpec)) tourGreedyCard

/-- THE SECOND FORM's CARD OF 'gameroomkeep.TourColour'. -/
def tourColourUptoCard : Claim7 := { stood := { row := tourColourUptoRow, standIns := [], harness := (true, "b8f9ae2b03440f2877c6ee51b908ffe9aa183180e36deebd8bb5a2f3270c1bf3"), looks := false }, kinds := [], alts := [], laidByText := true, laidKinds := [.data], laidTests := true, laidLooks := .later }
def TourColourUptoCardSaid : Prop := Claim7.holds Tryd.pinned (.plain (OpenSpec.upto tourColourSpec)) tourColourUptoCard

/-- THE SECOND FORM's CARD OF 'gameroomkeep.TourGreedy'. -/
def tourGreedyUptoCard : Claim7 := { stood := { row := tourGreedyUptoRow, standIns := [], harness := (true, "b8f9ae2b03440f2877c6ee51b908ffe9aa183180e36deebd8bb5a2f3270c1bf3"), looks := false }, kinds := [], alts := [], laidByText := true, laidKinds := [.data], laidTests := true, laidLooks := .later }
def TourGreedyUptoCardSaid : Prop := Claim7.holds Tryd.pinned (.plain (OpenSpec.upto tourGreedySpec)) tourGreedyUptoCard
end Rows
end Go.Proofs.YtebgliipeaelhaaDoor
