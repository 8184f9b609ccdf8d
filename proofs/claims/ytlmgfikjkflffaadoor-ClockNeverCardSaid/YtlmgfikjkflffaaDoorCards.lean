/-
  DERIVED. GIVEN WITH THE SEED: THE CARDS: each row of YtlmgfikjkflffaaDoorRows.lean that lists a variable, with what it lists TIED to the program's text (the seventh form; the later family's looks); each row that meets fmt, with fmt's text TOLD by the authors' own Lean function (tested against real Go, not proved from fmt's source: count such statements apart). THE CARD IS WHAT COUNTS. Prove the row's statement (the work); the ties are given (YtlmgfikjkflffaaDoorTie.lean); close each card by the builder's one call (the guide's Derived/Test/ToyasCard.lean, 'card_holds'). Laid BY PROGRAM, IN A SANDBOX (cutbox-door.mjs). By AI agents, Wed Nov 11 2026. No macro, syntax, notation, axiom, sorry.
-/
import Derived.Test.YtlmgfikjkflffaaDoorRows
import GoSem.ClaimSeven
namespace Go.Proofs.YtlmgfikjkflffaaDoor
namespace Rows

/-- THE TIED CARD OF 'gameroomkeep.ClockNever'. -/
def clockNeverCard : Claim7 := { stood := { row := clockNeverRow, standIns := [], harness := (true, "7af9c10df54fc4479aa8ae9fe69dfca9d0b2863078684a67758fc00c460181b2"), looks := true }, kinds := [], alts := [], laidByText := true, laidKinds := [.data, .data, .data, .data, .sentinel, .sentinel, .pinned], laidTests := true, laidLooks := .later }
def ClockNeverCardSaid : Prop := Claim7.holds Tryd.pinned (.plain (OpenSpec.ofChange clockNeverSpec)) clockNeverCard

/-- THE SECOND FORM's CARD OF 'gameroomkeep.ClockNever'. -/
def clockNeverUptoCard : Claim7 := { stood := { row := clockNeverUptoRow, standIns := [], harness := (true, "7af9c10df54fc4479aa8ae9fe69dfca9d0b2863078684a67758fc00c460181b2"), looks := true }, kinds := [], alts := [], laidByText := true, laidKinds := [.data, .data, .data, .data, .sentinel, .sentinel, .pinned], laidTests := true, laidLooks := .later }
def ClockNeverUptoCardSaid : Prop := Claim7.holds Tryd.pinned (.plain (OpenSpec.upto clockNeverSpec)) clockNeverUptoCard
end Rows
end Go.Proofs.YtlmgfikjkflffaaDoor
