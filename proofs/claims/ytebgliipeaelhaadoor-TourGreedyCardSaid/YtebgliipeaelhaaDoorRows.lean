/-
  NARROWER THAN 'FOR EVERY INPUT', by the rows' own cells (each row's printed sentence says how): TourColour: laid · TourGreedy: laid.
  DERIVED. THE GIVEN ROWS OF THIS SEAT. 2 by the template 'for every input the law returns true; each argument reads behind the call as it read before'; 0 by the template 'total and deterministic' (their statements: YtebgliipeaelhaaDoorTotals.lean).
  GIVEN WITH THE SEED: the statements are not yours to turn. If you find one false, say at which input.
  Laid BY PROGRAM, IN A SANDBOX (cutbox-rows.mjs): the forced cells as the released guide's own fill.sh prints them over the translation 22484165910dbfd3… (all of the seat's roots in one cut). By AI agents, Wed Nov 11 2026. No macro, syntax, notation, axiom, sorry.
-/
import Derived.Test.YtebgliipeaelhaaDoorChecked
import GoSem.Claim
import GoSem.ClaimJoined
import GoSem.ClaimMapViews
import Derived.JoinedTies
import Derived.KernelRfl
namespace Go.Proofs.YtebgliipeaelhaaDoor
/- THE CELL 'sum', in the pinned program and in every row, IS THE sha256 OF THE DUMP (.gsa) THAT YtebgliipeaelhaaDoorProg.lean LOADS. Nothing in Lean hashes anything: it is a label: what it is worth is what the hold of that sum in a sandbox is worth. -/
noncomputable def Tryd.pinned : Pinned := { name := "ytebgliipeaelhaadoor", sum := "22484165910dbfd352ee348343516903aa4a461a1af43e373074ecbf9c4fbb8e", checked := Tryd.checked }
namespace Rows
def none {H : Type} : Left H := { results := [], args := [] }

/- WHAT THE LISTED PACKAGE-LEVEL VARIABLES READ AS WHEN THE CALL BEGINS. Each datum BY PROGRAM (the guide's laid-datum.mjs) off the statement by which the dump's own 'gosem.cut.vars' lays the variable. In a bare row this is a premise. The card (YtebgliipeaelhaaDoorCards.lean) ties it to the program's text. -/
def laid_gameroom_tour_leaps {H : Type} : DataW H := .agg [.agg [.lit (.int .i64 (-1)), .lit (.int .i64 (-2))], .agg [.lit (.int .i64 1), .lit (.int .i64 (-2))], .agg [.lit (.int .i64 (-2)), .lit (.int .i64 (-1))], .agg [.lit (.int .i64 2), .lit (.int .i64 (-1))], .agg [.lit (.int .i64 (-2)), .lit (.int .i64 1)], .agg [.lit (.int .i64 2), .lit (.int .i64 1)], .agg [.lit (.int .i64 (-1)), .lit (.int .i64 2)], .agg [.lit (.int .i64 1), .lit (.int .i64 2)]]

/-- 'gameroomkeep.TourColour': WHATEVER THE INPUT: true; the input reads as it did. -/
def tourColourSpec : ChangeSpec := { name := "tourColour", fn := fun _ => fun
  | [d1, d2, d3, d4, d5] => { results := [.lit (.bool true)], args := [d1, d2, d3, d4, d5] }
  | _ => none }
def tourColourRow : OpenClaim := { program := "ytebgliipeaelhaadoor", sum := "22484165910dbfd352ee348343516903aa4a461a1af43e373074ecbf9c4fbb8e", func := "gameroom/gameroomkeep.TourColour", spec := "tourColour", unfollowed := true, recurses := true, named := ["gameroom/tour.leaps"], apart := false, laid := [("gameroom/tour.leaps", laid_gameroom_tour_leaps)] }
def TourColourSaid : Prop := tourColourRow.holds Tryd.pinned (OpenSpec.ofChange tourColourSpec)

/-- ITS FALSE NEIGHBOUR: 'it returns false'. Refute it at one input. -/
def tourColourWrong : ChangeSpec := { name := "tourColour", fn := fun _ => fun
  | [d1, d2, d3, d4, d5] => { results := [.lit (.bool false)], args := [d1, d2, d3, d4, d5] }
  | _ => none }
def TourColourWrongFalsely : Prop := tourColourRow.holds Tryd.pinned (OpenSpec.ofChange tourColourWrong)

/-- 'gameroomkeep.TourGreedy': WHATEVER THE INPUT: true; the input reads as it did. -/
def tourGreedySpec : ChangeSpec := { name := "tourGreedy", fn := fun _ => fun
  | [d1, d2, d3] => { results := [.lit (.bool true)], args := [d1, d2, d3] }
  | _ => none }
def tourGreedyRow : OpenClaim := { program := "ytebgliipeaelhaadoor", sum := "22484165910dbfd352ee348343516903aa4a461a1af43e373074ecbf9c4fbb8e", func := "gameroom/gameroomkeep.TourGreedy", spec := "tourGreedy", unfollowed := true, recurses := true, named := ["gameroom/tour.leaps"], apart := false, laid := [("gameroom/tour.leaps", laid_gameroom_tour_leaps)] }
def TourGreedySaid : Prop := tourGreedyRow.holds Tryd.pinned (OpenSpec.ofChange tourGreedySpec)

/-- ITS FALSE NEIGHBOUR: 'it returns false'. Refute it at one input. -/
def tourGreedyWrong : ChangeSpec := { name := "tourGreedy", fn := fun _ => fun
  | [d1, d2, d3] => { results := [.lit (.bool false)], args := [d1, d2, d3] }
  | _ => none }
def TourGreedyWrongFalsely : Prop := tourGreedyRow.holds Tryd.pinned (OpenSpec.ofChange tourGreedyWrong)

/- THE SECOND FORM. 'bulk': how many values and letters a reading holds, each counted each time it is reached (what is shared counts as often as it is met; a slice's spare places count too). A statement '..UptoSaid' is the law's where the arguments, and the package variables that the reading takes, are together of bulk at most 1048576: NARROWER than '..Said'. Prove '..Said' where nothing that the law and all that it calls make is longer than what came in: it says more and counts as full. Else prove '..UptoSaid'. A law counts once. -/
mutual
def uptoBulk {H : Type} : DataW H → Nat
  | .lit (.string bytes) => bytes.length + 1
  | .lit _ => 1
  | .nil => 1
  | .ptr d => uptoBulk d + 1
  | .slice elems spare => uptoBulkAll elems + uptoBulkAll spare + 1
  | .agg parts => uptoBulkAll parts + 1
  | .iface _ d => uptoBulk d + 1
  | .map entries => uptoBulkEntries entries + 1
  | .held _ => 1
def uptoBulkAll {H : Type} : List (DataW H) → Nat
  | [] => 0
  | d :: r => uptoBulk d + uptoBulkAll r
def uptoBulkEntries {H : Type} : List (Lit × DataW H) → Nat
  | [] => 0
  | x :: r => uptoBulkEntry x + uptoBulkEntries r
def uptoBulkEntry {H : Type} : Lit × DataW H → Nat
  | (.string bytes, d) => bytes.length + uptoBulk d + 1
  | (_, d) => uptoBulk d + 1
 end
def uptoSmall : (H : Type) → List (DataW H) → Bool := fun _ ds => decide (uptoBulkAll ds ≤ 1048576)
def OpenSpec.upto (s : _root_.Go.ChangeSpec) : _root_.Go.OpenSpec := { _root_.Go.OpenSpec.ofChange s with cond := some uptoSmall }

/-- 'gameroomkeep.TourColour', WHERE WHAT IT READS IS OF BULK AT MOST 1048576: true; the input reads as it did. -/
def tourColourUptoRow : OpenClaim := { program := "ytebgliipeaelhaadoor", sum := "22484165910dbfd352ee348343516903aa4a461a1af43e373074ecbf9c4fbb8e", func := "gameroom/gameroomkeep.TourColour", spec := "tourColour", unfollowed := true, recurses := true, named := ["gameroom/tour.leaps"], apart := false, laid := [("gameroom/tour.leaps", laid_gameroom_tour_leaps)], narrowed := true }
def TourColourUptoSaid : Prop := tourColourUptoRow.holds Tryd.pinned (OpenSpec.upto tourColourSpec)

/-- 'gameroomkeep.TourGreedy', WHERE WHAT IT READS IS OF BULK AT MOST 1048576: true; the input reads as it did. -/
def tourGreedyUptoRow : OpenClaim := { program := "ytebgliipeaelhaadoor", sum := "22484165910dbfd352ee348343516903aa4a461a1af43e373074ecbf9c4fbb8e", func := "gameroom/gameroomkeep.TourGreedy", spec := "tourGreedy", unfollowed := true, recurses := true, named := ["gameroom/tour.leaps"], apart := false, laid := [("gameroom/tour.leaps", laid_gameroom_tour_leaps)], narrowed := true }
def TourGreedyUptoSaid : Prop := tourGreedyUptoRow.holds Tryd.pinned (OpenSpec.upto tourGreedySpec)

end Rows
end Go.Proofs.YtebgliipeaelhaaDoor
