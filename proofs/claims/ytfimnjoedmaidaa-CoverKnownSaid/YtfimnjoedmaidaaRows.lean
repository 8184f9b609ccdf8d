/-
  No cell of these rows narrows 'for every input' (looked for: loops, veiled, ifaces, maps, wideKeys, modest, calm, conditions, laid).
  DERIVED. THE GIVEN ROWS OF THIS SEAT. 3 by the template 'for every input the law returns true; each argument reads behind the call as it read before'; 0 by the template 'total and deterministic' (their statements: YtfimnjoedmaidaaTotals.lean).
  GIVEN WITH THE SEED: the statements are not yours to turn. If you find one false, say at which input.
  Laid BY PROGRAM, IN A SANDBOX (cutbox-rows.mjs): the forced cells as the released guide's own fill.sh prints them over the translation 3f7b9e584d8e2608… (all of the seat's roots in one cut). By AI agents, Wed Nov 11 2026. No macro, syntax, notation, axiom, sorry.
-/
import Derived.Test.YtfimnjoedmaidaaChecked
import GoSem.Claim
import GoSem.ClaimJoined
import GoSem.ClaimMapViews
import Derived.JoinedTies
import Derived.KernelRfl
namespace Go.Proofs.Ytfimnjoedmaidaa
/- THE CELL 'sum', in the pinned program and in every row, IS THE sha256 OF THE DUMP (.gsa) THAT YtfimnjoedmaidaaProg.lean LOADS. Nothing in Lean hashes anything: it is a label: what it is worth is what the hold of that sum in a sandbox is worth. -/
noncomputable def Try.pinned : Pinned := { name := "ytfimnjoedmaidaa", sum := "3f7b9e584d8e260807e736d42eae342ad1e6de3fd7c0cdd4c7dca0e65edbbe2d", checked := Try.checked }
namespace Rows
def none {H : Type} : Left H := { results := [], args := [] }

/-- 'gameroomkeep.CoverKnown': WHATEVER THE INPUT: true; the input reads as it did. -/
def coverKnownSpec : ChangeSpec := { name := "coverKnown", fn := fun _ => fun
  | [d1, d2] => { results := [.lit (.bool true)], args := [d1, d2] }
  | _ => none }
def coverKnownRow : OpenClaim := { program := "ytfimnjoedmaidaa", sum := "3f7b9e584d8e260807e736d42eae342ad1e6de3fd7c0cdd4c7dca0e65edbbe2d", func := "gameroom/gameroomkeep.CoverKnown", spec := "coverKnown", unfollowed := true, recurses := true, apart := false }
def CoverKnownSaid : Prop := coverKnownRow.holds Try.pinned (OpenSpec.ofChange coverKnownSpec)

/-- ITS FALSE NEIGHBOUR: 'it returns false'. Refute it at one input. -/
def coverKnownWrong : ChangeSpec := { name := "coverKnown", fn := fun _ => fun
  | [d1, d2] => { results := [.lit (.bool false)], args := [d1, d2] }
  | _ => none }
def CoverKnownWrongFalsely : Prop := coverKnownRow.holds Try.pinned (OpenSpec.ofChange coverKnownWrong)

/-- 'gameroomkeep.CoverLess': WHATEVER THE INPUT: true; the input reads as it did. -/
def coverLessSpec : ChangeSpec := { name := "coverLess", fn := fun _ => fun
  | [d1, d2, d3, d4] => { results := [.lit (.bool true)], args := [d1, d2, d3, d4] }
  | _ => none }
def coverLessRow : OpenClaim := { program := "ytfimnjoedmaidaa", sum := "3f7b9e584d8e260807e736d42eae342ad1e6de3fd7c0cdd4c7dca0e65edbbe2d", func := "gameroom/gameroomkeep.CoverLess", spec := "coverLess", unfollowed := true, recurses := true, apart := false }
def CoverLessSaid : Prop := coverLessRow.holds Try.pinned (OpenSpec.ofChange coverLessSpec)

/-- ITS FALSE NEIGHBOUR: 'it returns false'. Refute it at one input. -/
def coverLessWrong : ChangeSpec := { name := "coverLess", fn := fun _ => fun
  | [d1, d2, d3, d4] => { results := [.lit (.bool false)], args := [d1, d2, d3, d4] }
  | _ => none }
def CoverLessWrongFalsely : Prop := coverLessRow.holds Try.pinned (OpenSpec.ofChange coverLessWrong)

/-- 'gameroomkeep.CoverOne': WHATEVER THE INPUT: true; the input reads as it did. -/
def coverOneSpec : ChangeSpec := { name := "coverOne", fn := fun _ => fun
  | [d1, d2] => { results := [.lit (.bool true)], args := [d1, d2] }
  | _ => none }
def coverOneRow : OpenClaim := { program := "ytfimnjoedmaidaa", sum := "3f7b9e584d8e260807e736d42eae342ad1e6de3fd7c0cdd4c7dca0e65edbbe2d", func := "gameroom/gameroomkeep.CoverOne", spec := "coverOne", unfollowed := true, recurses := true, apart := false }
def CoverOneSaid : Prop := coverOneRow.holds Try.pinned (OpenSpec.ofChange coverOneSpec)

/-- ITS FALSE NEIGHBOUR: 'it returns false'. Refute it at one input. -/
def coverOneWrong : ChangeSpec := { name := "coverOne", fn := fun _ => fun
  | [d1, d2] => { results := [.lit (.bool false)], args := [d1, d2] }
  | _ => none }
def CoverOneWrongFalsely : Prop := coverOneRow.holds Try.pinned (OpenSpec.ofChange coverOneWrong)

/- THE SECOND FORM. 'bulk': how many values and letters a reading holds, each counted each time it is reached (what is shared counts as often as it is met; a slice's spare places count too). A statement '..UptoSaid' is the law's where the arguments, and the package variables that the reading takes, are together of bulk at most 1048576: NARROWER than '..Said'. Prove '..Said' where nothing that the law and all that it calls make is longer than what came in: it says more and counts as full. Else prove '..UptoSaid'. A law counts once. -/
mutual
def uptoBulk {H : Type} : DataW H → Nat
  | .lit (.string bytes) => bytes.length + 1
  | .lit _ => 1
  | .nil => 1
  | .ptr d => uptoBulk d + 1
  | .slice elems spare => uptoBulkAll elems + uptoBulkAll spare + 1
  | .agg parts => uptoBulkAll parts + 1
  | .iface _ d => uptoBulk d + 1
  | .map entries => uptoBulkEntries entries + 1
  | .held _ => 1
def uptoBulkAll {H : Type} : List (DataW H) → Nat
  | [] => 0
  | d :: r => uptoBulk d + uptoBulkAll r
def uptoBulkEntries {H : Type} : List (Lit × DataW H) → Nat
  | [] => 0
  | x :: r => uptoBulkEntry x + uptoBulkEntries r
def uptoBulkEntry {H : Type} : Lit × DataW H → Nat
  | (.string bytes, d) => bytes.length + uptoBulk d + 1
  | (_, d) => uptoBulk d + 1
 end
def uptoSmall : (H : Type) → List (DataW H) → Bool := fun _ ds => decide (uptoBulkAll ds ≤ 1048576)
def OpenSpec.upto (s : _root_.Go.ChangeSpec) : _root_.Go.OpenSpec := { _root_.Go.OpenSpec.ofChange s with cond := some uptoSmall }

/-- 'gameroomkeep.CoverKnown', WHERE WHAT IT READS IS OF BULK AT MOST 1048576: true; the input reads as it did. -/
def coverKnownUptoRow : OpenClaim := { program := "ytfimnjoedmaidaa", sum := "3f7b9e584d8e260807e736d42eae342ad1e6de3fd7c0cdd4c7dca0e65edbbe2d", func := "gameroom/gameroomkeep.CoverKnown", spec := "coverKnown", unfollowed := true, recurses := true, apart := false, narrowed := true }
def CoverKnownUptoSaid : Prop := coverKnownUptoRow.holds Try.pinned (OpenSpec.upto coverKnownSpec)

/-- 'gameroomkeep.CoverLess', WHERE WHAT IT READS IS OF BULK AT MOST 1048576: true; the input reads as it did. -/
def coverLessUptoRow : OpenClaim := { program := "ytfimnjoedmaidaa", sum := "3f7b9e584d8e260807e736d42eae342ad1e6de3fd7c0cdd4c7dca0e65edbbe2d", func := "gameroom/gameroomkeep.CoverLess", spec := "coverLess", unfollowed := true, recurses := true, apart := false, narrowed := true }
def CoverLessUptoSaid : Prop := coverLessUptoRow.holds Try.pinned (OpenSpec.upto coverLessSpec)

/-- 'gameroomkeep.CoverOne', WHERE WHAT IT READS IS OF BULK AT MOST 1048576: true; the input reads as it did. -/
def coverOneUptoRow : OpenClaim := { program := "ytfimnjoedmaidaa", sum := "3f7b9e584d8e260807e736d42eae342ad1e6de3fd7c0cdd4c7dca0e65edbbe2d", func := "gameroom/gameroomkeep.CoverOne", spec := "coverOne", unfollowed := true, recurses := true, apart := false, narrowed := true }
def CoverOneUptoSaid : Prop := coverOneUptoRow.holds Try.pinned (OpenSpec.upto coverOneSpec)

end Rows
end Go.Proofs.Ytfimnjoedmaidaa
