/-
  No cell of these rows narrows 'for every input' (looked for: loops, veiled, ifaces, maps, wideKeys, modest, calm, conditions, laid).
  DERIVED. THE GIVEN ROWS OF THIS SEAT. 3 by the template 'for every input the law returns true; each argument reads behind the call as it read before'; 0 by the template 'total and deterministic' (their statements: YtefjliblaeadfaaTotals.lean).
  GIVEN WITH THE SEED: the statements are not yours to turn. If you find one false, say at which input.
  Laid BY PROGRAM, IN A SANDBOX (cutbox-rows.mjs): the forced cells as the released guide's own fill.sh prints them over the translation edc2551a8cb289c0… (all of the seat's roots in one cut). By AI agents, Wed Nov 11 2026. No macro, syntax, notation, axiom, sorry.
-/
import Derived.Test.YtefjliblaeadfaaChecked
import GoSem.Claim
import GoSem.ClaimJoined
import GoSem.ClaimMapViews
import Derived.JoinedTies
import Derived.KernelRfl
namespace Go.Proofs.Ytefjliblaeadfaa
/- THE CELL 'sum', in the pinned program and in every row, IS THE sha256 OF THE DUMP (.gsa) THAT YtefjliblaeadfaaProg.lean LOADS. Nothing in Lean hashes anything: it is a label: what it is worth is what the hold of that sum in a sandbox is worth. -/
noncomputable def Try.pinned : Pinned := { name := "ytefjliblaeadfaa", sum := "edc2551a8cb289c002309043f29f0bc5d58eb3c2e9926d7b2f699383f9be2db5", checked := Try.checked }
namespace Rows
def none {H : Type} : Left H := { results := [], args := [] }

/-- 'gameroomkeep.StonesKo': WHATEVER THE INPUT: true; the input reads as it did. -/
def stonesKoSpec : ChangeSpec := { name := "stonesKo", fn := fun _ => fun
  | [d1, d2] => { results := [.lit (.bool true)], args := [d1, d2] }
  | _ => none }
def stonesKoRow : OpenClaim := { program := "ytefjliblaeadfaa", sum := "edc2551a8cb289c002309043f29f0bc5d58eb3c2e9926d7b2f699383f9be2db5", func := "gameroom/gameroomkeep.StonesKo", spec := "stonesKo", unfollowed := true, recurses := true, apart := false }
def StonesKoSaid : Prop := stonesKoRow.holds Try.pinned (OpenSpec.ofChange stonesKoSpec)

/-- ITS FALSE NEIGHBOUR: 'it returns false'. Refute it at one input. -/
def stonesKoWrong : ChangeSpec := { name := "stonesKo", fn := fun _ => fun
  | [d1, d2] => { results := [.lit (.bool false)], args := [d1, d2] }
  | _ => none }
def StonesKoWrongFalsely : Prop := stonesKoRow.holds Try.pinned (OpenSpec.ofChange stonesKoWrong)

/-- 'gameroomkeep.StonesFree': WHATEVER THE INPUT: true; the input reads as it did. -/
def stonesFreeSpec : ChangeSpec := { name := "stonesFree", fn := fun _ => fun
  | [d1, d2, d3] => { results := [.lit (.bool true)], args := [d1, d2, d3] }
  | _ => none }
def stonesFreeRow : OpenClaim := { program := "ytefjliblaeadfaa", sum := "edc2551a8cb289c002309043f29f0bc5d58eb3c2e9926d7b2f699383f9be2db5", func := "gameroom/gameroomkeep.StonesFree", spec := "stonesFree", unfollowed := true, recurses := true, apart := false }
def StonesFreeSaid : Prop := stonesFreeRow.holds Try.pinned (OpenSpec.ofChange stonesFreeSpec)

/-- ITS FALSE NEIGHBOUR: 'it returns false'. Refute it at one input. -/
def stonesFreeWrong : ChangeSpec := { name := "stonesFree", fn := fun _ => fun
  | [d1, d2, d3] => { results := [.lit (.bool false)], args := [d1, d2, d3] }
  | _ => none }
def StonesFreeWrongFalsely : Prop := stonesFreeRow.holds Try.pinned (OpenSpec.ofChange stonesFreeWrong)

/-- 'gameroomkeep.StonesAlive': WHATEVER THE INPUT: true; the input reads as it did. -/
def stonesAliveSpec : ChangeSpec := { name := "stonesAlive", fn := fun _ => fun
  | [d1, d2, d3] => { results := [.lit (.bool true)], args := [d1, d2, d3] }
  | _ => none }
def stonesAliveRow : OpenClaim := { program := "ytefjliblaeadfaa", sum := "edc2551a8cb289c002309043f29f0bc5d58eb3c2e9926d7b2f699383f9be2db5", func := "gameroom/gameroomkeep.StonesAlive", spec := "stonesAlive", unfollowed := true, recurses := true, apart := false }
def StonesAliveSaid : Prop := stonesAliveRow.holds Try.pinned (OpenSpec.ofChange stonesAliveSpec)

/-- ITS FALSE NEIGHBOUR: 'it returns false'. Refute it at one input. -/
def stonesAliveWrong : ChangeSpec := { name := "stonesAlive", fn := fun _ => fun
  | [d1, d2, d3] => { results := [.lit (.bool false)], args := [d1, d2, d3] }
  | _ => none }
def StonesAliveWrongFalsely : Prop := stonesAliveRow.holds Try.pinned (OpenSpec.ofChange stonesAliveWrong)

/- THE SECOND FORM. 'bulk': how many values and letters a reading holds, each counted each time it is reached (what is shared counts as often as it is met; a slice's spare places count too). A statement '..UptoSaid' is the law's where the arguments, and the package variables that the reading takes, are together of bulk at most 1048576: NARROWER than '..Said'. Prove '..Said' where nothing that the law and all that it calls make is longer than what came in: it says more and counts as full. Else prove '..UptoSaid'. A law counts once. -/
mutual
def uptoBulk {H : Type} : DataW H → Nat
  | .lit (.string bytes) => bytes.length + 1
  | .lit _ => 1
  | .nil => 1
  | .ptr d => uptoBulk d + 1
  | .slice elems spare => uptoBulkAll elems + uptoBulkAll spare + 1
  | .agg parts => uptoBulkAll parts + 1
  | .iface _ d => uptoBulk d + 1
  | .map entries => uptoBulkEntries entries + 1
  | .held _ => 1
def uptoBulkAll {H : Type} : List (DataW H) → Nat
  | [] => 0
  | d :: r => uptoBulk d + uptoBulkAll r
def uptoBulkEntries {H : Type} : List (Lit × DataW H) → Nat
  | [] => 0
  | x :: r => uptoBulkEntry x + uptoBulkEntries r
def uptoBulkEntry {H : Type} : Lit × DataW H → Nat
  | (.string bytes, d) => bytes.length + uptoBulk d + 1
  | (_, d) => uptoBulk d + 1
 end
def uptoSmall : (H : Type) → List (DataW H) → Bool := fun _ ds => decide (uptoBulkAll ds ≤ 1048576)
def OpenSpec.upto (s : _root_.Go.ChangeSpec) : _root_.Go.OpenSpec := { _root_.Go.OpenSpec.ofChange s with cond := some uptoSmall }

/-- 'gameroomkeep.StonesKo', WHERE WHAT IT READS IS OF BULK AT MOST 1048576: true; the input reads as it did. -/
def stonesKoUptoRow : OpenClaim := { program := "ytefjliblaeadfaa", sum := "edc2551a8cb289c002309043f29f0bc5d58eb3c2e9926d7b2f699383f9be2db5", func := "gameroom/gameroomkeep.StonesKo", spec := "stonesKo", unfollowed := true, recurses := true, apart := false, narrowed := true }
def StonesKoUptoSaid : Prop := stonesKoUptoRow.holds Try.pinned (OpenSpec.upto stonesKoSpec)

/-- 'gameroomkeep.StonesFree', WHERE WHAT IT READS IS OF BULK AT MOST 1048576: true; the input reads as it did. -/
def stonesFreeUptoRow : OpenClaim := { program := "ytefjliblaeadfaa", sum := "edc2551a8cb289c002309043f29f0bc5d58eb3c2e9926d7b2f699383f9be2db5", func := "gameroom/gameroomkeep.StonesFree", spec := "stonesFree", unfollowed := true, recurses := true, apart := false, narrowed := true }
def StonesFreeUptoSaid : Prop := stonesFreeUptoRow.holds Try.pinned (OpenSpec.upto stonesFreeSpec)

/-- 'gameroomkeep.StonesAlive', WHERE WHAT IT READS IS OF BULK AT MOST 1048576: true; the input reads as it did. -/
def stonesAliveUptoRow : OpenClaim := { program := "ytefjliblaeadfaa", sum := "edc2551a8cb289c002309043f29f0bc5d58eb3c2e9926d7b2f699383f9be2db5", func := "gameroom/gameroomkeep.StonesAlive", spec := "stonesAlive", unfollowed := true, recurses := true, apart := false, narrowed := true }
def StonesAliveUptoSaid : Prop := stonesAliveUptoRow.holds Try.pinned (OpenSpec.upto stonesAliveSpec)

end Rows
end Go.Proofs.Ytefjliblaeadfaa
