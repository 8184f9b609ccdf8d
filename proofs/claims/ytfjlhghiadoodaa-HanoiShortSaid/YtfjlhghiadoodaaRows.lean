/-
  No cell of these rows narrows 'for every input' (looked for: loops, veiled, ifaces, maps, wideKeys, modest, calm, conditions, laid).
  DERIVED. THE GIVEN ROWS OF THIS SEAT. 3 by the template 'for every input the law returns true; each argument reads behind the call as it read before'; 0 by the template 'total and deterministic' (their statements: YtfjlhghiadoodaaTotals.lean).
  GIVEN WITH THE SEED: the statements are not yours to turn. If you find one false, say at which input.
  Laid BY PROGRAM, IN A SANDBOX (cutbox-rows.mjs): the forced cells as the released guide's own fill.sh prints them over the translation b34dadd0337a0c1d… (all of the seat's roots in one cut). By AI agents, Wed Nov 11 2026. No macro, syntax, notation, axiom, sorry.
-/
import Derived.Test.YtfjlhghiadoodaaChecked
import GoSem.Claim
import GoSem.ClaimJoined
import GoSem.ClaimMapViews
import Derived.JoinedTies
import Derived.KernelRfl
namespace Go.Proofs.Ytfjlhghiadoodaa
/- THE CELL 'sum', in the pinned program and in every row, IS THE sha256 OF THE DUMP (.gsa) THAT YtfjlhghiadoodaaProg.lean LOADS. Nothing in Lean hashes anything: it is a label: what it is worth is what the hold of that sum in a sandbox is worth. -/
noncomputable def Try.pinned : Pinned := { name := "ytfjlhghiadoodaa", sum := "b34dadd0337a0c1d095bd872e44c0ca5458bb43edc04652651f7e33b0912ae80", checked := Try.checked }
namespace Rows
def none {H : Type} : Left H := { results := [], args := [] }

/-- 'gameroomkeep.HanoiFar': WHATEVER THE INPUT: true; the input reads as it did. -/
def hanoiFarSpec : ChangeSpec := { name := "hanoiFar", fn := fun _ => fun
  | [d1, d2, d3, d4] => { results := [.lit (.bool true)], args := [d1, d2, d3, d4] }
  | _ => none }
def hanoiFarRow : OpenClaim := { program := "ytfjlhghiadoodaa", sum := "b34dadd0337a0c1d095bd872e44c0ca5458bb43edc04652651f7e33b0912ae80", func := "gameroom/gameroomkeep.HanoiFar", spec := "hanoiFar", unfollowed := true, recurses := true, apart := false }
def HanoiFarSaid : Prop := hanoiFarRow.holds Try.pinned (OpenSpec.ofChange hanoiFarSpec)

/-- ITS FALSE NEIGHBOUR: 'it returns false'. Refute it at one input. -/
def hanoiFarWrong : ChangeSpec := { name := "hanoiFar", fn := fun _ => fun
  | [d1, d2, d3, d4] => { results := [.lit (.bool false)], args := [d1, d2, d3, d4] }
  | _ => none }
def HanoiFarWrongFalsely : Prop := hanoiFarRow.holds Try.pinned (OpenSpec.ofChange hanoiFarWrong)

/-- 'gameroomkeep.HanoiSteps': WHATEVER THE INPUT: true; the input reads as it did. -/
def hanoiStepsSpec : ChangeSpec := { name := "hanoiSteps", fn := fun _ => fun
  | [d1, d2, d3, d4] => { results := [.lit (.bool true)], args := [d1, d2, d3, d4] }
  | _ => none }
def hanoiStepsRow : OpenClaim := { program := "ytfjlhghiadoodaa", sum := "b34dadd0337a0c1d095bd872e44c0ca5458bb43edc04652651f7e33b0912ae80", func := "gameroom/gameroomkeep.HanoiSteps", spec := "hanoiSteps", unfollowed := true, recurses := true, apart := false }
def HanoiStepsSaid : Prop := hanoiStepsRow.holds Try.pinned (OpenSpec.ofChange hanoiStepsSpec)

/-- ITS FALSE NEIGHBOUR: 'it returns false'. Refute it at one input. -/
def hanoiStepsWrong : ChangeSpec := { name := "hanoiSteps", fn := fun _ => fun
  | [d1, d2, d3, d4] => { results := [.lit (.bool false)], args := [d1, d2, d3, d4] }
  | _ => none }
def HanoiStepsWrongFalsely : Prop := hanoiStepsRow.holds Try.pinned (OpenSpec.ofChange hanoiStepsWrong)

/-- 'gameroomkeep.HanoiShort': WHATEVER THE INPUT: true; the input reads as it did. -/
def hanoiShortSpec : ChangeSpec := { name := "hanoiShort", fn := fun _ => fun
  | [d1, d2] => { results := [.lit (.bool true)], args := [d1, d2] }
  | _ => none }
def hanoiShortRow : OpenClaim := { program := "ytfjlhghiadoodaa", sum := "b34dadd0337a0c1d095bd872e44c0ca5458bb43edc04652651f7e33b0912ae80", func := "gameroom/gameroomkeep.HanoiShort", spec := "hanoiShort", unfollowed := true, recurses := true, apart := false }
def HanoiShortSaid : Prop := hanoiShortRow.holds Try.pinned (OpenSpec.ofChange hanoiShortSpec)

/-- ITS FALSE NEIGHBOUR: 'it returns false'. Refute it at one input. -/
def hanoiShortWrong : ChangeSpec := { name := "hanoiShort", fn := fun _ => fun
  | [d1, d2] => { results := [.lit (.bool false)], args := [d1, d2] }
  | _ => none }
def HanoiShortWrongFalsely : Prop := hanoiShortRow.holds Try.pinned (OpenSpec.ofChange hanoiShortWrong)

/- THE SECOND FORM. 'bulk': how many values and letters a reading holds, each counted each time it is reached (what is shared counts as often as it is met; a slice's spare places count too). A statement '..UptoSaid' is the law's where the arguments, and the package variables that the reading takes, are together of bulk at most 1048576: NARROWER than '..Said'. Prove '..Said' where nothing that the law and all that it calls make is longer than what came in: it says more and counts as full. Else prove '..UptoSaid'. A law counts once. -/
mutual
def uptoBulk {H : Type} : DataW H → Nat
  | .lit (.string bytes) => bytes.length + 1
  | .lit _ => 1
  | .nil => 1
  | .ptr d => uptoBulk d + 1
  | .slice elems spare => uptoBulkAll elems + uptoBulkAll spare + 1
  | .agg parts => uptoBulkAll parts + 1
  | .iface _ d => uptoBulk d + 1
  | .map entries => uptoBulkEntries entries + 1
  | .held _ => 1
def uptoBulkAll {H : Type} : List (DataW H) → Nat
  | [] => 0
  | d :: r => uptoBulk d + uptoBulkAll r
def uptoBulkEntries {H : Type} : List (Lit × DataW H) → Nat
  | [] => 0
  | x :: r => uptoBulkEntry x + uptoBulkEntries r
def uptoBulkEntry {H : Type} : Lit × DataW H → Nat
  | (.string bytes, d) => bytes.length + uptoBulk d + 1
  | (_, d) => uptoBulk d + 1
 end
def uptoSmall : (H : Type) → List (DataW H) → Bool := fun _ ds => decide (uptoBulkAll ds ≤ 1048576)
def OpenSpec.upto (s : _root_.Go.ChangeSpec) : _root_.Go.OpenSpec := { _root_.Go.OpenSpec.ofChange s with cond := some uptoSmall }

/-- 'gameroomkeep.HanoiFar', WHERE WHAT IT READS IS OF BULK AT MOST 1048576: true; the input reads as it did. -/
def hanoiFarUptoRow : OpenClaim := { program := "ytfjlhghiadoodaa", sum := "b34dadd0337a0c1d095bd872e44c0ca5458bb43edc04652651f7e33b0912ae80", func := "gameroom/gameroomkeep.HanoiFar", spec := "hanoiFar", unfollowed := true, recurses := true, apart := false, narrowed := true }
def HanoiFarUptoSaid : Prop := hanoiFarUptoRow.holds Try.pinned (OpenSpec.upto hanoiFarSpec)

/-- 'gameroomkeep.HanoiSteps', WHERE WHAT IT READS IS OF BULK AT MOST 1048576: true; the input reads as it did. -/
def hanoiStepsUptoRow : OpenClaim := { program := "ytfjlhghiadoodaa", sum := "b34dadd0337a0c1d095bd872e44c0ca5458bb43edc04652651f7e33b0912ae80", func := "gameroom/gameroomkeep.HanoiSteps", spec := "hanoiSteps", unfollowed := true, recurses := true, apart := false, narrowed := true }
def HanoiStepsUptoSaid : Prop := hanoiStepsUptoRow.holds Try.pinned (OpenSpec.upto hanoiStepsSpec)

/-- 'gameroomkeep.HanoiShort', WHERE WHAT IT READS IS OF BULK AT MOST 1048576: true; the input reads as it did. -/
def hanoiShortUptoRow : OpenClaim := { program := "ytfjlhghiadoodaa", sum := "b34dadd0337a0c1d095bd872e44c0ca5458bb43edc04652651f7e33b0912ae80", func := "gameroom/gameroomkeep.HanoiShort", spec := "hanoiShort", unfollowed := true, recurses := true, apart := false, narrowed := true }
def HanoiShortUptoSaid : Prop := hanoiShortUptoRow.holds Try.pinned (OpenSpec.upto hanoiShortSpec)

end Rows
end Go.Proofs.Ytfjlhghiadoodaa
