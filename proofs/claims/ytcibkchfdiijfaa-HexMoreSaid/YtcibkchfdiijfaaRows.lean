/-
  No cell of these rows narrows 'for every input' (looked for: loops, veiled, ifaces, maps, wideKeys, modest, calm, conditions, laid).
  DERIVED. THE GIVEN ROWS OF THIS SEAT. 3 by the template 'for every input the law returns true; each argument reads behind the call as it read before'; 0 by the template 'total and deterministic' (their statements: YtcibkchfdiijfaaTotals.lean).
  GIVEN WITH THE SEED: the statements are not yours to turn. If you find one false, say at which input.
  Laid BY PROGRAM, IN A SANDBOX (cutbox-rows.mjs): the forced cells as the released guide's own fill.sh prints them over the translation fb349333f738c693… (all of the seat's roots in one cut). By AI agents, Wed Nov 11 2026. No macro, syntax, notation, axiom, sorry.
-/
import Derived.Test.YtcibkchfdiijfaaChecked
import GoSem.Claim
import GoSem.ClaimJoined
import GoSem.ClaimMapViews
import Derived.JoinedTies
import Derived.KernelRfl
namespace Go.Proofs.Ytcibkchfdiijfaa
/- THE CELL 'sum', in the pinned program and in every row, IS THE sha256 OF THE DUMP (.gsa) THAT YtcibkchfdiijfaaProg.lean LOADS. Nothing in Lean hashes anything: it is a label: what it is worth is what the hold of that sum in a sandbox is worth. -/
noncomputable def Try.pinned : Pinned := { name := "ytcibkchfdiijfaa", sum := "fb349333f738c6934d4a11916576bfd8c3bd711c8d5852cafec67223997955ad", checked := Try.checked }
namespace Rows
def none {H : Type} : Left H := { results := [], args := [] }

/-- 'gameroomkeep.HexMore': WHATEVER THE INPUT: true; the input reads as it did. -/
def hexMoreSpec : ChangeSpec := { name := "hexMore", fn := fun _ => fun
  | [d1, d2, d3] => { results := [.lit (.bool true)], args := [d1, d2, d3] }
  | _ => none }
def hexMoreRow : OpenClaim := { program := "ytcibkchfdiijfaa", sum := "fb349333f738c6934d4a11916576bfd8c3bd711c8d5852cafec67223997955ad", func := "gameroom/gameroomkeep.HexMore", spec := "hexMore", unfollowed := true, recurses := true, plainKeys := false, apart := false }
def HexMoreSaid : Prop := hexMoreRow.holds Try.pinned (OpenSpec.ofChange hexMoreSpec)

/-- ITS FALSE NEIGHBOUR: 'it returns false'. Refute it at one input. -/
def hexMoreWrong : ChangeSpec := { name := "hexMore", fn := fun _ => fun
  | [d1, d2, d3] => { results := [.lit (.bool false)], args := [d1, d2, d3] }
  | _ => none }
def HexMoreWrongFalsely : Prop := hexMoreRow.holds Try.pinned (OpenSpec.ofChange hexMoreWrong)

/-- 'gameroomkeep.HexOne': WHATEVER THE INPUT: true; the input reads as it did. -/
def hexOneSpec : ChangeSpec := { name := "hexOne", fn := fun _ => fun
  | [d1, d2] => { results := [.lit (.bool true)], args := [d1, d2] }
  | _ => none }
def hexOneRow : OpenClaim := { program := "ytcibkchfdiijfaa", sum := "fb349333f738c6934d4a11916576bfd8c3bd711c8d5852cafec67223997955ad", func := "gameroom/gameroomkeep.HexOne", spec := "hexOne", unfollowed := true, recurses := true, plainKeys := false, apart := false }
def HexOneSaid : Prop := hexOneRow.holds Try.pinned (OpenSpec.ofChange hexOneSpec)

/-- ITS FALSE NEIGHBOUR: 'it returns false'. Refute it at one input. -/
def hexOneWrong : ChangeSpec := { name := "hexOne", fn := fun _ => fun
  | [d1, d2] => { results := [.lit (.bool false)], args := [d1, d2] }
  | _ => none }
def HexOneWrongFalsely : Prop := hexOneRow.holds Try.pinned (OpenSpec.ofChange hexOneWrong)

/-- 'gameroomkeep.HexShort': WHATEVER THE INPUT: true; the input reads as it did. -/
def hexShortSpec : ChangeSpec := { name := "hexShort", fn := fun _ => fun
  | [d1, d2, d3] => { results := [.lit (.bool true)], args := [d1, d2, d3] }
  | _ => none }
def hexShortRow : OpenClaim := { program := "ytcibkchfdiijfaa", sum := "fb349333f738c6934d4a11916576bfd8c3bd711c8d5852cafec67223997955ad", func := "gameroom/gameroomkeep.HexShort", spec := "hexShort", unfollowed := true, recurses := true, plainKeys := false, apart := false }
def HexShortSaid : Prop := hexShortRow.holds Try.pinned (OpenSpec.ofChange hexShortSpec)

/-- ITS FALSE NEIGHBOUR: 'it returns false'. Refute it at one input. -/
def hexShortWrong : ChangeSpec := { name := "hexShort", fn := fun _ => fun
  | [d1, d2, d3] => { results := [.lit (.bool false)], args := [d1, d2, d3] }
  | _ => none }
def HexShortWrongFalsely : Prop := hexShortRow.holds Try.pinned (OpenSpec.ofChange hexShortWrong)

/- THE SECOND FORM. 'bulk': how many values and letters a reading holds, each counted each time it is reached (what is shared counts as often as it is met; a slice's spare places count too). A statement '..UptoSaid' is the law's where the arguments, and the package variables that the reading takes, are together of bulk at most 1048576: NARROWER than '..Said'. Prove '..Said' where nothing that the law and all that it calls make is longer than what came in: it says more and counts as full. Else prove '..UptoSaid'. A law counts once. -/
mutual
def uptoBulk {H : Type} : DataW H → Nat
  | .lit (.string bytes) => bytes.length + 1
  | .lit _ => 1
  | .nil => 1
  | .ptr d => uptoBulk d + 1
  | .slice elems spare => uptoBulkAll elems + uptoBulkAll spare + 1
  | .agg parts => uptoBulkAll parts + 1
  | .iface _ d => uptoBulk d + 1
  | .map entries => uptoBulkEntries entries + 1
  | .held _ => 1
def uptoBulkAll {H : Type} : List (DataW H) → Nat
  | [] => 0
  | d :: r => uptoBulk d + uptoBulkAll r
def uptoBulkEntries {H : Type} : List (Lit × DataW H) → Nat
  | [] => 0
  | x :: r => uptoBulkEntry x + uptoBulkEntries r
def uptoBulkEntry {H : Type} : Lit × DataW H → Nat
  | (.string bytes, d) => bytes.length + uptoBulk d + 1
  | (_, d) => uptoBulk d + 1
 end
def uptoSmall : (H : Type) → List (DataW H) → Bool := fun _ ds => decide (uptoBulkAll ds ≤ 1048576)
def OpenSpec.upto (s : _root_.Go.ChangeSpec) : _root_.Go.OpenSpec := { _root_.Go.OpenSpec.ofChange s with cond := some uptoSmall }

/-- 'gameroomkeep.HexMore', WHERE WHAT IT READS IS OF BULK AT MOST 1048576: true; the input reads as it did. -/
def hexMoreUptoRow : OpenClaim := { program := "ytcibkchfdiijfaa", sum := "fb349333f738c6934d4a11916576bfd8c3bd711c8d5852cafec67223997955ad", func := "gameroom/gameroomkeep.HexMore", spec := "hexMore", unfollowed := true, recurses := true, plainKeys := false, apart := false, narrowed := true }
def HexMoreUptoSaid : Prop := hexMoreUptoRow.holds Try.pinned (OpenSpec.upto hexMoreSpec)

/-- 'gameroomkeep.HexOne', WHERE WHAT IT READS IS OF BULK AT MOST 1048576: true; the input reads as it did. -/
def hexOneUptoRow : OpenClaim := { program := "ytcibkchfdiijfaa", sum := "fb349333f738c6934d4a11916576bfd8c3bd711c8d5852cafec67223997955ad", func := "gameroom/gameroomkeep.HexOne", spec := "hexOne", unfollowed := true, recurses := true, plainKeys := false, apart := false, narrowed := true }
def HexOneUptoSaid : Prop := hexOneUptoRow.holds Try.pinned (OpenSpec.upto hexOneSpec)

/-- 'gameroomkeep.HexShort', WHERE WHAT IT READS IS OF BULK AT MOST 1048576: true; the input reads as it did. -/
def hexShortUptoRow : OpenClaim := { program := "ytcibkchfdiijfaa", sum := "fb349333f738c6934d4a11916576bfd8c3bd711c8d5852cafec67223997955ad", func := "gameroom/gameroomkeep.HexShort", spec := "hexShort", unfollowed := true, recurses := true, plainKeys := false, apart := false, narrowed := true }
def HexShortUptoSaid : Prop := hexShortUptoRow.holds Try.pinned (OpenSpec.upto hexShortSpec)

end Rows
end Go.Proofs.Ytcibkchfdiijfaa
