/- The plain law of gameroomkeep.RowsFirst: lines, who has one, and the value of a board, as functions on lists; no program in sight, no conditions. -/
import Derived.Test.YtfoojdkbonmmgaaGrd
namespace Go.Proofs.Ytfoojdkbonmmgaa

def dx (j : Nat) : Int := if j = 0 then 1 else if j = 1 then 0 else if j = 2 then 1 else -1
def dy (j : Nat) : Int := if j = 0 then 0 else 1
def cell (w x y j i : Nat) : Nat := ((y + dy j * i) * w + x + dx j * i : Int).toNat
def lineUp (w x y j k : Nat) : List Nat := (List.range k).map (cell w x y j)
def fits (w h k x y j : Nat) : Bool := decide (0 ≤ x + dx j * (k - 1) ∧ x + dx j * (k - 1) < w ∧ y + dy j * (k - 1) < h)
def cand (w h k x y j : Nat) : List (List Nat) := if fits w h k x y j then [lineUp w x y j k] else []
def LD (w h k y x j : Nat) : List (List Nat) := (List.range j).flatMap (cand w h k x y)
def LX (w h k y x : Nat) : List (List Nat) := (List.range x).flatMap (fun x' => LD w h k y x' 4)
def LY (w h k y : Nat) : List (List Nat) := (List.range y).flatMap (fun y' => LX w h k y' w)
theorem LD_succ (w h k y x j : Nat) : LD w h k y x (j + 1) = LD w h k y x j ++ cand w h k x y j := by simp [LD, List.range_succ, List.flatMap_append]
theorem LX_succ (w h k y x : Nat) : LX w h k y (x + 1) = LX w h k y x ++ LD w h k y x 4 := by simp [LX, List.range_succ, List.flatMap_append]
theorem LY_succ (w h k y : Nat) : LY w h k (y + 1) = LY w h k y ++ LX w h k y w := by simp [LY, List.range_succ, List.flatMap_append]
theorem lineUp_succ (w x y j i : Nat) : lineUp w x y j (i + 1) = lineUp w x y j i ++ [cell w x y j i] := by simp [lineUp, List.range_succ]
theorem lineUp_len (w x y j k : Nat) : (lineUp w x y j k).length = k := by simp [lineUp]

/-- who owns the first i places of a line, whose first place is p's. -/
def own (cs : List Nat) (l : List Nat) : Nat := if l.all (fun a => st cs a == st cs (st l 0)) then st cs (st l 0) else 0
def won (cs : List Nat) (ls : List (List Nat)) : Nat := ls.foldl (fun n l => n ||| own cs l) 0

end Go.Proofs.Ytfoojdkbonmmgaa
