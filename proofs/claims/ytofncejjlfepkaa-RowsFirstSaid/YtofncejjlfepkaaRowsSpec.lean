/- The plain law of gameroomkeep.RowsFirst: lines, who has one, and the value of a board, as functions on lists; no program in sight, no conditions. -/
namespace Go.Proofs.Ytofncejjlfepkaa

def dirs : List (Int × Int) := [(1, 0), (0, 1), (1, 1), (-1, 1)]
def dx (j : Nat) : Int := if j = 0 then 1 else if j = 1 then 0 else if j = 2 then 1 else -1
def dy (j : Nat) : Int := if j = 0 then 0 else 1
def cell (w x y j i : Nat) : Nat := ((y + dy j * i) * w + x + dx j * i : Int).toNat
def lineUp (w x y j k : Nat) : List Nat := (List.range k).map (cell w x y j)
def fits (w h k x y j : Nat) : Bool := decide (0 ≤ x + dx j * (k - 1) ∧ x + dx j * (k - 1) < w ∧ y + dy j * (k - 1) < h)
def cand (w h k x y j : Nat) : List (List Nat) := if fits w h k x y j then [lineUp w x y j k] else []
def LD (w h k y x j : Nat) : List (List Nat) := (List.range j).flatMap (cand w h k x y)
def LX (w h k y x : Nat) : List (List Nat) := (List.range x).flatMap (fun x' => LD w h k y x' 4)
def LY (w h k y : Nat) : List (List Nat) := (List.range y).flatMap (fun y' => LX w h k y' w)
theorem LD_succ (w h k y x j : Nat) : LD w h k y x (j + 1) = LD w h k y x j ++ cand w h k x y j := by simp [LD, List.range_succ, List.flatMap_append]
theorem LX_succ (w h k y x : Nat) : LX w h k y (x + 1) = LX w h k y x ++ LD w h k y x 4 := by simp [LX, List.range_succ, List.flatMap_append]
theorem LY_succ (w h k y : Nat) : LY w h k (y + 1) = LY w h k y ++ LX w h k y w := by simp [LY, List.range_succ, List.flatMap_append]
theorem lineUp_succ (w x y j i : Nat) : lineUp w x y j (i + 1) = lineUp w x y j i ++ [cell w x y j i] := by simp [lineUp, List.range_succ]
theorem lineUp_len (w x y j k : Nat) : (lineUp w x y j k).length = k := by simp [lineUp]

def st (s : List Nat) (i : Nat) : Nat := s[i]?.getD 0
/-- who owns the first i places of a line, whose first place is p's. -/
def own (cs : List Nat) (l : List Nat) : Nat := if l.all (fun a => st cs a == st cs (st l 0)) then st cs (st l 0) else 0
def won (cs : List Nat) (ls : List (List Nat)) : Nat := ls.foldl (fun n l => n ||| own cs l) 0

def pickd (b : Int × List Nat) : Int × List Nat := if b.1 < -1 then (0, []) else b
def better (b : Int × List Nat) (v : Int) (at_ : Nat) : Int × List Nat := if b.1 < v then (v, [at_]) else if v = b.1 then (b.1, b.2 ++ [at_]) else b
/-- one place tried. -/
def tryAt (rec : List Nat → Nat → Int) (cs : List Nat) (who : Nat) (b : Int × List Nat) (i : Nat) : Int × List Nat :=
  if st cs i = 0 then better b (-(rec (cs.set i who) (3 - who))) i else b
def seek (rec : List Nat → Nat → Int) (cs : List Nat) (who : Nat) (j : Nat) : Int × List Nat := (List.range j).foldl (tryAt rec cs who) (-2, [])
theorem seek_succ (rec : List Nat → Nat → Int) (cs : List Nat) (who j : Nat) : seek rec cs who (j + 1) = tryAt rec cs who (seek rec cs who j) j := by
  simp [seek, List.range_succ]
def value (ls : List (List Nat)) : Nat → List Nat → Nat → Int × List Nat
  | 0, cs, who => if won cs ls = 0 then pickd (seek (fun _ _ => 0) cs who cs.length) else if won cs ls = who then (1, []) else (-1, [])
  | f + 1, cs, who => if won cs ls = 0 then pickd (seek (fun c w => (value ls f c w).1) cs who cs.length) else if won cs ls = who then (1, []) else (-1, [])

def law (a b k : Nat) : Bool := decide (0 ≤ (value (LY a b k b) (a * b) (List.replicate (a * b) 0) 1).1) && decide (1 ≤ (value (LY a b k b) (a * b) (List.replicate (a * b) 0) 1).2.length)
def laws : Bool := (List.range 3).all fun a => (List.range 3).all fun b => (List.range 4).all fun k => law (a + 1) (if (a + 1) * (b + 1) > 6 then 2 else b + 1) (k + 1)
theorem laws_true : laws = true := by decide +kernel
theorem law_true (a b k : Nat) (ha : a < 3) (hb : b < 3) (hk : k < 4) : law (a + 1) (if (a + 1) * (b + 1) > 6 then 2 else b + 1) (k + 1) = true := by
  have h := laws_true
  unfold laws at h
  rw [List.all_eq_true] at h
  have h1 := h a (by simp; omega)
  rw [List.all_eq_true] at h1
  have h2 := h1 b (by simp; omega)
  rw [List.all_eq_true] at h2
  exact h2 k (by simp; omega)
end Go.Proofs.Ytofncejjlfepkaa
