/- The plain law of gameroomkeep.DominoEuler: sets of pieces and rows of them (Hierholzer), as functions on lists; no program in sight, no conditions. -/
namespace Go.Proofs.Ytgnchgkiijncbaa

abbrev Piece := Nat × Nat
def setX (_n a k : Nat) : List Piece := (List.range k).map fun j => (a, a + j)
def setY (n k : Nat) : List Piece := (List.range k).flatMap fun a => setX n a (n + 1 - a)
def pieces (n : Nat) : List Piece := setY n (n + 1)
theorem setX_succ (n a k : Nat) : setX n a (k + 1) = setX n a k ++ [(a, a + k)] := by simp [setX, List.range_succ]
theorem setY_succ (n k : Nat) : setY n (k + 1) = setY n k ++ setX n k (n + 1 - k) := by simp [setY, List.range_succ, List.flatMap_append]

def pc (ps : List Piece) (i : Nat) : Piece := ps[i]?.getD (0, 0)
def us (u : List Bool) (i : Nat) : Bool := u[i]?.getD false
abbrev WSt := List Bool × List Piece
def fits (ps : List Piece) (at_ : Nat) (s : WSt) (i : Nat) : Bool := !us s.1 i && ((pc ps i).1 == at_ || (pc ps i).2 == at_)
def faced (p : Piece) (at_ : Nat) : Piece := if p.1 = at_ then p else (p.2, p.1)
def stepR (ps : List Piece) (rec : Nat → WSt → WSt) (at_ : Nat) (s : WSt) (i : Nat) : WSt :=
  if fits ps at_ s i then
    let p := faced (pc ps i) at_
    let t := rec p.2 (s.1.set i true, s.2)
    (t.1, t.2 ++ [p])
  else s
def walkN (ps : List Piece) (rec : Nat → WSt → WSt) (at_ : Nat) (s : WSt) (j : Nat) : WSt := (List.range j).foldl (stepR ps rec at_) s
theorem walkN_succ (ps : List Piece) (rec : Nat → WSt → WSt) (at_ : Nat) (s : WSt) (j : Nat) : walkN ps rec at_ s (j + 1) = stepR ps rec at_ (walkN ps rec at_ s j) j := by simp [walkN, List.range_succ]
def walkS (ps : List Piece) : Nat → Nat → WSt → WSt
  | 0, at_, s => walkN ps (fun _ t => t) at_ s ps.length
  | f + 1, at_, s => walkN ps (walkS ps f) at_ s ps.length

def endsN (ps : List Piece) (j : Nat) : List Nat := (ps.take j).foldl (fun e p => (e.set p.1 (e[p.1]?.getD 0 + 1)).set p.2 ((e.set p.1 (e[p.1]?.getD 0 + 1))[p.2]?.getD 0 + 1)) (List.replicate 10 0)
/-- where to begin, and how many ends are odd, of the first j numbers. -/
def oddsN (e : List Nat) (s0 j : Nat) : Nat × Nat := (List.range j).foldl (fun s i => if e[i]?.getD 0 % 2 = 1 then (i, s.2 + 1) else s) (s0, 0)
theorem oddsN_succ (e : List Nat) (s0 j : Nat) : oddsN e s0 (j + 1) = if e[j]?.getD 0 % 2 = 1 then (j, (oddsN e s0 j).2 + 1) else oddsN e s0 j := by simp [oddsN, List.range_succ]
def walked (ps : List Piece) : WSt := walkS ps ps.length (oddsN (endsN ps ps.length) (pc ps 0).1 10).1 (List.replicate ps.length false, [])
/-- how long a row is told, and what is wrong. -/
def rowS (ps : List Piece) : Nat × Nat :=
  if ps = [] then (0, 0)
  else if 2 < (oddsN (endsN ps ps.length) (pc ps 0).1 10).2 then (0, 10)
  else if (walked ps).2.length < ps.length then (0, 10)
  else ((walked ps).2.length, 0)
def less (n k : Nat) : List Piece := (pieces n).take k ++ (pieces n).drop (k + 1)
def lawN (n : Nat) : Bool := ((rowS (pieces n)).2 == 0) == (n % 2 == 0 || n == 1) && ((rowS (pieces n)).2 != 0 || (rowS (pieces n)).1 == (pieces n).length) && (pieces n).length == (n + 1) * (n + 2) / 2 && decide (1 ≤ (pieces n).length) && decide ((pieces n).length ≤ 55) && (pieces n).all fun p => decide (p.1 ≤ 9) && decide (p.2 ≤ 9)
def laws : Bool := (List.range 10).all lawN
def lawK (n : Nat) : Bool := (List.range (pieces n).length).all fun k => rowS (less n k) == ((less n k).length, 0)
end Go.Proofs.Ytgnchgkiijncbaa
