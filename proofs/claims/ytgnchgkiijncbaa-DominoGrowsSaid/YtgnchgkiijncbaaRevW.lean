/- What slices.Reverse (pieces) and domino.Set do; conditions: the row is the call's own; the set's most is 0 to 9. -/
import Derived.Test.YtgnchgkiijncbaaWalkS
namespace Go.Proofs.Ytgnchgkiijncbaa
open Go.RowKit

theorem OwnP.put {B g n c : Nat} {w : World} {ps : List Piece} (h : OwnP B w (some ⟨g, 0, none⟩) n c ps) (i : Nat) (hi : i < n) (x : Piece) : OwnP B ((w.setCell ⟨g, i * 2, none⟩ (.int .i64 x.1)).setCell ⟨g, i * 2 + 1, none⟩ (.int .i64 x.2)) (some ⟨g, 0, none⟩) n c (ps.set i x) := by
  refine ⟨?_, by simpa using h.2⟩
  rw [← flat_set ps x i (by have := h.2; omega)]
  exact (h.1.set (i * 2) _).set (i * 2 + 1) _

set_option maxHeartbeats 4000000 in
set_option maxRecDepth 100000 in
theorem reverse_any (B n c : Nat) (q : Option Addr) (ps : List Piece) (w : World) (hn : n ≤ 1000) (hO : OwnP B w q n c ps) :
    Calls Try.prog 13 #[.slice q n c] w fun e w' => e = .returned (.tuple #[]) ∧ Below B w w' := by
  replace hO := Lib.hid hO
  go_enter Try.func13, Try.ntmps13
  go_wp2_with fail
  go_loopg [2, 3] n (fun gk iv jv W' => ∃ k : Nat, ∃ ps' : List Piece, k ≤ n ∧ gk = n - k ∧ iv = .int .i64 k ∧ jv = .int .i64 ((n : Int) - 1 - k) ∧ OwnP B W' q n c ps' ∧ Below B w W')
  case atStart => exact ⟨0, ps, by omega, by omega, rfl, by simp, hO.out, Below.refl _ _⟩
  case round =>
    obtain ⟨k, ps', hk, hgk, rfl, rfl, hO1, hB⟩ := hrel
    obtain ⟨W1, rfl⟩ : ∃ W1 : World, W1 = wr := ⟨_, rfl⟩
    replace hgk := Lib.hid hgk
    by_cases hlt : (k : Int) < (n : Int) - 1 - k
    · obtain ⟨j, hj⟩ : ∃ j : Nat, (n : Int) - 1 - k = j := ⟨n - 1 - k, by omega⟩
      have hjn : j < n := by omega
      have hkn : k < n := by omega
      have hkj : k < j := by omega
      obtain ⟨g, rfl, hgB, hg, _⟩ := hO1.1.where (by omega)
      obtain ⟨f1, f2⟩ := flat_at ps' k (by have := hO1.2; omega)
      obtain ⟨f3, f4⟩ := flat_at ps' j (by have := hO1.2; omega)
      have c1 : W1.cell? ⟨g, k * 2, none⟩ = some (.int .i64 (pc ps' k).1) := by rw [hO1.1.cell (by omega)]; exact f1
      have c2 : W1.cell? ⟨g, k * 2 + 1, none⟩ = some (.int .i64 (pc ps' k).2) := by rw [hO1.1.cell (by omega)]; exact f2
      have c3 : W1.cell? ⟨g, j * 2, none⟩ = some (.int .i64 (pc ps' j).1) := by rw [hO1.1.cell (by omega)]; exact f3
      have c4 : W1.cell? ⟨g, j * 2 + 1, none⟩ = some (.int .i64 (pc ps' j).2) := by rw [hO1.1.cell (by omega)]; exact f4
      have u1 := hO1.1.free (k * 2)
      have u2 := hO1.1.free (k * 2 + 1)
      have u3 := hO1.1.free (j * 2)
      have u4 := hO1.1.free (j * 2 + 1)
      have hO2 := (hO1.put k hkn (pc ps' j)).put j hjn (pc ps' k)
      have hB2 := (((hB.setCell (p := ⟨g, k * 2, none⟩) hgB (.int .i64 (pc ps' j).1)).setCell (p := ⟨g, k * 2 + 1, none⟩) hgB (.int .i64 (pc ps' j).2)).setCell (p := ⟨g, j * 2, none⟩) hgB (.int .i64 (pc ps' k).1)).setCell (p := ⟨g, j * 2 + 1, none⟩) hgB (.int .i64 (pc ps' k).2)
      generalize (pc ps' k).1 = xa at *
      generalize (pc ps' k).2 = xb at *
      generalize (pc ps' j).1 = ya at *
      generalize (pc ps' j).2 = yb at *
      have n1 : k * 2 ≠ j * 2 := by omega
      have n2 : k * 2 ≠ j * 2 + 1 := by omega
      have n3 : k * 2 + 1 ≠ j * 2 := by omega
      have n4 : k * 2 + 1 ≠ j * 2 + 1 := by omega
      have x1 : (0 : Int) ≤ (k : Int) := by omega
      have x2 : (k : Int) < (n : Int) := by omega
      have x3 : (0 : Int) ≤ (j : Int) := by omega
      have x4 : (j : Int) < (n : Int) := by omega
      replace hO1 := Lib.hid hO1; replace hB := Lib.hid hB; replace hO2 := Lib.hid hO2; replace hB2 := Lib.hid hB2
      clear f1 f2 f3 f4
      go_wp2_with fail
      go_region_law (fail)
      all_goals
        have hO3 := Lib.hid (show OwnP B (((((W1.setCell ⟨g, k * 2, none⟩ (.int .i64 (ya : Int))).setCell ⟨g, k * 2 + 1, none⟩ (.int .i64 (yb : Int))).setCell ⟨g, j * 2, none⟩ (.int .i64 (xa : Int))).setCell ⟨g, j * 2 + 1, none⟩ (.int .i64 (xb : Int))).drew) (some ⟨g, 0, none⟩) n c _ from ⟨World.ownsRow.drew hO2.out.1, hO2.out.2⟩)
        have hB3 := Lib.hid hB2.out.drew
        go_wp2_with fail
        have hgk := hgk.out
        go_roundg (n - (k + 1))
        case measure => omega
        case rel => exact ⟨k + 1, _, by omega, rfl, by go_num, congrArg (Value.int .i64) (by omega), hO3.out, hB3.out⟩
    · replace hO1 := Lib.hid hO1; replace hB := Lib.hid hB
      go_wp2_with fail
      go_end0
      exact ⟨rfl, hB.out⟩

set_option maxHeartbeats 2000000 in
theorem set_any (n : Nat) (w : World) (hn : n ≤ 9) (nI : Int) (hnI : Hid (nI = n)) :
    Calls Try.prog 6 #[.int .i64 nI] w fun e w' => ∃ q c, e = .returned (.tuple #[.slice q (pieces n).length c, .int .i64 0]) ∧ OwnP w.heap.size w' q (pieces n).length c (pieces n) ∧ Below w.heap.size w w' := by
  have hnI := hnI.out
  subst hnI
  have z1 : decide ((n : Int) < 0) = false := by simp
  have z2 : decide ((9 : Int) < (n : Int)) = false := by simp; omega
  go_enter Try.func6, Try.ntmps6
  go_wp2_with fail
  go_loopg [4, 15] (n + 1) (fun gk lv yv W' => ∃ y L c : Nat, ∃ r : Option Addr, y ≤ n + 1 ∧ gk = n + 1 - y ∧ yv = .int .i64 y ∧ lv = .slice r L c ∧ L ≤ y * 10 ∧ OwnP w.heap.size W' r L c (setY n y) ∧ Below w.heap.size w W')
  case atStart => exact ⟨0, 0, 0, none, by omega, by omega, rfl, rfl, by omega, OwnP.nil _ _, Below.refl _ _⟩
  case round =>
    obtain ⟨y, L, c, r, hy, hgk, rfl, rfl, hL, hO, hB⟩ := hrel
    obtain ⟨W1, rfl⟩ : ∃ W1 : World, W1 = wr := ⟨_, rfl⟩
    replace hgk := Lib.hid hgk; replace hO := Lib.hid hO; replace hB := Lib.hid hB
    by_cases hlt : y < n + 1
    · have gy : decide ((y : Int) < (n : Int) + 1) = true := by simp; omega
      go_wp2_with fail
      go_loopg [4, 6] (n + 1 - y) (fun gk lv bv W' => ∃ k L c : Nat, ∃ r : Option Addr, k ≤ n + 1 - y ∧ gk = n + 1 - y - k ∧ bv = .int .i64 ((y : Int) + k) ∧ lv = .slice r L c ∧ L ≤ y * 10 + k ∧ OwnP w.heap.size W' r L c (setY n y ++ setX n y k) ∧ Below w.heap.size w W')
      case atStart => exact ⟨0, L, c, r, by omega, by omega, by simp, rfl, by omega, by simpa [setX] using hO.out, hB.out⟩
      case round =>
        clear hO hB hL W1
        obtain ⟨k, L, c, r, hk, hgk2, rfl, rfl, hL, hO, hB⟩ := hrel
        obtain ⟨W1, rfl⟩ : ∃ W1 : World, W1 = wr := ⟨_, rfl⟩
        replace hgk2 := Lib.hid hgk2
        by_cases hltk : k < n + 1 - y
        · have hBs := hB.size
          have hpl := hO.2
          replace hO := Lib.hid hO; replace hB := Lib.hid hB; replace hpl := Lib.hid hpl
          go_wp2_with (at_builtin; refine wp_appendV el23 W1 rfl _ _ rfl w.heap.size r L c _ rfl hO.out.1 #[.int .i64 (y : Int), .int .i64 ((y : Int) + k)] rfl rfl rfl (by omega) hBs ?_; intro p2 c3 w2 hM hg2 _ hz2)
          have hM2 : OwnP w.heap.size w2 p2 (L + 1) c3 (setY n y ++ setX n y (k + 1)) := by
            rw [setX_succ, ← List.append_assoc]
            exact OwnP.push (q := (y, y + k)) hM hpl.out
          have hB2 := hB.out.grown hg2 hBs (fun x hx => by
            cases r with
            | none => cases hx
            | some a => cases hx; exact (hO.out.1.block a rfl).1)
          have hgk2 := hgk2.out
          go_roundg (n + 1 - y - (k + 1))
          case measure => omega
          case rel => exact ⟨k + 1, L + 1, c3, p2, by omega, rfl, congrArg (Value.int .i64) (by omega), rfl, by omega, hM2, hB2⟩
        · have hke : k = n + 1 - y := by omega
          have hO2 : OwnP w.heap.size W1 r L c (setY n (y + 1)) := by rw [setY_succ, ← hke]; exact hO
          replace hO := Lib.hid hO; replace hB := Lib.hid hB; replace hO2 := Lib.hid hO2
          have hge : ¬ ((y : Int) + k ≤ n) := by omega
          replace hke := Lib.hid hke
          go_wp2_with fail
          have hgk := hgk.out
          have hke := hke.out
          go_roundg (n + 1 - (y + 1))
          case measure => omega
          case rel => exact ⟨y + 1, L, c, r, by omega, rfl, by go_num, rfl, by omega, hO2.out, hB.out⟩
    · have hye : y = n + 1 := by omega
      subst hye
      have hLe : L = (pieces n).length := by have := hO.out.2; unfold pieces; omega
      subst hLe
      go_wp2_with fail
      go_ret2
      exact ⟨r, c, rfl, hO.out, hB.out⟩
end Go.Proofs.Ytgnchgkiijncbaa
