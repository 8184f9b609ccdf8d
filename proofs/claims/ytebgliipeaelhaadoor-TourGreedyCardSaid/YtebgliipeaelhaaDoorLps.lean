/- What the package-level table of a knight's leaps holds when the call begins, from the row's premise; conditions: none. -/
import Derived.Test.YtebgliipeaelhaaDoorTie
import Derived.Test.YtebgliipeaelhaaDoorGen
import Derived.LaidMore
import Derived.Lay
import Derived.ProofKit
import Derived.OpenShut
namespace Go.Proofs.YtebgliipeaelhaaDoor
open Go.ChangeShapes Go.WideShapes Go.ChangeAt Go.RowKit

def lpZ : List Int := [-1, -2, 1, -2, -2, -1, 2, -1, -2, 1, 2, 1, -1, 2, 1, 2]
/-- the table's cells. -/
def Lps (w : World) : Prop := 0 < w.heap.size ∧ ∀ r, r < 16 → w.cell? ⟨0, r, none⟩ = some (.int .i64 (lpZ.getD r 0))
theorem Lps.below {w w' : World} (h : Lps w) (hb : Below w.heap.size w w') : Lps w' :=
  ⟨Nat.lt_of_lt_of_le h.1 hb.size, fun r hr => (World.cell?_of_block (a := ⟨0, r, none⟩) (hb.block 0 h.1)).trans (h.2 r hr)⟩

theorem lps_of_laid {W : World} (h : laidMetH Tryd.prog [("gameroom/tour.leaps", Rows.laid_gameroom_tour_leaps)] W) : Lps W := by
  rw [MakeChecks.laidMetH_plain _ _ _ (by kernel_rfl)] at h
  obtain ⟨ps, ⟨g, t, cs, fuel, p, q, hg, ht, hv, hd, _, _⟩, _, _⟩ := h
  obtain rfl := Option.some.inj ((show Tryd.prog.globalNamed "gameroom/tour.leaps" = some 0 by kernel_rfl).symm.trans hg)
  obtain rfl := Option.some.inj ((show (Tryd.prog.globals[0]?).map (·.type) = some 54 by kernel_rfl).symm.trans ht)
  obtain ⟨xs, m, _, ex, hlen, hl, hel⟩ := DataW.trod_array Tryd.underlying54 hd
  have c3 : Tryd.prog.cellsOf 3 = 1 := by kernel_rfl
  have c53 : Tryd.prog.cellsOf 53 = 2 := by kernel_rfl
  have e3 := (DataW.agg.inj (Prod.mk.inj ex).1)
  have key : ∀ i j, i < 8 → j < 2 → cs.toList[i * 2 + j]? = some (.int .i64 (lpZ.getD (i * 2 + j) 0)) := by
    intro i j hi hj
    have hE := hel i hi
    have hxi : i < xs.length := by rw [hl]; exact hi
    rw [c53, List.getElem?_eq_getElem hxi] at hE
    obtain ⟨ys, m2, _, ex2, _, hl2, hel2⟩ := DataW.trod_array Tryd.underlying53 hE
    have hF := hel2 j hj
    have hyj : j < ys.length := by rw [hl2]; exact hj
    rw [c3, List.getElem?_eq_getElem hyj, Nat.mul_one] at hF
    obtain ⟨z, e1, e2, _⟩ := DataW.trod_int Tryd.underlying3 hF
    have h4 : (xs[i]).1 = .agg [.lit (.int .i64 (lpZ.getD (i * 2) 0)), .lit (.int .i64 (lpZ.getD (i * 2 + 1) 0))] := by
      have h5 := congrArg (fun l => l[i]?) e3
      simp only [List.getElem?_map, List.getElem?_eq_getElem hxi, Option.map_some] at h5
      rcases (show i = 0 ∨ i = 1 ∨ i = 2 ∨ i = 3 ∨ i = 4 ∨ i = 5 ∨ i = 6 ∨ i = 7 by omega) with rfl | rfl | rfl | rfl | rfl | rfl | rfl | rfl <;> exact (Option.some.inj h5).symm
    have h6 := congrArg Prod.fst ex2
    simp only at h6
    rw [h4] at h6
    have h7 := congrArg (fun l => l[j]?) (DataW.agg.inj h6)
    simp only [List.getElem?_map, List.getElem?_eq_getElem hyj, Option.map_some, e2] at h7
    have h8 : z = lpZ.getD (i * 2 + j) 0 := by
      rcases (show j = 0 ∨ j = 1 by omega) with rfl | rfl
      · simp at h7; simpa using h7.symm
      · simp at h7; simpa using h7.symm
    have h9 : (List.take 1 (List.drop j (List.take 2 (List.drop (i * 2) cs.toList))))[0]? = some (.int .i64 z) := by rw [e1]; rfl
    rw [List.getElem?_take, if_pos (by omega), List.getElem?_drop, List.getElem?_take, if_pos (by omega), List.getElem?_drop] at h9
    rw [← h8, ← h9]
    congr 1
  have hcell : ∀ r, r < 16 → W.cell? ⟨0, r, none⟩ = some (.int .i64 (lpZ.getD r 0)) := fun r hr => by
    rw [World.var?_cell (show Tryd.prog.globalNamed "gameroom/tour.leaps" = some 0 by kernel_rfl) hv r]
    have := key (r / 2) (r % 2) (by omega) (by omega)
    rw [show r / 2 * 2 + r % 2 = r by omega] at this
    simpa using this
  exact ⟨World.block_lt_of_cell? W ⟨0, 0, none⟩ (hcell 0 (by omega)), hcell⟩
end Go.Proofs.YtebgliipeaelhaaDoor
