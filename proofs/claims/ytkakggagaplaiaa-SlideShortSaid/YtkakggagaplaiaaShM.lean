/- Looking into the map of boards and writing into it, as the program does; conditions: orders of six, at most 720 entries. -/
import Derived.Test.YtkakggagaplaiaaShK
namespace Go.Proofs.Ytkakggagaplaiaa
open Go.RowKit Go.Maps

theorem under3 : Try.prog.underlying 3 = some (.int .i64) := by kernel_rfl
set_option maxRecDepth 100000 in
theorem kn_look {w : World} {mb : Nat} {cm : List (List Nat × Int)} (h : KnM w mb cm) {l : List Nat} (hl : IsOrd 6 l) :
    ∃ c : Int, (Instr.lookup 92 (.map (some mb)) (nmV l) true).run Try.prog w = .ok (.tuple #[.int .i64 c, .bool (lkC cm l).isSome]) w ∧ ∀ x, lkC cm l = some x → c = x := by
  obtain ⟨D, n, h1, h2, h3⟩ := h
  obtain ⟨v, ps, hrun, hv⟩ := h1.look_ok nlaw under92 (nzero3 _) (plainElem_int under3 (by decide)) (nhkey hl)
  obtain ⟨c, rfl, hc, _⟩ := plainElem_int_inv under3 hv
  rw [(h3 l hl).1] at hrun
  refine ⟨c, hrun, fun x hx => ?_⟩
  simp only [Prod.mk.injEq] at hc
  rw [(h3 l hl).2 x hx] at hc
  have := hc.1
  injection this with this
  injection this with _ this
  exact this.symm
set_option maxRecDepth 100000 in
theorem kn_get {w : World} {mb : Nat} {cm : List (List Nat × Int)} (h : KnM w mb cm) {l : List Nat} (hl : IsOrd 6 l) {x : Int} (hx : lkC cm l = some x) :
    (Instr.lookup 92 (.map (some mb)) (nmV l) false).run Try.prog w = .ok (.int .i64 x) w := by
  obtain ⟨D, n, h1, h2, h3⟩ := h
  obtain ⟨c, hrun, hc, _⟩ := h1.lookup_int nlaw under92 under3 (nzero3 _) (nhkey hl)
  rw [(h3 l hl).2 x hx] at hc
  injection hc with hc
  injection hc with _ hc
  rw [hc]; exact hrun
set_option maxRecDepth 100000 in
theorem kn_put {w : World} {mb : Nat} {cm : List (List Nat × Int)} (h : KnM w mb cm) {l : List Nat} (hl : IsOrd 6 l) (hn : cm.length ≤ 100000) {x : Int} (hx : -10 ≤ x ∧ x ≤ 10) :
    ∃ w', (Instr.mapUpdate 92 (.map (some mb)) (nmV l) (.int .i64 x)).run Try.prog w = .ok () w' ∧ KnM w' mb ((l, x) :: cm) ∧ w.grownBy w' (some mb) := by
  obtain ⟨D, n, h1, h2, h3⟩ := h
  obtain ⟨w', a1, a2, a3⟩ := h1.update nlaw under92 (by unfold maxLen; omega) (nhkey hl) (plainElem_int under3 (WalkArith.wf_i64 (n := x) (by omega)))
  exact ⟨w', a1, KnM.put h1 h2 h3 hl a2, a3⟩
