/- What nono.ways, check, checkLine, Ways, clue and Clue compute; conditions: lines of at most 20 places of -1 to 1, clues of at most 20 blocks of 1 to 20. -/
import Derived.Test.YtkklcfaghnfleaaNWay
import Derived.Test.YtkklcfaghnfleaaCf
import Derived.Test.YtkklcfaghnfleaaCf2
namespace Go.Proofs.Ytkklcfaghnfleaa
open Go.RowKit Go.Maps

set_option maxRecDepth 20000 in
set_option maxHeartbeats 2000000 in
theorem ways0_any (n lc m cc : Nat) (lq cq : Option Addr) (xs : List Int) (ks : List Nat) (w : World) (hn : n ≤ 20) (hm : m ≤ 20) (hlc : n ≤ lc) (hks : ∀ k ∈ ks, 1 ≤ k ∧ k ≤ 20) (hx : IntsIn w lq n xs) (hk : IntsIn w cq m (asI ks)) :
    Calls Try.prog 15 #[.slice lq n lc, .slice cq m cc] w fun r w' => r = .returned (.int .i64 (WS xs ks : Int)) ∧ Below w.heap.size w w' := by
  have hmm := @run_makeMap Try.prog
  have hF : Fl ((w.alloc (.map #[] 0)).alloc (.cells #[.slice lq n lc, .slice cq m cc, .map (some w.heap.size)] 59)) (w.heap.size + 1) lq n lc cq m cc w.heap.size xs ks := by
    refine ⟨?_, (hx.alloc _).alloc _, (hk.alloc _).alloc _, hlc⟩
    have := heap_alloc_new (w.alloc (.map #[] 0)) (.cells #[.slice lq n lc, .slice cq m cc, .map (some w.heap.size)] 59)
    simpa using this
  have HW := Lib.hid (ways_any (w.heap.size + 1) n lc m cc w.heap.size lq cq xs ks hn hm hks (n + 1) 0 0 _ (by omega) (by omega) (by omega) hF ((mapOk_made w).alloc _))
  have hB0 := Lib.hid (((Below.refl w.heap.size w).alloc (Nat.le_refl _) (.map #[] 0)).alloc (by simp) (.cells #[.slice lq n lc, .slice cq m cc, .map (some w.heap.size)] 59))
  rw [show WF xs ks (0, 0) = WS xs ks from rfl] at HW
  clear hF hx hk
  go_enter Try.func15, Try.ntmps15
  go_wp2_with fail
  refine HW.out.mono ?_
  rintro r w' ⟨rfl, hok, hg⟩
  have hB1 := Lib.hid (hB0.out.grown hg (by simp; omega) (fun x hx => by cases hx; exact Nat.le_refl _))
  clear hok hg
  go_wp2_with fail
  go_ret
  exact ⟨rfl, hB1.out⟩

theorem cell_ok (x : Int) (h1 : -1 ≤ x) (h2 : x ≤ 1) (w : World) : Calls Try.prog 27 #[.int .i64 x] w fun e w' => e = .returned (.bool false) ∧ w = w' := by
  have h1' : ¬ x < -1 := by omega
  have h2' : ¬ 1 < x := by omega
  go_enter Try.func27, Try.ntmps27
  go_wp2_with fail
  go_ret
  exact ⟨rfl, rfl⟩
theorem clue_ok (x : Int) (h1 : 1 ≤ x) (h2 : x ≤ 20) (w : World) : Calls Try.prog 25 #[.int .i64 x] w fun e w' => e = .returned (.bool false) ∧ w = w' := by
  have h1' : ¬ x < 1 := by omega
  have h2' : ¬ 20 < x := by omega
  go_enter Try.func25, Try.ntmps25
  go_wp2_with fail
  go_ret
  exact ⟨rfl, rfl⟩
theorem checkLine_any (n lc : Nat) (lq : Option Addr) (xs : List Int) (w : World) (hn : n ≤ 20) (hr : ∀ j, j < n → -1 ≤ xs[j]?.getD 0 ∧ xs[j]?.getD 0 ≤ 1) (hx : IntsIn w lq n xs) :
    Calls Try.prog 16 #[.slice lq n lc] w fun r w' => r = .returned (.int .i64 0) ∧ w = w' := by
  have HC := Lib.hid (contains_none lq n lc xs w (by omega) hx (fun j hj W => cell_ok _ (hr j hj).1 (hr j hj).2 W))
  have hni : ¬ ((n : Int) > 20) := by omega
  clear hx hr
  go_enter Try.func16, Try.ntmps16
  go_wp2_with fail
  refine HC.out.mono ?_
  rintro r w' ⟨rfl, rfl⟩
  go_wp2_with fail
  go_ret
  exact ⟨rfl, rfl⟩
theorem asI_rng {ks : List Nat} (hks : ∀ k ∈ ks, 1 ≤ k ∧ k ≤ 20) (j : Nat) (hj : j < ks.length) : 1 ≤ (asI ks)[j]?.getD 0 ∧ (asI ks)[j]?.getD 0 ≤ 20 := by
  rw [asI_at, st, List.getElem?_eq_getElem hj]
  have := hks _ (List.getElem_mem hj)
  simp only [Option.getD_some]
  omega
theorem check_any (n lc m cc : Nat) (lq cq : Option Addr) (xs : List Int) (ks : List Nat) (w : World) (hn : n ≤ 20) (hm : m ≤ 20) (hr : ∀ j, j < n → -1 ≤ xs[j]?.getD 0 ∧ xs[j]?.getD 0 ≤ 1) (hks : ∀ k ∈ ks, 1 ≤ k ∧ k ≤ 20) (hx : IntsIn w lq n xs) (hk : IntsIn w cq m (asI ks)) :
    Calls Try.prog 14 #[.slice lq n lc, .slice cq m cc] w fun r w' => r = .returned (.int .i64 0) ∧ w = w' := by
  have hl := hk.len
  rw [asI_len] at hl
  have HL := Lib.hid (checkLine_any n lc lq xs w hn hr hx)
  have HC := Lib.hid (contains_none2 cq m cc (asI ks) w (by omega) hk (fun j hj W => clue_ok _ (asI_rng hks j (by omega)).1 (asI_rng hks j (by omega)).2 W))
  clear hx hr hk
  go_enter Try.func14, Try.ntmps14
  go_wp2_with fail
  refine HL.out.mono ?_
  rintro r w' ⟨rfl, rfl⟩
  go_wp2_with fail
  refine HC.out.mono ?_
  rintro r w' ⟨rfl, rfl⟩
  go_wp2_with fail
  go_ret
  exact ⟨rfl, rfl⟩
theorem Ways_any (n lc m cc : Nat) (lq cq : Option Addr) (xs : List Int) (ks : List Nat) (w : World) (hn : n ≤ 20) (hm : m ≤ 20) (hlc : n ≤ lc) (hr : ∀ j, j < n → -1 ≤ xs[j]?.getD 0 ∧ xs[j]?.getD 0 ≤ 1) (hks : ∀ k ∈ ks, 1 ≤ k ∧ k ≤ 20) (hx : IntsIn w lq n xs) (hk : IntsIn w cq m (asI ks)) :
    Calls Try.prog 6 #[.slice lq n lc, .slice cq m cc] w fun r w' => r = .returned (.tuple #[.int .i64 (WS xs ks : Int), .int .i64 0]) ∧ Below w.heap.size w w' := by
  have HK := Lib.hid (check_any n lc m cc lq cq xs ks w hn hm hr hks hx hk)
  have HW := Lib.hid (ways0_any n lc m cc lq cq xs ks w hn hm hlc hks hx hk)
  clear hx hr hk
  go_enter Try.func6, Try.ntmps6
  go_wp2_with fail
  refine HK.out.mono ?_
  rintro r w' ⟨rfl, rfl⟩
  go_wp2_with fail
  refine HW.out.mono ?_
  rintro r w' ⟨rfl, hB⟩
  replace hB := Lib.hid hB
  go_wp2_with fail
  go_ret2
  exact ⟨rfl, hB.out⟩
end Go.Proofs.Ytkklcfaghnfleaa
