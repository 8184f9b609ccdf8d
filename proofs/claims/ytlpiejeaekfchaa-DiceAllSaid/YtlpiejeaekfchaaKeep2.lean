/- What dice.Keep(n, k, n) hands back for n up to 4, k up to 8: the list that the plain function shareS tells; what gameroomkeep.picked and same compute; conditions: small numbers; the slices read as lists of ints. -/
import Derived.Test.YtlpiejeaekfchaaKeep
import Derived.Laws.EntriesVeiled
namespace Go.Proofs.Ytlpiejeaekfchaa
open Go.RowKit

set_option maxHeartbeats 400000 in
theorem ways_ok (k n : Nat) (w : World) (h1 : 1 ≤ k) (h2 : k ≤ 8) (hn : n ≤ 4) :
    Calls Try.prog 11 #[.int .i64 k, .int .i64 n] w fun e w' => ∃ v : Nat, 1 ≤ v ∧ e = .returned (.int .i64 v) ∧ w = w' := by
  go_enter Try.func11, Try.ntmps11
  go_wp2
  go_loopg [5, 7] n (fun g v i W => ∃ j x : Nat, j ≤ n ∧ g = n - j ∧ i = .int .i64 j ∧ v = .int .i64 x ∧ 1 ≤ x ∧ x ≤ 8 ^ j ∧ w = W)
  case atStart => exact ⟨0, 1, by omega, by omega, rfl, rfl, by omega, by omega, rfl⟩
  case round =>
    obtain ⟨j, x, hj, hg, rfl, rfl, hx, hx2, rfl⟩ := hrel
    replace hg := Lib.hid hg
    by_cases hlt : j < n
    · have hp : 8 ^ j ≤ 8 ^ 3 := Nat.pow_le_pow_right (by omega) (by omega)
      have hm : x * k ≤ 8 ^ j * 8 := Nat.mul_le_mul hx2 h2
      have hm1 : 1 * 1 ≤ x * k := Nat.mul_le_mul hx h1
      have e : ((x * k : Nat) : Int) = (x : Int) * k := by simp
      have hb1 : (x : Int) * k ≤ 4096 := by omega
      have hb0 : 1 ≤ (x : Int) * k := by omega
      replace hm := Lib.hid hm; replace hm1 := Lib.hid hm1; replace e := Lib.hid e; replace hx2 := Lib.hid hx2
      clear hp
      go_wp2
      have hg := hg.out
      go_roundg (n - (j + 1))
      case measure => omega
      case rel => exact ⟨j + 1, x * k, by omega, rfl, by go_num, by rw [e.out], by have := hm1.out; omega, by rw [Nat.pow_succ]; exact hm.out, rfl⟩
    · go_wp2
      go_ret
      exact ⟨x, hx, rfl, rfl⟩

theorem boxed (w : World) (v : Value) (t : TypeId) : (w.alloc (.cells #[v] t)).heap[w.heap.size]? = some (.cells #[v] t (0, 0)) := heap_alloc_new w _

set_option maxHeartbeats 1000000 in
theorem keep_ok (n k : Nat) (w : World) (out : List Int) (h1 : 1 ≤ n) (h2 : n ≤ 4) (h3 : 1 ≤ k) (h4 : k ≤ 8) (hs : Hid (shareS n k n 0 0 1 (List.replicate (n * (k - 1) + 1) 0) = some out)) :
    Calls Try.prog 8 #[.int .i64 n, .int .i64 k, .int .i64 n] w fun e w' => ∃ p m c, e = .returned (.tuple #[.slice p m c, .int .i64 0]) ∧ IntsIn w' p m out ∧ Below w.heap.size w w' := by
  have hW := fun W => ways_ok k n W h3 h4 h2
  replace hW := Lib.hid hW
  have hmul : n * (k - 1) ≤ 4 * 7 := Nat.mul_le_mul h2 (by omega)
  have e : ((n * (k - 1) : Nat) : Int) = (n : Int) * ((k : Int) - 1) := by rw [Int.natCast_mul]; congr 1; omega
  have hm1 : (n : Int) * ((k : Int) - 1) ≤ 28 := by omega
  have hm0 : 0 ≤ (n : Int) * ((k : Int) - 1) := by omega
  replace e := Lib.hid e
  replace hmul := Lib.hid hmul
  go_enter Try.func8, Try.ntmps8
  go_wp2_with fail
  refine (hW.out _).mono ?_
  rintro e' w' ⟨v, hv, rfl, rfl⟩
  have hv0 : ((v : Int) == 0) = false := by simp; omega
  obtain ⟨g, hg⟩ : ∃ g, g = w.heap.size + 1 := ⟨_, rfl⟩
  replace hg := Lib.hid hg
  go_wp2_with (at_make; refine wp_make int22 _ g (by rw [hg.out]; show _ = _; simp) rfl _ _ rfl _ _ _ _ (n * (k - 1) + 1) rfl rfl (by have := e.out; omega) (by have := e.out; omega) (by have := hmul.out; omega) ?_; intro W1 hN hB1 hz1)
  have hkb : W1.heap[w.heap.size]? = some (.cells #[.int .i64 (n : Int)] 3 (0, 0)) := (hB1.block _ (by have := hg.out; omega)).trans (heap_alloc_new w _)
  have hB2 : Below w.heap.size w W1 := ((Below.refl _ w).alloc (Nat.le_refl _) _).trans (hB1.mono (by have := hg.out; omega))
  replace hN := Lib.hid hN
  obtain ⟨W2, hW2⟩ : ∃ W2, W2 = (W1.alloc (.cells #[.slice (some ⟨g, 0, none⟩) (n * (k - 1) + 1) (n * (k - 1) + 1)] 22)).alloc (.cells #[.func (.func 12) #[] #[.pointer (some ⟨W1.heap.size, 0, none⟩), .pointer (some ⟨w.heap.size, 0, none⟩), .pointer (some ⟨W1.heap.size + 1, 0, none⟩)]] 34) := ⟨_, rfl⟩
  have hBx : Boxes W2 n (n * (k - 1) + 1) W1.heap.size w.heap.size (W1.heap.size + 1) g := by
    subst hW2
    have := hg.out
    have := lt_of_heap hkb
    refine ⟨?_, ?_, ?_, by omega, by omega, by omega⟩
    · rw [Below.heap_alloc _ _ _ (by simp; omega), Below.heap_alloc _ _ _ (by omega), hkb]
    · rw [Below.heap_alloc _ _ _ (by simp)]; exact heap_alloc_new _ _
    · have h := heap_alloc_new (W1.alloc (.cells #[.slice (some ⟨g, 0, none⟩) (n * (k - 1) + 1) (n * (k - 1) + 1)] 22)) (.cells #[.func (.func 12) #[] #[.pointer (some ⟨W1.heap.size, 0, none⟩), .pointer (some ⟨w.heap.size, 0, none⟩), .pointer (some ⟨W1.heap.size + 1, 0, none⟩)]] 34)
      simpa using h
  have hN2 : Nums W2 g 3 (List.replicate (n * (k - 1) + 1) 0) := by subst hW2; exact (hN.out.alloc _).alloc _
  have hB3 : Below w.heap.size w W2 := by subst hW2; exact (hB2.alloc hB2.size _).alloc (by have := hB2.size; simp; omega) _
  rw [← hW2]
  replace hW2 := Lib.hid hW2; replace hB3 := Lib.hid hB3; replace hN2 := Lib.hid hN2; replace hBx := Lib.hid hBx
  clear hB1 hB2 hkb hN
  refine (share_any n (n * (k - 1) + 1) _ _ _ g (by omega) (by have := hmul.out; omega) k n 0 0 1 _ out W2 (by omega) (by omega) (by omega) hs hBx hN2 (by show _ = _; simp) _ _ _ _ rfl rfl rfl rfl).mono ?_
  rintro e' w' ⟨rfl, hN3, hl3, hg3⟩
  have hco := cell_of_one (hBx.out.grown hg3).2.1
  replace hg3 := Lib.hid hg3; replace hN3 := Lib.hid hN3
  go_wp2
  go_ret2
  refine ⟨_, _, _, rfl, hN3.out.in hl3, ?_⟩
  exact hB3.out.grown hg3.out hB3.out.size (fun x hx => by cases hx; have := hg.out; omega)
end Go.Proofs.Ytlpiejeaekfchaa
