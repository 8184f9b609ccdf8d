/- What four.Count tells for 0, 1 and 2 drops; conditions: width, height and k are 1 to 10. -/
import Derived.Test.YtfoojdkbonmmgaaCount2
import Derived.Laws.EntriesVeiled
import Derived.Deep.DeepCutAuto
import Derived.BigRegion
namespace Go.Proofs.Ytfoojdkbonmmgaa
open Go.RowKit

theorem int27 : IntT Try.prog 27 3 := ⟨Try.underlying27, by kernel_rfl⟩

theorem zs_opens (n W H : Nat) (h : 1 ≤ H) (c : Nat) : opens (zs n) W H c = c := by
  induction c with
  | zero => rfl
  | succ c ih => rw [opens, ih, zs_fall _ _ _ _ h, if_neg (by omega)]

set_option maxHeartbeats 2000000 in
theorem countF (wide h k p : Nat) (w : World) (h1 : 1 ≤ wide) (h2 : wide ≤ 10) (h3 : 1 ≤ h) (h4 : h ≤ 10) (h5 : 1 ≤ k) (h6 : k ≤ 10) (hp : p ≤ 2) (r : Nat)
    (hr : Hid (r = if p = 0 then 1 else if p = 1 then opens (zs (wide * h)) wide h wide else twos wide h k wide)) :
    Calls Try.prog 6 #[.int .i64 wide, .int .i64 h, .int .i64 k, .int .i64 p] w fun e w' => e = .returned (.tuple #[.int .i64 r, .int .i64 0]) ∧ Below w.heap.size w w' := by
  have hmul : wide * h ≤ 10 * 10 := Nat.mul_le_mul h2 h4
  have e : ((wide * h : Nat) : Int) = (wide : Int) * h := by simp
  have m0 : 0 ≤ (wide : Int) * h := by omega
  have m1 : (wide : Int) * h ≤ 100 := by omega
  replace e := Lib.hid e; replace hmul := Lib.hid hmul
  go_enter Try.func6, Try.ntmps6
  go_wp2_with (first | (go_at_call 11; refine (far_any _ _ (by omega) (by omega)).mono ?_; rintro e w' ⟨rfl, rfl⟩))
  have hmk : ∀ W : World, (Instr.makeSlice 27 (.int .i64 ((wide : Int) * h)) (.int .i64 ((wide : Int) * h))).run Try.prog W = .ok (.slice (some ⟨W.heap.size, 0, none⟩) (wide * h) (wide * h)) (W.alloc (.cells ((zs (wide * h)).map (Value.int .i64)).toArray 3)) := fun W => run_mk int27 _ _ _ _ (wide * h) (by have := e.out; omega) (by have := e.out; omega) (by have := hmul.out; omega) W
  go_cut [10] (fun s10 W => ∃ wb wl g : Nat, s10 = .pointer (some ⟨wb, 0, none⟩) ∧ W.heap[w.heap.size]? = some (.cells #[.int .i64 wide] 3 (0, 0)) ∧ W.heap[wb]? = some (.cells #[.pointer (some ⟨wl, 0, none⟩)] 39 (0, 0)) ∧
    W.heap[wl]? = some (.cells #[.int .i64 wide, .int .i64 h, .slice (some ⟨g, 0, none⟩) (wide * h) (wide * h), .int .i64 k, .int .i64 0] 41 (0, 0)) ∧ Nums W g 3 (zs (wide * h)) ∧ w.heap.size < g ∧ wb ≠ g ∧ wl ≠ g ∧ Below w.heap.size w W)
  case first =>
    go_region
    all_goals (go_wp2_with fail; go_meet)
    · obtain ⟨a1, a2, a3, a4⟩ := heap4 w (.cells #[.int .i64 wide] 3) (.cells ((zs (wide * h)).map (Value.int .i64)).toArray 3) (.cells #[.int .i64 wide, .int .i64 h, .slice (some ⟨w.heap.size + 1, 0, none⟩) (wide * h) (wide * h), .int .i64 k, .int .i64 0] 41) (.cells #[.pointer (some ⟨w.heap.size + 1 + 1, 0, none⟩)] 39)
      exact ⟨w.heap.size + 1 + 1 + 1, w.heap.size + 1 + 1, w.heap.size + 1, rfl, a1, a4, a3, a2, by omega, by omega, by omega, (below4 w _ _ _ _).drew⟩
    · obtain ⟨a1, a2, a3, a4⟩ := heap4 w (.cells #[.int .i64 wide] 3) (.cells ((zs (wide * h)).map (Value.int .i64)).toArray 3) (.cells #[.pointer (some ⟨w.heap.size + 1 + 1 + 1, 0, none⟩)] 39) (.cells #[.int .i64 wide, .int .i64 h, .slice (some ⟨w.heap.size + 1, 0, none⟩) (wide * h) (wide * h), .int .i64 k, .int .i64 0] 41)
      exact ⟨w.heap.size + 1 + 1, w.heap.size + 1 + 1 + 1, w.heap.size + 1, rfl, a1, a3, a4, a2, by omega, by omega, by omega, (below4 w _ _ _ _).drew⟩
    · obtain ⟨a1, a2, a3, a4⟩ := heap4 w (.cells #[.int .i64 wide] 3) (.cells #[.pointer (some ⟨w.heap.size + 1 + 1 + 1, 0, none⟩)] 39) (.cells ((zs (wide * h)).map (Value.int .i64)).toArray 3) (.cells #[.int .i64 wide, .int .i64 h, .slice (some ⟨w.heap.size + 1 + 1, 0, none⟩) (wide * h) (wide * h), .int .i64 k, .int .i64 0] 41)
      exact ⟨w.heap.size + 1, w.heap.size + 1 + 1 + 1, w.heap.size + 1 + 1, rfl, a1, a2, a4, a3, by omega, by omega, by omega, (below4 w _ _ _ _).drew⟩
  case rest =>
    obtain ⟨wb, wl, g, rfl, hb, hwb, hwl, hN, n1, n2, n3, hB⟩ := hcut
    clear hmk
    have hS : St (wc.alloc (.cells #[.func (.func 12) #[] #[.pointer (some ⟨w.heap.size, 0, none⟩), .pointer (some ⟨wb, 0, none⟩), .pointer (some ⟨wc.heap.size, 0, none⟩)]] 22)) w.heap.size wb wc.heap.size wl g wide h k (wide * h) := by
      refine ⟨(Below.heap_alloc _ _ _ (lt_of_heap hb)).trans hb, (Below.heap_alloc _ _ _ (lt_of_heap hwb)).trans hwb, heap_alloc_new _ _, (Below.heap_alloc _ _ _ (lt_of_heap hwl)).trans hwl, by omega, n2, ?_, n3⟩
      have := hN.lt; omega
    have hN1 := hN.alloc (.cells #[.func (.func 12) #[] #[.pointer (some ⟨w.heap.size, 0, none⟩), .pointer (some ⟨wb, 0, none⟩), .pointer (some ⟨wc.heap.size, 0, none⟩)]] 22)
    have hB1 := hB.alloc hB.size (.cells #[.func (.func 12) #[] #[.pointer (some ⟨w.heap.size, 0, none⟩), .pointer (some ⟨wb, 0, none⟩), .pointer (some ⟨wc.heap.size, 0, none⟩)]] 22)
    replace hB1 := Lib.hid hB1
    replace hS := Lib.hid hS; replace hN1 := Lib.hid hN1
    have hlen : Hid ((zs (wide * h)).length = wide * h) := zs_len _
    clear hb hwb hwl hN n2 n3 hB
    rcases (show p = 0 ∨ p = 1 ∨ p = 2 from by omega) with rfl | rfl | rfl
    · have hr' : r = 1 := hr.out
      replace hr' := Lib.hid hr'
      go_wp2_with fail
      refine (count0 _ _ _ _ _).mono ?_
      rintro e w' ⟨rfl, rfl⟩
      go_wp2_with fail
      go_ret2
      exact ⟨by rw [hr'.out]; rfl, hB1.out⟩
    · have hr' : r = wide := by have := hr.out; rw [this]; exact zs_opens _ _ _ h3 _
      replace hr' := Lib.hid hr'
      go_wp2_with fail
      refine (count1 w.heap.size wb wc.heap.size wl g wide h k (wide * h) (zs (wide * h)) _ 1 h1 h2 h4 h6 rfl hlen hS hN1 (by omega) (by omega) (by intro j _; rw [zs_at]; omega)).mono ?_
      rintro e w' ⟨rfl, hN2, hg2⟩
      have hB2 := hB1.out.grown hg2 hB1.out.size (fun x hx => by cases hx; omega)
      replace hB2 := Lib.hid hB2
      clear hN2 hg2
      go_wp2_with fail
      go_ret2
      exact ⟨by rw [hr'.out]; show Ending.returned (.tuple #[.int .i64 ((opens (zs (wide * h)) wide h wide : Nat) : Int), .int .i64 0]) = _; rw [zs_opens _ _ _ h3], hB2.out⟩
    · have hr' : r = twos wide h k wide := hr.out
      replace hr' := Lib.hid hr'
      go_wp2_with fail
      refine (count2 w.heap.size wb wc.heap.size wl g wide h k (wide * h) _ h1 h2 h4 h6 rfl h3 hS hN1).mono ?_
      rintro e w' ⟨rfl, hN2, hg2⟩
      have hB2 := hB1.out.grown hg2 hB1.out.size (fun x hx => by cases hx; omega)
      replace hB2 := Lib.hid hB2
      clear hN2 hg2
      go_wp2_with fail
      go_ret2
      exact ⟨by rw [hr'.out]; rfl, hB2.out⟩
end Go.Proofs.Ytfoojdkbonmmgaa
