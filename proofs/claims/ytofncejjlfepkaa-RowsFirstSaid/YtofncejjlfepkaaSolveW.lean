/- What rows.Solve computes at an empty board: the value for who begins, and how many places reach it; conditions: width and height are 1 to 3, k is 1 to 10. -/
import Derived.Test.YtofncejjlfepkaaValueW
import Derived.Deep.RegionHeld3
namespace Go.Proofs.Ytofncejjlfepkaa
open Go.RowKit

theorem lineUp_ok (W H k x y j : Nat) (hj : j < 4) (hx : x < W) (hy : y < H) (hf : fits W H k x y j = true) : ∀ a ∈ lineUp W x y j k, a < W * H := by
  intro a ha
  unfold lineUp at ha
  simp only [List.mem_map, List.mem_range] at ha
  obtain ⟨i, hi, rfl⟩ := ha
  obtain ⟨u, v, hu, hv, _, _, e⟩ := cell_ok W H k x y j i hj hx hy hi hf
  rw [e]
  calc u * W + v < u * W + W := by omega
    _ = (u + 1) * W := by rw [Nat.add_mul, Nat.one_mul]
    _ ≤ H * W := Nat.mul_le_mul_right _ hu
    _ = W * H := Nat.mul_comm _ _
theorem LY_ok (W H k n : Nat) (hn : n = W * H) (hk1 : 1 ≤ k) (hk : k ≤ 10) : LinesOk n (LY W H k H) := by
  intro l hl
  subst hn
  unfold LY at hl
  simp only [List.mem_flatMap, List.mem_range] at hl
  obtain ⟨y, hy, hl⟩ := hl
  unfold LX at hl
  simp only [List.mem_flatMap, List.mem_range] at hl
  obtain ⟨x, hx, hl⟩ := hl
  unfold LD at hl
  simp only [List.mem_flatMap, List.mem_range] at hl
  obtain ⟨j, hj, hl⟩ := hl
  unfold cand at hl
  split at hl
  · rename_i hf
    simp at hl
    subst hl
    rw [lineUp_len]
    exact ⟨hk1, hk, lineUp_ok W H k x y j hj hx hy hf⟩
  · simp at hl
theorem LY_len (W H k y : Nat) : (LY W H k y).length ≤ y * (W * 4) := by
  have h1 : ∀ y x j, (LD W H k y x j).length ≤ j := by
    intro y x j
    induction j with
    | zero => simp [LD]
    | succ j ih =>
      rw [LD_succ, List.length_append]
      have : (cand W H k x y j).length ≤ 1 := by unfold cand; split <;> simp
      omega
  have h2 : ∀ y x, (LX W H k y x).length ≤ x * 4 := by
    intro y x
    induction x with
    | zero => simp [LX]
    | succ x ih =>
      rw [LX_succ, List.length_append]
      have := h1 y x 4
      omega
  induction y with
  | zero => simp [LY]
  | succ y ih =>
    rw [LY_succ, List.length_append, Nat.add_mul, Nat.one_mul]
    have := h2 y W
    omega

def zsN (n : Nat) : List Nat := List.replicate n 0
theorem zs_asI (n : Nat) : zs n = asI (zsN n) := by simp [zs, zsN, asI]
theorem zsN_st (n j : Nat) : st (zsN n) j = 0 := by
  unfold st zsN
  by_cases h : j < n <;> simp [h]

set_option maxHeartbeats 4000000 in
set_option maxRecDepth 100000 in
theorem solve_any (a b n c k : Nat) (q : Option Addr) (w : World) (ha1 : 1 ≤ a) (ha : a ≤ 3) (hb1 : 1 ≤ b) (hb : b ≤ 3) (hk1 : 1 ≤ k) (hk : k ≤ 10) (hn : Hid (n = a * b)) (hx : IntsIn w q n (asI (zsN n))) (kI : Int) (hkI : Hid (kI = k)) :
    Calls Try.prog 5 #[.agg #[.int .i64 a, .int .i64 b, .slice q n c], .int .i64 kI] w fun e w' => ∃ q' c', e = .returned (.tuple #[.int .i64 (value (LY a b k b) n (zsN n) 1).1, .slice q' (value (LY a b k b) n (zsN n) 1).2.length c', .int .i64 0]) ∧ Below w.heap.size w w' := by
  have hkI := hkI.out
  subst hkI
  have hab : a * b ≤ 3 * 3 := Nat.mul_le_mul ha hb
  have hn9 : n ≤ 9 := by rw [hn.out]; exact hab
  have hn1 : 1 ≤ n := by rw [hn.out]; exact Nat.mul_pos ha1 hb1
  have a0 := heap_alloc_new w (.cells #[.int .i64 a, .int .i64 b, .slice q n c] 28)
  have hB0 : Hid (Below w.heap.size w (w.alloc (.cells #[.int .i64 a, .int .i64 b, .slice q n c] 28))) := (Below.refl _ _).alloc (Nat.le_refl _) _
  have hsz : w.heap.size < (w.alloc (.cells #[.int .i64 a, .int .i64 b, .slice q n c] 28)).heap.size := by simp
  have hxa := hx.alloc (.cells #[.int .i64 a, .int .i64 b, .slice q n c] 28)
  have HM := Lib.hid (may_ok a b n c q (zsN n) (w.alloc (.cells #[.int .i64 a, .int .i64 b, .slice q n c] 28)) ha1 (by omega) hb1 (by omega) hn hxa (fun j => by rw [zsN_st]; omega))
  replace hxa := Lib.hid hxa
  clear hx hab
  go_enter Try.func5, Try.ntmps5
  go_wp2_with fail
  generalize w.alloc (.cells #[.int .i64 a, .int .i64 b, .slice q n c] 28) = W at *
  have c0 : W.cell? ⟨w.heap.size, 0, none⟩ = some (.int .i64 a) := wcell (cs := [_, _, _]) a0 0
  have c1 : W.cell? ⟨w.heap.size, 1, none⟩ = some (.int .i64 b) := wcell (cs := [_, _, _]) a0 1
  have c2 : W.cell? ⟨w.heap.size, 2, none⟩ = some (.slice q n c) := wcell (cs := [_, _, _]) a0 2
  refine HM.out.mono ?_
  rintro e W1 ⟨rfl, hB1⟩
  have b0 := (hB1.block _ hsz).trans a0
  have hx1 := Lib.hid (hxa.out.below hB1)
  have hsz1 := Nat.lt_of_lt_of_le hsz hB1.size
  have hB1w := Lib.hid (hB0.out.trans (hB1.mono (Nat.le_of_lt hsz)))
  have c2' : W1.cell? ⟨w.heap.size, 2, none⟩ = some (.slice q n c) := wcell (cs := [_, _, _]) b0 2
  clear a0 hB0 hsz hxa HM c0 c1 c2 hB1 W
  replace b0 := Lib.hid b0
  go_wp2_with fail
  have a0 := heap_alloc_new W1 (.cells #[.int .i64 0, .int .i64 0, .int .i64 0] 32)
  have hBa : Hid (Below W1.heap.size W1 (W1.alloc (.cells #[.int .i64 0, .int .i64 0, .int .i64 0] 32))) := (Below.refl _ _).alloc (Nat.le_refl _) _
  go_loopg [27] n (fun gk iv W' => ∃ j : Nat, j ≤ n ∧ gk = n - j ∧ iv = .int .i64 j ∧ W'.heap[W1.heap.size]? = some (.cells #[.int .i64 j, .int .i64 0, .int .i64 0] 32 (0, 0)) ∧ Below W1.heap.size W1 W')
  case atStart => exact ⟨0, by omega, by omega, rfl, a0, hBa.out⟩
  case round =>
    clear a0 hBa
    obtain ⟨j, hj, hgk, rfl, hm, hB⟩ := hrel
    obtain ⟨W2, rfl⟩ : ∃ W2 : World, W2 = wr := ⟨_, rfl⟩
    have d0 : W2.cell? ⟨W1.heap.size, 0, none⟩ = some (.int .i64 j) := wcell (cs := [_, _, _]) hm 0
    have d1 : W2.cell? ⟨W1.heap.size, 1, none⟩ = some (.int .i64 0) := wcell (cs := [_, _, _]) hm 1
    have d2 : W2.cell? ⟨W1.heap.size, 2, none⟩ = some (.int .i64 0) := wcell (cs := [_, _, _]) hm 2
    have df := wfree hm 0
    have b2 := (hB.block _ hsz1).trans b0.out
    replace hgk := Lib.hid hgk
    by_cases hlt : j < n
    · obtain ⟨gb, o, rfl, hgb, hc⟩ := (hx1.out.below hB).at (by omega)
      have hcj := hc j hlt
      rw [asI_at, zsN_st] at hcj
      have hm2 := Lib.hid (wset hm 0 (.int .i64 ((j : Int) + 1)))
      have hB2 := Lib.hid (hB.setCell (p := ⟨W1.heap.size, 0, none⟩) (Nat.le_refl _) (.int .i64 ((j : Int) + 1)))
      replace hm := Lib.hid hm; replace hB := Lib.hid hB; replace b2 := Lib.hid b2
      clear hc
      go_wp2_with fail
      have hgk := hgk.out
      go_roundg (n - (j + 1))
      case measure => omega
      case rel => exact ⟨j + 1, by omega, rfl, by go_num, by simpa using hm2.out, hB2.out⟩
    · have hje : j = n := by omega
      subst hje
      have c0 : W2.cell? ⟨w.heap.size, 0, none⟩ = some (.int .i64 a) := wcell (cs := [_, _, _]) b2 0
      have c1 : W2.cell? ⟨w.heap.size, 1, none⟩ = some (.int .i64 b) := wcell (cs := [_, _, _]) b2 1
      have c2 : W2.cell? ⟨w.heap.size, 2, none⟩ = some (.slice q j c) := wcell (cs := [_, _, _]) b2 2
      have HC := Lib.hid (fun W => clone_any q j c (asI (zsN j)) W (by omega))
      have hx2 := hx1.out.below hB
      have hsz2 := Nat.lt_of_lt_of_le hsz1 hB.size
      have hBw2 := Lib.hid (hB1w.out.trans (hB.mono hB1w.out.size))
      replace hm := Lib.hid hm; replace hB := Lib.hid hB; replace b2 := Lib.hid b2; replace hx2 := Lib.hid hx2
      clear c2'
      go_wp2_with fail
      have hLo := Lib.hid (LY_ok a b k j hn.out hk1 hk)
      have hLl := LY_len a b k b
      have hLl2 : (LY a b k b).length ≤ 100 := by
        have : b * (a * 4) ≤ 3 * (3 * 4) := Nat.mul_le_mul hb (Nat.mul_le_mul_right _ ha)
        omega
      have hZl : Hid (zeros (zsN j) ≤ j) := by
        show _ ≤ _
        unfold zeros zsN
        rw [List.count_replicate_self]; exact Nat.le_refl _
      have hZ2 : Hid ((zsN j).length = j) := by show _ = _; simp [zsN]
      have hZ3 : Hid (∀ i, st (zsN j) i ≤ 2) := fun i => by rw [zsN_st]; omega
      clear d0 d1 d2 df hLl
      go_region_held3 (fun w' => w'.cell? ⟨w.heap.size, 0, none⟩ = some (.int .i64 a) ∧ w'.cell? ⟨w.heap.size, 1, none⟩ = some (.int .i64 b) ∧ w'.cell? ⟨w.heap.size, 2, none⟩ = some (.slice q j c)) (go_keep)
        (first
          | (go_at_call 8; refine (HC.out _ ?_).mono ?_; (exact hx2.out); rintro e w1 ⟨p1, c1', rfl, hO1, hBc⟩; obtain ⟨g, rfl, hg0, hg1, _⟩ := hO1.where (by omega); have hsz3 := Nat.lt_of_lt_of_le hsz2 hBc.size; have k0 := (hBc.cell (p := ⟨w.heap.size, 0, none⟩) hsz2).trans c0; have k1 := (hBc.cell (p := ⟨w.heap.size, 1, none⟩) hsz2).trans c1; have k2 := (hBc.cell (p := ⟨w.heap.size, 2, none⟩) hsz2).trans c2; replace hO1 := Lib.hid hO1; replace hBc := Lib.hid hBc)
          | (go_at_call 9; refine (lines_any a b k _ ha1 (by omega) hb1 (by omega) hk1 hk _ (Lib.hid rfl)).mono ?_; rintro e w2 ⟨ql, cl, rfl, hR, hBl⟩; have m0 := (hBl.cell (p := ⟨w.heap.size, 0, none⟩) hsz3).trans k0; have m1 := (hBl.cell (p := ⟨w.heap.size, 1, none⟩) hsz3).trans k1; have m2 := (hBl.cell (p := ⟨w.heap.size, 2, none⟩) hsz3).trans k2; replace hR := Lib.hid hR; have hO2 := Lib.hid (hO1.out.below hBl (Nat.le_refl _)); have hsz4 := Nat.lt_of_lt_of_le hsz3 hBl.size; replace hBl := Lib.hid hBl)
          | (go_at_call 10; refine (value_any g _ j c1' (LY a b k b).length cl ql (LY a b k b) hn1 (by omega) hg1 rfl (by omega) hLo.out j (zsN j) 1 _ hZl.out hZ2.out hZ3.out (by omega) (by omega) (hO2.out.mono (Nat.zero_le _)) hR.out _ (Lib.hid rfl)).mono ?_; rintro e w3 ⟨q3, c3, rfl, hBv⟩; have n0 := (hBv.cell (p := ⟨w.heap.size, 0, none⟩) hsz4).trans m0; have n1 := (hBv.cell (p := ⟨w.heap.size, 1, none⟩) hsz4).trans m1; have n2 := (hBv.cell (p := ⟨w.heap.size, 2, none⟩) hsz4).trans m2; replace hBv := Lib.hid hBv))
      have hBf := ((hBw2.out.drew.trans (hBc.out.mono (Nat.le_of_lt hsz2))).trans (hBl.out.mono (Nat.le_of_lt hsz3))).trans (hBv.out.mono (Nat.le_of_lt hsz4))
      replace hBf := Lib.hid hBf
      clear n0 n1 n2 m0 m1 m2 k0 k1 k2 c0 c1 c2
      go_wp2
      go_ret3
      exact ⟨q3, c3, rfl, hBf.out⟩
end Go.Proofs.Ytofncejjlfepkaa
