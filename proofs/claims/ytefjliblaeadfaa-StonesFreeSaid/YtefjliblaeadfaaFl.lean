/- What gameroomkeep.StonesFree returns: true; conditions: ints of 64 bits. -/
import Derived.Test.YtefjliblaeadfaaAre
import Derived.Test.YtefjliblaeadfaaGzr
import Derived.Test.YtefjliblaeadfaaOut3
import Derived.Deep.DeepCutAuto
namespace Go.Proofs.Ytefjliblaeadfaa
open Go.RowKit

theorem cnt_succ {s : List Nat} {k : Nat} (hk : k < s.length) : (s.take (k + 1)).countP (· != 0) = (s.take k).countP (· != 0) + if st s k = 0 then 0 else 1 := take_count hk
theorem putS_err (s : List Nat) (a who p : Nat) : (putS s a who p).2.2 = 0 ∨ (putS s a who p).2.2 = 6 ∨ (putS s a who p).2.2 = 8 := by
  unfold putS
  split
  · simp
  · split <;> simp
theorem free_zero (a n : Nat) : Free (List.replicate n 0) a := fun p hp h => by
  exfalso; apply h; unfold st; rw [List.getElem?_replicate]; split <;> rfl
theorem rep_st (n j : Nat) : st (List.replicate n 0) j = 0 := by unfold st; rw [List.getElem?_replicate]; split <;> rfl

set_option maxHeartbeats 8000000 in
set_option maxRecDepth 100000 in
theorem free_law (n0 n1 : Int) (l : Option Addr) (len cap : Nat) (xs : List Int) (w : World) (x1 : -9223372036854775808 ≤ n0) (x2 : n0 ≤ 9223372036854775807) (y1 : -9223372036854775808 ≤ n1) (y2 : n1 ≤ 9223372036854775807)
    (hm : len ≤ 9223372036854775807) (hb : ∀ j, j < len → -9223372036854775808 ≤ xs[j]?.getD 0 ∧ xs[j]?.getD 0 ≤ 9223372036854775807) (hx : IntsIn w l len xs) :
    Calls Try.prog 4 #[.int .i64 n0, .int .i64 n1, .slice l len cap] w fun e w' => e = .returned (.bool true) ∧ Below w.heap.size w w' := by
  have P0 := Lib.hid (picked_any n0 5 w x1 x2 (by omega) (by omega) 5 (Lib.hid rfl))
  have P1 := Lib.hid (picked_any n1 5 w y1 y2 (by omega) (by omega) 5 (Lib.hid rfl))
  have q0 := pick_lt n0 5 (by omega)
  have q1 := pick_lt n1 5 (by omega)
  obtain ⟨a, hae⟩ : ∃ a : Nat, (1 : Int) + (pick n0 5 : Nat) = a := ⟨1 + pick n0 5, by push_cast; rfl⟩
  obtain ⟨b, hbe⟩ : ∃ b : Nat, (1 : Int) + (pick n1 5 : Nat) = b := ⟨1 + pick n1 5, by push_cast; rfl⟩
  have ha1 : 1 ≤ a := by omega
  have ha : a ≤ 10 := by omega
  have hb1 : 1 ≤ b := by omega
  have hb5 : b ≤ 10 := by omega
  have hab5 : a * b ≤ 5 * 5 := Nat.mul_le_mul (by omega) (by omega)
  obtain ⟨n, hn⟩ : ∃ n, n = a * b := ⟨_, rfl⟩
  have hn1 : 1 ≤ n := by rw [hn]; exact Nat.mul_le_mul ha1 hb1
  have hn25 : n ≤ 25 := by rw [hn]; exact hab5
  have HG := Lib.hid (grid_any a b w ha hb5 n hn (1 + (pick n0 5 : Nat)) (1 + (pick n1 5 : Nat)) hae hbe)
  generalize pick n0 5 = r0 at *
  generalize pick n1 5 = r1 at *
  replace hx := Lib.hid hx; replace hb := Lib.hid hb
  have hnab : Hid (n = a * b) := hn
  clear hn hab5
  replace hae := Lib.hid hae; replace hbe := Lib.hid hbe
  go_enter Try.func4, Try.ntmps4
  go_wp2_with fail
  refine P0.out.mono ?_
  rintro e w' ⟨rfl, rfl⟩
  go_wp2_with fail
  refine P1.out.mono ?_
  rintro e w' ⟨rfl, rfl⟩
  go_wp2_with fail
  refine HG.out.mono ?_
  rintro e w1 ⟨q, c, rfl, hO, hB1⟩
  rw [zs_asI] at hO
  have hI1 : Hid (IntsIn (w1.alloc (.cells #[.int .i64 (a : Int), .int .i64 (b : Int), .slice q n c] 24)) q n (asI (List.replicate n 0))) := hO.in.alloc _
  have e1 := Lib.hid (heap_alloc_new w1 (.cells #[.int .i64 (a : Int), .int .i64 (b : Int), .slice q n c] 24))
  have hbl1 : Hid (Below w.heap.size w (w1.alloc (.cells #[.int .i64 (a : Int), .int .i64 (b : Int), .slice q n c] 24))) := hB1.alloc hB1.size _
  have hw1 : w.heap.size ≤ w1.heap.size := hB1.size
  clear P0 P1 HG hO hB1 x1 x2 y1 y2 q0 q1
  go_wp2_with fail
  go_loopg [9, 10] 60 (fun gk pv iv W' => ∃ (i : Nat) (s : List Nat) (q : Option Addr) (c : Nat), i ≤ len ∧ i ≤ 60 ∧ gk = 60 - i ∧ iv = .int .i64 i ∧ pv = .int .i64 ((s.countP (· != 0) : Nat) : Int) ∧ W'.heap[w1.heap.size]? = some (.cells #[.int .i64 (a : Int), .int .i64 (b : Int), .slice q n c] 24 (0, 0)) ∧ IntsIn W' q n (asI s) ∧ (∀ j, st s j ≤ 2) ∧ Free s a ∧ Below w.heap.size w W')
  case atStart => exact ⟨0, List.replicate n 0, q, c, Nat.zero_le _, by omega, rfl, rfl, by simp [List.countP_replicate], e1.out, hI1.out, fun j => by rw [rep_st]; omega, free_zero a n, hbl1.out⟩
  case round =>
    obtain ⟨i, s, q, c, hil, hi60, hgk, rfl, rfl, e2, hI2, hs2, hf2, hbl2⟩ := hrel
    obtain ⟨W2, rfl⟩ : ∃ W2 : World, W2 = wr := ⟨_, rfl⟩
    replace hgk := Lib.hid hgk
    clear hI1 e1 hbl1
    have hsl : s.length = n := by have := hI2.len; rwa [asI_len] at this
    have hcn : s.countP (· != 0) ≤ n := by rw [← hsl]; exact List.countP_le_length
    have d0 : W2.cell? ⟨w1.heap.size, 0, none⟩ = some (.int .i64 (a : Int)) := wcell (cs := [_, _, _]) e2 0
    have d1 : W2.cell? ⟨w1.heap.size, 1, none⟩ = some (.int .i64 (b : Int)) := wcell (cs := [_, _, _]) e2 1
    have d2 : W2.cell? ⟨w1.heap.size, 2, none⟩ = some (.slice q n c) := wcell (cs := [_, _, _]) e2 2
    have hgl := lt_of_heap e2
    by_cases hgo : i < len ∧ i < 60
    · obtain ⟨hg1, hg2⟩ := hgo
      obtain ⟨lb, lo, rfl, _, hc⟩ := (hx.out.below hbl2).at (by omega)
      have d3 := hc i hg1
      obtain ⟨u1, u2⟩ := hb.out i hg1
      generalize xs[i]?.getD 0 = x at *
      have P2 := Lib.hid (fun W => picked_any x n W u1 u2 hn1 (by omega) n (Lib.hid rfl))
      have hp := pick_lt x n hn1
      generalize pick x n = p at *
      obtain ⟨r, hr⟩ : ∃ r, r = i % 2 := ⟨_, rfl⟩
      have hr2 : r < 2 := by omega
      have k1 : (i : Int) % 2 = (r : Int) := by omega
      have k2 : (i : Int).tmod 2 = (r : Int) := by rw [Int.tmod_eq_emod_of_nonneg (by omega)]; exact k1
      have k3 : IntKind.i64.wrap (r : Int) = (r : Int) := IntWalk.i64_in _ (by omega)
      obtain ⟨who, hwho⟩ : ∃ who, who = 1 + r := ⟨_, rfl⟩
      have k4 : IntKind.i64.wrap (1 + (r : Int)) = (who : Int) := by rw [IntWalk.i64_in _ (by omega)]; omega
      have k5 : (1 : Int) + (r : Int) = (who : Int) := by omega
      have k6 : IntKind.i64.wrap (who : Int) = (who : Int) := IntWalk.i64_in _ (by omega)
      have hw : Hid (who = 1 ∨ who = 2) := by show _ ∨ _; omega
      have HP : Hid (∀ W', Below W2.heap.size W2 W' → Calls Try.prog 12 #[.agg #[.int .i64 (a : Int), .int .i64 (b : Int), .slice q n c], .int .i64 (who : Int), .int .i64 (p : Int)] W' (PutP a b n (putS s a who p) W')) := fun W' h =>
        Put_any a b n c p q s who W' ha1 ha hb1 hb5 hnab (by omega) hp (hI2.below h) hs2 hw.out
      have hfree : Hid ((putS s a who p).2.2 = 0 → Free (putS s a who p).1 a ∧ (putS s a who p).1.length = a * b ∧ (∀ j, st (putS s a who p).1 j ≤ 2) ∧ (putS s a who p).2.1 + ((putS s a who p).1.countP (· != 0)) = s.countP (· != 0) + 1) := fun h =>
        put_free (b := b) (by rw [hsl, hnab.out]) (by rw [hsl]; exact hp) hw.out hs2 hf2 h
      have hRc := putS_err s a who p
      generalize putS s a who p = R at *
      have f1 : (0 : Int) ≤ (i : Int) := by omega
      have f2 : (i : Int) < (len : Int) := by omega
      have hI2' := Lib.hid hI2
      have hbl2' := Lib.hid hbl2
      have e2' := Lib.hid e2
      replace hr := Lib.hid hr; replace hwho := Lib.hid hwho; replace hs2 := Lib.hid hs2; replace hf2 := Lib.hid hf2; replace hsl := Lib.hid hsl
      clear hc u1 u2 hI2 hbl2 e2
      have hlb2 : lb < W2.heap.size := World.block_lt_of_cell? _ _ d3
      by_cases hR0 : R.2.2 = 0
      · have HS1 : Hid (∀ W' : World, Below W2.heap.size W2 W' → W'.heap[W2.heap.size]? = some (.cells #[.int .i64 0, .int .i64 0, .slice none 0 0] 24 (0, 0)) → Calls Try.prog 12 #[.agg #[.int .i64 (a : Int), .int .i64 (b : Int), .slice q n c], .int .i64 (who : Int), .int .i64 (p : Int)] W' fun e w' => ∃ g' c', e = .returned (.tuple #[.agg #[.int .i64 (a : Int), .int .i64 (b : Int), .slice (some ⟨g', 0, none⟩) n c'], .int .i64 (R.2.1 : Nat), .int .i64 0]) ∧ IntsIn w' (some ⟨g', 0, none⟩) n (asI R.1) ∧ Below W2.heap.size W2 w' ∧ W2.heap.size ≤ g' ∧ g' ≠ W2.heap.size ∧ w'.heap[W2.heap.size]? = some (.cells #[.int .i64 0, .int .i64 0, .slice none 0 0] 24 (0, 0))) := fun W' h h8 => (HP.out W' h).mono fun e w' h2 => by
          obtain ⟨h3, h4⟩ := h2
          rcases h3 with ⟨h5, _⟩ | ⟨_, g', c', h6, h7⟩
          · omega
          · exact ⟨g', c', h6, h7.in, h.trans (h4.mono h.size), Nat.le_trans h.size (h7.block _ rfl).1, by have := (h7.block _ rfl).1; have := lt_of_heap h8; simp at *; omega, (h4.block _ (lt_of_heap h8)).trans h8⟩
        have HS2 : Hid (∀ W' : World, Below W2.heap.size W2 W' → Calls Try.prog 12 #[.agg #[.int .i64 (a : Int), .int .i64 (b : Int), .slice q n c], .int .i64 (who : Int), .int .i64 (p : Int)] W' fun e w' => ∃ g' c', e = .returned (.tuple #[.agg #[.int .i64 (a : Int), .int .i64 (b : Int), .slice (some ⟨g', 0, none⟩) n c'], .int .i64 (R.2.1 : Nat), .int .i64 0]) ∧ IntsIn w' (some ⟨g', 0, none⟩) n (asI R.1) ∧ Below W2.heap.size W2 w' ∧ W2.heap.size ≤ g') := fun W' h => (HP.out W' h).mono fun e w' h2 => by
          obtain ⟨h3, h4⟩ := h2
          rcases h3 with ⟨h5, _⟩ | ⟨_, g', c', h6, h7⟩
          · omega
          · exact ⟨g', c', h6, h7.in, h.trans (h4.mono h.size), Nat.le_trans h.size (h7.block _ rfl).1⟩
        obtain ⟨j1, j2, j3, j4⟩ := hfree.out hR0
        have htk : R.2.1 ≤ n + 1 := by omega
        have hcR : R.1.countP (· != 0) ≤ n := by rw [hnab.out, ← j2]; exact List.countP_le_length
        replace hR0 := Lib.hid hR0; replace j1 := Lib.hid j1; replace j2 := Lib.hid j2; replace j3 := Lib.hid j3; replace j4 := Lib.hid j4
        clear HP hfree
        go_upto_region 7 with fail
        go_cut [11, 12, 13] (fun v vt ve wx => ∃ g' c', Out3 W2 (.int .i64 (a : Int)) (.int .i64 (b : Int)) (.slice (some ⟨g', 0, none⟩) n c') g' n (asI R.1) v wx ∧ W2.heap.size ≤ g' ∧ vt = .int .i64 (R.2.1 : Nat) ∧ ve = .int .i64 0)
        case first =>
          go_region_held3 (fun w' => w'.cell? ⟨w1.heap.size, 0, none⟩ = some (.int .i64 (a : Int)) ∧ w'.cell? ⟨w1.heap.size, 1, none⟩ = some (.int .i64 (b : Int)) ∧ w'.cell? ⟨w1.heap.size, 2, none⟩ = some (.slice q n c) ∧ w'.cell? ⟨lb, lo + i, none⟩ = some (.int .i64 x)) (first | exact ⟨y0, y1, y2, y3⟩ | exact ⟨(cell3_ne _ (Nat.ne_of_lt hgl) _ _ _).trans y0, (cell3_ne _ (Nat.ne_of_lt hgl) _ _ _).trans y1, (cell3_ne _ (Nat.ne_of_lt hgl) _ _ _).trans y2, (cell3_ne _ (Nat.ne_of_lt hlb2) _ _ _).trans y3⟩ | exact ⟨d0, d1, d2, d3⟩ | go_keep)
            (first
              | (go_at_call 11; (with_reducible refine (P2.out _).mono ?_); rintro e w' ⟨rfl, rfl⟩)
              | (go_at_call 12; (with_reducible refine (HS1.out _ ?_ ?_).mono ?_); (first | exact Below.refl _ _ | exact below_drewN (Below.refl _ _) 1 | exact (below_drewN (Below.refl _ _) 1).alloc (Nat.le_refl _) _ | exact below_drewN ((Below.refl _ _).alloc (Nat.le_refl _) _) 1); (first | exact heap_alloc_new W2 _ | exact heap_alloc_new W2.drew _); rintro e w8 ⟨g8, c8, rfl, hO8, hB8, hgg, hg8, x8⟩; have y0 : w8.cell? ⟨w1.heap.size, 0, none⟩ = some (.int .i64 (a : Int)) := (hB8.cell (p := ⟨w1.heap.size, 0, none⟩) hgl).trans d0; have y1 : w8.cell? ⟨w1.heap.size, 1, none⟩ = some (.int .i64 (b : Int)) := (hB8.cell (p := ⟨w1.heap.size, 1, none⟩) hgl).trans d1; have y2 : w8.cell? ⟨w1.heap.size, 2, none⟩ = some (.slice q n c) := (hB8.cell (p := ⟨w1.heap.size, 2, none⟩) hgl).trans d2; have y3 : w8.cell? ⟨lb, lo + i, none⟩ = some (.int .i64 x) := (hB8.cell (p := ⟨lb, lo + i, none⟩) hlb2).trans d3; have t0 : w8.cell? ⟨W2.heap.size, 0, none⟩ = some (.int .i64 0) := wcell (cs := [_, _, _]) x8 0; have t1 : w8.cell? ⟨W2.heap.size, 1, none⟩ = some (.int .i64 0) := wcell (cs := [_, _, _]) x8 1; have t2 : w8.cell? ⟨W2.heap.size, 2, none⟩ = some (.slice none 0 0) := wcell (cs := [_, _, _]) x8 2; have f0' : w8.frozen? ⟨W2.heap.size, 0, none⟩ = false := wfree x8 0; have f1' : w8.frozen? ⟨W2.heap.size, 1, none⟩ = false := wfree x8 1; have f2' : w8.frozen? ⟨W2.heap.size, 2, none⟩ = false := wfree x8 2; replace x8 := Lib.hid x8; replace hgg := Lib.hid hgg; replace hO8 := Lib.hid hO8; replace hB8 := Lib.hid hB8; replace hg8 := Lib.hid hg8)
              | (go_at_call 12; (with_reducible refine (HS2.out _ ?_).mono ?_); (first | exact Below.refl _ _ | exact below_drewN (Below.refl _ _) 1 | exact (below_drewN (Below.refl _ _) 1).alloc (Nat.le_refl _) _ | exact below_drewN ((Below.refl _ _).alloc (Nat.le_refl _) _) 1); rintro e w8 ⟨g8, c8, rfl, hO8, hB8, hgg⟩; have y0 : w8.cell? ⟨w1.heap.size, 0, none⟩ = some (.int .i64 (a : Int)) := (hB8.cell (p := ⟨w1.heap.size, 0, none⟩) hgl).trans d0; have y1 : w8.cell? ⟨w1.heap.size, 1, none⟩ = some (.int .i64 (b : Int)) := (hB8.cell (p := ⟨w1.heap.size, 1, none⟩) hgl).trans d1; have y2 : w8.cell? ⟨w1.heap.size, 2, none⟩ = some (.slice q n c) := (hB8.cell (p := ⟨w1.heap.size, 2, none⟩) hgl).trans d2; have y3 : w8.cell? ⟨lb, lo + i, none⟩ = some (.int .i64 x) := (hB8.cell (p := ⟨lb, lo + i, none⟩) hlb2).trans d3; replace hgg := Lib.hid hgg; replace hO8 := Lib.hid hO8; replace hB8 := Lib.hid hB8))
          all_goals
            go_wp2_with fail
            go_meet
            first | exact ⟨_, _, out3_new hO8.out hB8.out, hgg.out, rfl, rfl⟩ | exact ⟨_, _, out3_set hO8.out hB8.out hg8.out x8.out, hgg.out, rfl, rfl⟩
        case rest =>
          obtain ⟨g', c', ⟨hBc, ⟨bb, rfl, hbb, e6⟩, hx6⟩, hgg, rfl, rfl⟩ := hcut
          have hbl3 : Hid (Below w.heap.size w wc) := hbl2'.out.trans (hBc.mono hbl2'.out.size)
          have k0 : wc.cell? ⟨bb, 0, none⟩ = some (.int .i64 (a : Int)) := wcell (cs := [_, _, _]) e6 0
          have k1 : wc.cell? ⟨bb, 1, none⟩ = some (.int .i64 (b : Int)) := wcell (cs := [_, _, _]) e6 1
          have k2' : wc.cell? ⟨bb, 2, none⟩ = some (.slice (some ⟨g', 0, none⟩) n c') := wcell (cs := [_, _, _]) e6 2
          have HF := Lib.hid (free_any a b n c' (some ⟨g', 0, none⟩) R.1 wc ha1 ha hb1 hb5 hnab (by omega) hx6 j3.out j1.out)
          have e27 := (hBc.block _ hgl).trans e2'.out
          have hgl7 := lt_of_heap e27
          have hbbl := lt_of_heap e6
          replace hx6 := Lib.hid hx6; replace e27 := Lib.hid e27; replace e6 := Lib.hid e6
          clear hBc d0 d1 d2 d3 HS1 HS2 P2 k1 k3 k4 k5 k6
          have k1' : wc.cell? ⟨bb, 1, none⟩ = some (.int .i64 (b : Int)) := wcell (cs := [_, _, _]) e6.out 1
          go_wp2_with fail
          refine HF.out.mono ?_
          rintro e w9 ⟨rfl, hB9⟩
          have e28 := (hB9.block _ hgl7).trans e27.out
          have hx9 := hx6.out.below hB9
          have m0 : w9.cell? ⟨bb, 0, none⟩ = some (.int .i64 (a : Int)) := (hB9.cell (p := ⟨bb, 0, none⟩) hbbl).trans k0
          have m1 : w9.cell? ⟨bb, 1, none⟩ = some (.int .i64 (b : Int)) := (hB9.cell (p := ⟨bb, 1, none⟩) hbbl).trans k1'
          have m2 : w9.cell? ⟨bb, 2, none⟩ = some (.slice (some ⟨g', 0, none⟩) n c') := (hB9.cell (p := ⟨bb, 2, none⟩) hbbl).trans k2'
          have t0 : w9.cell? ⟨w1.heap.size, 0, none⟩ = some (.int .i64 (a : Int)) := wcell (cs := [_, _, _]) e28 0
          have t1 : w9.cell? ⟨w1.heap.size, 1, none⟩ = some (.int .i64 (b : Int)) := wcell (cs := [_, _, _]) e28 1
          have t2 : w9.cell? ⟨w1.heap.size, 2, none⟩ = some (.slice q n c) := wcell (cs := [_, _, _]) e28 2
          have tf0 := wfree e28 0
          have tf1 := wfree e28 1
          have tf2 := wfree e28 2
          have e29 := Lib.hid (wset (wset (wset e28 0 (.int .i64 (a : Int))) 1 (.int .i64 (b : Int))) 2 (.slice (some ⟨g', 0, none⟩) n c'))
          have hbl9 : Hid (Below w.heap.size w (((w9.setCell ⟨w1.heap.size, 0, none⟩ (.int .i64 (a : Int))).setCell ⟨w1.heap.size, 1, none⟩ (.int .i64 (b : Int))).setCell ⟨w1.heap.size, 2, none⟩ (.slice (some ⟨g', 0, none⟩) n c'))) :=
            (((hbl3.out.trans (hB9.mono hbl3.out.size)).setCell (p := ⟨w1.heap.size, 0, none⟩) hw1 _).setCell (p := ⟨w1.heap.size, 1, none⟩) hw1 _).setCell (p := ⟨w1.heap.size, 2, none⟩) hw1 _
          have hxf : Hid (IntsIn (((w9.setCell ⟨w1.heap.size, 0, none⟩ (.int .i64 (a : Int))).setCell ⟨w1.heap.size, 1, none⟩ (.int .i64 (b : Int))).setCell ⟨w1.heap.size, 2, none⟩ (.slice (some ⟨g', 0, none⟩) n c')) (some ⟨g', 0, none⟩) n (asI R.1)) := hx9.keep (by simp [World.setCell]) fun bb o e => by
            cases e
            exact (Below.heap_setCell _ _ _ _ (by simp; omega)).trans ((Below.heap_setCell _ _ _ _ (by simp; omega)).trans (Below.heap_setCell _ _ _ _ (by simp; omega)))
          replace e28 := Lib.hid e28; replace hx9 := Lib.hid hx9
          clear HF hB9 k0 k1' k2'
          go_wp2_with fail
          have hgk := hgk.out
          go_roundg (60 - (i + 1))
          case measure => omega
          case rel => exact ⟨i + 1, R.1, some ⟨g', 0, none⟩, c', by omega, by omega, rfl, by go_num, by have := j4.out; congr 1; omega, e29.out, hxf.out, j3.out, j1.out, hbl9.out⟩
      · have HS1 : Hid (∀ W' : World, Below W2.heap.size W2 W' → W'.heap[W2.heap.size]? = some (.cells #[.int .i64 0, .int .i64 0, .slice none 0 0] 24 (0, 0)) → Calls Try.prog 12 #[.agg #[.int .i64 (a : Int), .int .i64 (b : Int), .slice q n c], .int .i64 (who : Int), .int .i64 (p : Int)] W' fun e w' => e = .returned (.tuple #[.agg #[.int .i64 0, .int .i64 0, .slice none 0 0], .int .i64 0, .int .i64 (R.2.2 : Nat)]) ∧ Below W2.heap.size W2 w' ∧ w'.heap[W2.heap.size]? = some (.cells #[.int .i64 0, .int .i64 0, .slice none 0 0] 24 (0, 0))) := fun W' h h8 => (HP.out W' h).mono fun e w' h2 => by
          obtain ⟨h3, h4⟩ := h2
          rcases h3 with ⟨_, h6⟩ | ⟨h5, _⟩
          rotate_left
          · exact absurd h5 hR0
          · exact ⟨h6, h.trans (h4.mono h.size), (h4.block _ (lt_of_heap h8)).trans h8⟩
        have HS2 : Hid (∀ W' : World, Below W2.heap.size W2 W' → Calls Try.prog 12 #[.agg #[.int .i64 (a : Int), .int .i64 (b : Int), .slice q n c], .int .i64 (who : Int), .int .i64 (p : Int)] W' fun e w' => e = .returned (.tuple #[.agg #[.int .i64 0, .int .i64 0, .slice none 0 0], .int .i64 0, .int .i64 (R.2.2 : Nat)]) ∧ Below W2.heap.size W2 w') := fun W' h => (HP.out W' h).mono fun e w' h2 => by
          obtain ⟨h3, h4⟩ := h2
          rcases h3 with ⟨_, h6⟩ | ⟨h5, _⟩
          rotate_left
          · exact absurd h5 hR0
          · exact ⟨h6, h.trans (h4.mono h.size)⟩
        have hR68 : R.2.2 = 6 ∨ R.2.2 = 8 := by omega
        have hRb : ((((R.2.2 : Nat) : Int) != 6) && (((R.2.2 : Nat) : Int) != 8)) = false := by rcases hR68 with h | h <;> rw [h] <;> rfl
        have hRn : ((R.2.2 : Nat) : Int) ≠ 0 := by omega
        replace hR0 := Lib.hid hR0
        clear HP hfree
        go_upto_region 7 with fail
        go_cut [11, 12, 13] (fun v vt ve wx => OutE W2 v wx ∧ vt = .int .i64 0 ∧ ve = .int .i64 (R.2.2 : Nat))
        case first =>
          go_region_held3 (fun w' => w'.cell? ⟨w1.heap.size, 0, none⟩ = some (.int .i64 (a : Int)) ∧ w'.cell? ⟨w1.heap.size, 1, none⟩ = some (.int .i64 (b : Int)) ∧ w'.cell? ⟨w1.heap.size, 2, none⟩ = some (.slice q n c) ∧ w'.cell? ⟨lb, lo + i, none⟩ = some (.int .i64 x)) (first | exact ⟨y0, y1, y2, y3⟩ | exact ⟨(cell3_ne _ (Nat.ne_of_lt hgl) _ _ _).trans y0, (cell3_ne _ (Nat.ne_of_lt hgl) _ _ _).trans y1, (cell3_ne _ (Nat.ne_of_lt hgl) _ _ _).trans y2, (cell3_ne _ (Nat.ne_of_lt hlb2) _ _ _).trans y3⟩ | exact ⟨d0, d1, d2, d3⟩ | go_keep)
            (first
              | (go_at_call 11; (with_reducible refine (P2.out _).mono ?_); rintro e w' ⟨rfl, rfl⟩)
              | (go_at_call 12; (with_reducible refine (HS1.out _ ?_ ?_).mono ?_); (first | exact Below.refl _ _ | exact below_drewN (Below.refl _ _) 1 | exact (below_drewN (Below.refl _ _) 1).alloc (Nat.le_refl _) _ | exact below_drewN ((Below.refl _ _).alloc (Nat.le_refl _) _) 1); (first | exact heap_alloc_new W2 _ | exact heap_alloc_new W2.drew _); rintro e w8 ⟨rfl, hB8, x8⟩; have y0 : w8.cell? ⟨w1.heap.size, 0, none⟩ = some (.int .i64 (a : Int)) := (hB8.cell (p := ⟨w1.heap.size, 0, none⟩) hgl).trans d0; have y1 : w8.cell? ⟨w1.heap.size, 1, none⟩ = some (.int .i64 (b : Int)) := (hB8.cell (p := ⟨w1.heap.size, 1, none⟩) hgl).trans d1; have y2 : w8.cell? ⟨w1.heap.size, 2, none⟩ = some (.slice q n c) := (hB8.cell (p := ⟨w1.heap.size, 2, none⟩) hgl).trans d2; have y3 : w8.cell? ⟨lb, lo + i, none⟩ = some (.int .i64 x) := (hB8.cell (p := ⟨lb, lo + i, none⟩) hlb2).trans d3; have t0 : w8.cell? ⟨W2.heap.size, 0, none⟩ = some (.int .i64 0) := wcell (cs := [_, _, _]) x8 0; have t1 : w8.cell? ⟨W2.heap.size, 1, none⟩ = some (.int .i64 0) := wcell (cs := [_, _, _]) x8 1; have t2 : w8.cell? ⟨W2.heap.size, 2, none⟩ = some (.slice none 0 0) := wcell (cs := [_, _, _]) x8 2; have f0' : w8.frozen? ⟨W2.heap.size, 0, none⟩ = false := wfree x8 0; have f1' : w8.frozen? ⟨W2.heap.size, 1, none⟩ = false := wfree x8 1; have f2' : w8.frozen? ⟨W2.heap.size, 2, none⟩ = false := wfree x8 2; replace x8 := Lib.hid x8; replace hB8 := Lib.hid hB8)
              | (go_at_call 12; (with_reducible refine (HS2.out _ ?_).mono ?_); (first | exact Below.refl _ _ | exact below_drewN (Below.refl _ _) 1 | exact (below_drewN (Below.refl _ _) 1).alloc (Nat.le_refl _) _ | exact below_drewN ((Below.refl _ _).alloc (Nat.le_refl _) _) 1); rintro e w8 ⟨rfl, hB8⟩; have y0 : w8.cell? ⟨w1.heap.size, 0, none⟩ = some (.int .i64 (a : Int)) := (hB8.cell (p := ⟨w1.heap.size, 0, none⟩) hgl).trans d0; have y1 : w8.cell? ⟨w1.heap.size, 1, none⟩ = some (.int .i64 (b : Int)) := (hB8.cell (p := ⟨w1.heap.size, 1, none⟩) hgl).trans d1; have y2 : w8.cell? ⟨w1.heap.size, 2, none⟩ = some (.slice q n c) := (hB8.cell (p := ⟨w1.heap.size, 2, none⟩) hgl).trans d2; have y3 : w8.cell? ⟨lb, lo + i, none⟩ = some (.int .i64 x) := (hB8.cell (p := ⟨lb, lo + i, none⟩) hlb2).trans d3; replace hB8 := Lib.hid hB8))
          all_goals
            go_wp2_with fail
            go_meet
            first | exact ⟨outE_new hB8.out, rfl, rfl⟩ | exact ⟨outE_set hB8.out, rfl, rfl⟩
        case rest =>
          obtain ⟨⟨hBc, bb, rfl⟩, rfl, rfl⟩ := hcut
          have hbl3 : Hid (Below w.heap.size w wc) := hbl2'.out.trans (hBc.mono hbl2'.out.size)
          have e27 := Lib.hid ((hBc.block _ hgl).trans e2'.out)
          have hx6 := Lib.hid (hI2'.out.below hBc)
          clear hBc d0 d1 d2 d3 HS1 HS2 P2 k1 k3 k4 k5 k6
          rcases hR68 with hR6 | hR6
          all_goals
            rw [hR6]
            clear hRb hRn
            replace hR6 := Lib.hid hR6
            go_wp2_with fail
            have hgk := hgk.out
            go_roundg (60 - (i + 1))
            case measure => omega
            case rel => exact ⟨i + 1, s, q, c, by omega, by omega, rfl, by go_num, rfl, e27.out, hx6.out, hs2.out, hf2.out, hbl3.out⟩
    · have hex : i < len → ¬ i < 60 := fun h1 h2 => hgo ⟨h1, h2⟩
      clear hgo d0 d1
      have HA := Lib.hid (fun W' (h : Below W2.heap.size W2 W') => areas_any a b n c q s W' ha1 ha hb1 hb5 hnab (by omega) (hI2.below h) hs2)
      replace hI2 := Lib.hid hI2; replace hs2 := Lib.hid hs2; replace hf2 := Lib.hid hf2; replace e2 := Lib.hid e2; replace hbl2 := Lib.hid hbl2; replace hsl := Lib.hid hsl
      have two : (i < len ∧ ¬ i < 60) ∨ ¬ i < len := by
        by_cases h : i < len
        · exact .inl ⟨h, hex h⟩
        · exact .inr h
      clear hex
      rcases two with ⟨hg1, hg2⟩ | hg1
      all_goals
        go_wp2_with fail
        go_loopg [14, 15] n (fun gk tv iv W' => ∃ k : Nat, k ≤ n ∧ gk = n - k ∧ iv = .int .i64 k ∧ tv = .int .i64 (((s.take k).countP (· != 0) : Nat) : Int) ∧ W2 = W')
        case atStart => exact ⟨0, Nat.zero_le _, rfl, rfl, rfl, rfl⟩
        case round =>
          obtain ⟨k, hk, hgk, rfl, rfl, rfl⟩ := hrel
          replace hgk := Lib.hid hgk
          have hck : (s.take k).countP (· != 0) ≤ n := Nat.le_trans List.countP_le_length (Nat.le_trans (List.length_take_le _ _) hk)
          by_cases hlt : k < n
          · obtain ⟨bq, oq, rfl, _, hcq⟩ := hI2.out.at (by omega)
            have dk := hcq k hlt
            rw [asI_at] at dk
            have hcs := Lib.hid (take_count (s := s) (k := k) (by rw [hsl.out]; exact hlt))
            generalize (s.take k).countP (· != 0) = C at *
            clear hcq
            by_cases h0 : st s k = 0
            · rw [h0] at dk
              rw [if_pos h0] at hcs
              replace h0 := Lib.hid h0
              go_wp2_with fail
              have hgk := hgk.out
              go_roundg (n - (k + 1))
              case measure => omega
              case rel => exact ⟨k + 1, hlt, rfl, by go_num, by rw [hcs.out]; rfl, rfl⟩
            · rw [if_neg h0] at hcs
              have z0 : ((st s k : Nat) : Int) > 0 := by omega
              replace h0 := Lib.hid h0
              go_wp2_with fail
              have hgk := hgk.out
              go_roundg (n - (k + 1))
              case measure => omega
              case rel => exact ⟨k + 1, hlt, rfl, by go_num, by rw [hcs.out]; go_num, rfl⟩
          · have hke : k = n := by omega
            subst hke
            have htk : Hid (s.take k = s) := by show _ = _; rw [List.take_of_length_le (by rw [hsl.out]; exact Nat.le_refl _)]
            rw [htk.out]
            have hA2 := Lib.hid (HA.out W2 (Below.refl _ _))
            have kk : ¬ (k : Int) < (k : Int) := by omega
            have d0 : W2.cell? ⟨w1.heap.size, 0, none⟩ = some (.int .i64 (a : Int)) := wcell (cs := [_, _, _]) e2.out 0
            have d1 : W2.cell? ⟨w1.heap.size, 1, none⟩ = some (.int .i64 (b : Int)) := wcell (cs := [_, _, _]) e2.out 1
            clear HA hck
            generalize s.countP (· != 0) = C at *
            go_wp2_with fail
            refine hA2.out.mono ?_
            rintro e w5 ⟨x, y, z, rfl, hxyz, hB5⟩
            have hbl5 : Hid (Below w.heap.size w w5) := hbl2.out.trans (hB5.mono hbl2.out.size)
            have s1 : (x : Int) + (y : Int) + (z : Int) = (k : Int) := by omega
            have s2 : (0 : Int) ≤ (x : Int) := by omega
            have s3 : (0 : Int) ≤ (y : Int) := by omega
            have s4 : (0 : Int) ≤ (z : Int) := by omega
            have s5 : x + y ≤ k := by omega
            clear hA2 hB5
            go_wp2_with fail
            go_ret
            exact ⟨rfl, hbl5.out⟩
end Go.Proofs.Ytefjliblaeadfaa
