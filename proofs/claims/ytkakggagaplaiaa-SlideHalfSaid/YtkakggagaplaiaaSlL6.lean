/- What gameroomkeep.SlideHalf computes on boards of 6 places: true; conditions: the numbers fit their kind. -/
import Derived.Test.YtkakggagaplaiaaSlB
import Derived.Deep.RegionHeld3
namespace Go.Proofs.Ytkakggagaplaiaa
open Go.RowKit

set_option maxRecDepth 100000 in
set_option maxHeartbeats 16000000 in
theorem half_6 (x0 x1 x2 x3 x4 x5 : Int) (w : World) (h0 : -9223372036854775808 ≤ x0 ∧ x0 ≤ 9223372036854775807) (h1 : -9223372036854775808 ≤ x1 ∧ x1 ≤ 9223372036854775807) (h2 : -9223372036854775808 ≤ x2 ∧ x2 ≤ 9223372036854775807)
    (h3 : -9223372036854775808 ≤ x3 ∧ x3 ≤ 9223372036854775807) (h4 : -9223372036854775808 ≤ x4 ∧ x4 ≤ 9223372036854775807) (h5 : -9223372036854775808 ≤ x5 ∧ x5 ≤ 9223372036854775807) (hcase : (2 + pick x0 2) * (2 + pick x1 2) = 6) :
    Calls Try.prog 6 #[.int .i64 x0, .int .i64 x1, .int .i64 x2, .int .i64 x3, .int .i64 x4, .int .i64 x5] w fun e w' => e = .returned (.bool true) ∧ Below w.heap.size w w' := by
  have P0 := Lib.hid (picked_any x0 2 w h0.1 h0.2 (by omega) (by omega) 2 rfl)
  have P1 := Lib.hid (picked_any x1 2 w h1.1 h1.2 (by omega) (by omega) 2 rfl)
  have P2 := Lib.hid (fun (of : Nat) W hp hq => picked_any x2 of W h2.1 h2.2 hp hq of rfl)
  have P3 := Lib.hid (fun (of : Nat) W hp hq => picked_any x3 of W h3.1 h3.2 hp hq of rfl)
  have P4 := Lib.hid (fun (of : Nat) W hp hq => picked_any x4 of W h4.1 h4.2 hp hq of rfl)
  have P5 := Lib.hid (fun W => picked_any x5 4 W h5.1 h5.2 (by omega) (by omega) 4 rfl)
  clear h0 h1 h2 h3 h4 h5
  have l0 := pick_lt x0 2 (by omega)
  have l1 := pick_lt x1 2 (by omega)
  have ld := pick_lt x5 4 (by omega)
  obtain ⟨a, hae⟩ : ∃ a, a = 2 + pick x0 2 := ⟨_, rfl⟩
  obtain ⟨b, hbe⟩ : ∃ b, b = 2 + pick x1 2 := ⟨_, rfl⟩
  have ha : 2 ≤ a := by omega
  have ha3 : a ≤ 3 := by omega
  have hb : 2 ≤ b := by omega
  have hb3 : b ≤ 3 := by omega
  have haI : (2 : Int) + (pick x0 2 : Nat) = (a : Int) := by rw [hae]; push_cast; omega
  have hbI : (2 : Int) + (pick x1 2 : Nat) = (b : Int) := by rw [hbe]; push_cast; omega
  generalize pick x0 2 = p0 at *
  generalize pick x1 2 = p1 at *
  generalize pick x5 4 = d at *
  replace l0 := Lib.hid l0; replace l1 := Lib.hid l1
  obtain ⟨n, hn⟩ : ∃ n, n = a * b := ⟨_, rfl⟩
  have hab : (a : Int) * (b : Int) = (n : Int) := by rw [hn]; push_cast; rfl
  rw [← hae, ← hbe, ← hn] at hcase
  have hnv : n = 6 := hcase
  clear hcase
  replace hn := Lib.hid hn; replace hae := Lib.hid hae; replace hbe := Lib.hid hbe
  have hwn : IntKind.i64.wrap (n : Int) = n := IntWalk.i64_in _ (by omega)
  have z6 : ((n : Int) == 6) = true := by rw [hnv]; rfl
  have z9 : ((n : Int) == 9) = false := by rw [hnv]; rfl
  have P2' := Lib.hid (fun W => P2.out 720 W (by omega) (by omega))
  have lk := pick_lt x2 720 (by omega)
  have hkf : pick x2 720 < fac n := by rw [hnv]; exact lk
  have hnv' := Lib.hid hnv
  have hn9 : n ≤ 9 := by omega
  have hn0 : 0 < n := by omega
  clear P2 lk hnv
  generalize pick x2 720 = kx at *
  have HT := Lib.hid (tray_any a b n kx w ha ha3 hb hb3 hn hkf)
  have hl : IsOrd n (nth n kx) := nth_ord hkf
  generalize nth n kx = l at *
  replace hkf := Lib.hid hkf
  go_enter Try.func6, Try.ntmps6
  go_wp2_with (first
    | (go_at_call 15; (with_reducible refine P0.out.mono ?_); rintro e w' ⟨rfl, rfl⟩))
  refine P1.out.mono ?_
  rintro e w' ⟨rfl, rfl⟩
  clear P0 P1
  go_wp2_with fail
  refine (P2'.out _).mono ?_
  rintro e w' ⟨rfl, rfl⟩
  go_wp2_with fail
  refine HT.out.mono ?_
  rintro e w1 ⟨p, c, rfl, hO, hB1⟩
  have hnc := OwnC.cap (k := 1) hO
  have hx1 := hO.in
  have hpb := Lib.hid (fun x hx => (OwnC.block (k := 1) hO x hx).1)
  have hB1' := Lib.hid hB1
  clear HT P2' hO z6 z9
  go_upto_region 8 with fail
  have f0 := heap_alloc_new w1 (.cells #[.int .i64 a, .int .i64 b, .slice p n c] 39)
  have hB2 := hB1.alloc hB1.size (.cells #[.int .i64 a, .int .i64 b, .slice p n c] 39)
  have hx2 := hx1.alloc (.cells #[.int .i64 a, .int .i64 b, .slice p n c] 39)
  obtain ⟨g1, hg1⟩ : ∃ g1, g1 = w1.heap.size := ⟨_, rfl⟩
  have hgw : w.heap.size ≤ g1 := by rw [hg1]; exact hB1.size
  rw [← hg1] at f0 ⊢
  generalize w1.alloc (.cells #[.int .i64 a, .int .i64 b, .slice p n c] 39) = W2 at *
  clear hg1 hB1 hx1 hB1'
  have d0 : W2.cell? ⟨g1, 0, none⟩ = some (.int .i64 (a : Int)) := wcell (cs := [_, _, _]) f0 0
  have d1 : W2.cell? ⟨g1, 1, none⟩ = some (.int .i64 (b : Int)) := wcell (cs := [_, _, _]) f0 1
  have d2 : W2.cell? ⟨g1, 2, none⟩ = some (.slice p n c) := wcell (cs := [_, _, _]) f0 2
  have HC := Lib.hid (can_any a b n c p l W2 ha ha3 hb hb3 hn hnc hx2 hl)
  replace f0 := Lib.hid f0; replace hB2 := Lib.hid hB2; replace hx2 := Lib.hid hx2; replace hgw := Lib.hid hgw
  obtain ⟨R, hR⟩ : ∃ R, canS a b l = R := ⟨_, rfl⟩
  rw [hR] at HC
  replace hR := Lib.hid hR
  go_wp2_with fail
  refine HC.out.mono ?_
  rintro e w3 ⟨rfl, hB3⟩
  have f3 := (Below.block hB3 _ (lt_of_heap f0.out)).trans f0.out
  have hx3 := hx2.out.below hB3
  have hB3' := Lib.hid (hB2.out.trans (hB3.mono hB2.out.size))
  clear d0 d1 d2 HC hB3 hB2 f0 hx2
  have d0 : w3.cell? ⟨g1, 0, none⟩ = some (.int .i64 (a : Int)) := wcell (cs := [_, _, _]) f3 0
  have d1 : w3.cell? ⟨g1, 1, none⟩ = some (.int .i64 (b : Int)) := wcell (cs := [_, _, _]) f3 1
  have d2 : w3.cell? ⟨g1, 2, none⟩ = some (.slice p n c) := wcell (cs := [_, _, _]) f3 2
  have HM := Lib.hid (may_any a b n c p l w3 ha ha3 hb hb3 hn hx3 hl)
  replace f3 := Lib.hid f3; replace hx3 := Lib.hid hx3
  go_wp2_with fail
  refine HM.out.mono ?_
  rintro e w8 ⟨rfl, hB4⟩
  have f8 := (Below.block hB4 _ (lt_of_heap f3.out)).trans f3.out
  have hx8 := Lib.hid (hx3.out.below hB4)
  have hB8 := Lib.hid (hB3'.out.trans (hB4.mono hB3'.out.size))
  clear d0 d1 d2 HM hB4 hB3' f3 hx3
  have d0 : w8.cell? ⟨g1, 0, none⟩ = some (.int .i64 (a : Int)) := wcell (cs := [_, _, _]) f8 0
  have d1 : w8.cell? ⟨g1, 1, none⟩ = some (.int .i64 (b : Int)) := wcell (cs := [_, _, _]) f8 1
  have d2 : w8.cell? ⟨g1, 2, none⟩ = some (.slice p n c) := wcell (cs := [_, _, _]) f8 2
  have hlw8 := lt_of_heap f8
  replace f8 := Lib.hid f8
  have D0 : Hid (∀ (X : World) (sz : Nat), Bw w8 X → X.heap[sz]? = some (.cells #[.int .i64 (d : Int)] 3 (0, 0)) → Calls Try.prog 23 #[.agg #[.int .i64 (a : Int), .int .i64 (b : Int), .slice p n c], .slice (some ⟨sz, 0, none⟩) 1 1] X fun e w' => ∃ p' c', e = .returned (.tuple #[.agg #[.int .i64 (a : Int), .int .i64 (b : Int), .slice p' n c'], .int .i64 ((mvS a b l d).2.1 : Nat), .int .i64 ((mvS a b l d).2.2 : Nat)]) ∧ IntsIn w' p' n (asI (mvS a b l d).1) ∧ n ≤ c' ∧ Bw X w' ∧ Bw w8 w' ∧ ∀ x, p' = some x → X.heap.size ≤ x.block) := fun X sz hX hs =>
    (do_any a b n c d sz p l X ha ha3 hb hb3 hn ld (hx8.out.below hX) hl hs).mono fun e w' ⟨p', c', h1, h2, h3, h4, h5⟩ => ⟨p', c', h1, h2, h3, h4, hX.trans h4, h5⟩
  have hMd := mv_cases ha ha3 hb hb3 hn.out hl ld
  generalize mvS a b l d = M at *
  obtain ⟨l', m1, m2⟩ := M
  simp only at D0 hMd
  have fa : ((w8.alloc (.cells #[.int .i64 (d : Int)] 3)).drew).heap[w8.heap.size]? = some (.cells #[.int .i64 (d : Int)] 3 (0, 0)) := heap_alloc_new w8 _
  have fb : (((w8.alloc (.cells #[.int .i64 0, .int .i64 0, .slice none 0 0] 39)).alloc (.cells #[.int .i64 (d : Int)] 3)).drew).heap[w8.heap.size + 1]? = some (.cells #[.int .i64 (d : Int)] 3 (0, 0)) := (heap2 w8 (.cells #[.int .i64 0, .int .i64 0, .slice none 0 0] 39) (.cells #[.int .i64 (d : Int)] 3)).2
  have fc : (((w8.alloc (.cells #[.int .i64 (d : Int)] 3)).alloc (.cells #[.int .i64 0, .int .i64 0, .slice none 0 0] 39)).drew).heap[w8.heap.size]? = some (.cells #[.int .i64 (d : Int)] 3 (0, 0)) := (heap2 w8 (.cells #[.int .i64 (d : Int)] 3) (.cells #[.int .i64 0, .int .i64 0, .slice none 0 0] 39)).1
  have fbx : (((w8.alloc (.cells #[.int .i64 0, .int .i64 0, .slice none 0 0] 39)).alloc (.cells #[.int .i64 (d : Int)] 3)).drew).heap[w8.heap.size]? = some (.cells #[.int .i64 0, .int .i64 0, .slice none 0 0] 39 (0, 0)) := (heap2 w8 (.cells #[.int .i64 0, .int .i64 0, .slice none 0 0] 39) (.cells #[.int .i64 (d : Int)] 3)).1
  have fcx : (((w8.alloc (.cells #[.int .i64 (d : Int)] 3)).alloc (.cells #[.int .i64 0, .int .i64 0, .slice none 0 0] 39)).drew).heap[w8.heap.size + 1]? = some (.cells #[.int .i64 0, .int .i64 0, .slice none 0 0] 39 (0, 0)) := (heap2 w8 (.cells #[.int .i64 (d : Int)] 3) (.cells #[.int .i64 0, .int .i64 0, .slice none 0 0] 39)).2
  have ba : Bw w8 ((w8.alloc (.cells #[.int .i64 (d : Int)] 3)).drew) := ((Bw.refl w8).alloc _).drew
  have bb : Bw w8 (((w8.alloc (.cells #[.int .i64 0, .int .i64 0, .slice none 0 0] 39)).alloc (.cells #[.int .i64 (d : Int)] 3)).drew) := (((Bw.refl w8).alloc _).alloc _).drew
  have bc : Bw w8 (((w8.alloc (.cells #[.int .i64 (d : Int)] 3)).alloc (.cells #[.int .i64 0, .int .i64 0, .slice none 0 0] 39)).drew) := (((Bw.refl w8).alloc _).alloc _).drew
  have zb : (((w8.alloc (.cells #[.int .i64 0, .int .i64 0, .slice none 0 0] 39)).alloc (.cells #[.int .i64 (d : Int)] 3)).drew).heap.size = w8.heap.size + 2 := by show ((w8.alloc (.cells #[.int .i64 0, .int .i64 0, .slice none 0 0] 39)).alloc (.cells #[.int .i64 (d : Int)] 3)).heap.size = _; simp
  have zc : (((w8.alloc (.cells #[.int .i64 (d : Int)] 3)).alloc (.cells #[.int .i64 0, .int .i64 0, .slice none 0 0] 39)).drew).heap.size = w8.heap.size + 2 := by show ((w8.alloc (.cells #[.int .i64 (d : Int)] 3)).alloc (.cells #[.int .i64 0, .int .i64 0, .slice none 0 0] 39)).heap.size = _; simp
  replace zb := Lib.hid zb; replace zc := Lib.hid zc; replace fbx := Lib.hid fbx; replace fcx := Lib.hid fcx
  have g1' : g1 ≠ w8.heap.size := by omega
  have g2' : g1 ≠ w8.heap.size + 1 := by omega
  go_upto_region 11 with fail
  go_cut [20, 21, 22] (fun v vn ve X => BoxR w8 a b n l' v X ∧ vn = .int .i64 (m1 : Nat) ∧ ve = .int .i64 (m2 : Nat))
  case first =>
    go_region_held3 (fun X => X.cell? ⟨g1, 0, none⟩ = some (.int .i64 (a : Int)) ∧ X.cell? ⟨g1, 1, none⟩ = some (.int .i64 (b : Int)) ∧ X.cell? ⟨g1, 2, none⟩ = some (.slice p n c)) (first | with_reducible exact ⟨d0, d1, d2⟩ | with_reducible exact ⟨x0, x1, x2⟩ | with_reducible exact ⟨(cell3_ne _ g1' _ _ _).trans x0, (cell3_ne _ g1' _ _ _).trans x1, (cell3_ne _ g1' _ _ _).trans x2⟩ | with_reducible exact ⟨(cell3_ne _ g2' _ _ _).trans x0, (cell3_ne _ g2' _ _ _).trans x1, (cell3_ne _ g2' _ _ _).trans x2⟩ | go_keep)
      (first
      | (go_at_call 15; (with_reducible refine (P5.out _).mono ?_); rintro e w9 ⟨rfl, rfl⟩)
      | (go_at_call 23; (with_reducible refine (D0.out _ _ ?_ ?_).mono ?_); (with_reducible exact bb); (with_reducible exact fb); rintro e w9 ⟨p9, c9, rfl, hx9, hn9', hbX, hb9, hf9⟩; have x0 : w9.cell? ⟨g1, 0, none⟩ = some (.int .i64 (a : Int)) := (Below.cell (p := ⟨g1, 0, none⟩) hb9 hlw8).trans d0; have x1 : w9.cell? ⟨g1, 1, none⟩ = some (.int .i64 (b : Int)) := (Below.cell (p := ⟨g1, 1, none⟩) hb9 hlw8).trans d1; have x2 : w9.cell? ⟨g1, 2, none⟩ = some (.slice p n c) := (Below.cell (p := ⟨g1, 2, none⟩) hb9 hlw8).trans d2; have hbx9 := (Below.block hbX _ (by rw [zb.out]; omega)).trans fbx.out; have bx0 : w9.cell? ⟨w8.heap.size, 0, none⟩ = some (.int .i64 0) := wcell (cs := [_, _, _]) hbx9 0; have bz0 : w9.frozen? ⟨w8.heap.size, 0, none⟩ = false := wfree hbx9 0; have bx1 : w9.cell? ⟨w8.heap.size, 1, none⟩ = some (.int .i64 0) := wcell (cs := [_, _, _]) hbx9 1; have bz1 : w9.frozen? ⟨w8.heap.size, 1, none⟩ = false := wfree hbx9 1; have bx2 : w9.cell? ⟨w8.heap.size, 2, none⟩ = some (.slice none 0 0) := wcell (cs := [_, _, _]) hbx9 2; have bz2 : w9.frozen? ⟨w8.heap.size, 2, none⟩ = false := wfree hbx9 2; have hfb : Hid (∀ x : Addr, p9 = some x → w8.heap.size < x.block) := (fun x hx => (by have := hf9 x hx; rw [zb.out] at this; omega)); replace hbx9 := Lib.hid hbx9; replace hx9 := Lib.hid hx9; replace hb9 := Lib.hid hb9; replace hf9 := Lib.hid hf9; replace hbX := Lib.hid hbX; replace hn9' := Lib.hid hn9')
      | (go_at_call 23; (with_reducible refine (D0.out _ _ ?_ ?_).mono ?_); (with_reducible exact bc); (with_reducible exact fc); rintro e w9 ⟨p9, c9, rfl, hx9, hn9', hbX, hb9, hf9⟩; have x0 : w9.cell? ⟨g1, 0, none⟩ = some (.int .i64 (a : Int)) := (Below.cell (p := ⟨g1, 0, none⟩) hb9 hlw8).trans d0; have x1 : w9.cell? ⟨g1, 1, none⟩ = some (.int .i64 (b : Int)) := (Below.cell (p := ⟨g1, 1, none⟩) hb9 hlw8).trans d1; have x2 : w9.cell? ⟨g1, 2, none⟩ = some (.slice p n c) := (Below.cell (p := ⟨g1, 2, none⟩) hb9 hlw8).trans d2; have hbx9 := (Below.block hbX _ (by rw [zc.out]; omega)).trans fcx.out; have bx0 : w9.cell? ⟨w8.heap.size + 1, 0, none⟩ = some (.int .i64 0) := wcell (cs := [_, _, _]) hbx9 0; have bz0 : w9.frozen? ⟨w8.heap.size + 1, 0, none⟩ = false := wfree hbx9 0; have bx1 : w9.cell? ⟨w8.heap.size + 1, 1, none⟩ = some (.int .i64 0) := wcell (cs := [_, _, _]) hbx9 1; have bz1 : w9.frozen? ⟨w8.heap.size + 1, 1, none⟩ = false := wfree hbx9 1; have bx2 : w9.cell? ⟨w8.heap.size + 1, 2, none⟩ = some (.slice none 0 0) := wcell (cs := [_, _, _]) hbx9 2; have bz2 : w9.frozen? ⟨w8.heap.size + 1, 2, none⟩ = false := wfree hbx9 2; have hfb : Hid (∀ x : Addr, p9 = some x → w8.heap.size + 1 < x.block) := (fun x hx => (by have := hf9 x hx; rw [zc.out] at this; omega)); replace hbx9 := Lib.hid hbx9; replace hx9 := Lib.hid hx9; replace hb9 := Lib.hid hb9; replace hf9 := Lib.hid hf9; replace hbX := Lib.hid hbX; replace hn9' := Lib.hid hn9')
      | (go_at_call 23; (with_reducible refine (D0.out _ _ ?_ ?_).mono ?_); (with_reducible exact ba); (with_reducible exact fa); rintro e w9 ⟨p9, c9, rfl, hx9, hn9', hbX, hb9, hf9⟩; have x0 : w9.cell? ⟨g1, 0, none⟩ = some (.int .i64 (a : Int)) := (Below.cell (p := ⟨g1, 0, none⟩) hb9 hlw8).trans d0; have x1 : w9.cell? ⟨g1, 1, none⟩ = some (.int .i64 (b : Int)) := (Below.cell (p := ⟨g1, 1, none⟩) hb9 hlw8).trans d1; have x2 : w9.cell? ⟨g1, 2, none⟩ = some (.slice p n c) := (Below.cell (p := ⟨g1, 2, none⟩) hb9 hlw8).trans d2; replace hx9 := Lib.hid hx9; replace hb9 := Lib.hid hb9; replace hf9 := Lib.hid hf9; replace hbX := Lib.hid hbX; replace hn9' := Lib.hid hn9'))
    all_goals
      go_wp2_with fail
      go_meet
      first
      | exact ⟨box_new hx9.out hn9'.out hb9.out, rfl, rfl⟩
      | exact ⟨box_set hx9.out hn9'.out hb9.out hbx9.out (by omega) hfb.out, rfl, rfl⟩
  case rest =>
    obtain ⟨⟨bq, p13, c13, rfl, e13, hx13, hn13, hbw13⟩, rfl, rfl⟩ := hcut
    obtain ⟨W9, rfl⟩ : ∃ W9 : World, W9 = wc := ⟨_, rfl⟩
    clear D0 fa fb fc fbx fcx ba bb bc zb zc g1' g2' d0 d1 d2
    have f9 := Lib.hid ((Below.block hbw13 _ hlw8).trans f8.out)
    have hx9 := Lib.hid (hx8.out.below hbw13)
    have hB9 := Lib.hid (hB8.out.trans (Below.mono hbw13 hB8.out.size))
    clear f8 hx8 hB8 hbw13
    rcases hMd with ⟨rfl, rfl⟩ | ⟨rfl, rfl, ho', hc'⟩
    · have fT := f9
      have hxT := hx9
      have hBT := hB9
      clear e13 hx13 f9 hx9 hB9
      have hP3 := Lib.hid (fun W => P3.out n W hn0 (by omega))
      have hP4 := Lib.hid (fun W => P4.out n W hn0 (by omega))
      have li := pick_lt x3 n hn0
      have lj := pick_lt x4 n hn0
      clear P3 P4 P5
      generalize pick x3 n = i at *
      generalize pick x4 n = j at *
      go_wp2_with fail
      refine (hP3.out _).mono ?_
      rintro e w' ⟨rfl, rfl⟩
      go_wp2_with fail
      refine (hP4.out _).mono ?_
      rintro e w' ⟨rfl, rfl⟩
      clear hP3 hP4
      have d0 : W9.cell? ⟨g1, 0, none⟩ = some (.int .i64 (a : Int)) := wcell (cs := [_, _, _]) fT.out 0
      have d1 : W9.cell? ⟨g1, 1, none⟩ = some (.int .i64 (b : Int)) := wcell (cs := [_, _, _]) fT.out 1
      have d2 : W9.cell? ⟨g1, 2, none⟩ = some (.slice p n c) := wcell (cs := [_, _, _]) fT.out 2
      obtain ⟨pb, po, hpe, _, hcc⟩ := hxT.out.at hn0
      have ci : W9.cell? ⟨pb, po + i, none⟩ = some (.int .i64 (st l i : Nat)) := by rw [hcc i li, asI_at]
      have cj : W9.cell? ⟨pb, po + j, none⟩ = some (.int .i64 (st l j : Nat)) := by rw [hcc j lj, asI_at]
      clear hcc
      subst hpe
      have HX := Lib.hid (exc_can (i := i) (j := j) ha3 hb3 hn.out hn0 hl li lj)
      have hex : Hid ((l.set i (st l j)).set j (st l i) = exc l i j) := rfl
      have hll := Lib.hid hl.len
      obtain ⟨vi, hvi⟩ : ∃ v, st l i = v := ⟨_, rfl⟩
      obtain ⟨vj, hvj⟩ : ∃ v, st l j = v := ⟨_, rfl⟩
      rw [hvi] at ci HX hex
      rw [hvj] at cj HX hex
      replace hvi := Lib.hid hvi; replace hvj := Lib.hid hvj
      by_cases hij : i = j
      · subst hij
        clear HX hex cj
        go_wp2_with fail
        go_ret
        exact ⟨rfl, hBT.out⟩
      by_cases hvi0 : vi = 0
      · subst hvi0
        clear HX hex
        go_wp2_with fail
        go_ret
        exact ⟨rfl, hBT.out⟩
      by_cases hvj0 : vj = 0
      · subst hvj0
        clear HX hex
        go_wp2_with fail
        go_ret
        exact ⟨rfl, hBT.out⟩
      have HI := Lib.hid (ints_any (some ⟨pb, po, none⟩) n c (asI l) W9 hn0 (by omega) hxT.out)
      obtain ⟨ho, hcan⟩ := HX.out hij hvi0 hvj0
      rw [hR.out] at hcan
      replace ho := Lib.hid ho; replace hcan := Lib.hid hcan
      have bi : (vi == 0) = false := by simpa using hvi0
      have bj : (vj == 0) = false := by simpa using hvj0
      have bij : (i == j) = false := by simpa using hij
      have bij2 : ((i : Int) == (j : Int)) = false := by simp; omega
      have bi2 : ((vi : Int) == 0) = false := by simp; omega
      have bj2 : ((vj : Int) == 0) = false := by simp; omega
      clear HX
      go_wp2_with fail
      refine HI.out.mono ?_
      rintro e w5 ⟨q, cq, rfl, hO, hB5⟩
      obtain ⟨gq, rfl, hgqB, hgq, hcq⟩ := OwnC.where (k := 1) hO hn0
      have hBu := Lib.hid (hBT.out.trans (hB5.mono hBT.out.size))
      have hwT := Lib.hid hBT.out.size
      clear HI hB5 d0 d1 d2 ci cj fT hxT hBT bi bj bij bi2 bj2 bij2
      go_upto_region 22 with fail
      have fq := heap_alloc_new w5 (.cells #[.int .i64 a, .int .i64 b, .slice (some ⟨gq, 0, none⟩) n cq] 39)
      have hO2 : Own 3 W9.heap.size (w5.alloc (.cells #[.int .i64 a, .int .i64 b, .slice (some ⟨gq, 0, none⟩) n cq] 39)) (some ⟨gq, 0, none⟩) n cq (asI l) := OwnC.alloc (k := 1) hO _
      have hBv := hBu.out.alloc hBu.out.size (.cells #[.int .i64 a, .int .i64 b, .slice (some ⟨gq, 0, none⟩) n cq] 39)
      obtain ⟨g3, hg3⟩ : ∃ g3, g3 = w5.heap.size := ⟨_, rfl⟩
      have hg3w : w.heap.size ≤ g3 := by rw [hg3]; exact hBu.out.size
      have hne3 : gq ≠ g3 := by omega
      rw [← hg3] at fq ⊢
      generalize w5.alloc (.cells #[.int .i64 a, .int .i64 b, .slice (some ⟨gq, 0, none⟩) n cq] 39) = W6 at *
      clear hg3 hO hgq hBu
      have d2 : W6.cell? ⟨g3, 2, none⟩ = some (.slice (some ⟨gq, 0, none⟩) n cq) := wcell (cs := [_, _, _]) fq 2
      have ci := hO2.cellN li
      have cj := hO2.cellN lj
      rw [hvi.out] at ci
      rw [hvj.out] at cj
      have fi := OwnC.free (k := 1) hO2 i
      have fj := OwnC.free (k := 1) hO2 j
      have hO3 := (hO2.setN i vj).setN j vi
      rw [hex.out] at hO3
      have hx3 : ((W6.setCell ⟨gq, i, none⟩ (.int .i64 (vj : Nat))).setCell ⟨gq, j, none⟩ (.int .i64 (vi : Nat))).heap[g3]? = _ := (wset_ne _ _ (fun e => hne3 e.symm)).trans ((wset_ne _ _ (fun e => hne3 e.symm)).trans fq)
      have hgqw : w.heap.size ≤ gq := Nat.le_trans hwT.out hgqB
      have hB3 := Lib.hid ((hBv.setCell (p := ⟨gq, i, none⟩) hgqw (.int .i64 (vj : Nat))).setCell (p := ⟨gq, j, none⟩) hgqw (.int .i64 (vi : Nat)))
      replace hO3 := Lib.hid hO3; replace hx3 := Lib.hid hx3
      have i1 : (i : Int) < (n : Int) := by omega
      have i2 : (j : Int) < (n : Int) := by omega
      have i3 : (0 : Int) ≤ (i : Int) := by omega
      have i4 : (0 : Int) ≤ (j : Int) := by omega
      have i5 : j ≠ i := fun e => hij e.symm
      clear fq hO2 hBv hex hvi hvj hvi0 hvj0
      go_cut [25] (fun v wx => v = .int .i64 i ∧ ∃ r, wx = ((W6.setCell ⟨gq, i, none⟩ (.int .i64 (vj : Nat))).setCell ⟨gq, j, none⟩ (.int .i64 (vi : Nat))).drewN r)
      case first =>
        go_region
        all_goals
          go_wp2_with fail
          go_meet
          exact ⟨rfl, _, rfl⟩
      case rest =>
        obtain ⟨rfl, r2, rfl⟩ := hcut
        have hx4 : (((W6.setCell ⟨gq, i, none⟩ (.int .i64 (vj : Nat))).setCell ⟨gq, j, none⟩ (.int .i64 (vi : Nat))).drewN r2).heap[g3]? = _ := hx3.out
        have hO4 : Own 3 W9.heap.size (((W6.setCell ⟨gq, i, none⟩ (.int .i64 (vj : Nat))).setCell ⟨gq, j, none⟩ (.int .i64 (vi : Nat))).drewN r2) (some ⟨gq, 0, none⟩) n cq (asI (exc l i j)) := hO3.out
        have hB4 := below_drewN hB3.out r2
        clear d2 ci cj fi fj hx3 hO3 hB3
        generalize ((W6.setCell ⟨gq, i, none⟩ (.int .i64 (vj : Nat))).setCell ⟨gq, j, none⟩ (.int .i64 (vi : Nat))).drewN r2 = W7 at *
        have d0 : W7.cell? ⟨g3, 0, none⟩ = some (.int .i64 (a : Int)) := wcell (cs := [_, _, _]) hx4 0
        have d1 : W7.cell? ⟨g3, 1, none⟩ = some (.int .i64 (b : Int)) := wcell (cs := [_, _, _]) hx4 1
        have d2 : W7.cell? ⟨g3, 2, none⟩ = some (.slice (some ⟨gq, 0, none⟩) n cq) := wcell (cs := [_, _, _]) hx4 2
        have HZ := Lib.hid (can_any a b n cq _ (exc l i j) W7 ha ha3 hb hb3 hn hcq hO4.in ho.out)
        rw [hcan.out] at HZ
        clear hx4 hO4
        replace hB4 := Lib.hid hB4
        go_wp2_with fail
        refine HZ.out.mono ?_
        rintro e w9 ⟨rfl, hB5⟩
        have hB6 := Lib.hid (hB4.out.trans (hB5.mono hB4.out.size))
        clear HZ hB5 hB4 d0 d1 d2
        have hRR : ((!R) != R) = true := by cases R <;> rfl
        go_wp2_with fail
        go_ret
        exact ⟨rfl, hB6.out⟩
    · have e0 : W9.cell? ⟨bq, 0, none⟩ = some (.int .i64 (a : Int)) := wcell (cs := [_, _, _]) e13 0
      have e1 : W9.cell? ⟨bq, 1, none⟩ = some (.int .i64 (b : Int)) := wcell (cs := [_, _, _]) e13 1
      have e2 : W9.cell? ⟨bq, 2, none⟩ = some (.slice p13 n c13) := wcell (cs := [_, _, _]) e13 2
      have HY := Lib.hid (can_any a b n c13 p13 l' W9 ha ha3 hb hb3 hn hn13 hx13 ho')
      rw [hc', hR.out] at HY
      clear e13 hx13 ho' hc'
      go_wp2_with fail
      refine HY.out.mono ?_
      rintro e WX ⟨rfl, hB10⟩
      have fT := Lib.hid ((Below.block hB10 _ (lt_of_heap f9.out)).trans f9.out)
      have hxT := Lib.hid (hx9.out.below hB10)
      have hBT := Lib.hid (hB9.out.trans (Below.mono hB10 hB9.out.size))
      clear HY hB10 e0 e1 e2 f9 hx9 hB9
      have hP3 := Lib.hid (fun W => P3.out n W hn0 (by omega))
      have hP4 := Lib.hid (fun W => P4.out n W hn0 (by omega))
      have li := pick_lt x3 n hn0
      have lj := pick_lt x4 n hn0
      clear P3 P4 P5
      generalize pick x3 n = i at *
      generalize pick x4 n = j at *
      go_wp2_with fail
      refine (hP3.out _).mono ?_
      rintro e w' ⟨rfl, rfl⟩
      go_wp2_with fail
      refine (hP4.out _).mono ?_
      rintro e w' ⟨rfl, rfl⟩
      clear hP3 hP4
      have d0 : WX.cell? ⟨g1, 0, none⟩ = some (.int .i64 (a : Int)) := wcell (cs := [_, _, _]) fT.out 0
      have d1 : WX.cell? ⟨g1, 1, none⟩ = some (.int .i64 (b : Int)) := wcell (cs := [_, _, _]) fT.out 1
      have d2 : WX.cell? ⟨g1, 2, none⟩ = some (.slice p n c) := wcell (cs := [_, _, _]) fT.out 2
      obtain ⟨pb, po, hpe, _, hcc⟩ := hxT.out.at hn0
      have ci : WX.cell? ⟨pb, po + i, none⟩ = some (.int .i64 (st l i : Nat)) := by rw [hcc i li, asI_at]
      have cj : WX.cell? ⟨pb, po + j, none⟩ = some (.int .i64 (st l j : Nat)) := by rw [hcc j lj, asI_at]
      clear hcc
      subst hpe
      have HX := Lib.hid (exc_can (i := i) (j := j) ha3 hb3 hn.out hn0 hl li lj)
      have hex : Hid ((l.set i (st l j)).set j (st l i) = exc l i j) := rfl
      have hll := Lib.hid hl.len
      obtain ⟨vi, hvi⟩ : ∃ v, st l i = v := ⟨_, rfl⟩
      obtain ⟨vj, hvj⟩ : ∃ v, st l j = v := ⟨_, rfl⟩
      rw [hvi] at ci HX hex
      rw [hvj] at cj HX hex
      replace hvi := Lib.hid hvi; replace hvj := Lib.hid hvj
      by_cases hij : i = j
      · subst hij
        clear HX hex cj
        go_wp2_with fail
        go_ret
        exact ⟨rfl, hBT.out⟩
      by_cases hvi0 : vi = 0
      · subst hvi0
        clear HX hex
        go_wp2_with fail
        go_ret
        exact ⟨rfl, hBT.out⟩
      by_cases hvj0 : vj = 0
      · subst hvj0
        clear HX hex
        go_wp2_with fail
        go_ret
        exact ⟨rfl, hBT.out⟩
      have HI := Lib.hid (ints_any (some ⟨pb, po, none⟩) n c (asI l) WX hn0 (by omega) hxT.out)
      obtain ⟨ho, hcan⟩ := HX.out hij hvi0 hvj0
      rw [hR.out] at hcan
      replace ho := Lib.hid ho; replace hcan := Lib.hid hcan
      have bi : (vi == 0) = false := by simpa using hvi0
      have bj : (vj == 0) = false := by simpa using hvj0
      have bij : (i == j) = false := by simpa using hij
      have bij2 : ((i : Int) == (j : Int)) = false := by simp; omega
      have bi2 : ((vi : Int) == 0) = false := by simp; omega
      have bj2 : ((vj : Int) == 0) = false := by simp; omega
      clear HX
      go_wp2_with fail
      refine HI.out.mono ?_
      rintro e w5 ⟨q, cq, rfl, hO, hB5⟩
      obtain ⟨gq, rfl, hgqB, hgq, hcq⟩ := OwnC.where (k := 1) hO hn0
      have hBu := Lib.hid (hBT.out.trans (hB5.mono hBT.out.size))
      have hwT := Lib.hid hBT.out.size
      clear HI hB5 d0 d1 d2 ci cj fT hxT hBT bi bj bij bi2 bj2 bij2
      go_upto_region 22 with fail
      have fq := heap_alloc_new w5 (.cells #[.int .i64 a, .int .i64 b, .slice (some ⟨gq, 0, none⟩) n cq] 39)
      have hO2 : Own 3 WX.heap.size (w5.alloc (.cells #[.int .i64 a, .int .i64 b, .slice (some ⟨gq, 0, none⟩) n cq] 39)) (some ⟨gq, 0, none⟩) n cq (asI l) := OwnC.alloc (k := 1) hO _
      have hBv := hBu.out.alloc hBu.out.size (.cells #[.int .i64 a, .int .i64 b, .slice (some ⟨gq, 0, none⟩) n cq] 39)
      obtain ⟨g3, hg3⟩ : ∃ g3, g3 = w5.heap.size := ⟨_, rfl⟩
      have hg3w : w.heap.size ≤ g3 := by rw [hg3]; exact hBu.out.size
      have hne3 : gq ≠ g3 := by omega
      rw [← hg3] at fq ⊢
      generalize w5.alloc (.cells #[.int .i64 a, .int .i64 b, .slice (some ⟨gq, 0, none⟩) n cq] 39) = W6 at *
      clear hg3 hO hgq hBu
      have d2 : W6.cell? ⟨g3, 2, none⟩ = some (.slice (some ⟨gq, 0, none⟩) n cq) := wcell (cs := [_, _, _]) fq 2
      have ci := hO2.cellN li
      have cj := hO2.cellN lj
      rw [hvi.out] at ci
      rw [hvj.out] at cj
      have fi := OwnC.free (k := 1) hO2 i
      have fj := OwnC.free (k := 1) hO2 j
      have hO3 := (hO2.setN i vj).setN j vi
      rw [hex.out] at hO3
      have hx3 : ((W6.setCell ⟨gq, i, none⟩ (.int .i64 (vj : Nat))).setCell ⟨gq, j, none⟩ (.int .i64 (vi : Nat))).heap[g3]? = _ := (wset_ne _ _ (fun e => hne3 e.symm)).trans ((wset_ne _ _ (fun e => hne3 e.symm)).trans fq)
      have hgqw : w.heap.size ≤ gq := Nat.le_trans hwT.out hgqB
      have hB3 := Lib.hid ((hBv.setCell (p := ⟨gq, i, none⟩) hgqw (.int .i64 (vj : Nat))).setCell (p := ⟨gq, j, none⟩) hgqw (.int .i64 (vi : Nat)))
      replace hO3 := Lib.hid hO3; replace hx3 := Lib.hid hx3
      have i1 : (i : Int) < (n : Int) := by omega
      have i2 : (j : Int) < (n : Int) := by omega
      have i3 : (0 : Int) ≤ (i : Int) := by omega
      have i4 : (0 : Int) ≤ (j : Int) := by omega
      have i5 : j ≠ i := fun e => hij e.symm
      clear fq hO2 hBv hex hvi hvj hvi0 hvj0
      go_cut [25] (fun v wx => v = .int .i64 i ∧ ∃ r, wx = ((W6.setCell ⟨gq, i, none⟩ (.int .i64 (vj : Nat))).setCell ⟨gq, j, none⟩ (.int .i64 (vi : Nat))).drewN r)
      case first =>
        go_region
        all_goals
          go_wp2_with fail
          go_meet
          exact ⟨rfl, _, rfl⟩
      case rest =>
        obtain ⟨rfl, r2, rfl⟩ := hcut
        have hx4 : (((W6.setCell ⟨gq, i, none⟩ (.int .i64 (vj : Nat))).setCell ⟨gq, j, none⟩ (.int .i64 (vi : Nat))).drewN r2).heap[g3]? = _ := hx3.out
        have hO4 : Own 3 WX.heap.size (((W6.setCell ⟨gq, i, none⟩ (.int .i64 (vj : Nat))).setCell ⟨gq, j, none⟩ (.int .i64 (vi : Nat))).drewN r2) (some ⟨gq, 0, none⟩) n cq (asI (exc l i j)) := hO3.out
        have hB4 := below_drewN hB3.out r2
        clear d2 ci cj fi fj hx3 hO3 hB3
        generalize ((W6.setCell ⟨gq, i, none⟩ (.int .i64 (vj : Nat))).setCell ⟨gq, j, none⟩ (.int .i64 (vi : Nat))).drewN r2 = W7 at *
        have d0 : W7.cell? ⟨g3, 0, none⟩ = some (.int .i64 (a : Int)) := wcell (cs := [_, _, _]) hx4 0
        have d1 : W7.cell? ⟨g3, 1, none⟩ = some (.int .i64 (b : Int)) := wcell (cs := [_, _, _]) hx4 1
        have d2 : W7.cell? ⟨g3, 2, none⟩ = some (.slice (some ⟨gq, 0, none⟩) n cq) := wcell (cs := [_, _, _]) hx4 2
        have HZ := Lib.hid (can_any a b n cq _ (exc l i j) W7 ha ha3 hb hb3 hn hcq hO4.in ho.out)
        rw [hcan.out] at HZ
        clear hx4 hO4
        replace hB4 := Lib.hid hB4
        go_wp2_with fail
        refine HZ.out.mono ?_
        rintro e w9 ⟨rfl, hB5⟩
        have hB6 := Lib.hid (hB4.out.trans (hB5.mono hB4.out.size))
        clear HZ hB5 hB4 d0 d1 d2
        have hRR : ((!R) != R) = true := by cases R <;> rfl
        go_wp2_with fail
        go_ret
        exact ⟨rfl, hB6.out⟩
end Go.Proofs.Ytkakggagaplaiaa
