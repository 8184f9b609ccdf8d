/- What slices.Insert of one piece at the head computes at rows of pieces; conditions: a row of the call's own with at least one piece, the new piece in another block. -/
import Derived.Test.YtgnchgkiijncbaaIns
import Derived.Lib.AppendZerosOnto
import Derived.Lib.LazyBuf
namespace Go.Proofs.Ytgnchgkiijncbaa
open Go.RowKit

theorem sz30 : (Try.prog.info? 30).map (·.size) = some 2 := by kernel_rfl
set_option maxHeartbeats 4000000 in
set_option maxRecDepth 100000 in
theorem insert_room (g n c vb B : Nat) (cs : List Piece) (x : Piece) (w : World) (h1 : 1 ≤ n) (hn : n ≤ 60) (own : OwnP B w (some ⟨g, 0, none⟩) n c cs)
    (hv : w.heap[vb]? = some (.cells #[.int .i64 (x.1 : Int), .int .i64 (x.2 : Int)] 30 (0, 0))) (hne : vb ≠ g) (hr : n + 1 ≤ c) :
    Calls Try.prog 16 #[.slice (some ⟨g, 0, none⟩) n c, .int .i64 0, .slice (some ⟨vb, 0, none⟩) 1 1] w fun e w' => ∃ q c', e = .returned (.slice q (n + 1) c') ∧ PIn w'.heap.size w' q (n + 1) (x :: cs) ∧ Below B w w' := by
  obtain ⟨hO, hl⟩ := own
  rcases hO.2 with ⟨hv0, _⟩ | ⟨g', cap, cur, hv0, hgB, hgh, hnc, hcm, hcs, htk⟩
  · cases hv0
  injection hv0 with hp _ hcc; cases hp; subst hcc
  have hgl := lt_of_heap hgh
  have hvl := lt_of_heap hv
  have hshA : w.shape? vb = some (30, 2) := by simp [World.shape?, hv]
  have hshB : w.shape? g = some (30, cur.size) := by simp [World.shape?, hgh]
  have hov : ∀ lb cb, (callFunc 19 #[.slice (some ⟨vb, 0, none⟩) 1 1, .slice (some ⟨g, 2, none⟩) lb cb]).run Try.prog w = .ok (.value (.bool false)) w := fun lb cb => by
    rw [run_callFunc_extern Try.func19 (by kernel_rfl) (by kernel_rfl) (by kernel_rfl) (e := Extern.SlicesOverlaps.overlaps #[23, 23] #[4]) (by kernel_rfl),
      Lib.run_overlaps_apart w 23 4 30 Try.underlying23 2 (fun w => by kernel_rfl) ⟨vb, 0, none⟩ ⟨g, 2, none⟩ 1 1 lb cb hne 30 30 2 cur.size hshA hshB (by omega) (wfree hv 0) (wfree hv 2)]
    rfl
  have hfl := flat_len cs
  have hcell : ∀ j v, (flat cs)[j]? = some v → w.cell? ⟨g, j, none⟩ = some v := fun j v hj => by
    have hj2 : j < (flat cs).length := (List.getElem?_eq_some_iff.1 hj).1
    rw [hO.cell (by omega)]; exact hj
  have hsome : ∀ j, j < (n + 1) * 2 → (w.cell? ⟨g, j, none⟩).isSome = true := fun j hj => by
    rw [cell_of_row w g j cur 30 (0, 0) hgh, Array.getElem?_eq_getElem (by omega)]; rfl
  have hfree : ∀ j, w.frozen? ⟨g, j, none⟩ = false := wfree hgh
  have hx1 : ∀ v ∈ flat cs, v.oneCell' = true := fun v hv => List.all_eq_true.1 (flat_cells cs) v hv
  have hx2 : ∀ v ∈ flat [x], v.oneCell' = true := fun v hv => List.all_eq_true.1 (flat_cells [x]) v hv
  have hcp1 : ∀ ty dc sc, (Builtin.copy_ #[23, 23] ty #[.slice (some ⟨g, 2, none⟩) n dc, .slice (some ⟨g, 0, none⟩) (n + 1) sc]).run Try.prog w.drew = .ok (goInt n) (w.drew.setCells g 2 (flat cs)) := fun ty dc sc =>
    run_copyK w.drew _ _ ty 30 2 g 2 n dc ⟨g, 0, none⟩ (n + 1) sc n (flat cs) Try.underlying23 sz30 (by simp only [Nat.min_def]; split <;> omega) (by omega)
      (fun j v hj => by rw [Addr.add_lit, Nat.zero_add]; exact hcell j v hj) (fun j hj => hsome (2 + j) (by omega)) (fun j hj => hfree _) hx1
  obtain ⟨W1, hW1⟩ : ∃ W1, W1 = w.drew.setCells g 2 (flat cs) := ⟨_, rfl⟩
  rw [← hW1] at hcp1
  have hs1 : ∀ j, j < (n + 1) * 2 → (W1.cell? ⟨g, j, none⟩).isSome = true := fun j hj => by
    rw [hW1]
    exact isSome_setCells g (flat cs) 2 w.drew (fun k hk => hsome (2 + k) (by omega)) j (hsome j hj)
  have hcp2 : ∀ ty dc, (Builtin.copy_ #[23, 23] ty #[.slice (some ⟨g, 0, none⟩) (n + 1) dc, .slice (some ⟨vb, 0, none⟩) 1 1]).run Try.prog W1 = .ok (goInt 1) (W1.setCells g 0 (flat [x])) := fun ty dc =>
    run_copyK W1 _ _ ty 30 2 g 0 (n + 1) dc ⟨vb, 0, none⟩ 1 1 1 (flat [x]) Try.underlying23 sz30 (Nat.min_eq_left (by omega)).symm rfl
      (fun j v hj => by
        rw [Addr.add_lit, Nat.zero_add, hW1, World.cell?_setCells_out g _ _ _ _ (fun h _ => absurd h hne)]
        exact (wcell (cs := [.int .i64 (x.1 : Int), .int .i64 (x.2 : Int)]) hv j).trans hj)
      (fun j hj => by rw [Nat.zero_add]; have : j < 2 := hj; exact hs1 j (by omega)) (fun j hj => by rw [hW1, World.frozen?_setCells]; exact hfree _) hx2
  have hres : Hid (PIn (W1.setCells g 0 (flat [x])).heap.size (W1.setCells g 0 (flat [x])) (some ⟨g, 0, none⟩) (n + 1) (x :: cs)) := by
    have hgs : g < (W1.setCells g 0 (flat [x])).heap.size := by rw [setCells_size, hW1, setCells_size]; exact hgl
    have := pin_of (B := (W1.setCells g 0 (flat [x])).heap.size) (ps := x :: cs) hgs hgs (fun j hj => by
      rw [hW1]
      exact (splice_cells (W := w.drew) x hl hsome j (by simp at hj; omega)).1)
    rw [show (x :: cs).length = n + 1 by simp [hl]] at this
    exact this
  have hbel : Hid (Below B w (W1.setCells g 0 (flat [x]))) := by
    rw [hW1]
    exact ((Below.refl B w).drew).trans ((below_setCells hgB _ _ _).trans (below_setCells hgB _ _ _))
  have hb1 : ¬ (c = 1) := by omega
  have hb0 : ¬ (c = 0) := by omega
  have hb2 : decide ((n : Int) + 1 > (c : Int)) = false := by simp; omega
  have hcl : (c : Int) ≤ 9223372036854775807 := by unfold maxLen at hcm; omega
  replace hx1 := Lib.hid hx1; replace hx2 := Lib.hid hx2; replace hsome := Lib.hid hsome; replace hcell := Lib.hid hcell; replace hfree := Lib.hid hfree; replace hs1 := Lib.hid hs1
  replace hfl := Lib.hid hfl; replace hl := Lib.hid hl; replace htk := Lib.hid htk; replace hcs := Lib.hid hcs; replace hgh := Lib.hid hgh; replace hv := Lib.hid hv; replace hW1 := Lib.hid hW1; replace hshA := Lib.hid hshA; replace hshB := Lib.hid hshB; replace hO := Lib.hid hO
  go_enter Try.func16, Try.ntmps16
  go_wp2_with (simp only [hov])
  have wr1 : IntKind.i64.wrap 1 = 1 := rfl
  have hi1 : (1 : Int) ≤ (n : Int) + 1 := by omega
  have hi00 : (0 : Int) ≤ (n : Int) + 1 := by omega
  have hi01 : (0 : Int) ≤ (n : Int) := by omega
  go_region_law (refine step_copy_runK (by rfl) _ _ 23 23 (by rfl) _ _ (by simp [Act.eval, Act.put]) (by simp [Act.eval, Act.put]) (hcp1 _ _ _) ?_)
  go_wp2_with (at_builtin; refine wpList_copy_runK _ rfl _ _ 23 23 rfl _ _ rfl rfl (hcp2 _ _) ?_)
  go_ret
  exact ⟨_, _, rfl, hres.out, hbel.out⟩

set_option maxHeartbeats 4000000 in
set_option maxRecDepth 100000 in
theorem insert_grow (g n vb B : Nat) (cs : List Piece) (x : Piece) (w : World) (h1 : 1 ≤ n) (hn : n ≤ 60) (own : OwnP B w (some ⟨g, 0, none⟩) n n cs)
    (hv : w.heap[vb]? = some (.cells #[.int .i64 (x.1 : Int), .int .i64 (x.2 : Int)] 30 (0, 0))) :
    Calls Try.prog 16 #[.slice (some ⟨g, 0, none⟩) n n, .int .i64 0, .slice (some ⟨vb, 0, none⟩) 1 1] w fun e w' => ∃ q c', e = .returned (.slice q (n + 1) c') ∧ PIn w'.heap.size w' q (n + 1) (x :: cs) ∧ Below B w w' := by
  obtain ⟨hO, hl⟩ := own
  rcases hO.2 with ⟨hv0, _⟩ | ⟨g', cap, cur, hv0, hgB, hgh, hnc, hcm, hcs, htk⟩
  · cases hv0
  injection hv0 with hp _ hcc; cases hp; subst hcc
  have hgl := lt_of_heap hgh
  have hvl := lt_of_heap hv
  obtain ⟨i0, hi0, hz0, hzs, hzb⟩ := info_parts el23.info
  have hold : (Builtin.firstCells i0.size 0 (.slice (some ⟨g, 0, none⟩) 0 n)).run Try.prog w.drew = .ok ([] : List Value).toArray w.drew := by
    rw [hzs]
    exact run_firstCells_some w.drew 2 0 ⟨g, 0, none⟩ 0 n [] rfl (fun j v hj => by simp at hj)
  have hrz : ∀ ty, (Builtin.append_ #[23, 3] ty #[.slice (some ⟨g, 0, none⟩) 0 n, .int .i64 ((n : Int) + 1)]).run Try.prog w =
      .ok (.slice (some ⟨w.heap.size, 0, none⟩) (n + 1) (grownCap w (n + 1) n 30)) (w.drew.alloc (.cells (Builtin.zeroCells (Value.agg #[.int .i64 0, .int .i64 0]).cells (n + 1) ++ Builtin.zeroCells (Value.agg #[.int .i64 0, .int .i64 0]).cells (grownCap w (n + 1) n 30 - (n + 1))) 30)) := fun ty => by
    have h := Lib.run_append_grow_zeros w 23 3 ty 30 i0 _ .i64 .i64 Try.underlying23 Try.underlying3 hi0 hz0 (some ⟨g, 0, none⟩) 0 n [] hold (n + 1) (by omega) (by omega) (by omega) (by omega) (by rw [hzb]; omega) (by rw [hzb, Nat.zero_add]; exact growslice_fits (by omega) (by omega))
    rw [Nat.zero_add] at h
    rw [show (n : Int) + 1 = ((n + 1 : Nat) : Int) by push_cast; rfl, h]
    simp only [Array.empty_append]
  obtain ⟨G, hG⟩ : ∃ G, G = grownCap w (n + 1) n 30 := ⟨_, rfl⟩
  obtain ⟨ROW, hROW⟩ : ∃ ROW : Array Value, ROW = Builtin.zeroCells (Value.agg #[.int .i64 0, .int .i64 0]).cells (n + 1) ++ Builtin.zeroCells (Value.agg #[.int .i64 0, .int .i64 0]).cells (G - (n + 1)) := ⟨_, rfl⟩
  rw [← hG] at hrz
  rw [← hROW] at hrz
  have hRl : (n + 1) * 2 ≤ ROW.size := by
    rw [hROW]
    simp [Builtin.zeroCells, Value.cells]
  have hGn : n + 1 ≤ G := by rw [hG]; exact grownCap_ge w _ _ _
  have hG63 : (G : Int) ≤ 9223372036854775807 := by
    have := grownCap_le_maxLen w (n + 1) n 30 (by unfold maxLen; omega)
    rw [← hG] at this
    unfold maxLen at this
    omega
  replace hROW := Lib.hid hROW; replace hG := Lib.hid hG
  obtain ⟨H, hH⟩ : ∃ H, H = w.heap.size := ⟨_, rfl⟩
  obtain ⟨W1, hW1⟩ : ∃ W1, W1 = w.drew.alloc (.cells ROW 30) := ⟨_, rfl⟩
  rw [← hW1, ← hH] at hrz
  have hN : W1.heap[H]? = some (.cells ROW 30 (0, 0)) := by rw [hW1, hH]; exact heap_alloc_new w.drew _
  have hold2 : ∀ k, k < H → W1.heap[k]? = w.heap[k]? := fun k hk => by rw [hW1]; exact Below.heap_alloc w.drew _ k (by rw [hH] at hk; exact hk)
  have hfl := flat_len cs
  have hcell : ∀ j v, (flat cs)[j]? = some v → W1.cell? ⟨g, j, none⟩ = some v := fun j v hj => by
    have hj2 : j < (flat cs).length := (List.getElem?_eq_some_iff.1 hj).1
    rw [World.cell?_of_block (a := ⟨g, j, none⟩) (hold2 g (by rw [hH]; exact hgl)), hO.cell (by omega)]; exact hj
  have hsome : ∀ j, j < (n + 1) * 2 → (W1.cell? ⟨H, j, none⟩).isSome = true := fun j hj => by
    rw [cell_of_row W1 H j ROW 30 (0, 0) hN, Array.getElem?_eq_getElem (by omega)]; rfl
  have hfree : ∀ j, W1.frozen? ⟨H, j, none⟩ = false := wfree hN
  have hx1 : ∀ v ∈ flat cs, v.oneCell' = true := fun v hv => List.all_eq_true.1 (flat_cells cs) v hv
  have hx2 : ∀ v ∈ flat [x], v.oneCell' = true := fun v hv => List.all_eq_true.1 (flat_cells [x]) v hv
  have hcp1 : ∀ ty dc, (Builtin.copy_ #[23, 23] ty #[.slice (some ⟨H, 0, none⟩) (n + 1) dc, .slice (some ⟨vb, 0, none⟩) 1 1]).run Try.prog W1 = .ok (goInt 1) (W1.setCells H 0 (flat [x])) := fun ty dc =>
    run_copyK W1 _ _ ty 30 2 H 0 (n + 1) dc ⟨vb, 0, none⟩ 1 1 1 (flat [x]) Try.underlying23 sz30 (Nat.min_eq_left (by omega)).symm rfl
      (fun j v hj => by
        rw [Addr.add_lit, Nat.zero_add, World.cell?_of_block (a := ⟨vb, j, none⟩) (hold2 vb (by rw [hH]; exact hvl))]
        exact (wcell (cs := [.int .i64 (x.1 : Int), .int .i64 (x.2 : Int)]) hv j).trans hj)
      (fun j hj => by rw [Nat.zero_add]; have : j < 2 := hj; exact hsome j (by omega)) (fun j hj => hfree _) hx2
  obtain ⟨W2, hW2⟩ : ∃ W2, W2 = W1.setCells H 0 (flat [x]) := ⟨_, rfl⟩
  rw [← hW2] at hcp1
  have hs2 : ∀ j, j < (n + 1) * 2 → (W2.cell? ⟨H, j, none⟩).isSome = true := fun j hj => by
    rw [hW2]
    exact isSome_setCells H (flat [x]) 0 W1 (fun k hk => hsome (0 + k) (by have : k < 2 := hk; omega)) j (hsome j hj)
  have hgH : g ≠ H := by omega
  have hcp2 : ∀ ty dc sc, (Builtin.copy_ #[23, 23] ty #[.slice (some ⟨H, 2, none⟩) n dc, .slice (some ⟨g, 0, none⟩) n sc]).run Try.prog W2.drew = .ok (goInt n) (W2.drew.setCells H 2 (flat cs)) := fun ty dc sc =>
    run_copyK W2.drew _ _ ty 30 2 H 2 n dc ⟨g, 0, none⟩ n sc n (flat cs) Try.underlying23 sz30 (Nat.min_eq_left (Nat.le_refl _)).symm (by omega)
      (fun j v hj => by
        rw [Addr.add_lit, Nat.zero_add]
        show W2.cell? _ = _
        rw [hW2, World.cell?_setCells_out H _ _ _ _ (fun h _ => absurd h hgH)]
        exact hcell j v hj) (fun j hj => hs2 (2 + j) (by omega)) (fun j hj => by show W2.frozen? _ = _; rw [hW2, World.frozen?_setCells]; exact hfree _) hx1
  have hsz : (W2.drew.setCells H 2 (flat cs)).heap.size = H + 1 := by
    rw [setCells_size]; show W2.heap.size = _
    rw [hW2, setCells_size, hW1, hH]; simp
  have hres : Hid (PIn (W2.drew.setCells H 2 (flat cs)).heap.size (W2.drew.setCells H 2 (flat cs)) (some ⟨H, 0, none⟩) (n + 1) (x :: cs)) := by
    have := pin_of (W := W2.drew.setCells H 2 (flat cs)) (g := H) (B := (W2.drew.setCells H 2 (flat cs)).heap.size) (ps := x :: cs) (by rw [hsz]; omega) (by rw [hsz]; omega) (fun j hj => by
      rw [hW2, drew_setCells]
      exact (splice_cells (W := W1.drew) x hl hsome j (by simp at hj; omega)).2)
    rw [show (x :: cs).length = n + 1 by simp [hl]] at this
    exact this
  have hbel : Hid (Below B w (W2.drew.setCells H 2 (flat cs))) := by
    have hBH : B ≤ H := by omega
    have b1 : Below B w W1 := by rw [hW1]; exact ((Below.refl B w).drew).alloc (by rw [hH] at hBH; exact hBH) _
    have b2 : Below B W1 W2 := by rw [hW2]; exact below_setCells hBH _ _ _
    exact b1.trans (b2.trans (((Below.refl B W2).drew).trans (below_setCells hBH _ _ _)))
  have hb0 : ¬ (n = 0) := by omega
  have hb1 : ¬ (G = 1) := by omega
  have hb3 : ¬ (G = 0) := by omega
  have hb4 : ¬ (n = 1 ∧ False) := by simp
  replace hx1 := Lib.hid hx1; replace hx2 := Lib.hid hx2; replace hsome := Lib.hid hsome; replace hcell := Lib.hid hcell; replace hfree := Lib.hid hfree; replace hs2 := Lib.hid hs2
  replace hfl := Lib.hid hfl; replace hl := Lib.hid hl; replace htk := Lib.hid htk; replace hcs := Lib.hid hcs; replace hgh := Lib.hid hgh; replace hv := Lib.hid hv; replace hW1 := Lib.hid hW1; replace hW2 := Lib.hid hW2; replace hO := Lib.hid hO; replace hN := Lib.hid hN; replace hold2 := Lib.hid hold2; replace hH := Lib.hid hH; replace hi0 := Lib.hid hi0; replace hz0 := Lib.hid hz0; replace hzs := Lib.hid hzs; replace hzb := Lib.hid hzb; replace hsz := Lib.hid hsz
  clear hold
  go_enter Try.func16, Try.ntmps16
  go_wp2_with (at_builtin; first | refine Lib.wpList_append_run _ rfl _ _ 23 3 rfl _ _ rfl rfl _ _ (hrz _) ?_ | refine wpList_copy_runK _ rfl _ _ 23 23 rfl _ _ rfl rfl (hcp1 _ _) ?_)
  have wr1 : IntKind.i64.wrap 1 = 1 := rfl
  have hi1 : (1 : Int) ≤ (n : Int) + 1 := by omega
  have hi00 : (0 : Int) ≤ (n : Int) + 1 := by omega
  have hi01 : (0 : Int) ≤ (n : Int) := by omega
  go_region_law (refine step_copy_runK (by rfl) _ _ 23 23 (by rfl) _ _ (by simp [Act.eval, Act.put]) (by simp [Act.eval, Act.put]) (hcp2 _ _ _) ?_)
  go_wp2_with fail
  go_ret
  exact ⟨_, _, rfl, hres.out, hbel.out⟩
theorem insert_any (g n c vb B : Nat) (cs : List Piece) (x : Piece) (w : World) (h1 : 1 ≤ n) (hn : n ≤ 60) (own : OwnP B w (some ⟨g, 0, none⟩) n c cs)
    (hv : w.heap[vb]? = some (.cells #[.int .i64 (x.1 : Int), .int .i64 (x.2 : Int)] 30 (0, 0))) (hne : vb ≠ g) :
    Calls Try.prog 16 #[.slice (some ⟨g, 0, none⟩) n c, .int .i64 0, .slice (some ⟨vb, 0, none⟩) 1 1] w fun e w' => ∃ q c', e = .returned (.slice q (n + 1) c') ∧ PIn w'.heap.size w' q (n + 1) (x :: cs) ∧ Below B w w' := by
  by_cases hr : n + 1 ≤ c
  · exact insert_room g n c vb B cs x w h1 hn own hv hne hr
  · have hc := OwnC.cap own.1
    obtain rfl : c = n := by omega
    exact insert_grow g c vb B cs x w h1 hn own hv

set_option maxHeartbeats 1000000 in
theorem clone_any (p : Option Addr) (n c B : Nat) (ps : List Piece) (w : World) (h1 : 1 ≤ n) (hn : n ≤ 60) (hx : PIn B w p n ps) :
    Calls Try.prog 15 #[.slice p n c] w fun e w' => ∃ q c', e = .returned (.slice q n c') ∧ OwnP w.heap.size w' q n c' ps ∧ Below w.heap.size w w' := by
  have hpl := hx.1
  obtain ⟨g, rfl, _, hg, hc⟩ := hx.at h1
  have hfl := flat_len ps
  have own : OwnC 30 2 w.heap.size (w.alloc (.cells #[] 30)) (some ⟨w.heap.size, 0, none⟩) 0 0 [] :=
    ⟨rfl, .inr ⟨w.heap.size, 0, #[], rfl, Nat.le_refl _, heap_alloc_new w _, Nat.le_refl _, Nat.zero_le _, rfl, rfl⟩⟩
  have hcell : ∀ j u, (flat ps)[j]? = some u → (w.alloc (.cells #[] 30)).cell? ((⟨g, 0, none⟩ : Addr).add j) = some u := fun j u hj => by
    have hj2 : j < (flat ps).length := (List.getElem?_eq_some_iff.1 hj).1
    rw [Addr.add_lit, Nat.zero_add, World.cell?_of_block (a := ⟨g, j, none⟩) (Below.heap_alloc w _ g hg)]
    obtain ⟨f1, f2⟩ := flat_at ps (j / 2) (by omega)
    obtain ⟨c1, c2⟩ := hc (j / 2) (by omega)
    rcases (show j = j / 2 * 2 ∨ j = j / 2 * 2 + 1 from by omega) with e | e
    · rw [e, c1, ← f1, ← e]; exact hj
    · rw [e, c2, ← f2, ← e]; exact hj
  have hall := flat_cells ps
  have he := fun W : World => run_eql_slice_nil (P := Try.prog) W 23 30 (some ⟨g, 0, none⟩) n c Try.underlying23
  have hsz : Hid (w.heap.size ≤ (w.alloc (.cells #[] 30)).heap.size) := by show _ ≤ _; simp
  have hB : Hid (Below w.heap.size w (w.alloc (.cells #[] 30))) := (Below.refl _ _).alloc (Nat.le_refl _) _
  replace own := Lib.hid own; replace hcell := Lib.hid hcell; replace hall := Lib.hid hall; replace hfl := Lib.hid hfl; replace hx := Lib.hid hx; replace hpl := Lib.hid hpl
  clear hc
  go_enter Try.func15, Try.ntmps15
  go_wp2_with (at_builtin; refine wp_appendLV el23 _ rfl _ _ rfl w.heap.size _ 0 0 [] rfl own.out ⟨g, 0, none⟩ n c (flat ps) (by rw [hfl.out, hpl.out]) hall.out hcell.out rfl (by omega) hsz.out ?_; intro p' c' w2 hO hg2 _ hz)
  have hB2 : Below w.heap.size w w2 := hB.out.grown hg2 hsz.out (fun x hx => by cases hx; exact Nat.le_refl _)
  replace hO := Lib.hid hO; replace hB2 := Lib.hid hB2
  clear hg2 hz
  go_wp2_with fail
  go_ret
  exact ⟨p', c', by simp, ⟨by simpa using hO.out, hpl.out⟩, hB2.out⟩
end Go.Proofs.Ytgnchgkiijncbaa
