/- What rows.Won tells first; conditions: a board that may be, k of 1 to 10. -/
import Derived.Test.YtfoojdkbonmmgaaRLn
import Derived.Test.YtfoojdkbonmmgaaSrt
import Derived.Sort.OwnSortedInts
import Derived.Deep.RegionHeld3
import Derived.Deep.RegionLaw
import Derived.Deep.Cut
import Derived.Deep.Upon
import Derived.Deep.DeepCutAuto
namespace Go.Proofs.Ytfoojdkbonmmgaa
open Go.RowKit


theorem lineUp_ok (W H k x y j : Nat) (hj : j < 4) (hx : x < W) (hy : y < H) (hf : fits W H k x y j = true) : ∀ a ∈ lineUp W x y j k, a < W * H := by
  intro a ha
  unfold lineUp at ha
  simp only [List.mem_map, List.mem_range] at ha
  obtain ⟨i, hi, rfl⟩ := ha
  obtain ⟨u, v, hu, hv, _, _, e⟩ := cell_ok W H k x y j i hj hx hy hi hf
  rw [e]
  calc u * W + v < u * W + W := by omega
    _ = (u + 1) * W := by rw [Nat.add_mul, Nat.one_mul]
    _ ≤ H * W := Nat.mul_le_mul_right _ hu
    _ = W * H := Nat.mul_comm _ _
theorem LY_ok (W H k n : Nat) (hn : n = W * H) (hk1 : 1 ≤ k) (hk : k ≤ 10) : LinesOk n (LY W H k H) := by
  intro l hl
  subst hn
  unfold LY at hl
  simp only [List.mem_flatMap, List.mem_range] at hl
  obtain ⟨y, hy, hl⟩ := hl
  unfold LX at hl
  simp only [List.mem_flatMap, List.mem_range] at hl
  obtain ⟨x, hx, hl⟩ := hl
  unfold LD at hl
  simp only [List.mem_flatMap, List.mem_range] at hl
  obtain ⟨j, hj, hl⟩ := hl
  unfold cand at hl
  split at hl
  · rename_i hf
    simp at hl
    subst hl
    rw [lineUp_len]
    exact ⟨hk1, hk, lineUp_ok W H k x y j hj hx hy hf⟩
  · simp at hl
theorem LY_len (W H k y : Nat) : (LY W H k y).length ≤ y * (W * 4) := by
  have h1 : ∀ y x j, (LD W H k y x j).length ≤ j := by
    intro y x j
    induction j with
    | zero => simp [LD]
    | succ j ih =>
      rw [LD_succ, List.length_append]
      have : (cand W H k x y j).length ≤ 1 := by unfold cand; split <;> simp
      omega
  have h2 : ∀ y x, (LX W H k y x).length ≤ x * 4 := by
    intro y x
    induction x with
    | zero => simp [LX]
    | succ x ih =>
      rw [LX_succ, List.length_append]
      have := h1 y x 4
      omega
  induction y with
  | zero => simp [LY]
  | succ y ih =>
    rw [LY_succ, List.length_append, Nat.add_mul, Nat.one_mul]
    have := h2 y W
    omega


section
open Go.Sort
def srt (xs : List Int) : List Int := xs.mergeSort fun x y => decide (x ≤ y)
theorem srt_len (xs : List Int) : (srt xs).length = xs.length := by unfold srt; exact List.length_mergeSort _
theorem sort_own (p : Option Addr) (n c B : Nat) (xs : List Int) (w : World) (hn : n ≤ 1000000) (hO : Own 3 B w p n c xs) :
    Calls Try.prog 21 #[.slice p n c] w fun e w' => e = .returned (.tuple #[]) ∧ Own 3 B w' p n c (srt xs) ∧ w.grownBy w' (p.map (·.block)) := by
  have hl := hO.len
  rcases Nat.eq_zero_or_pos n with h0 | h0
  · subst h0
    have hl0 : xs = [] := List.eq_nil_of_length_eq_zero hl
    subst hl0
    refine (Sh.slices_Sort_int_none p c w).mono fun e w' ⟨he, hw⟩ => ⟨he, ?_, ?_⟩
    · have h1 : srt [] = [] := List.eq_nil_of_length_eq_zero (by rw [srt_len]; rfl)
      rw [hw, h1]; exact hO
    · rw [hw]; exact ⟨rfl, rfl, rfl, Nat.le_refl _, fun _ _ _ => rfl⟩
  · rcases hO.2 with ⟨_, h2⟩ | ⟨g, cap, cur, hv, hb, hh, h1, h2, h3, h4⟩
    · omega
    injection hv with e1 e2 e3
    subst e1
    subst e3
    have hg : g < w.heap.size := lt_of_heap hh
    have hH : Holds (Value.int .i64) w g 0 xs.toArray := fun j hj => by
      have hj' : j < xs.length := by simpa using hj
      refine ⟨?_, OwnC.free (k := 1) hO _⟩
      rw [Nat.zero_add, OwnC.cell (k := 1) hO (by omega)]
      simp [hj']
    have hs := Sh.slices_Sort_int g 0 c xs w hH hg (by omega)
    rw [hl] at hs
    refine hs.mono fun e w' ⟨he, k, os, hw⟩ => ⟨he, ?_, ?_⟩
    · have := ownsRow_sortedI (w := w) (base := B) (g := g) (cap := c) (n := k) (e := 3) (os := os) (cur := cur) (ss := xs) (ts := srt xs) (srt_len xs) hb hh (by omega) h2 h3
      rw [hl] at this
      rw [hw]; exact this
    · rw [hw]
      refine ⟨rfl, rfl, rfl, by simp [grow], fun b hb2 hne => ?_⟩
      have hbg : b ≠ g := fun e => hne (by rw [e]; rfl)
      show ((putRow (Value.int .i64) (Sort.ahead w k) g 0 _).heap ++ os)[b]? = _
      rw [Array.getElem?_append_left (by simp; exact hb2)]
      simp [putRow, mapBlock, Array.getElem?_modify, Ne.symm hbg]

theorem compact_w (B n c : Nat) (p : Option Addr) (xs : List Int) (w : World) (hn : n ≤ 1000000) (hO : Own 3 B w p n c xs) :
    Calls Try.prog 23 #[.slice p n c] w fun e w' => (∃ m, e = .returned (.slice p m c)) ∧ w.grownBy w' (p.map (·.block)) := by
  have hl := hO.len
  rcases Nat.eq_zero_or_pos n with h0 | h0
  · subst h0
    refine (Sh.slices_Compact_int_empty p c w).mono fun e w' ⟨h1, h2⟩ => ⟨⟨0, h1⟩, ?_⟩
    rw [h2]; exact ⟨rfl, rfl, rfl, Nat.le_refl _, fun _ _ _ => rfl⟩
  · obtain ⟨g, rfl, _, _, hnc⟩ := OwnC.where (k := 1) hO h0
    refine (Sh.slices_Compact_int_cells g 0 n c xs w (by omega) (by omega) hnc (fun j hj => ?_) (fun j hj => OwnC.free (k := 1) hO _)).mono ?_
    · rw [Nat.zero_add, OwnC.cell (k := 1) hO (by omega)]
      simp [List.getD_eq_getElem?_getD, hj]
    · rintro e w' ⟨rfl, q, rfl⟩
      refine ⟨⟨_, rfl⟩, ?_⟩
      generalize ((Lib.compact (xs.take n) ++ List.replicate (n - (Lib.compact (xs.take n)).length) 0).map (Value.int .i64)) = vs
      have hsz : ∀ (vs : List Value) (o : Nat) (w : World), (w.setCells g o vs).heap.size = w.heap.size := fun vs => by
        induction vs with
        | nil => intro _ _; rfl
        | cons v r ih => intro o w; rw [World.setCells, ih]; simp [World.setCell]
      have hB : ∀ (vs : List Value) (o : Nat) (w : World), Below g w (w.setCells g o vs) := fun vs => by
        induction vs with
        | nil => intro _ w; exact Below.refl _ _
        | cons v r ih => intro o w; rw [World.setCells]; exact ((Below.refl g w).setCell (p := ⟨g, o, none⟩) (Nat.le_refl _) v).trans (ih _ _)
      have hb := (below_drewN (Below.refl g w) q).trans (hB vs 0 (w.drewN q))
      exact ⟨hb.os, hb.tape, hb.output, by rw [hsz]; exact Nat.le_refl _, fun k hk hne => World.heap_setCells_other (w.drewN q) g 0 _ hk (fun e => hne (by rw [e]; rfl))⟩
end
/-- a match in a box: the board and its lines. -/
def MBox (W2 X : World) (q : Option Addr) (n c : Nat) (L : List (List Nat)) (v : Value) : Prop :=
  ∃ mb lc : Nat, ∃ ql : Option Addr, v = .pointer (some ⟨mb, 0, none⟩) ∧ X.heap[mb]? = some (.cells #[.slice q n c, .slice ql L.length lc] 52 (0, 0)) ∧ RowsIn W2.heap.size X ql (L.map asI) ∧ Below W2.heap.size W2 X
theorem mbox_new {W2 w6 : World} {q ql : Option Addr} {n c lc : Nat} {L : List (List Nat)} (hr : RowsIn W2.heap.size w6 ql (L.map asI)) (hb : Below W2.heap.size W2.drew w6) :
    MBox W2 (w6.alloc (.cells #[.slice q n c, .slice ql L.length lc] 52)) q n c L (.pointer (some ⟨w6.heap.size, 0, none⟩)) :=
  have hb' : Below W2.heap.size W2 w6 := (Below.refl _ W2).drew.trans hb
  ⟨_, lc, ql, rfl, heap_alloc_new _ _, hr.alloc _, hb'.alloc hb'.size _⟩
theorem mbox_set {W2 w6 : World} {q ql : Option Addr} {n c lc mb : Nat} {L : List (List Nat)} (hr : RowsIn (W2.alloc (.cells #[.slice none 0 0, .slice none 0 0] 52)).heap.size w6 ql (L.map asI)) (hb : Below (W2.alloc (.cells #[.slice none 0 0, .slice none 0 0] 52)).heap.size (W2.alloc (.cells #[.slice none 0 0, .slice none 0 0] 52)).drew w6) (hm : mb = W2.heap.size) :
    MBox W2 ((w6.setCell ⟨mb, 0, none⟩ (.slice q n c)).setCell ⟨mb, 1, none⟩ (.slice ql L.length lc)) q n c L (.pointer (some ⟨mb, 0, none⟩)) := by
  subst hm
  have hs : (W2.alloc (.cells #[.slice none 0 0, .slice none 0 0] 52)).heap.size = W2.heap.size + 1 := by simp
  have hb1 : Below W2.heap.size W2 w6 := (((Below.refl W2.heap.size W2).alloc (Nat.le_refl _) (.cells #[.slice none 0 0, .slice none 0 0] 52)).drew).trans (hb.mono (by rw [hs]; omega))
  have he : w6.heap[W2.heap.size]? = some (.cells #[.slice none 0 0, .slice none 0 0] 52 (0, 0)) := (hb.block _ (by rw [hs]; omega)).trans (heap_alloc_new W2 _)
  refine ⟨_, lc, ql, rfl, ?_, ?_, (hb1.setCell (Nat.le_refl _) _).setCell (Nat.le_refl _) _⟩
  · rw [wset (wset he 0 _)]; rfl
  · rw [hs] at hr
    have h1 := (hr.set (a := ⟨W2.heap.size, 0, none⟩) (by simp) (.slice q n c)).set (a := ⟨W2.heap.size, 1, none⟩) (by simp) (.slice ql L.length lc)
    intro i l hi
    obtain ⟨b, o, p, m, c', k1, k2, k3, k4, k5, k6⟩ := h1 i l hi
    exact ⟨b, o, p, m, c', k1, by omega, k3, k4, k5, fun x hx => by have := k6 x hx; omega⟩
set_option maxRecDepth 20000 in
set_option maxHeartbeats 4000000 in
theorem rWon_any (q : Option Addr) (n c a b k : Nat) (s : List Nat) (w : World) (ha1 : 1 ≤ a) (ha : a ≤ 10) (hb1 : 1 ≤ b) (hb : b ≤ 10) (hn : n = a * b) (hx : IntsIn w q n (asI s)) (hs : ∀ j, st s j ≤ 2) (hk1 : 1 ≤ k) (hk : k ≤ 10) :
    Calls Try.prog 10 #[.agg #[.int .i64 (a : Int), .int .i64 (b : Int), .slice q n c], .int .i64 k] w fun e w' => (∃ v, e = .returned (.tuple #[.int .i64 (won s (LY a b k b) : Nat), v, .int .i64 0])) ∧ Below w.heap.size w w' := by
  have hn100 : n ≤ 100 := by rw [hn]; exact Nat.mul_le_mul ha hb
  have hn1 : 1 ≤ n := by rw [hn]; exact Nat.mul_le_mul ha1 hb1
  have hsl : s.length = n := by have := hx.len; simpa [asI] using this
  have hLok := LY_ok a b k n hn hk1 hk
  have hLl : (LY a b k b).length ≤ 400 := by
    have h1 := LY_len a b k b
    have h2 : b * (a * 4) ≤ 10 * (10 * 4) := Nat.mul_le_mul hb (Nat.mul_le_mul ha (Nat.le_refl _))
    omega
  have e0 := heap_alloc_new w (.cells #[.int .i64 (a : Int), .int .i64 (b : Int), .slice q n c] 29)
  have hb0 := (Below.refl w.heap.size w).alloc (Nat.le_refl _) (.cells #[.int .i64 (a : Int), .int .i64 (b : Int), .slice q n c] 29)
  have hs0 : (w.alloc (.cells #[.int .i64 (a : Int), .int .i64 (b : Int), .slice q n c] 29)).heap.size = w.heap.size + 1 := by simp
  have HM := Lib.hid (may_any q n c a b (asI s) _ (by omega) (by omega) (by omega) (by omega) (by omega) (hx.below hb0))
  rw [mayG_of ha1 ha hb1 hb (by rw [hsl, hn]) hs] at HM
  have d0 := wcell (cs := [_, _, _]) e0 0
  have d1 := wcell (cs := [_, _, _]) e0 1
  have d2 := wcell (cs := [_, _, _]) e0 2
  obtain ⟨R, hR⟩ : ∃ R, R = w.heap.size := ⟨_, rfl⟩
  have hx0 := Lib.hid (hx.below hb0)
  rw [← hR] at d0 d1 d2 e0 hb0 hs0
  replace hn := Lib.hid hn; replace hs := Lib.hid hs; replace hsl := Lib.hid hsl; replace hLok := Lib.hid hLok
  replace hb0 := Lib.hid hb0; replace e0 := Lib.hid e0; replace hs0 := Lib.hid hs0; replace hR := Lib.hid hR
  clear hx
  go_enter Try.func10, Try.ntmps10
  go_upto_region 1 with fail
  rw [← hR.out]
  go_wp2_with fail
  refine HM.out.mono ?_
  rintro e W2 ⟨rfl, hbm⟩
  have hx2 := Lib.hid (hx0.out.below hbm)
  rw [hs0.out] at hbm
  have e2 := (hbm.block R (by omega)).trans e0.out
  have hb2 := Lib.hid (hb0.out.trans (hbm.mono (by omega)))
  have hz2 := lt_of_heap e2
  generalize w.alloc (.cells #[.int .i64 (a : Int), .int .i64 (b : Int), .slice q n c] 29) = W1 at *
  clear HM d0 d1 d2 hbm hx0 e0 hb0 hs0
  have d0 : W2.cell? ⟨R, 0, none⟩ = some (.int .i64 (a : Int)) := wcell (cs := [_, _, _]) e2 0
  have d1 : W2.cell? ⟨R, 1, none⟩ = some (.int .i64 (b : Int)) := wcell (cs := [_, _, _]) e2 1
  have d2 : W2.cell? ⟨R, 2, none⟩ = some (.slice q n c) := wcell (cs := [_, _, _]) e2 2
  have bz := (Below.refl W2.heap.size W2).alloc (Nat.le_refl _) (.cells #[.slice none 0 0, .slice none 0 0] 52)
  have ez := (bz.block R hz2).trans e2
  have en := heap_alloc_new W2 (.cells #[.slice none 0 0, .slice none 0 0] 52)
  have z0 : (W2.alloc (.cells #[.slice none 0 0, .slice none 0 0] 52)).cell? ⟨R, 0, none⟩ = some (.int .i64 (a : Int)) := wcell (cs := [_, _, _]) ez 0
  have z1 : (W2.alloc (.cells #[.slice none 0 0, .slice none 0 0] 52)).cell? ⟨R, 1, none⟩ = some (.int .i64 (b : Int)) := wcell (cs := [_, _, _]) ez 1
  have z2 : (W2.alloc (.cells #[.slice none 0 0, .slice none 0 0] 52)).cell? ⟨R, 2, none⟩ = some (.slice q n c) := wcell (cs := [_, _, _]) ez 2
  have hzs : (W2.alloc (.cells #[.slice none 0 0, .slice none 0 0] 52)).heap.size = W2.heap.size + 1 := by simp
  have HL1 := Lib.hid (lines_any a b k W2.drew ha1 ha hb1 hb hk1 hk k rfl)
  have HL2 := Lib.hid (lines_any a b k (W2.alloc (.cells #[.slice none 0 0, .slice none 0 0] 52)).drew ha1 ha hb1 hb hk1 hk k rfl)
  replace e2 := Lib.hid e2; replace bz := Lib.hid bz; replace ez := Lib.hid ez; replace en := Lib.hid en; replace hzs := Lib.hid hzs
  go_upto_region 5 with fail
  go_cut [7] (fun v X => MBox W2 X q n c (LY a b k b) v)
  case first =>
    go_region_law (first
      | (go_simp; go_at_call 19; (with_reducible refine HL1.out.mono ?_); rintro e w6 ⟨ql, cl, rfl, hr6, hb6⟩; have e6 := (Below.block hb6 R hz2).trans e2.out; have d0' : w6.cell? ⟨R, 0, none⟩ = some (.int .i64 (a : Int)) := wcell (cs := [_, _, _]) e6 0; have d1' : w6.cell? ⟨R, 1, none⟩ = some (.int .i64 (b : Int)) := wcell (cs := [_, _, _]) e6 1; have d2' : w6.cell? ⟨R, 2, none⟩ = some (.slice q n c) := wcell (cs := [_, _, _]) e6 2; replace e6 := Lib.hid e6; have e6a := (Below.block ((Below.refl w6.heap.size w6).alloc (Nat.le_refl _) (.cells #[.slice none 0 0, .slice none 0 0] 52)) R (lt_of_heap e6.out)).trans e6.out; have x0' : (w6.alloc (.cells #[.slice none 0 0, .slice none 0 0] 52)).cell? ⟨R, 0, none⟩ = some (.int .i64 (a : Int)) := wcell (cs := [_, _, _]) e6a 0; have x1' : (w6.alloc (.cells #[.slice none 0 0, .slice none 0 0] 52)).cell? ⟨R, 1, none⟩ = some (.int .i64 (b : Int)) := wcell (cs := [_, _, _]) e6a 1; have x2' : (w6.alloc (.cells #[.slice none 0 0, .slice none 0 0] 52)).cell? ⟨R, 2, none⟩ = some (.slice q n c) := wcell (cs := [_, _, _]) e6a 2; replace e6a := Lib.hid e6a; have zn := heap_alloc_new w6 (.cells #[.slice none 0 0, .slice none 0 0] 52); have y0 : (w6.alloc (.cells #[.slice none 0 0, .slice none 0 0] 52)).cell? ⟨w6.heap.size, 0, none⟩ = some (.slice none 0 0) := wcell (cs := [_, _]) zn 0; have y1 : (w6.alloc (.cells #[.slice none 0 0, .slice none 0 0] 52)).cell? ⟨w6.heap.size, 1, none⟩ = some (.slice none 0 0) := wcell (cs := [_, _]) zn 1; have v0 := wfree zn 0; have v1 := wfree zn 1; replace zn := Lib.hid zn)
      | (go_simp; go_at_call 19; (with_reducible refine HL2.out.mono ?_); rintro e w6 ⟨ql, cl, rfl, hr6, hb6⟩; have e6 := (Below.block hb6 R (Nat.lt_of_lt_of_le hz2 bz.out.size)).trans ez.out; have d0' : w6.cell? ⟨R, 0, none⟩ = some (.int .i64 (a : Int)) := wcell (cs := [_, _, _]) e6 0; have d1' : w6.cell? ⟨R, 1, none⟩ = some (.int .i64 (b : Int)) := wcell (cs := [_, _, _]) e6 1; have d2' : w6.cell? ⟨R, 2, none⟩ = some (.slice q n c) := wcell (cs := [_, _, _]) e6 2; replace e6 := Lib.hid e6; have zn := (Below.block hb6 W2.heap.size (by show _ < (W2.alloc _).heap.size; rw [hzs.out]; exact Nat.lt_succ_self _)).trans en.out; have y0 : w6.cell? ⟨W2.heap.size, 0, none⟩ = some (.slice none 0 0) := wcell (cs := [_, _]) zn 0; have y1 : w6.cell? ⟨W2.heap.size, 1, none⟩ = some (.slice none 0 0) := wcell (cs := [_, _]) zn 1; have v0 := wfree zn 0; have v1 := wfree zn 1; replace zn := Lib.hid zn))
    all_goals
      go_wp2_with fail
      go_meet
      first
      | exact mbox_new hr6 hb6
      | exact mbox_set hr6 hb6 rfl
  case rest =>
    obtain ⟨mb, lc, ql, rfl, hmb, hrw, hbx⟩ := hcut
    obtain ⟨W3, rfl⟩ : ∃ W3 : World, W3 = wc := ⟨_, rfl⟩
    have hb3 := Lib.hid (hb2.out.trans (hbx.mono (Nat.le_of_lt hz2)))
    have hx3 := Lib.hid (hx2.out.below hbx)
    have hmbl := lt_of_heap hmb
    have hR3 : R ≤ W3.heap.size := by have := hb3.out.size; have := hbx.size; omega
    obtain ⟨L, hL⟩ : ∃ L, L = LY a b k b := ⟨_, rfl⟩
    rw [← hL] at hmb hrw hLok hLl
    obtain ⟨nl, hnl⟩ : ∃ nl, nl = L.length := ⟨_, rfl⟩
    rw [← hnl] at hmb hLl
    have HB1 := Lib.hid (fun W (h : Below W3.heap.size W3 W) => (wcell (cs := [_, _]) ((h.block mb hmbl).trans hmb) 0 : W.cell? ⟨mb, 0, none⟩ = some (.slice q n c)))
    have HB2 := Lib.hid (fun W (h : Below W3.heap.size W3 W) => (wcell (cs := [_, _]) ((h.block mb hmbl).trans hmb) 1 : W.cell? ⟨mb, 1, none⟩ = some (.slice ql nl lc)))
    have HX := Lib.hid (fun W (h : Below W3.heap.size W3 W) => (hx3.out.below h : IntsIn W q n (asI s)))
    have HRw := Lib.hid (fun W (h : Below W3.heap.size W3 W) => (hrw.below h : RowsIn W2.heap.size W ql (L.map asI)))
    have k1' := HB2.out W3 (Below.refl _ _)
    replace hL := Lib.hid hL; replace hnl := Lib.hid hnl
    clear d0 d1 d2 z0 z1 z2 HL1 HL2 hmb hrw hbx e2 ez en bz hzs hx2 hb2 hx3 hz2
    go_wp2_with fail
    go_loopg [8, 34] nl (fun gk pv jv W' => ∃ (j m cc : Nat) (p : Option Addr) (zs : List Int), gk = nl - j ∧ j ≤ nl ∧ jv = .int .i64 (j : Nat) ∧ pv = .slice p m cc ∧ m ≤ j * 10 ∧ Hid (Own 3 W3.heap.size W' p m cc zs) ∧ Hid (Below W3.heap.size W3 W'))
    case atStart => exact ⟨0, 0, 0, none, [], by omega, by omega, rfl, rfl, by omega, Own.nil _ _ _, Below.refl _ _⟩
    case round =>
      clear k1'
      obtain ⟨j, m, cc, p, zs, hgk, hj, rfl, rfl, hm, hO, hB⟩ := hrel
      obtain ⟨W4, rfl⟩ : ∃ W4 : World, W4 = wr := ⟨_, rfl⟩
      replace hgk := Lib.hid hgk
      have b0 := HB1.out W4 hB.out
      have b1 := HB2.out W4 hB.out
      rcases Nat.lt_or_ge j nl with hlt | hge
      · have hjl : j < L.length := by rw [← hnl.out]; exact hlt
        obtain ⟨bb, oo, pl, ml, cl, rfl, hbb, hbs, hcl, hil, -⟩ := HRw.out W4 hB.out j (asI L[j]) (by rw [List.getElem?_map, List.getElem?_eq_getElem hjl]; rfl)
        obtain ⟨ho1, ho2, ho3⟩ := hLok.out _ (List.getElem_mem hjl)
        have hml : L[j].length = ml := by have := hil.len; simpa [asI] using this
        rw [hml] at ho1 ho2
        obtain ⟨pb, po, rfl, _, _⟩ := hil.at (by omega)
        have HOw := Lib.hid (owner_any q (some ⟨bb, oo, none⟩) (some ⟨pb, po, none⟩) n c ml cl nl lc s L[j] W4 hn100 (HX.out W4 hB.out) hil ho1 ho2 ho3 hs.out)
        have hov := Lib.hid (own_le (l := L[j]) hs.out)
        generalize own s L[j] = ov at *
        generalize hLj : L[j] = lj at *
        have hil' := Lib.hid hil
        replace hml := Lib.hid hml
        clear hLj ho3 hil
        go_wp2_with fail
        refine HOw.out.mono ?_
        rintro e W5 ⟨rfl, hb5⟩
        have hB5 := Lib.hid (hB.out.trans (hb5.mono hB.out.size))
        have hO5 := Lib.hid (hO.out.below hb5 (Nat.le_refl _))
        have hil5 := Lib.hid (hil'.out.below hb5)
        clear HOw hb5 hcl b0 b1
        by_cases hov0 : ov = 0
        · subst hov0
          go_wp2_with fail
          have hgk := hgk.out
          go_roundg (nl - (j + 1))
          case measure => omega
          case rel => exact ⟨j + 1, m, cc, p, zs, rfl, by omega, by go_num, rfl, by omega, hO5, hB5⟩
        · have hop : (0 : Int) < (ov : Int) := by omega
          have hod : decide ((0 : Int) < (ov : Int)) = true := decide_eq_true hop
          have hz5 := hB5.out.size
          go_wp2_with (at_builtin; refine wp_appendL intG W5 rfl (.tmp 42) (.tmp 43) rfl W3.heap.size p m cc zs rfl hO5.out ⟨pb, po, none⟩ ml cl (asI lj) rfl hil5.out (by omega) hz5 ?_; intro p6 c6 w6 hO6 hg6 hr6 hz6)
          have hB6 := Lib.hid (hB5.out.grown hg6 hz5 (fun x hx => by
            cases p with
            | none => cases hx
            | some z => simp at hx; subst hx; exact (hO5.out.block z rfl).1))
          replace hO6 := Lib.hid hO6
          clear hg6 hr6 hz6
          go_wp2_with fail
          have hgk := hgk.out
          go_roundg (nl - (j + 1))
          case measure => omega
          case rel => exact ⟨j + 1, m + ml, c6, p6, _, rfl, by omega, by go_num, by go_num, by omega, hO6, hB6⟩
      · obtain rfl : j = nl := by omega
        have HSo := Lib.hid (sort_own p m cc W3.heap.size zs W4 (by omega) hO.out)
        have hpB : Hid (∀ x, p.map (·.block) = some x → W3.heap.size ≤ x) := fun x hx => by
          cases p with
          | none => cases hx
          | some z => simp at hx; subst hx; exact (hO.out.block z rfl).1
        have hmb2 : m ≤ 10000 := by omega
        clear hO b0 b1
        go_wp2_with fail
        refine HSo.out.mono ?_
        rintro e W5 ⟨rfl, hO5, hg5⟩
        have hB5 := hB.out.grown hg5 hB.out.size hpB.out
        have b0 := HB1.out W5 hB5
        have b1 := HB2.out W5 hB5
        have HWn := Lib.hid (rowsWon_any q ql n c j lc s L W5 hn100 (HX.out W5 hB5) W2.heap.size (HRw.out W5 hB5) hnl.out.symm (by omega) hLok.out hs.out)
        replace hB5 := Lib.hid hB5
        replace hO5 := Lib.hid hO5
        clear HSo hg5
        go_wp2_with fail
        refine HWn.out.mono ?_
        rintro e W6 ⟨rfl, hb6⟩
        have hB6 := Lib.hid (hB5.out.trans (hb6.mono hB5.out.size))
        have hO6 := hO5.out.below hb6 (Nat.le_refl _)
        have HCo := Lib.hid (compact_w W3.heap.size m cc p _ W6 (by omega) hO6)
        clear HWn hb6 hO6 b0 b1
        go_wp2_with fail
        refine HCo.out.mono ?_
        rintro e W7 ⟨⟨m7, rfl⟩, hg7⟩
        have hB7 := hB6.out.grown hg7 hB6.out.size hpB.out
        have hfin : Hid (Below w.heap.size w W7) := by rw [← hR.out]; exact hb3.out.trans (hB7.mono hR3)
        clear HCo hg7 hB7
        go_wp2_with fail
        refine bodyPost_ret (v := .tuple #[.int .i64 (won s L : Nat), .slice p m7 cc, .int .i64 0]) (by simp [results, Try.results10, go_sem]) rfl ?_
        exact ⟨⟨_, by rw [← hL.out]⟩, hfin.out⟩
end Go.Proofs.Ytfoojdkbonmmgaa
