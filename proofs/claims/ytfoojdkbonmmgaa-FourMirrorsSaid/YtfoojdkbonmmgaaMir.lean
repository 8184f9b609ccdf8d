/- What gameroomkeep.mirrored computes; conditions: a board of 1 to 10 by 1 to 10 places. -/
import Derived.Test.YtfoojdkbonmmgaaGrd
import Derived.Test.YtfoojdkbonmmgaaStepA
import Derived.StillTailTactics
import Derived.Deep.RegionHeld3
namespace Go.Proofs.Ytfoojdkbonmmgaa
open Go.RowKit

def mirP (a i : Nat) : Nat := i / a * a + a - 1 - i % a
def mirN (s : List Nat) (a : Nat) : Nat → List Nat
  | 0 => []
  | j + 1 => mirN s a j ++ [st s (mirP a j)]
theorem mirP_lt {a b i : Nat} (ha : 1 ≤ a) (h : i < a * b) : mirP a i < a * b := by
  have h1 : i % a < a := Nat.mod_lt _ (by omega)
  have h2 : i / a < b := (Nat.div_lt_iff_lt_mul (by omega)).2 (by rw [Nat.mul_comm]; exact h)
  have h3 := Nat.mul_le_mul_right a (show i / a + 1 ≤ b by omega)
  rw [Nat.add_mul, Nat.one_mul, Nat.mul_comm b a] at h3
  unfold mirP
  omega

theorem cell1_ne (w : World) {a b : Nat} (h : a ≠ b) (k i : Nat) (u : Value) : (w.setCell ⟨b, k, none⟩ u).cell? ⟨a, i, none⟩ = w.cell? ⟨a, i, none⟩ :=
  World.cell?_of_block (a := ⟨a, i, none⟩) (wset_ne _ _ h)
set_option maxRecDepth 20000 in
set_option maxHeartbeats 4000000 in
theorem mirrored_any (q : Option Addr) (n c a b : Nat) (s : List Nat) (w : World) (ha1 : 1 ≤ a) (ha : a ≤ 10) (hb : b ≤ 10) (hn : n = a * b) (hx : IntsIn w q n (asI s)) :
    Calls Try.prog 8 #[.agg #[.int .i64 a, .int .i64 b, .slice q n c]] w fun e w' => ∃ p c', e = .returned (.agg #[.int .i64 a, .int .i64 b, .slice p n c']) ∧ IntsIn w' p n (asI (mirN s a n)) ∧ Below w.heap.size w w' := by
  have hn100 : n ≤ 100 := by rw [hn]; exact Nat.mul_le_mul ha hb
  obtain ⟨a0, b0, c0⟩ := heap3 w (.cells #[.int .i64 a, .int .i64 b, .slice q n c] 29) (.cells #[.int .i64 0, .int .i64 0, .slice none 0 0] 29) (.cells #[.int .i64 a, .int .i64 b, .slice none 0 0] 29)
  have hx0 := Lib.hid (((hx.alloc (.cells #[.int .i64 a, .int .i64 b, .slice q n c] 29)).alloc (.cells #[.int .i64 0, .int .i64 0, .slice none 0 0] 29)).alloc (.cells #[.int .i64 a, .int .i64 b, .slice none 0 0] 29))
  have hB0 := Lib.hid (below3 w (.cells #[.int .i64 a, .int .i64 b, .slice q n c] 29) (.cells #[.int .i64 0, .int .i64 0, .slice none 0 0] 29) (.cells #[.int .i64 a, .int .i64 b, .slice none 0 0] 29))
  have hsz0 : w.heap.size + 1 + 1 < (((w.alloc (.cells #[.int .i64 a, .int .i64 b, .slice q n c] 29)).alloc (.cells #[.int .i64 0, .int .i64 0, .slice none 0 0] 29)).alloc (.cells #[.int .i64 a, .int .i64 b, .slice none 0 0] 29)).heap.size := by simp
  replace hn := Lib.hid hn
  have hqlt : ∀ x y, q = some ⟨x, y, none⟩ → 0 < n → x < w.heap.size := fun x y e h0 => by
    obtain ⟨x', y', e', hb', _⟩ := hx.at h0
    rw [e] at e'; cases e'; exact hb'
  clear hx
  replace a0 := Lib.hid a0; replace b0 := Lib.hid b0; replace c0 := Lib.hid c0
  go_enter Try.func8, Try.ntmps8
  go_wp2_with fail
  generalize (((w.alloc (.cells #[.int .i64 a, .int .i64 b, .slice q n c] 29)).alloc (.cells #[.int .i64 0, .int .i64 0, .slice none 0 0] 29)).alloc (.cells #[.int .i64 a, .int .i64 b, .slice none 0 0] 29)) = W at *
  go_loopg [4] n (fun gk jv W' => ∃ (j k c' : Nat) (p : Option Addr), j ≤ n ∧ gk = n - j ∧ jv = .int .i64 j ∧ Own 3 W.heap.size W' p j c' (asI (mirN s a j)) ∧ W'.heap[w.heap.size]? = some (.cells #[.int .i64 (a : Int), .int .i64 (b : Int), .slice q n c] 29) ∧ W'.heap[w.heap.size + 1]? = some (.cells #[.int .i64 0, .int .i64 0, .slice none 0 0] 29) ∧ W'.heap[w.heap.size + 1 + 1]? = some (.cells #[.int .i64 (a : Int), .int .i64 (b : Int), .slice p j c'] 29) ∧ Below w.heap.size w W' ∧ IntsIn W' q n (asI s) ∧ W.heap.size ≤ W'.heap.size ∧ k = 0)
  case atStart => exact ⟨0, 0, 0, none, by omega, by omega, rfl, Own.nil _ _ _, a0.out, b0.out, c0.out, hB0.out, hx0.out, Nat.le_refl _, rfl⟩
  case round =>
    obtain ⟨j, k, c', p, hj, hgk, rfl, hO, ar, br, cr, hBr, hxr, hzr, rfl⟩ := hrel
    obtain ⟨W1, rfl⟩ : ∃ W1 : World, W1 = wr := ⟨_, rfl⟩
    replace hgk := Lib.hid hgk
    by_cases hlt : j < n
    · obtain ⟨gb, go, rfl, hgb, hcx⟩ := hxr.at (by omega)
      clear hcx
      have hgq := Lib.hid (hqlt gb go rfl (by omega))
      have hml : mirP a j < n := by rw [hn.out]; exact mirP_lt ha1 (by rw [← hn.out]; exact hlt)
      have k1 := hxr.cellN hml
      have hsu : Hid (mirN s a (j + 1) = mirN s a j ++ [st s (mirP a j)]) := rfl
      have hM : mirP a j = j / a * a + a - 1 - j % a := rfl
      have hr1 : j % a < a := Nat.mod_lt _ (by omega)
      have hdle : j / a ≤ j := Nat.div_le_self _ _
      have hmul : j / a * a ≤ j := Nat.div_mul_le_self j a
      have hdiv : (j : Int).tdiv (a : Int) = ((j / a : Nat) : Int) := by rw [Int.tdiv_eq_ediv_of_nonneg (by omega)]; push_cast; rfl
      have hdiv2 : (j : Int) / (a : Int) = ((j / a : Nat) : Int) := by push_cast; rfl
      have hmod : (j : Int).tmod (a : Int) = ((j % a : Nat) : Int) := by rw [Int.tmod_eq_emod_of_nonneg (by omega)]; push_cast; rfl
      have hmod2 : (j : Int) % (a : Int) = ((j % a : Nat) : Int) := by push_cast; rfl
      have hpr : ((j / a : Nat) : Int) * (a : Int) = ((j / a * a : Nat) : Int) := by push_cast; rfl
      generalize mirP a j = M at *
      generalize st s M = v at *
      have d0 : W1.cell? ⟨w.heap.size, 0, none⟩ = some (.int .i64 (a : Int)) := wcell (cs := [_, _, _]) ar 0
      have d2 : W1.cell? ⟨w.heap.size, 2, none⟩ = some (.slice (some ⟨gb, go, none⟩) n c) := wcell (cs := [_, _, _]) ar 2
      have g2 : W1.cell? ⟨w.heap.size + 1 + 1, 2, none⟩ = some (.slice p j c') := wcell (cs := [_, _, _]) cr 2
      have haz : ((a : Int) == 0) = false := by simp; omega
      replace hO := Lib.hid hO; replace ar := Lib.hid ar; replace br := Lib.hid br; replace cr := Lib.hid cr; replace hBr := Lib.hid hBr; replace hxr := Lib.hid hxr
      generalize j / a * a = m at *
      generalize j / a = d at *
      generalize j % a = r at *
      have haz2 : ¬ a = 0 := by omega
      have wd : IntKind.i64.wrap (d : Int) = (d : Int) := IntWalk.i64_in _ (by have := hdle; omega)
      have wr : IntKind.i64.wrap (r : Int) = (r : Int) := IntWalk.i64_in _ (by omega)
      have wA : IntKind.i64.wrap ((d : Int) * (a : Int)) = (m : Int) := by rw [hpr]; exact IntWalk.i64_in _ (by omega)
      have wB : IntKind.i64.wrap ((m : Int) + (a : Int)) = (m : Int) + (a : Int) := IntWalk.i64_in _ (by omega)
      have wC : IntKind.i64.wrap ((m : Int) + (a : Int) - 1) = (m : Int) + (a : Int) - 1 := IntWalk.i64_in _ (by omega)
      have wD : IntKind.i64.wrap ((m : Int) + (a : Int) - 1 - (r : Int)) = (M : Int) := by rw [IntWalk.i64_in _ (by omega)]; omega
      replace hpr := Lib.hid hpr; replace hM := Lib.hid hM
      go_wp2_with fail
      have hs1 : w.heap.size + 1 + 1 < W1.heap.size := by omega
      have hs2 : w.heap.size < W1.heap.size := by omega
      have hs3 : gb < W1.heap.size := (IntsIn.at hxr.out (by omega)).elim fun b h => by
        obtain ⟨o, e, hb, _⟩ := h
        cases e; exact hb
      have hp0 := Lib.hid (OwnC.apart (k := 1) hO.out w.heap.size (by omega))
      have hp1 := Lib.hid (OwnC.apart (k := 1) hO.out (w.heap.size + 1) (by omega))
      have hp2 := Lib.hid (OwnC.apart (k := 1) hO.out (w.heap.size + 1 + 1) hsz0)
      have hgp := Lib.hid (OwnC.apart (k := 1) hO.out gb (by have := hgq.out; omega))
      have hgs : Hid (gb ≠ w.heap.size + 1 + 1) := Lib.hid (by have := hgq.out; omega)
      have hs12 : w.heap.size < w.heap.size + 1 + 1 := by omega
      refine wp_region_held_drew (S := (fun w' => w'.cell? ⟨w.heap.size, 0, none⟩ = some (.int .i64 (a : Int)) ∧ w'.cell? ⟨w.heap.size, 2, none⟩ = some (.slice (some ⟨gb, go, none⟩) n c) ∧ w'.cell? ⟨gb, go + M, none⟩ = some (.int .i64 (v : Int)))) (by kernel_rfl) ?_ (fun hHeld => ?_)
      · exact ⟨d0, d2, k1⟩
      refine wpAnyH_take (i := 0) (v := ?v0) rfl (by kernel_rfl) (by kernel_rfl) (by kernel_rfl) (fun _ _ _ h => h) (Or.inl ⟨by rfl, ?h0⟩) (by assumption) ?_
      case h0 => first | (intro w hSw; (try dsimp only at hSw); go_simp; done) | (intro w hSw; (try dsimp only at hSw); go_simp; with_reducible rfl)
      try simp only [Act.put, List.setIfInBounds_toArray]
      refine wpAnyH_take (i := 2) (v := ?v1) rfl (by kernel_rfl) (by kernel_rfl) (by kernel_rfl) (fun _ _ _ h => h) (Or.inl ⟨by rfl, ?h1⟩) (by assumption) ?_
      case h1 => first | (intro w hSw; (try dsimp only at hSw); go_simp; done) | (intro w hSw; (try dsimp only at hSw); go_simp; with_reducible rfl)
      try simp only [Act.put]
      refine wpAnyH_take (i := 3) (v := ?v2) rfl (by kernel_rfl) (by kernel_rfl) (by kernel_rfl) (fun _ _ _ h => h) (Or.inl ⟨by rfl, ?h2⟩) (by assumption) ?_
      case h2 => first | (intro w hSw; (try dsimp only at hSw); go_simp; done) | (intro w hSw; (try dsimp only at hSw); go_simp; with_reducible rfl)
      try simp only [Act.put]
      refine wpAnyH_take (i := 4) (v := ?v3) rfl (by kernel_rfl) (by kernel_rfl) (by kernel_rfl) (fun _ _ _ h => h) (Or.inl ⟨by rfl, ?h3⟩) (by assumption) ?_
      case h3 => first | (intro w hSw; (try dsimp only at hSw); go_simp; done) | (intro w hSw; (try dsimp only at hSw); go_simp; with_reducible rfl)
      try simp only [Act.put]
      refine wpAnyH_take (i := 5) (v := ?v4) rfl (by kernel_rfl) (by kernel_rfl) (by kernel_rfl) (fun _ _ _ h => h) (Or.inl ⟨by rfl, ?h4⟩) (by assumption) ?_
      case h4 => first | (intro w hSw; (try dsimp only at hSw); go_simp; done) | (intro w hSw; (try dsimp only at hSw); go_simp; with_reducible rfl)
      try simp only [Act.put]
      refine wpAnyH_take (i := 6) (v := ?v5) rfl (by kernel_rfl) (by kernel_rfl) (by kernel_rfl) (fun _ _ _ h => h) (Or.inl ⟨by rfl, ?h5⟩) (by assumption) ?_
      case h5 => first | (intro w hSw; (try dsimp only at hSw); go_simp; done) | (intro w hSw; (try dsimp only at hSw); go_simp; with_reducible rfl)
      try simp only [Act.put]
      refine wpAnyH_take (i := 7) (v := ?v6) rfl (by kernel_rfl) (by kernel_rfl) (by kernel_rfl) (fun _ _ _ h => h) (Or.inl ⟨by rfl, ?h6⟩) (by assumption) ?_
      case h6 => first | (intro w hSw; (try dsimp only at hSw); go_simp; done) | (intro w hSw; (try dsimp only at hSw); go_simp; with_reducible rfl)
      try simp only [Act.put]
      refine wpAnyH_take (i := 8) (v := ?v7) rfl (by kernel_rfl) (by kernel_rfl) (by kernel_rfl) (fun _ _ _ h => h) (Or.inl ⟨by rfl, ?h7⟩) (by assumption) ?_
      case h7 => first | (intro w hSw; (try dsimp only at hSw); go_simp; done) | (intro w hSw; (try dsimp only at hSw); go_simp; with_reducible rfl)
      try simp only [Act.put]
      refine wpAnyH_take (i := 9) (v := ?v8) rfl (by kernel_rfl) (by kernel_rfl) (by kernel_rfl) (fun _ _ _ h => h) (Or.inl ⟨by rfl, ?h8⟩) (by assumption) ?_
      case h8 => first | (intro w hSw; (try dsimp only at hSw); go_simp; done) | (intro w hSw; (try dsimp only at hSw); go_simp; with_reducible rfl)
      try simp only [Act.put]
      refine wpAnyH_take (i := 10) (v := ?v9) rfl (by kernel_rfl) (by kernel_rfl) (by kernel_rfl) (fun _ _ _ h => h) (Or.inl ⟨by rfl, ?h9⟩) (by assumption) ?_
      case h9 => first | (intro w hSw; (try dsimp only at hSw); go_simp; done) | (intro w hSw; (try dsimp only at hSw); go_simp; with_reducible rfl)
      try simp only [Act.put]
      refine wpAnyH_take (i := 11) (v := ?v10) rfl (by kernel_rfl) (by kernel_rfl) (by kernel_rfl) (fun _ _ _ h => h) (Or.inl ⟨by rfl, ?h10⟩) (by assumption) ?_
      case h10 => first | (intro w hSw; (try dsimp only at hSw); go_simp; done) | (intro w hSw; (try dsimp only at hSw); go_simp; with_reducible rfl)
      try simp only [Act.put]
      refine wpAnyH_take (i := 12) (v := ?v11) rfl (by kernel_rfl) (by kernel_rfl) (by kernel_rfl) (fun _ _ _ h => h) (Or.inl ⟨by rfl, ?h11⟩) (by assumption) ?_
      case h11 => first | (intro w hSw; (try dsimp only at hSw); go_simp; done) | (intro w hSw; (try dsimp only at hSw); go_simp; with_reducible rfl)
      try simp only [Act.put]
      refine wpAnyH_take (i := 13) (v := ?v12) rfl (by kernel_rfl) (by kernel_rfl) (by kernel_rfl) (fun _ _ _ h => h) (Or.inl ⟨by rfl, ?h12⟩) (by assumption) ?_
      case h12 => first | (intro w hSw; (try dsimp only at hSw); go_simp; done) | (intro w hSw; (try dsimp only at hSw); go_simp; with_reducible rfl)
      try simp only [Act.put]
      refine wpAnyH_take (i := 14) (v := ?v13) rfl (by kernel_rfl) (by kernel_rfl) (by kernel_rfl) (fun _ _ _ h => h) (Or.inl ⟨by rfl, ?h13⟩) (by assumption) ?_
      case h13 => first | (intro w hSw; (try dsimp only at hSw); go_simp; done) | (intro w hSw; (try dsimp only at hSw); go_simp; with_reducible rfl)
      try simp only [Act.put]
      refine wpAnyH_take (i := 15) (v := ?v14) rfl (by kernel_rfl) (by kernel_rfl) (by kernel_rfl) (fun _ _ _ h => h) (Or.inl ⟨by rfl, ?h14⟩) (by assumption) ?_
      case h14 => first | (intro w hSw; (try dsimp only at hSw); go_simp; done) | (intro w hSw; (try dsimp only at hSw); go_simp; with_reducible rfl)
      try simp only [Act.put]
      refine wpAnyH_take (i := 16) (v := ?v15) rfl (by kernel_rfl) (by kernel_rfl) (by kernel_rfl) (fun _ _ _ h => h) (Or.inl ⟨by rfl, ?h15⟩) (by assumption) ?_
      case h15 => first | (intro w hSw; (try dsimp only at hSw); go_simp; done) | (intro w hSw; (try dsimp only at hSw); go_simp; with_reducible rfl)
      try simp only [Act.put]
      refine wpAnyH_take (i := 17) (v := ?v16) rfl (by kernel_rfl) (by kernel_rfl) (by kernel_rfl) (fun _ _ _ h => h) (Or.inl ⟨by rfl, ?h16⟩) (by assumption) ?_
      case h16 => first | (intro w hSw; (try dsimp only at hSw); go_simp; done) | (intro w hSw; (try dsimp only at hSw); go_simp; with_reducible rfl)
      try simp only [Act.put]
      refine wpAnyH_take (i := 18) (v := ?v17) rfl (by kernel_rfl) (by kernel_rfl) (by kernel_rfl) (fun _ _ _ h => h) (Or.inl ⟨by rfl, ?h17⟩) (by assumption) ?_
      case h17 => first | (intro w hSw; (try dsimp only at hSw); go_simp; done) | (intro w hSw; (try dsimp only at hSw); go_simp; with_reducible rfl)
      try simp only [Act.put]
      refine wpAnyH_take (i := 19) (v := ?v18) rfl (by kernel_rfl) (by kernel_rfl) (by kernel_rfl) (fun _ _ _ h => h) (Or.inl ⟨by rfl, ?h18⟩) (by assumption) ?_
      case h18 => first | (intro w hSw; (try dsimp only at hSw); go_simp; done) | (intro w hSw; (try dsimp only at hSw); go_simp; with_reducible rfl)
      try simp only [Act.put]
      refine wpAnyH_take (i := 20) (v := ?v19) rfl (by kernel_rfl) (by kernel_rfl) (by kernel_rfl) (fun _ _ _ h => h) (Or.inl ⟨by rfl, ?h19⟩) (by assumption) ?_
      case h19 => first | (intro w hSw; (try dsimp only at hSw); go_simp; done) | (intro w hSw; (try dsimp only at hSw); go_simp; with_reducible rfl)
      try simp only [Act.put]
      refine wpAnyH_take (i := 21) (v := ?v20) rfl (by kernel_rfl) (by kernel_rfl) (by kernel_rfl) (fun _ _ _ h => h) (Or.inl ⟨by rfl, ?h20⟩) (by assumption) ?_
      case h20 => first | (intro w hSw; (try dsimp only at hSw); go_simp; done) | (intro w hSw; (try dsimp only at hSw); go_simp; with_reducible rfl)
      try simp only [Act.put]
      refine wpAnyH_ready (rs := [1, 22]) (by kernel_rfl) (by simp) ?_
      refine AllReadyH.cons rfl (fun K hK => ?_) (AllReadyH.cons rfl (fun K hK => ?_) AllReadyH.nil)
      rotate_left 0
      · go_simp
        refine hK.out _ _ ?_ (fun hHeld => ?_)
        · (first | exact ⟨d0, d2, k1⟩ | exact ⟨d0', d2', k1'⟩ | exact ⟨(cell1_ne _ (Nat.ne_of_lt hs12) _ _ _).trans d0', (cell1_ne _ (Nat.ne_of_lt hs12) _ _ _).trans d2', (cell1_ne _ hgs.out _ _ _).trans k1'⟩ | go_keep)
        clear hK K
        try simp only [Act.put, List.setIfInBounds_toArray, List.set_cons_zero, List.set_cons_succ]
        refine wpAnyH_ready (rs := [22]) (by kernel_rfl) (by simp) ?_
        refine AllReadyH.cons rfl (fun K hK => ?_) AllReadyH.nil
        go_simp
        refine hK.out _ _ ?_ (fun hHeld => ?_)
        · (first | exact ⟨d0, d2, k1⟩ | exact ⟨d0', d2', k1'⟩ | exact ⟨(cell1_ne _ (Nat.ne_of_lt hs12) _ _ _).trans d0', (cell1_ne _ (Nat.ne_of_lt hs12) _ _ _).trans d2', (cell1_ne _ hgs.out _ _ _).trans k1'⟩ | go_keep)
        clear hK K
        try simp only [Act.put, List.setIfInBounds_toArray, List.set_cons_zero, List.set_cons_succ]
        refine wpAnyH_ready (rs := [23]) (by kernel_rfl) (by simp) ?_
        refine AllReadyH.cons rfl (fun K hK => ?_) AllReadyH.nil
        (first | (refine step_append1 intG _ (by rfl) _ _ (by rfl) W.heap.size p j c' _ (by rfl) (OwnC.below (k := 1) hO.out (by first | exact below_drewN ((Below.refl _ W1).alloc (Nat.le_refl _) (.cells #[.int .i64 (v : Int)] 3)) 1 | exact (below_drewN (Below.refl _ W1) 1).alloc (Nat.le_refl _) (.cells #[.int .i64 (v : Int)] 3)) (Nat.le_refl _)) (v : Int) W1.heap.size (by rfl) (by simp) (by omega) (by simp; omega) ?_; intro p2 c3 w2 hM2 hg3; have hk := Lib.hid (fun (bb : Nat) (h1 : bb < W1.heap.size) (h2 : some bb ≠ p.map (·.block)) => (hg3.block bb (show bb < (W1.alloc (.cells #[.int .i64 (v : Int)] 3)).heap.size from Nat.lt_trans h1 (by simp)) h2).trans (Below.heap_alloc W1 (.cells #[.int .i64 (v : Int)] 3) bb h1)); have ar2 := (hk.out _ hs2 hp0.out).trans ar.out; have cr2 := (hk.out _ hs1 hp2.out).trans cr.out; have d0' : w2.cell? ⟨w.heap.size, 0, none⟩ = some (.int .i64 (a : Int)) := wcell (cs := [_, _, _]) ar2 0; have d2' : w2.cell? ⟨w.heap.size, 2, none⟩ = some (.slice (some ⟨gb, go, none⟩) n c) := wcell (cs := [_, _, _]) ar2 2; have k1' : w2.cell? ⟨gb, go + M, none⟩ = some (.int .i64 (v : Int)) := (World.cell?_of_block (a := ⟨gb, go + M, none⟩) (hk.out _ hs3 hgp.out)).trans k1; have g2' : w2.cell? ⟨w.heap.size + 1 + 1, 2, none⟩ = some (.slice p j c') := wcell (cs := [_, _, _]) cr2 2; have gf : w2.frozen? ⟨w.heap.size + 1 + 1, 2, none⟩ = false := wfree cr2 2; replace ar2 := Lib.hid ar2; replace cr2 := Lib.hid cr2; replace hM2 := Lib.hid hM2; have hz2 := Lib.hid hg3.size; replace hg3 := Lib.hid hg3))
        refine hK.out _ _ ?_ (fun hHeld => ?_)
        · (first | exact ⟨d0, d2, k1⟩ | exact ⟨d0', d2', k1'⟩ | exact ⟨(cell1_ne _ (Nat.ne_of_lt hs12) _ _ _).trans d0', (cell1_ne _ (Nat.ne_of_lt hs12) _ _ _).trans d2', (cell1_ne _ hgs.out _ _ _).trans k1'⟩ | go_keep)
        clear hK K
        try simp only [Act.put, List.setIfInBounds_toArray]
        refine wpAnyH_take (i := 24) (v := ?v21) rfl (by kernel_rfl) (by kernel_rfl) (by kernel_rfl) (fun _ _ _ h => h) (Or.inl ⟨by rfl, ?h21⟩) (by assumption) ?_
        case h21 => first | (intro w hSw; (try dsimp only at hSw); go_simp; done) | (intro w hSw; (try dsimp only at hSw); go_simp; with_reducible rfl)
        try simp only [Act.put]
        refine wpAnyH_ready (rs := [25]) (by kernel_rfl) (by simp) ?_
        refine AllReadyH.cons rfl (fun K hK => ?_) AllReadyH.nil
        go_simp
        refine hK.out _ _ ?_ (fun hHeld => ?_)
        · (first | exact ⟨d0, d2, k1⟩ | exact ⟨d0', d2', k1'⟩ | exact ⟨(cell1_ne _ (Nat.ne_of_lt hs12) _ _ _).trans d0', (cell1_ne _ (Nat.ne_of_lt hs12) _ _ _).trans d2', (cell1_ne _ hgs.out _ _ _).trans k1'⟩ | go_keep)
        clear hK K
        try simp only [Act.put, List.setIfInBounds_toArray, List.set_cons_zero, List.set_cons_succ]
        refine wpAnyH_done (by kernel_rfl) ?_ _
        go_wp2_with fail
        have hpB : ∀ k, p.map (·.block) = some k → w.heap.size ≤ k := fun k hk => by
          obtain ⟨a', ha', rfl⟩ := Option.map_eq_some_iff.1 hk
          have := (OwnC.block (k := 1) hO.out a' ha').1
          omega
        have hzz : W1.heap.size + 1 ≤ w2.heap.size := by have := hz2.out; simpa using this
        have hBG : Below w.heap.size w w2 := by
          first
          | exact Below.grown (below_drewN (hBr.out.alloc (by omega) (.cells #[.int .i64 (v : Int)] 3)) 1) hg3.out (by simp; omega) hpB
          | exact Below.grown ((below_drewN hBr.out 1).alloc (by simp; omega) (.cells #[.int .i64 (v : Int)] 3)) hg3.out (by simp; omega) hpB
        have hB5 := Lib.hid (hBG.setCell (p := ⟨w.heap.size + 1 + 1, 2, none⟩) (by simp; omega) (.slice p2 (j + 1) c3))
        have hO5 := OwnC.keep (k := 1) hM2.out (w' := w2.setCell ⟨w.heap.size + 1 + 1, 2, none⟩ (.slice p2 (j + 1) c3)) (fun a' ha' => wset_ne _ _ (by have := (OwnC.block (k := 1) hM2.out a' ha').1; simp; omega))
        rw [show asI (mirN s a j) ++ [(v : Int)] = asI (mirN s a (j + 1)) by rw [hsu.out]; simp [asI]] at hO5
        have ar5 := Lib.hid ((wset_ne (w := w2) ⟨w.heap.size + 1 + 1, 2, none⟩ (.slice p2 (j + 1) c3) (Nat.ne_of_lt hs12)).trans ar2.out)
        have br5 := Lib.hid ((wset_ne (w := w2) ⟨w.heap.size + 1 + 1, 2, none⟩ (.slice p2 (j + 1) c3) (show w.heap.size + 1 ≠ w.heap.size + 1 + 1 by omega)).trans ((hk.out _ (by omega) hp1.out).trans br.out))
        have cr5 := Lib.hid (wset cr2.out 2 (.slice p2 (j + 1) c3))
        have hx5 := Lib.hid (hxr.out.keep (w' := w2.setCell ⟨w.heap.size + 1 + 1, 2, none⟩ (.slice p2 (j + 1) c3)) (by simp [World.setCell]; omega) (fun b' o' e' => by cases e'; exact (wset_ne _ _ hgs.out).trans (hk.out _ hs3 hgp.out)))
        have hz5 : W.heap.size ≤ (w2.setCell ⟨w.heap.size + 1 + 1, 2, none⟩ (.slice p2 (j + 1) c3)).heap.size := by simp [World.setCell]; omega
        replace hO5 := Lib.hid hO5
        have hgk := hgk.out
        go_roundg (n - (j + 1))
        case measure => omega
        case rel => exact ⟨j + 1, 0, c3, p2, by omega, rfl, by go_num, hO5.out, ar5.out, br5.out, cr5.out, hB5.out, hx5.out, hz5, rfl⟩
      · go_simp
        refine hK.out _ _ ?_ (fun hHeld => ?_)
        · (first | exact ⟨d0, d2, k1⟩ | exact ⟨d0', d2', k1'⟩ | exact ⟨(cell1_ne _ (Nat.ne_of_lt hs12) _ _ _).trans d0', (cell1_ne _ (Nat.ne_of_lt hs12) _ _ _).trans d2', (cell1_ne _ hgs.out _ _ _).trans k1'⟩ | go_keep)
        clear hK K
        try simp only [Act.put, List.setIfInBounds_toArray, List.set_cons_zero, List.set_cons_succ]
        refine wpAnyH_ready (rs := [1]) (by kernel_rfl) (by simp) ?_
        refine AllReadyH.cons rfl (fun K hK => ?_) AllReadyH.nil
        go_simp
        refine hK.out _ _ ?_ (fun hHeld => ?_)
        · (first | exact ⟨d0, d2, k1⟩ | exact ⟨d0', d2', k1'⟩ | exact ⟨(cell1_ne _ (Nat.ne_of_lt hs12) _ _ _).trans d0', (cell1_ne _ (Nat.ne_of_lt hs12) _ _ _).trans d2', (cell1_ne _ hgs.out _ _ _).trans k1'⟩ | go_keep)
        clear hK K
        try simp only [Act.put, List.setIfInBounds_toArray, List.set_cons_zero, List.set_cons_succ]
        refine wpAnyH_ready (rs := [23]) (by kernel_rfl) (by simp) ?_
        refine AllReadyH.cons rfl (fun K hK => ?_) AllReadyH.nil
        (first | (refine step_append1 intG _ (by rfl) _ _ (by rfl) W.heap.size p j c' _ (by rfl) (OwnC.below (k := 1) hO.out (by first | exact below_drewN ((Below.refl _ W1).alloc (Nat.le_refl _) (.cells #[.int .i64 (v : Int)] 3)) 1 | exact (below_drewN (Below.refl _ W1) 1).alloc (Nat.le_refl _) (.cells #[.int .i64 (v : Int)] 3)) (Nat.le_refl _)) (v : Int) W1.heap.size (by rfl) (by simp) (by omega) (by simp; omega) ?_; intro p2 c3 w2 hM2 hg3; have hk := Lib.hid (fun (bb : Nat) (h1 : bb < W1.heap.size) (h2 : some bb ≠ p.map (·.block)) => (hg3.block bb (show bb < (W1.alloc (.cells #[.int .i64 (v : Int)] 3)).heap.size from Nat.lt_trans h1 (by simp)) h2).trans (Below.heap_alloc W1 (.cells #[.int .i64 (v : Int)] 3) bb h1)); have ar2 := (hk.out _ hs2 hp0.out).trans ar.out; have cr2 := (hk.out _ hs1 hp2.out).trans cr.out; have d0' : w2.cell? ⟨w.heap.size, 0, none⟩ = some (.int .i64 (a : Int)) := wcell (cs := [_, _, _]) ar2 0; have d2' : w2.cell? ⟨w.heap.size, 2, none⟩ = some (.slice (some ⟨gb, go, none⟩) n c) := wcell (cs := [_, _, _]) ar2 2; have k1' : w2.cell? ⟨gb, go + M, none⟩ = some (.int .i64 (v : Int)) := (World.cell?_of_block (a := ⟨gb, go + M, none⟩) (hk.out _ hs3 hgp.out)).trans k1; have g2' : w2.cell? ⟨w.heap.size + 1 + 1, 2, none⟩ = some (.slice p j c') := wcell (cs := [_, _, _]) cr2 2; have gf : w2.frozen? ⟨w.heap.size + 1 + 1, 2, none⟩ = false := wfree cr2 2; replace ar2 := Lib.hid ar2; replace cr2 := Lib.hid cr2; replace hM2 := Lib.hid hM2; have hz2 := Lib.hid hg3.size; replace hg3 := Lib.hid hg3))
        refine hK.out _ _ ?_ (fun hHeld => ?_)
        · (first | exact ⟨d0, d2, k1⟩ | exact ⟨d0', d2', k1'⟩ | exact ⟨(cell1_ne _ (Nat.ne_of_lt hs12) _ _ _).trans d0', (cell1_ne _ (Nat.ne_of_lt hs12) _ _ _).trans d2', (cell1_ne _ hgs.out _ _ _).trans k1'⟩ | go_keep)
        clear hK K
        try simp only [Act.put, List.setIfInBounds_toArray]
        refine wpAnyH_take (i := 24) (v := ?v22) rfl (by kernel_rfl) (by kernel_rfl) (by kernel_rfl) (fun _ _ _ h => h) (Or.inl ⟨by rfl, ?h22⟩) (by assumption) ?_
        case h22 => first | (intro w hSw; (try dsimp only at hSw); go_simp; done) | (intro w hSw; (try dsimp only at hSw); go_simp; with_reducible rfl)
        try simp only [Act.put]
        refine wpAnyH_ready (rs := [25]) (by kernel_rfl) (by simp) ?_
        refine AllReadyH.cons rfl (fun K hK => ?_) AllReadyH.nil
        go_simp
        refine hK.out _ _ ?_ (fun hHeld => ?_)
        · (first | exact ⟨d0, d2, k1⟩ | exact ⟨d0', d2', k1'⟩ | exact ⟨(cell1_ne _ (Nat.ne_of_lt hs12) _ _ _).trans d0', (cell1_ne _ (Nat.ne_of_lt hs12) _ _ _).trans d2', (cell1_ne _ hgs.out _ _ _).trans k1'⟩ | go_keep)
        clear hK K
        try simp only [Act.put, List.setIfInBounds_toArray, List.set_cons_zero, List.set_cons_succ]
        refine wpAnyH_done (by kernel_rfl) ?_ _
        go_wp2_with fail
        have hpB : ∀ k, p.map (·.block) = some k → w.heap.size ≤ k := fun k hk => by
          obtain ⟨a', ha', rfl⟩ := Option.map_eq_some_iff.1 hk
          have := (OwnC.block (k := 1) hO.out a' ha').1
          omega
        have hzz : W1.heap.size + 1 ≤ w2.heap.size := by have := hz2.out; simpa using this
        have hBG : Below w.heap.size w w2 := by
          first
          | exact Below.grown (below_drewN (hBr.out.alloc (by omega) (.cells #[.int .i64 (v : Int)] 3)) 1) hg3.out (by simp; omega) hpB
          | exact Below.grown ((below_drewN hBr.out 1).alloc (by simp; omega) (.cells #[.int .i64 (v : Int)] 3)) hg3.out (by simp; omega) hpB
        have hB5 := Lib.hid (hBG.setCell (p := ⟨w.heap.size + 1 + 1, 2, none⟩) (by simp; omega) (.slice p2 (j + 1) c3))
        have hO5 := OwnC.keep (k := 1) hM2.out (w' := w2.setCell ⟨w.heap.size + 1 + 1, 2, none⟩ (.slice p2 (j + 1) c3)) (fun a' ha' => wset_ne _ _ (by have := (OwnC.block (k := 1) hM2.out a' ha').1; simp; omega))
        rw [show asI (mirN s a j) ++ [(v : Int)] = asI (mirN s a (j + 1)) by rw [hsu.out]; simp [asI]] at hO5
        have ar5 := Lib.hid ((wset_ne (w := w2) ⟨w.heap.size + 1 + 1, 2, none⟩ (.slice p2 (j + 1) c3) (Nat.ne_of_lt hs12)).trans ar2.out)
        have br5 := Lib.hid ((wset_ne (w := w2) ⟨w.heap.size + 1 + 1, 2, none⟩ (.slice p2 (j + 1) c3) (show w.heap.size + 1 ≠ w.heap.size + 1 + 1 by omega)).trans ((hk.out _ (by omega) hp1.out).trans br.out))
        have cr5 := Lib.hid (wset cr2.out 2 (.slice p2 (j + 1) c3))
        have hx5 := Lib.hid (hxr.out.keep (w' := w2.setCell ⟨w.heap.size + 1 + 1, 2, none⟩ (.slice p2 (j + 1) c3)) (by simp [World.setCell]; omega) (fun b' o' e' => by cases e'; exact (wset_ne _ _ hgs.out).trans (hk.out _ hs3 hgp.out)))
        have hz5 : W.heap.size ≤ (w2.setCell ⟨w.heap.size + 1 + 1, 2, none⟩ (.slice p2 (j + 1) c3)).heap.size := by simp [World.setCell]; omega
        replace hO5 := Lib.hid hO5
        have hgk := hgk.out
        go_roundg (n - (j + 1))
        case measure => omega
        case rel => exact ⟨j + 1, 0, c3, p2, by omega, rfl, by go_num, hO5.out, ar5.out, br5.out, cr5.out, hB5.out, hx5.out, hz5, rfl⟩
    · have hjn : j = n := by omega
      subst hjn
      have hlt2 : ¬ j < j := by omega
      have d2 : W1.cell? ⟨w.heap.size, 2, none⟩ = some (.slice q j c) := wcell (cs := [_, _, _]) ar 2
      have f0 : W1.cell? ⟨w.heap.size + 1 + 1, 0, none⟩ = some (.int .i64 (a : Int)) := wcell (cs := [_, _, _]) cr 0
      have f1 : W1.cell? ⟨w.heap.size + 1 + 1, 1, none⟩ = some (.int .i64 (b : Int)) := wcell (cs := [_, _, _]) cr 1
      have f2 : W1.cell? ⟨w.heap.size + 1 + 1, 2, none⟩ = some (.slice p j c') := wcell (cs := [_, _, _]) cr 2
      have m0 : W1.cell? ⟨w.heap.size + 1, 0, none⟩ = some (.int .i64 0) := wcell (cs := [_, _, _]) br 0
      have m1 : W1.cell? ⟨w.heap.size + 1, 1, none⟩ = some (.int .i64 0) := wcell (cs := [_, _, _]) br 1
      have m2 : W1.cell? ⟨w.heap.size + 1, 2, none⟩ = some (.slice none 0 0) := wcell (cs := [_, _, _]) br 2
      have z0 := wfree br 0
      have z1 := wfree br 1
      have z2 := wfree br 2
      have z := wset (wset (wset br 0 (.int .i64 (a : Int))) 1 (.int .i64 (b : Int))) 2 (.slice p j c')
      have r0 := wcell (cs := [.int .i64 (a : Int), .int .i64 (b : Int), .slice p j c']) (by simpa using z) 0
      have r1 := wcell (cs := [.int .i64 (a : Int), .int .i64 (b : Int), .slice p j c']) (by simpa using z) 1
      have r2 := wcell (cs := [.int .i64 (a : Int), .int .i64 (b : Int), .slice p j c']) (by simpa using z) 2
      have hB9 := Lib.hid (((hBr.setCell (p := ⟨w.heap.size + 1, 0, none⟩) (Nat.le_succ _) (.int .i64 (a : Int))).setCell (p := ⟨w.heap.size + 1, 1, none⟩) (Nat.le_succ _) (.int .i64 (b : Int))).setCell (p := ⟨w.heap.size + 1, 2, none⟩) (Nat.le_succ _) (.slice p j c'))
      have hx9 := Lib.hid ((Own.in hO).keep (w' := ((W1.setCell ⟨w.heap.size + 1, 0, none⟩ (.int .i64 (a : Int))).setCell ⟨w.heap.size + 1, 1, none⟩ (.int .i64 (b : Int))).setCell ⟨w.heap.size + 1, 2, none⟩ (.slice p j c')) (by simp [World.setCell]) (fun b' o' e => by
        have g2w := (OwnC.block (k := 1) hO _ e).1
        simp only at g2w
        rw [wset_ne _ _ (by show b' ≠ w.heap.size + 1; omega), wset_ne _ _ (by show b' ≠ w.heap.size + 1; omega), wset_ne _ _ (by show b' ≠ w.heap.size + 1; omega)]))
      replace r0 := Lib.hid r0; replace r1 := Lib.hid r1; replace r2 := Lib.hid r2
      replace hO := Lib.hid hO; replace ar := Lib.hid ar; replace br := Lib.hid br; replace cr := Lib.hid cr; replace hBr := Lib.hid hBr; replace hxr := Lib.hid hxr
      clear z
      go_wp2_with fail
      refine bodyPost_ret (v := .agg #[.int .i64 (a : Int), .int .i64 (b : Int), .slice p j c']) (by simp [results, go_sem, r0.out, r1.out, r2.out]) rfl ⟨p, c', rfl, hx9.out, hB9.out⟩
theorem mirN_at (s : List Nat) (a : Nat) : ∀ n, mirN s a n = (List.range n).map fun i => st s (mirP a i) := by
  intro n
  induction n with
  | zero => rfl
  | succ n ih => rw [mirN, ih, List.range_succ, List.map_append]; rfl
end Go.Proofs.Ytfoojdkbonmmgaa
