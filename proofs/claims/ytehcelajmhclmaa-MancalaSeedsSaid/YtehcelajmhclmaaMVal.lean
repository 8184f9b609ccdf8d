/- What mancala's value computes; conditions: 1 to 6 pits, the board's weight below the fuel (at most 5005), at most 3000 seeds. -/
import Derived.Test.YtehcelajmhclmaaMSow
import Derived.Test.YtehcelajmhclmaaMFrom
namespace Go.Proofs.Ytehcelajmhclmaa
open Go.RowKit

def ValPost (f P : Nat) (l : List Nat) (w : World) : Ending → World → Prop := fun e w' => e = .returned (.tuple #[.int .i64 (valV f P l).1, .int .i64 (valV f P l).2]) ∧ Below w.heap.size w w'


/-- the copy of the game: its box and its row. -/
def NextAt (W : World) (n P : Nat) (l : List Nat) (v : Value) (wx : World) : Prop := ∃ b8 g8 c8, v = .pointer (some ⟨b8, 0, none⟩) ∧ b8 < wx.heap.size ∧ wx.heap[b8]? = some (.cells #[.slice (some ⟨g8, 0, none⟩) n c8, .int .i64 P] 37) ∧ Own 3 W.heap.size wx (some ⟨g8, 0, none⟩) n c8 (asI l) ∧ b8 ≠ g8 ∧ W.heap.size ≤ g8 ∧ Below W.heap.size W wx
theorem next_new {W w3 : World} {n P g8 c8 : Nat} {l : List Nat} (hO : Own 3 W.heap.size w3 (some ⟨g8, 0, none⟩) n c8 (asI l)) (hB : Below W.heap.size W w3) (h1 : g8 < w3.heap.size) (h2 : W.heap.size ≤ g8) :
    NextAt W n P l (.pointer (some ⟨w3.heap.size, 0, none⟩)) (w3.alloc (.cells #[.slice (some ⟨g8, 0, none⟩) n c8, .int .i64 P] 37)) :=
  ⟨w3.heap.size, g8, c8, rfl, by simp, heap_alloc_new w3 _, hO.alloc _, Nat.ne_of_gt h1, h2, hB.alloc hB.size _⟩
theorem next_set {W w3 : World} {n P g8 c8 : Nat} {l : List Nat} (hO : Own 3 W.heap.size w3 (some ⟨g8, 0, none⟩) n c8 (asI l)) (hB : Below W.heap.size W w3) (_ : g8 < w3.heap.size) (h2 : W.heap.size < g8) (h8 : w3.heap[W.heap.size]? = some (.cells #[.slice none 0 0, .int .i64 0] 37)) :
    NextAt W n P l (.pointer (some ⟨W.heap.size, 0, none⟩)) ((w3.setCell ⟨W.heap.size, 0, none⟩ (.slice (some ⟨g8, 0, none⟩) n c8)).setCell ⟨W.heap.size, 1, none⟩ (.int .i64 (P : Int))) := by
  refine ⟨W.heap.size, g8, c8, rfl, ?_, ?_, hO.keep fun a ha => ?_, Nat.ne_of_lt h2, Nat.le_of_lt h2, ?_⟩
  · have := lt_of_heap h8; simpa [World.setCell] using this
  · simpa using wset (wset h8 0 (.slice (some ⟨g8, 0, none⟩) n c8)) 1 (.int .i64 (P : Int))
  · cases ha
    rw [wset_ne _ _ (by show g8 ≠ W.heap.size; omega), wset_ne _ _ (by show g8 ≠ W.heap.size; omega)]
  · exact (hB.setCell (p := ⟨W.heap.size, 0, none⟩) (Nat.le_refl _) _).setCell (p := ⟨W.heap.size, 1, none⟩) (Nat.le_refl _) _

set_option maxRecDepth 20000 in
set_option maxHeartbeats 8000000 in
theorem value_step (P : Nat) (hP1 : 1 ≤ P) (hP : P ≤ 6) (f : Nat) (hf : f < 5005)
    (IH : Hid (∀ (g B n c : Nat) (l : List Nat) (w : World), wts P l < f → n = 2 * P + 2 → Own 3 B w (some ⟨g, 0, none⟩) n c (asI l) → l.sum ≤ 3000 →
      Calls Try.prog 15 #[.agg #[.slice (some ⟨g, 0, none⟩) n c, .int .i64 P]] w (ValPost f P l w)))
    (g B n c : Nat) (l : List Nat) (w : World) (hw : wts P l < f + 1) (hn : n = 2 * P + 2) (hO : Own 3 B w (some ⟨g, 0, none⟩) n c (asI l)) (hs : l.sum ≤ 3000) :
    Calls Try.prog 15 #[.agg #[.slice (some ⟨g, 0, none⟩) n c, .int .i64 P]] w (ValPost (f + 1) P l w) := by
  have hl : l.length = n := by have := hO.len; rwa [asI_len] at this
  have hnc : n ≤ c := by obtain ⟨_, _, _, _, h⟩ := hO.where (by omega); exact h
  have hv : Hid (valV (f + 1) P l = if overS l P = true then (((l.take (P + 1)).sum : Int) - ((l.drop (P + 1)).sum : Int), -1) else goV (valV f P) l P P) := rfl
  have hO1 := Lib.hid (hO.alloc (.cells #[.slice (some ⟨g, 0, none⟩) n c, .int .i64 P] 37))
  have HO := Lib.hid (over_any g B n c P l (w.alloc (.cells #[.slice (some ⟨g, 0, none⟩) n c, .int .i64 P] 37)) (by omega) hn hO1.out hs)
  have hB0 : Hid (Below w.heap.size w (w.alloc (.cells #[.slice (some ⟨g, 0, none⟩) n c, .int .i64 P] 37))) := (Below.refl _ _).alloc (Nat.le_refl _) _
  have a0 := heap_alloc_new w (.cells #[.slice (some ⟨g, 0, none⟩) n c, .int .i64 P] 37)
  have hsz : w.heap.size < (w.alloc (.cells #[.slice (some ⟨g, 0, none⟩) n c, .int .i64 P] 37)).heap.size := by simp
  have hgl := hO.lt
  unfold ValPost
  generalize hV : valV (f + 1) P l = V at *
  replace hV := Lib.hid hV
  clear hO
  replace hn := Lib.hid hn; replace hl := Lib.hid hl; replace a0 := Lib.hid a0
  go_enter Try.func15, Try.ntmps15
  go_wp2_with fail
  generalize w.alloc (.cells #[.slice (some ⟨g, 0, none⟩) n c, .int .i64 P] 37) = W at *
  refine HO.out.mono ?_
  rintro e W1 ⟨rfl, hB1⟩
  have hO2 := Lib.hid (hO1.out.below hB1 (Nat.le_refl _))
  have hq := Lib.hid (hB0.out.trans (hB1.mono (Nat.le_of_lt hsz)))
  have a1 := Lib.hid ((hB1.block _ hsz).trans a0.out)
  have hsz1 := Nat.lt_of_lt_of_le hsz hB1.size
  clear hB0 hB1 a0 hsz HO hO1 W
  have c0 : W1.cell? ⟨w.heap.size, 0, none⟩ = some (.slice (some ⟨g, 0, none⟩) n c) := wcell (cs := [_, _]) a1.out 0
  have c1 : W1.cell? ⟨w.heap.size, 1, none⟩ = some (.int .i64 (P : Int)) := wcell (cs := [_, _]) a1.out 1
  cases hov : overS l P with
  | true =>
    have hv2 : Hid (V = (((l.take (P + 1)).sum : Int) - ((l.drop (P + 1)).sum : Int), -1)) := by show _ = _; rw [hv.out, hov, if_pos rfl]
    have k1 := take_sum_le l (P + 1)
    have k2 := drop_sum_le l (P + 1)
    have HS1 := Lib.hid (fun k : Nat => sum_any (some ⟨g, 0, none⟩) (P + 1) c (l.take (P + 1)) (W1.drewN k) (by omega) (by omega) (by
      have := (hO2.out.part 0 (P + 1) (by omega) (by have := hn.out; omega)).below (below_drewN (Below.refl _ _) k)
      rwa [List.drop_zero, ← asI_take, Nat.sub_zero] at this))
    have HS2 := Lib.hid (fun k : Nat => sum_any (some ⟨g, P + 1, none⟩) (n - (P + 1)) (c - (P + 1)) (l.drop (P + 1)) (W1.drewN k) (by have := hn.out; omega) (by omega) (by
      have := (hO2.out.part (P + 1) n (by have := hn.out; omega) (Nat.le_refl _)).below (below_drewN (Below.refl _ _) k)
      rwa [List.take_of_length_le (by rw [asI_len]; have := hl.out; omega), ← asI_drop] at this))
    generalize (l.take (P + 1)).sum = S1 at *
    generalize (l.drop (P + 1)).sum = S2 at *
    replace hov := Lib.hid hov
    have hz0 : 0 ≤ (P : Int) + 1 := by omega
    have hz1 : (P : Int) + 1 ≤ (n : Int) := by have := hn.out; omega
    have hz2 : (P : Int) + 1 ≤ (c : Int) := by omega
    have hz3 : ¬ c = P + 1 := by have := hn.out; omega
    have hw1 : IntKind.i64.wrap ((P : Int) + 1) = (P : Int) + 1 := IntWalk.i64_in _ (by omega)
    have hw2 : IntKind.i64.wrap ((S1 : Int) - (S2 : Int)) = (S1 : Int) - (S2 : Int) := IntWalk.i64_in _ (by omega)
    go_wp2_with fail
    go_quiet ((go_at_call 12; first | ((with_reducible refine (HS1.out _).mono ?_); exact fun _ _ h => ⟨h.1, _, h.2.symm⟩) | ((with_reducible refine (HS2.out _).mono ?_); exact fun _ _ h => ⟨h.1, _, h.2.symm⟩)))
    go_wp2_with fail
    go_ret2
    exact ⟨by rw [hv2.out]; rfl, below_drewN hq.out _⟩
  | false =>
    have hv2 : Hid (V = goV (valV f P) l P P) := by show _ = _; rw [hv.out, hov, if_neg (by simp)]
    have HOW := Lib.hid (own_any g n c P W1 (by have := hn.out; omega))
    have hsm := Lib.hid (goV_small (valV f P) 3000 P l (by have := hn.out; have := hl.out; omega) hs (fun m hm hm2 => ⟨(valV_small 3000 P f m hm hm2).1, (valV_small 3000 P f m hm hm2).2.1⟩))
    replace hov := Lib.hid hov
    clear hv
    go_wp2_with fail
    refine HOW.out.mono ?_
    rintro e W2 ⟨rfl, hB2⟩
    have hO3 := Lib.hid (hO2.out.below hB2 (Nat.le_refl _))
    have hq2 := Lib.hid (hq.out.trans (hB2.mono hq.out.size))
    have a2 := Lib.hid ((hB2.block _ hsz1).trans a1.out)
    have hsz2 := Nat.lt_of_lt_of_le hsz1 hB2.size
    clear hB2 a1 hsz1 hO2 hq c0 c1 HOW
    go_wp2_with fail
    go_loopg [4, 5, 31] P (fun gk bv wv iv W' => ∃ j : Nat, j ≤ P ∧ gk = P - j ∧ iv = .int .i64 j ∧ bv = .int .i64 (goV (valV f P) l P j).1 ∧ wv = .int .i64 (goV (valV f P) l P j).2 ∧ Below W2.heap.size W2 W')
    case atStart => exact ⟨0, by omega, by omega, rfl, rfl, rfl, Below.refl _ _⟩
    case round =>
      obtain ⟨j, hj, hgk, rfl, rfl, rfl, hBr⟩ := hrel
      obtain ⟨W3, rfl⟩ : ∃ W3 : World, W3 = wr := ⟨_, rfl⟩
      replace hgk := Lib.hid hgk
      have hOr := Lib.hid (hO3.out.below hBr (Nat.le_refl _))
      have ar := Lib.hid ((hBr.block _ hsz2).trans a2.out)
      have hszr := Nat.lt_of_lt_of_le hsz2 hBr.size
      have c0 : W3.cell? ⟨w.heap.size, 0, none⟩ = some (.slice (some ⟨g, 0, none⟩) n c) := wcell (cs := [_, _]) ar.out 0
      have c1 : W3.cell? ⟨w.heap.size, 1, none⟩ = some (.int .i64 (P : Int)) := wcell (cs := [_, _]) ar.out 1
      replace hBr := Lib.hid hBr
      have hsj := (hsm.out j hj).1; obtain ⟨m1, m2, m3, m4⟩ := hsj
      by_cases hlt : j < P
      · have dj := hOr.out.cellN (i := j) (by have := hn.out; omega)
        have hgo : Hid (goV (valV f P) l P (j + 1) = if st l j = 0 then goV (valV f P) l P j
    else if (goV (valV f P) l P j).2 < 0 ∨ oneV (valV f P) l P j > (goV (valV f P) l P j).1 then (oneV (valV f P) l P j, (j : Int)) else goV (valV f P) l P j) := rfl
        generalize goV (valV f P) l P j = G at *
        by_cases h0 : st l j = 0
        · have hgo2 : Hid (goV (valV f P) l P (j + 1) = G) := by show _ = _; rw [hgo.out, if_pos h0]
          have z1 : ((st l j : Nat) : Int) = 0 := by omega
          rw [h0] at dj
          replace h0 := Lib.hid h0; replace z1 := Lib.hid z1
          go_wp2_with fail
          have hgk := hgk.out
          go_roundg (P - (j + 1))
          case measure => omega
          case rel => exact ⟨j + 1, by omega, rfl, by go_num, by rw [hgo2.out], by rw [hgo2.out], hBr.out⟩
        · have hgo2 : Hid (goV (valV f P) l P (j + 1) = if G.2 < 0 ∨ oneV (valV f P) l P j > G.1 then (oneV (valV f P) l P j, (j : Int)) else G) := by show _ = _; rw [hgo.out, if_neg h0]
          have hpos : 0 < st l j := by omega
          clear hgo h0
          generalize hs1 : st l j = s1 at *
          replace hs1 := Lib.hid hs1
          have z1 : ((s1 : Int) == 0) = false := by simp; omega
          have HC : Hid (∀ (W : World), Below W3.heap.size W3 W → W.heap[W3.heap.size]? = some (.cells #[.slice none 0 0, .int .i64 0] 37) → Calls Try.prog 21 #[.slice (some ⟨g, 0, none⟩) n c] W fun e w' => ∃ g8 c8, e = .returned (.slice (some ⟨g8, 0, none⟩) n c8) ∧ Own 3 W3.heap.size w' (some ⟨g8, 0, none⟩) n c8 (asI l) ∧ W3.heap.size < g8 ∧ g8 < w'.heap.size ∧ Below W3.heap.size W3 w' ∧ w'.heap[W3.heap.size]? = some (.cells #[.slice none 0 0, .int .i64 0] 37)) := fun W h h8 =>
            (clone_any (some ⟨g, 0, none⟩) n c (asI l) W (by have := hn.out; omega) ((hOr.out.below h (Nat.le_refl _)).in)).mono fun e w' hh => by
              obtain ⟨p', c', h1, h2, h3⟩ := hh
              obtain ⟨g8, rfl, h4, h5, _⟩ := h2.where (by have := hn.out; omega)
              exact ⟨g8, c', h1, OwnC.mono (k := 1) h2 h.size, Nat.lt_of_lt_of_le (lt_of_heap h8) h4, h5, h.trans (h3.mono h.size), (h3.block _ (lt_of_heap h8)).trans h8⟩
          have HD : Hid (∀ (W : World), Below W3.heap.size W3 W → Calls Try.prog 21 #[.slice (some ⟨g, 0, none⟩) n c] W fun e w' => ∃ g8 c8, e = .returned (.slice (some ⟨g8, 0, none⟩) n c8) ∧ Own 3 W3.heap.size w' (some ⟨g8, 0, none⟩) n c8 (asI l) ∧ W3.heap.size ≤ g8 ∧ g8 < w'.heap.size ∧ Below W3.heap.size W3 w') := fun W h =>
            (clone_any (some ⟨g, 0, none⟩) n c (asI l) W (by have := hn.out; omega) ((hOr.out.below h (Nat.le_refl _)).in)).mono fun e w' hh => by
              obtain ⟨p', c', h1, h2, h3⟩ := hh
              obtain ⟨g8, rfl, h4, h5, _⟩ := h2.where (by have := hn.out; omega)
              exact ⟨g8, c', h1, OwnC.mono (k := 1) h2 h.size, Nat.le_trans h.size h4, h5, h.trans (h3.mono h.size)⟩
          go_wp2_with fail
          go_upto_region 10 with fail
          go_cut [8] (fun v wx => NextAt W3 n P l v wx)
          case first =>
            go_region_law (first | (go_simp; refine (HC.out _ ?_ ?_).mono ?_; (first | exact Below.refl _ _ | exact below_drewN (Below.refl _ _) 1 | exact (below_drewN (Below.refl _ _) 1).alloc (Nat.le_refl _) _ | exact below_drewN ((Below.refl _ _).alloc (Nat.le_refl _) _) 1); (first | exact heap_alloc_new W3 _ | exact heap_alloc_new W3.drew _); rintro e w3 ⟨g8, c8, rfl, hO4, hg8, hg9, hB4, x8⟩; have y0 : w3.cell? ⟨W3.heap.size, 0, none⟩ = some (.slice none 0 0) := wcell (cs := [_, _]) x8 0; have y1 : w3.cell? ⟨W3.heap.size, 1, none⟩ = some (.int .i64 0) := wcell (cs := [_, _]) x8 1; have f0 : w3.frozen? ⟨W3.heap.size, 0, none⟩ = false := wfree x8 0; have f1 : w3.frozen? ⟨W3.heap.size, 1, none⟩ = false := wfree x8 1; replace x8 := Lib.hid x8; have c1' : w3.cell? ⟨w.heap.size, 1, none⟩ = some (.int .i64 (P : Int)) := wcell (cs := [_, _]) ((hB4.block _ hszr).trans ar.out) 1; have hsz3 : w.heap.size < w3.heap.size := Nat.lt_of_lt_of_le hszr hB4.size; replace hO4 := Lib.hid hO4; replace hB4 := Lib.hid hB4; replace hg8 := Lib.hid hg8) | (go_simp; refine (HD.out _ ?_).mono ?_; (first | exact Below.refl _ _ | exact below_drewN (Below.refl _ _) 1 | exact (below_drewN (Below.refl _ _) 1).alloc (Nat.le_refl _) _ | exact below_drewN ((Below.refl _ _).alloc (Nat.le_refl _) _) 1); rintro e w3 ⟨g8, c8, rfl, hO4, hg8, hg9, hB4⟩; have c1' : w3.cell? ⟨w.heap.size, 1, none⟩ = some (.int .i64 (P : Int)) := wcell (cs := [_, _]) ((hB4.block _ hszr).trans ar.out) 1; have hsz3 : w.heap.size < w3.heap.size := Nat.lt_of_lt_of_le hszr hB4.size; replace hO4 := Lib.hid hO4; replace hB4 := Lib.hid hB4; replace hg8 := Lib.hid hg8))
            all_goals (go_wp2_with fail; go_meet; first | exact next_new hO4.out hB4.out hg9 hg8.out | exact next_set hO4.out hB4.out hg9 hg8.out x8.out)
          case rest =>
            obtain ⟨b8, g8, c8, rfl, hb8, e8, hO8, hne8, hgb8, hB8⟩ := hcut
            have HS := Lib.hid (sow_any g8 W3.heap.size n c8 P j l wc (by omega) hn.out hlt hO8 hs)
            have d0 : wc.cell? ⟨b8, 0, none⟩ = some (.slice (some ⟨g8, 0, none⟩) n c8) := wcell (cs := [_, _]) e8 0
            have d1 : wc.cell? ⟨b8, 1, none⟩ = some (.int .i64 (P : Int)) := wcell (cs := [_, _]) e8 1
            have hone : Hid (oneV (valV f P) l P j = if (sowS l P j).2 = true then (valV f P (sowS l P j).1).1 else -(valV f P ((sowS l P j).1.drop (P + 1) ++ (sowS l P j).1.take (P + 1))).1) := rfl
            have hob := Lib.hid ((hsm.out 0 (Nat.zero_le _)).2 j hlt)
            have hwd : wts P (sowS l P j).1 < f := by
              have := sow_w P l j (by omega) (by have := hn.out; have := hl.out; omega) hlt (by have := hs1.out; omega) (by omega)
              omega
            have hwr := rot_w P (sowS l P j).1 (by rw [(sowS_ok l P j (by have := hn.out; have := hl.out; omega) hlt).1]; have := hn.out; have := hl.out; omega)
            have hsl := (sowS_ok l P j (by have := hn.out; have := hl.out; omega) hlt).1
            have hss := (sowS_ok l P j (by have := hn.out; have := hl.out; omega) hlt).2
            have hsr := rot_sum P (sowS l P j).1
            generalize oneV (valV f P) l P j = O at *
            generalize (sowS l P j).1 = R1 at *
            generalize (sowS l P j).2 = R2 at *
            go_wp2_with fail
            refine HS.out.mono ?_
            rintro e w5 ⟨rfl, hO5, hg5⟩
            have e5 := (hg5.block b8 hb8 (fun h => hne8 (by simpa using h))).trans e8
            have hB5 := hB8.grown hg5 hB8.size (fun x hx => by cases hx; exact hgb8)
            have hsz5 := hg5.size
            have a5 := (hB5.block _ hszr).trans ar.out
            clear d0 d1 c0 c1 hg5 hO8 e8 HS
            have c0 : w5.cell? ⟨w.heap.size, 0, none⟩ = some (.slice (some ⟨g, 0, none⟩) n c) := wcell (cs := [_, _]) a5 0
            have c1 : w5.cell? ⟨w.heap.size, 1, none⟩ = some (.int .i64 (P : Int)) := wcell (cs := [_, _]) a5 1
            have d0 : w5.cell? ⟨b8, 0, none⟩ = some (.slice (some ⟨g8, 0, none⟩) n c8) := wcell (cs := [_, _]) e5 0
            have d1 : w5.cell? ⟨b8, 1, none⟩ = some (.int .i64 (P : Int)) := wcell (cs := [_, _]) e5 1
            replace hO5 := Lib.hid hO5; replace hB5 := Lib.hid hB5; replace e5 := Lib.hid e5; replace a5 := Lib.hid a5; replace hB8 := Lib.hid hB8
            replace hwr := Lib.hid hwr; replace hsl := Lib.hid hsl; replace hss := Lib.hid hss; replace hsr := Lib.hid hsr
            go_upto_if 46 with fail
            go_cut [9] (fun nv wx => nv = .int .i64 O ∧ Below W3.heap.size W3 wx)
            case first =>
              cases R2 with
              | true =>
                have hone2 : Hid (O = (valV f P R1).1) := by show _ = _; rw [hone.out, if_pos rfl]
                have HV := Lib.hid (IH.out g8 W3.heap.size n c8 R1 w5 hwd hn.out hO5.out (by have := hss.out; omega))
                go_wp2_with fail
                refine HV.out.mono ?_
                rintro e w6 ⟨rfl, hB6⟩
                replace hB6 := Lib.hid hB6
                go_wp2_with fail
                go_meet
                exact ⟨by rw [hone2.out], hB5.out.trans (hB6.out.mono hB5.out.size)⟩
              | false =>
                obtain ⟨rt, hrt⟩ : ∃ rt, R1.drop (P + 1) ++ R1.take (P + 1) = rt := ⟨_, rfl⟩
                have hone2 : Hid (O = -(valV f P rt).1) := by show _ = _; rw [hone.out, if_neg (by simp), hrt]
                have hvs := (valV_small 3000 P f rt (by rw [← hrt, rot_len]; have := hsl.out; have := hn.out; have := hl.out; omega) (by rw [← hrt, rot_sum]; have := hss.out; omega))
                obtain ⟨v1, v2, _, _⟩ := hvs
                have hwt : wts P rt < f := by rw [← hrt]; have := hwr.out; omega
                have hsu : rt.sum ≤ 3000 := by rw [← hrt, rot_sum]; have := hss.out; omega
                have hnc8 := OwnC.cap (k := 1) hO5.out
                have hz0 : 0 ≤ (P : Int) + 1 := by omega
                have hz1 : (P : Int) + 1 ≤ (n : Int) := by have := hn.out; omega
                have hz2 : (P : Int) + 1 ≤ (c8 : Int) := by omega
                have hz3 : ¬ c8 = P + 1 := by have := hn.out; omega
                have hnn : Hid (n - (P + 1) + (P + 1) = n) := by show _ = _; have := hn.out; omega
                have hBA : Below w5.heap.size w5 (w5.alloc (.cells #[.slice (some ⟨g8, P + 1, none⟩) (n - (P + 1)) (c8 - (P + 1)), .slice (some ⟨g8, 0, none⟩) (P + 1) c8] 22)).drew := below_drewN ((Below.refl _ w5).alloc (Nat.le_refl _) _) 1
                have k0 : (w5.alloc (.cells #[.slice (some ⟨g8, P + 1, none⟩) (n - (P + 1)) (c8 - (P + 1)), .slice (some ⟨g8, 0, none⟩) (P + 1) c8] 22)).drew.cell? ⟨w5.heap.size, 0, none⟩ = some (.slice (some ⟨g8, P + 1, none⟩) (n - (P + 1)) (c8 - (P + 1))) := wcell (cs := [_, _]) (heap_alloc_new w5 (.cells #[.slice (some ⟨g8, P + 1, none⟩) (n - (P + 1)) (c8 - (P + 1)), .slice (some ⟨g8, 0, none⟩) (P + 1) c8] 22)) 0
                have k1 : (w5.alloc (.cells #[.slice (some ⟨g8, P + 1, none⟩) (n - (P + 1)) (c8 - (P + 1)), .slice (some ⟨g8, 0, none⟩) (P + 1) c8] 22)).drew.cell? ⟨w5.heap.size, 1, none⟩ = some (.slice (some ⟨g8, 0, none⟩) (P + 1) c8) := wcell (cs := [_, _]) (heap_alloc_new w5 (.cells #[.slice (some ⟨g8, P + 1, none⟩) (n - (P + 1)) (c8 - (P + 1)), .slice (some ⟨g8, 0, none⟩) (P + 1) c8] 22)) 1
                have x0 : IntsIn w5 (some ⟨g8, P + 1, none⟩) (n - (P + 1)) (asI (R1.drop (P + 1))) := by
                  have := hO5.out.part (P + 1) n (by have := hn.out; omega) (Nat.le_refl _)
                  rwa [List.take_of_length_le (by rw [asI_len]; have := hsl.out; have := hl.out; omega), ← asI_drop] at this
                have x1 : IntsIn w5 (some ⟨g8, 0, none⟩) (P + 1) (asI (R1.take (P + 1))) := by
                  have := hO5.out.part 0 (P + 1) (by omega) (by have := hn.out; omega)
                  rwa [List.drop_zero, ← asI_take, Nat.sub_zero] at this
                have HK := concat_any w5.heap.size (n - (P + 1)) (c8 - (P + 1)) (P + 1) c8 _ _ _ _ _ (by have := hn.out; omega) (by have := hn.out; omega) (by omega) (by omega) (by simp) k0 k1 (x0.below hBA) (x1.below hBA)
                rw [hnn.out, ← asI_app, hrt] at HK
                replace HK := Lib.hid HK
                have HV := Lib.hid (fun g9 c9 w6 hO => IH.out g9 w5.heap.size n c9 rt w6 hwt hn.out hO hsu)
                replace hBA := Lib.hid hBA
                generalize hZ : (valV f P rt).1 = Z at *
                replace hZ := Lib.hid hZ
                clear k0 k1 x0 x1 hrt
                have hszz : w.heap.size < w5.heap.size := Nat.lt_of_lt_of_le hszr hB5.out.size
                have hb85 : b8 < w5.heap.size := lt_of_heap e5.out
                go_upto_region 14 with fail
                go_cut [9] (fun nv wx => nv = .int .i64 Z ∧ Below w5.heap.size w5 wx)
                case first =>
                  go_wp2_with fail
                  go_region_law (first
                    | (go_simp; refine HK.out.mono ?_; rintro e w6 ⟨p9, c9, rfl, hO6, hB6⟩; obtain ⟨g9, rfl, _, _, _⟩ := OwnC.where (k := 1) hO6 (by have := hn.out; omega); have c1' : w6.cell? ⟨w.heap.size, 1, none⟩ = some (.int .i64 (P : Int)) := wcell (cs := [_, _]) ((hB6.block _ (Nat.lt_of_lt_of_le (Nat.lt_of_lt_of_le hszr hB5.out.size) hBA.out.size)).trans ((hBA.out.block _ (Nat.lt_of_lt_of_le hszr hB5.out.size)).trans a5.out)) 1; have hO6' := Lib.hid (OwnC.mono (k := 1) hO6 hBA.out.size); clear hO6; replace hB6 := Lib.hid hB6)
                    | (go_simp; refine (HV.out _ _ _ hO6'.out).mono ?_; rintro e w7 ⟨rfl, hB7⟩; replace hB7 := Lib.hid hB7))
                  all_goals
                    go_wp2_with fail
                    go_meet
                    exact ⟨by rw [hZ.out], hBA.out.trans ((hB6.out.mono hBA.out.size).trans (hB7.out.mono (Nat.le_trans hBA.out.size hB6.out.size)))⟩
                case rest =>
                  obtain ⟨rfl, hBx⟩ := hcut
                  go_wp2_with fail
                  go_meet
                  exact ⟨by rw [hone2.out], hB5.out.trans (hBx.mono hB5.out.size)⟩
            case rest =>
              obtain ⟨rfl, hBx⟩ := hcut
              obtain ⟨o1, o2⟩ := hob.out
              replace hBx := Lib.hid hBx
              clear hone hwd hwr hsl hss hsr hO5 hB5 e5 a5 hB8 hsm hov c0 c1 d0 d1 dj z1 hs1 hpos hob
              by_cases q1 : G.2 < 0
              · have hq : Hid (goV (valV f P) l P (j + 1) = (O, (j : Int))) := by show _ = _; rw [hgo2.out, if_pos (.inl q1)]
                go_wp2_with fail
                have hgk := hgk.out
                go_roundg (P - (j + 1))
                case measure => omega
                case rel => exact ⟨j + 1, by omega, rfl, by go_num, by rw [hq.out], by rw [hq.out], hBr.out.trans (hBx.out.mono hBr.out.size)⟩
              · by_cases q2 : O > G.1
                · have hq : Hid (goV (valV f P) l P (j + 1) = (O, (j : Int))) := by show _ = _; rw [hgo2.out, if_pos (.inr q2)]
                  go_wp2_with fail
                  have hgk := hgk.out
                  go_roundg (P - (j + 1))
                  case measure => omega
                  case rel => exact ⟨j + 1, by omega, rfl, by go_num, by rw [hq.out], by rw [hq.out], hBr.out.trans (hBx.out.mono hBr.out.size)⟩
                · have hq : Hid (goV (valV f P) l P (j + 1) = G) := by show _ = _; rw [hgo2.out, if_neg (by omega)]
                  have q3 : O ≤ G.1 := by omega
                  clear q2
                  go_wp2_with fail
                  have hgk := hgk.out
                  go_roundg (P - (j + 1))
                  case measure => omega
                  case rel => exact ⟨j + 1, by omega, rfl, by go_num, by rw [hq.out], by rw [hq.out], hBr.out.trans (hBx.out.mono hBr.out.size)⟩
      · have hje : j = P := by omega
        subst hje
        go_wp2_with fail
        go_ret2
        exact ⟨by rw [hv2.out]; rfl, hq2.out.trans (hBr.out.mono hq2.out.size)⟩

/-- value, for every fuel above the weight. -/
theorem value_any (P : Nat) (hP1 : 1 ≤ P) (hP : P ≤ 6) : ∀ (f : Nat), f ≤ 5005 → ∀ (g B n c : Nat) (l : List Nat) (w : World), wts P l < f → n = 2 * P + 2 → Own 3 B w (some ⟨g, 0, none⟩) n c (asI l) → l.sum ≤ 3000 →
      Calls Try.prog 15 #[.agg #[.slice (some ⟨g, 0, none⟩) n c, .int .i64 P]] w (ValPost f P l w)
  | 0, _, _, _, _, _, _, _, h, _, _, _ => absurd h (Nat.not_lt_zero _)
  | f + 1, hf, g, B, n, c, l, w, hw, hn, hO, hs => value_step P hP1 hP f (by omega) (Lib.hid (value_any P hP1 hP f (by omega))) g B n c l w hw hn hO hs
end Go.Proofs.Ytehcelajmhclmaa
