/- What bridge's power of a card and winner of a trick compute; conditions: four cards below 52, a strain below 5. -/
import Derived.Test.YtkakggagaplaiaaBrP
import Derived.Test.YtkakggagaplaiaaCrS
namespace Go.Proofs.Ytkakggagaplaiaa
open Go.RowKit

set_option maxHeartbeats 2000000 in
theorem pw_any (bs bl b o c x s y : Nat) (w : World) (hx : x < 52) (hs5 : s < 5) (hs : w.cell? ⟨bs, 0, none⟩ = some (.int .i64 (s : Nat))) (hl : w.cell? ⟨bl, 0, none⟩ = some (.slice (some ⟨b, o, none⟩) 4 c))
    (hy : w.cell? ⟨b, o, none⟩ = some (.int .i64 (y : Nat))) :
    Calls Try.prog 102 #[.int .i64 x, .pointer (some ⟨bs, 0, none⟩), .pointer (some ⟨bl, 0, none⟩)] w fun e w' => e = .returned (.int .i64 (bpw s y x : Nat)) ∧ w = w' := by
  obtain ⟨R, hR⟩ : ∃ R, R = bpw s y x := ⟨_, rfl⟩
  rw [← hR]
  unfold bpw at hR
  have hmod2 : ∀ x : Nat, (x : Int).tmod 4 = ((x % 4 : Nat) : Int) := fun x => by rw [Int.tmod_eq_emod_of_nonneg (by omega)]; push_cast; rfl
  have q0 := hmod2 x
  have q4 := hmod2 y
  have q0' : (x : Int) % 4 = ((x % 4 : Nat) : Int) := by push_cast; rfl
  have q4' : (y : Int) % 4 = ((y % 4 : Nat) : Int) := by push_cast; rfl
  have b1 : x % 4 < 4 := Nat.mod_lt _ (by omega)
  have b2 : y % 4 < 4 := Nat.mod_lt _ (by omega)
  clear hmod2
  generalize x % 4 = S at *
  generalize y % 4 = T at *
  by_cases h1 : S = s
  · have hRe : Hid (R = 200 + x) := by show _ = _; rw [hR, if_pos h1]
    subst h1
    clear hR
    go_enter Try.func102, Try.ntmps102
    go_wp2_with fail
    go_ret
    exact ⟨by rw [hRe.out]; go_num, rfl⟩
  · have e1 : ((S : Int) == (s : Int)) = false := by simp; omega
    by_cases h2 : S = T
    · have hRe : Hid (R = 100 + x) := by show _ = _; rw [hR, if_neg h1, if_pos h2]
      subst h2
      clear hR
      go_enter Try.func102, Try.ntmps102
      go_wp2_with fail
      go_ret
      exact ⟨by rw [hRe.out]; go_num, rfl⟩
    · have e2 : ((S : Int) == (T : Int)) = false := by simp; omega
      have hRe : Hid (R = 0) := by show _ = _; rw [hR, if_neg h1, if_neg h2]
      clear hR
      go_enter Try.func102, Try.ntmps102
      go_wp2_with fail
      go_ret
      exact ⟨by rw [hRe.out]; go_num, rfl⟩
theorem bpw_le (s y x : Nat) (hx : x < 52) : bpw s y x ≤ 251 := by unfold bpw; (repeat' split) <;> omega
set_option maxHeartbeats 2000000 in
theorem winner_any (p : Option Addr) (c s : Nat) (l : List Nat) (w : World) (hx : IntsIn w p 4 (asI l)) (hl : ∀ i, i < 4 → st l i < 52) (hs5 : s < 5) :
    Calls Try.prog 82 #[.slice p 4 c, .int .i64 s] w fun e w' => e = .returned (.int .i64 (wnS s l 4 : Nat)) ∧ Below w.heap.size w w' := by
  obtain ⟨bb, oo, rfl, hbb, hcc⟩ := hx.at (by omega)
  have hB := (Below.refl w.heap.size w).alloc (Nat.le_refl _) (.cells #[.slice (some ⟨bb, oo, none⟩) 4 c] 22)
  have hs1 : (w.alloc (.cells #[.slice (some ⟨bb, oo, none⟩) 4 c] 22)).heap.size = w.heap.size + 1 := by simp
  have hB1 := (Below.refl (w.heap.size + 1) (w.alloc (.cells #[.slice (some ⟨bb, oo, none⟩) 4 c] 22))).alloc (by omega) (.cells #[.int .i64 (s : Int)] 3)
  have hb := (hB1.cell (p := ⟨w.heap.size, 0, none⟩) (show w.heap.size < w.heap.size + 1 from Nat.lt_succ_self _)).trans (wcell (cs := [_]) (heap_alloc_new w _) 0)
  have hbs : ((w.alloc (.cells #[.slice (some ⟨bb, oo, none⟩) 4 c] 22)).alloc (.cells #[.int .i64 (s : Int)] 3)).cell? ⟨w.heap.size + 1, 0, none⟩ = some (.int .i64 (s : Nat)) := by
    have := wcell (cs := [_]) (heap_alloc_new (w.alloc (.cells #[.slice (some ⟨bb, oo, none⟩) 4 c] 22)) (.cells #[.int .i64 (s : Int)] 3)) 0
    rw [hs1] at this
    exact this
  have hBB := hB.trans (hB1.mono (by omega))
  have hcell : Hid (∀ j, j < 4 → ((w.alloc (.cells #[.slice (some ⟨bb, oo, none⟩) 4 c] 22)).alloc (.cells #[.int .i64 (s : Int)] 3)).cell? ⟨bb, oo + j, none⟩ = some (.int .i64 (st l j : Nat))) := fun j hj => by
    rw [hBB.cell (p := ⟨bb, oo + j, none⟩) hbb, hcc j hj, asI_at]
  replace hBB := Lib.hid hBB
  replace hl := Lib.hid hl
  clear hcc hx hB hB1
  obtain ⟨R, hR⟩ : ∃ R, R = wnS s l 4 := ⟨_, rfl⟩
  rw [← hR]
  replace hR := Lib.hid hR
  go_enter Try.func82, Try.ntmps82
  go_upto_region 3 with fail
  generalize (w.alloc (.cells #[.slice (some ⟨bb, oo, none⟩) 4 c] 22)).alloc (.cells #[.int .i64 (s : Int)] 3) = W0 at *
  have HP : Hid (∀ (k j : Nat), j < 4 → Calls Try.prog 102 #[.int .i64 (st l j : Nat), .pointer (some ⟨w.heap.size + 1, 0, none⟩), .pointer (some ⟨w.heap.size, 0, none⟩)] (W0.drewN k) fun e w' => e = .returned (.int .i64 (bpw s (st l 0) (st l j) : Nat)) ∧ W0.drewN k = w') :=
    fun k j hj => pw_any (w.heap.size + 1) w.heap.size bb oo c (st l j) s (st l 0) (W0.drewN k) (hl.out j hj) hs5 hbs hb (hcell.out 0 (by omega))
  replace hs1 := Lib.hid hs1
  clear hbs
  go_wp2_with fail
  go_loopg [5, 12] 4 (fun gk bv iv W' => ∃ j B : Nat, j ≤ 4 ∧ gk = 4 - j ∧ iv = .int .i64 j ∧ bv = .int .i64 B ∧ Hid (B = wnS s l j) ∧ Hid (∃ k, W' = W0.drewN k))
  case atStart => exact ⟨0, 0, by omega, by omega, rfl, rfl, Lib.hid rfl, ⟨0, rfl⟩⟩
  case round =>
    obtain ⟨j, B, hj, hgk, rfl, rfl, hB, hk⟩ := hrel
    obtain ⟨W1, rfl⟩ : ∃ W1 : World, W1 = wr := ⟨_, rfl⟩
    obtain ⟨k, hk⟩ := hk.out
    replace hk := Lib.hid hk
    replace hgk := Lib.hid hgk
    have hB4 : B ≤ j := by have := wnS_lt s l j; rw [hB.out]; exact this
    by_cases hlt : j < 4
    · have c0 : W1.cell? ⟨bb, oo + j, none⟩ = some (.int .i64 (st l j : Nat)) := by rw [hk.out]; exact hcell.out j hlt
      have c1 : W1.cell? ⟨bb, oo + B, none⟩ = some (.int .i64 (st l B : Nat)) := by rw [hk.out]; exact hcell.out B (by omega)
      have d0 : W1.cell? ⟨w.heap.size, 0, none⟩ = some (.slice (some ⟨bb, oo, none⟩) 4 c) := by rw [hk.out]; exact hb
      have HX : Hid (∀ r, Calls Try.prog 102 #[.int .i64 (st l j : Nat), .pointer (some ⟨w.heap.size + 1, 0, none⟩), .pointer (some ⟨w.heap.size, 0, none⟩)] (W1.drewN r) fun e w' => e = .returned (.int .i64 (bpw s (st l 0) (st l j) : Nat)) ∧ W1.drewN r = w') := fun r => by rw [hk.out, World.drewN_drewN]; exact HP.out _ j hlt
      have HY : Hid (∀ r, Calls Try.prog 102 #[.int .i64 (st l B : Nat), .pointer (some ⟨w.heap.size + 1, 0, none⟩), .pointer (some ⟨w.heap.size, 0, none⟩)] (W1.drewN r) fun e w' => e = .returned (.int .i64 (bpw s (st l 0) (st l B) : Nat)) ∧ W1.drewN r = w') := fun r => by rw [hk.out, World.drewN_drewN]; exact HP.out _ B (by omega)
      have hS : Hid (wnS s l (j + 1) = if bpw s (st l 0) (st l B) < bpw s (st l 0) (st l j) then j else B) := by show _ = _; rw [wnS, ← hB.out]
      have p1 := bpw_le s (st l 0) (st l j) (hl.out j hlt)
      have p2 := bpw_le s (st l 0) (st l B) (hl.out B (by omega))
      generalize bpw s (st l 0) (st l j) = P1 at *
      generalize bpw s (st l 0) (st l B) = P2 at *
      generalize st l j = x at *
      generalize st l B = y at *
      have i1 : (B : Int) < 4 := by omega
      have i2 : (0 : Int) ≤ (B : Int) := by omega
      by_cases hlt2 : P2 < P1
      · have hS2 : Hid (j = wnS s l (j + 1)) := by show _ = _; rw [hS.out, if_pos hlt2]
        clear hS
        go_wp2_with fail
        go_quiet ((go_at_call 102; first | ((with_reducible refine (HX.out _).mono ?_); exact fun _ _ h => ⟨h.1, _, h.2.symm⟩) | ((with_reducible refine (HY.out _).mono ?_); exact fun _ _ h => ⟨h.1, _, h.2.symm⟩)))
        go_wp2_with fail
        have hgk := hgk.out
        go_roundg (4 - (j + 1))
        case measure => omega
        case rel => exact ⟨j + 1, j, by omega, rfl, by go_num, rfl, hS2, ⟨_, by rw [hk.out, World.drewN_drewN]⟩⟩
      · have hS2 : Hid (B = wnS s l (j + 1)) := by show _ = _; rw [hS.out, if_neg hlt2]
        clear hS
        go_wp2_with fail
        go_quiet ((go_at_call 102; first | ((with_reducible refine (HX.out _).mono ?_); exact fun _ _ h => ⟨h.1, _, h.2.symm⟩) | ((with_reducible refine (HY.out _).mono ?_); exact fun _ _ h => ⟨h.1, _, h.2.symm⟩)))
        go_wp2_with fail
        have hgk := hgk.out
        go_roundg (4 - (j + 1))
        case measure => omega
        case rel => exact ⟨j + 1, B, by omega, rfl, by go_num, rfl, hS2, ⟨_, by rw [hk.out, World.drewN_drewN]⟩⟩
    · obtain rfl : j = 4 := by omega
      have hE : Hid (B = R) := by show _ = _; rw [hB.out, hR.out]
      go_wp2_with fail
      go_ret
      exact ⟨by rw [← hE.out]; try rfl, by rw [hk.out]; exact below_drewN hBB.out _⟩
end Go.Proofs.Ytkakggagaplaiaa
