/- What gameroomkeep.DominoGrows returns: true; conditions: a slice of ints of 64 bits. -/
import Derived.Test.YtgnchgkiijncbaaRws
namespace Go.Proofs.Ytgnchgkiijncbaa
open Go.RowKit

set_option maxHeartbeats 8000000 in
set_option maxRecDepth 100000 in
theorem grows_any (a0 : Option Addr) (len cap : Nat) (xs : List Int) (w : World) (hm : len ≤ 9223372036854775807) (hb : ∀ j, j < len → -9223372036854775808 ≤ xs[j]?.getD 0 ∧ xs[j]?.getD 0 ≤ 9223372036854775807) (hx : IntsIn w a0 len xs) :
    Calls Try.prog 4 #[.slice a0 len cap] w fun e w' => e = .returned (.bool true) ∧ Below w.heap.size w w' := by
  replace hx := Lib.hid hx; replace hb := Lib.hid hb
  go_enter Try.func4, Try.ntmps4
  go_wp2_with fail
  go_loopg [3, 4] 7 (fun gk rv iv W' => ∃ (k i : Nat) (q : Option Addr) (ps : List Piece) (c : Nat), Hid (i = 2 * k) ∧ i ≤ 14 ∧ gk = 7 - k ∧ iv = .int .i64 i ∧ rv = .slice q ps.length c ∧ PIn W'.heap.size W' q ps.length ps ∧ Chain ps ∧ Sm ps ∧ ps.length ≤ k ∧ Below w.heap.size w W')
  case atStart => exact ⟨0, 0, none, [], 0, rfl, by omega, rfl, rfl, rfl, ⟨rfl, fun i hi => absurd hi (by simp)⟩, fun i hi => absurd hi (by simp), fun q hq => by simp at hq, by simp, Below.refl _ _⟩
  case round =>
    obtain ⟨k, i, q, ps, c, hik, hi, hgk, rfl, rfl, hP, hC, hS, hlk, hBw⟩ := hrel
    obtain ⟨W1, rfl⟩ : ∃ W1 : World, W1 = wr := ⟨_, rfl⟩
    have hk7 : ps.length ≤ 7 := by have := hik.out; omega
    replace hgk := Lib.hid hgk; replace hlk := Lib.hid hlk
    obtain ⟨n, hn⟩ : ∃ n, n = ps.length := ⟨_, rfl⟩
    rw [← hn] at hP hk7 ⊢
    replace hn := Lib.hid hn
    by_cases hgo : i + 1 < len ∧ i < 14
    · obtain ⟨hgo1, hgo2⟩ := hgo
      obtain ⟨b, o, rfl, _, hc⟩ := (hx.out.below hBw).at (by omega)
      have c1 := hc i (by omega)
      have c2 := hc (i + 1) (by omega)
      obtain ⟨u1, u2⟩ := hb.out i (by omega)
      obtain ⟨v1, v2⟩ := hb.out (i + 1) (by omega)
      generalize xs[i]?.getD 0 = x at *
      generalize xs[i + 1]?.getD 0 = y at *
      have P1 := Lib.hid (fun W => picked_any x 4 W u1 u2 (by omega) (by omega) 4 rfl)
      have P2 := Lib.hid (fun W => picked_any y 4 W v1 v2 (by omega) (by omega) 4 rfl)
      have l1 := pick_lt x 4 (by omega)
      have l2 := pick_lt y 4 (by omega)
      generalize pick x 4 = xa at *
      generalize pick y 4 = xb at *
      have f1 : (0 : Int) ≤ (i : Int) := by omega
      have f2 : (i : Int) < (len : Int) := by omega
      have f3 : (0 : Int) ≤ (i : Int) + 1 := by omega
      have f4 : (i : Int) + 1 < (len : Int) := by omega
      have f5 : ((i : Int) + 1).toNat = i + 1 := by omega
      have f6 : IntKind.i64.wrap ((i : Int) + 1) = (i : Int) + 1 := IntWalk.i64_in _ (by omega)
      have hBn : Hid (Below w.heap.size w W1) := hBw
      have HP : Hid (∀ W' rt, Below W1.heap.size W1 W' → Calls Try.prog 8 #[.slice q n c, .agg #[.int .i64 (xa : Int), .int .i64 (xb : Int)], .bool rt] W' (Played n W')) := fun W' rt h =>
        play_any q n c ps xa xb rt W' (by omega) ((hP.below h).mono h.size) hS hC (by omega) (by omega)
      replace hP := Lib.hid hP; replace hC := Lib.hid hC; replace hS := Lib.hid hS
      clear hc hBw u1 u2 v1 v2
      go_wp2_with fail
      go_region_held3 (fun w' => w'.cell? ⟨b, o + i, none⟩ = some (.int .i64 x) ∧ w'.cell? ⟨b, o + (i + 1), none⟩ = some (.int .i64 y)) (go_keep)
        (first | (go_at_call 5; (with_reducible refine (P1.out _).mono ?_); rintro e w' ⟨rfl, rfl⟩) | (go_at_call 5; (with_reducible refine (P2.out _).mono ?_); rintro e w' ⟨rfl, rfl⟩))
      all_goals
        have hBa : Hid (Below w.heap.size w (W1.alloc (.cells #[.int .i64 (xa : Int), .int .i64 (xb : Int)] 30)).drew) := (hBn.out.alloc hBn.out.size _).drew
        have HP2 := Lib.hid (fun rt => HP.out (W1.alloc (.cells #[.int .i64 (xa : Int), .int .i64 (xb : Int)] 30)).drew rt (((Below.refl _ _).alloc (Nat.le_refl _) _).drew))
        obtain ⟨rt, hrt⟩ : ∃ rt : Bool, ((i : Int) % 4 == 0) = rt := ⟨_, rfl⟩
        clear c1 c2 f2 f3 f4 f5 f6 HP
        go_wp2_with fail
        refine (HP2.out _).mono ?_
        rintro e w8 ⟨q8, c8, ps8, e8, rfl, hB8, h8⟩
        have hPk := Lib.hid ((hP.out.below ((((Below.refl W1.heap.size W1).alloc (Nat.le_refl _) _).drew).trans (hB8.mono (by simp)))).mono (Nat.le_trans (show W1.heap.size ≤ (W1.alloc (.cells #[.int .i64 (xa : Int), .int .i64 (xb : Int)] 30)).drew.heap.size by simp) hB8.size))
        have hB9 : Hid (Below w.heap.size w w8) := hBa.out.trans (hB8.mono hBa.out.size)
        replace hrt := Lib.hid hrt
        clear HP2 hB8
        rcases h8 with ⟨rfl, hP8, hl8, hC8, hS8⟩ | ⟨rfl, hn0, rfl⟩
        · have hl9 := hlk.out
          have hk6 : k < 7 := by have := hik.out; omega
          replace hl9 : Hid (ps8.length ≤ k + 1) := by show _ ≤ _; have := hn.out; omega
          have hik9 : Hid (i + 2 = 2 * (k + 1)) := by show _ = _; have := hik.out; omega
          have hi9 : i + 2 ≤ 14 := by have := hik.out; omega
          have hl10 := Lib.hid hl8
          obtain ⟨n8, hn8⟩ : ∃ n8, n8 = ps8.length := ⟨_, rfl⟩
          rw [← hn8] at hP8 hl8 ⊢
          subst hl8
          replace hP8 := Lib.hid hP8; replace hC8 := Lib.hid hC8; replace hS8 := Lib.hid hS8; replace hn8 := Lib.hid hn8
          go_wp2_with fail
          have hgk := hgk.out
          go_roundg (7 - (k + 1))
          case measure => omega
          case rel => exact ⟨k + 1, i + 2, q8, ps8, c8, hik9.out, hi9, rfl, by go_num, by rw [← hn8.out], by rw [← hn8.out]; exact hP8.out, hC8.out, hS8.out, hl9.out, hB9.out⟩
        · have hz : ((n : Int) == 0) = false := by simp; omega
          have hk6 : k < 7 := by have := hik.out; omega
          have hik9 : Hid (i + 2 = 2 * (k + 1)) := by show _ = _; have := hik.out; omega
          have hi9 : i + 2 ≤ 14 := by have := hik.out; omega
          have hl9 : Hid (ps.length ≤ k + 1) := by show _ ≤ _; have := hlk.out; omega
          go_wp2_with fail
          have hgk := hgk.out
          go_roundg (7 - (k + 1))
          case measure => omega
          case rel => exact ⟨k + 1, i + 2, q, ps, c, hik9.out, hi9, rfl, by go_num, by rw [← hn.out], by rw [← hn.out]; exact hPk.out, hC.out, hS.out, hl9.out, hB9.out⟩
    · have hrow := chain_row (ps := ps) hC (fun i hi => hS _ (pc_mem hi))
      rw [← hn.out] at hrow
      have hP1 := Lib.hid hP
      have hRow := Lib.hid (fun W' (h : Below W1.heap.size W1 W') => row_any q n c W'.heap.size ps W' (by omega) (Nat.le_refl _) ((hP1.out.below h).mono h.size) hS)
      replace hC := Lib.hid hC; replace hS := Lib.hid hS; replace hP := Lib.hid hP; replace hrow := Lib.hid hrow
      have hBn : Hid (Below w.heap.size w W1) := hBw
      clear hBw
      by_cases hg1 : i + 1 < len
      rotate_left
      replace hgo : True := trivial
      rotate_left
      have hg2 : ¬ i < 14 := fun h => hgo ⟨hg1, h⟩
      all_goals
        clear hgo
        go_wp2_with fail
        go_loopg [8] n (fun gk iv W' => ∃ j : Nat, j ≤ n ∧ gk = n - j ∧ iv = .int .i64 ((j : Int) + 1) ∧ Below W1.heap.size W1 W')
        case atStart => exact ⟨0, by omega, by omega, by go_num, Below.refl _ _⟩
        case round =>
          obtain ⟨j, hj, hgk, rfl, hBw⟩ := hrel
          obtain ⟨W2, rfl⟩ : ∃ W2 : World, W2 = wr := ⟨_, rfl⟩
          replace hgk := Lib.hid hgk
          by_cases hlt : j + 1 < n
          · obtain ⟨g, rfl, _, hg, hcl⟩ := (hP.out.below hBw).at (by omega)
            obtain ⟨_, c2⟩ := hcl j (by omega)
            obtain ⟨c1, _⟩ := hcl (j + 1) (by omega)
            rw [hC.out j (by rw [← hn.out]; omega)] at c2
            generalize (pc ps (j + 1)).1 = v at *
            replace hcl := Lib.hid hcl; replace hBw := Lib.hid hBw
            have f1 : IntKind.i64.wrap ((j : Int) + 1 - 1) = (j : Int) := by rw [IntWalk.i64_in _ (by omega)]; omega
            have f2 : (j : Int) + 1 - 1 = (j : Int) := by omega
            have f3 : ((j : Int) + 1).toNat = j + 1 := by omega
            have f4 : (0 : Int) ≤ (j : Int) + 1 := by omega
            have f5 : (j : Int) + 1 < (n : Int) := by omega
            have f6 : (j : Int) < (n : Int) := by omega
            have f7 : ((v : Int) != (v : Int)) = false := by simp
            go_wp2_with fail
            go_quiet (fail)
            have hBd : Hid (Below W1.heap.size W1 (W2.drewN nq)) := below_drewN hBw.out nq
            go_wp2_with fail
            have hgk := hgk.out
            go_roundg (n - (j + 1))
            case measure => omega
            case rel => exact ⟨j + 1, by omega, rfl, by go_num, hBd.out⟩
          · have f1 : decide ((j : Int) + 1 < (n : Int)) = false := by simp; omega
            have hBW2 : Hid (Below w.heap.size w W2) := hBn.out.trans (hBw.mono hBn.out.size)
            have HR := Lib.hid (hRow.out W2 hBw)
            replace hBw := Lib.hid hBw
            clear hRow
            rw [hrow.out] at HR
            dsimp only at HR
            go_wp2_with fail
            refine HR.out.mono ?_
            rintro e W3 ⟨q3, c3, rfl, hB3⟩
            have hBW3 : Hid (Below w.heap.size w W3) := hBW2.out.trans (hB3.mono hBW2.out.size)
            have HO := Lib.hid (rows_one W3.heap.size (W3.alloc (.cells #[.int .i64 0, .int .i64 1] 30)) (heap_alloc_new W3 _))
            have hBW4 : Hid (Below w.heap.size w (W3.alloc (.cells #[.int .i64 0, .int .i64 1] 30))) := hBW3.out.alloc hBW3.out.size _
            clear HR hB3
            go_wp2_with fail
            refine HO.out.mono ?_
            rintro e W5 ⟨rfl, hB5⟩
            have hBW5 : Hid (Below w.heap.size w W5) := hBW4.out.trans (hB5.mono hBW4.out.size)
            clear HO hB5
            go_wp2_with fail
            go_ret
            exact ⟨rfl, hBW5.out⟩
end Go.Proofs.Ytgnchgkiijncbaa
