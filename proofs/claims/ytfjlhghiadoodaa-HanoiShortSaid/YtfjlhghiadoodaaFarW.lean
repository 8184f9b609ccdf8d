/- What hanoi.Far computes at two states of as many discs, up to 40: how far they are (F); conditions: the slices read as such states. -/
import Derived.Test.YtfjlhghiadoodaaGat
namespace Go.Proofs.Ytfjlhghiadoodaa
open Go.RowKit

set_option maxRecDepth 100000 in
set_option maxHeartbeats 4000000 in
theorem far_any (p1 p2 : Option Addr) (n c1 c2 : Nat) (s t : List Nat) (w : World) (hn : n ≤ 40) (hc1' : n ≤ c1) (hc2' : n ≤ c2) (hx : IntsIn w p1 n (asI s)) (hy : IntsIn w p2 n (asI t)) (hs : ∀ j, st s j < 3) (ht : ∀ j, st t j < 3) :
    Calls Try.prog 7 #[.slice p1 n c1, .slice p2 n c2] w fun e w' => e = .returned (.tuple #[.int .i64 (F (st s) (st t) n : Nat), .int .i64 0]) ∧ Below w.heap.size w w' := by
  have C1 := fun W h => check_ok p1 n c1 s W hn h hs
  have C2 := fun W h => check_ok p2 n c2 t W hn h ht
  replace C1 := Lib.hid C1; replace C2 := Lib.hid C2
  have hx1 := Lib.hid (hx.alloc (.cells #[.slice p1 n c1, .slice p2 n c2] 22))
  have hy1 := Lib.hid (hy.alloc (.cells #[.slice p1 n c1, .slice p2 n c2] 22))
  have hB1 : Hid (Below w.heap.size w (w.alloc (.cells #[.slice p1 n c1, .slice p2 n c2] 22))) := (Below.refl _ _).alloc (Nat.le_refl _) _
  replace hs := Lib.hid hs; replace ht := Lib.hid ht
  clear hx hy
  go_enter Try.func7, Try.ntmps7
  go_wp2
  refine wp_loop_rounds 3 ?_; rw [rounds_succ]
  go_wp2_with fail
  refine (C1.out _ hx1.out).mono ?_
  rintro e w' ⟨rfl, rfl⟩
  go_wp2_with fail
  rw [rounds_succ]
  go_wp2_with fail
  refine (C2.out _ hy1.out).mono ?_
  rintro e w' ⟨rfl, rfl⟩
  go_wp2_with fail
  rw [rounds_succ]
  go_wp2_with fail
  generalize w.alloc (.cells #[.slice p1 n c1, .slice p2 n c2] 22) = W at *
  go_loopg [9] n (fun k q W' => ∃ m : Nat, m ≤ n ∧ k = m ∧ q = .int .i64 ((m : Int) - 1) ∧ F (st s) (st t) n = F (st s) (st t) m ∧ Below W.heap.size W W')
  case atStart => exact ⟨n, by omega, rfl, rfl, rfl, Below.refl _ _⟩
  case round =>
    obtain ⟨m, hm, hk, rfl, hF, hB⟩ := hrel
    replace hk := Lib.hid hk
    by_cases hm0 : m = 0
    · subst hm0
      have hd : decide ((0 : Int) ≤ ((0 : Nat) : Int) - 1) = false := by simp
      replace hF := Lib.hid hF; replace hB := Lib.hid hB
      go_wp2
      go_quiet (fail)
      go_wp2
      go_ret2
      exact ⟨by rw [hF.out]; rfl, hB1.out.trans ((below_drewN hB.out _).mono hB1.out.size)⟩
    · obtain ⟨j, rfl⟩ : ∃ j, m = j + 1 := ⟨m - 1, by omega⟩
      obtain ⟨b1, o1, rfl, _, hc1⟩ := (hx1.out.below hB).at (by omega)
      obtain ⟨b2, o2, rfl, _, hc2⟩ := (hy1.out.below hB).at (by omega)
      have d1 := hc1 j (by omega)
      have d2 := hc2 j (by omega)
      rw [asI_at] at d1 d2
      have g1 := hs.out j; have g2 := ht.out j
      have ej : ((j + 1 : Nat) : Int) - 1 = j := by omega
      rw [ej]
      replace ej := Lib.hid ej
      rw [F] at hF
      generalize hu : st s j = u at *
      generalize hv : st t j = v at *
      have k0 : (0 : Int) ≤ j := by omega
      have k1 : (j : Int) < n := by omega
      have k2 : (j : Int) ≤ c1 := by omega
      have k3 : (j : Int) ≤ c2 := by omega
      clear hc1 hc2
      by_cases huv : u = v
      · subst huv
        rw [if_pos rfl] at hF
        replace hF := Lib.hid hF; replace hB := Lib.hid hB; replace hu := Lib.hid hu; replace hv := Lib.hid hv
        go_wp2
        go_quiet (fail)
        go_wp2
        have hk := hk.out
        go_roundg j
        case measure => omega
        case rel => exact ⟨j, by omega, rfl, by go_num, hF.out, below_drewN hB.out _⟩
      · rw [if_neg huv] at hF
        have hne : ((u : Int) == (v : Int)) = false := by simp; omega
        replace hF := Lib.hid hF; replace hB := Lib.hid hB; replace hu := Lib.hid hu; replace hv := Lib.hid hv
        go_wp2
        go_quiet (fail)
        go_wp2
        go_quiet (fail)
        go_wp2
        go_quiet (fail)
        go_wp2_with fail
        have hxw := hx1.out.below hB.out
        have hyw := hy1.out.below hB.out
        have A := fun (W' : World) (h : IntsIn W' (some ⟨b1, o1, none⟩) n (asI s)) (q : Nat) (hq : q < 3) (qI : Int) (e : Hid (qI = q)) => gather_part (some ⟨b1, o1, none⟩) n j c1 q s W' hn (by omega) h hs.out hq qI e
        have B := fun (W' : World) (h : IntsIn W' (some ⟨b2, o2, none⟩) n (asI t)) (q : Nat) (hq : q < 3) (qI : Int) (e : Hid (qI = q)) => gather_part (some ⟨b2, o2, none⟩) n j c2 q t W' hn (by omega) h ht.out hq qI e
        have hDf : Hid (F (st s) (st t) n = min (G (st s) j (3 - u - v) + 1 + G (st t) j (3 - u - v)) (G (st s) j v + 1 + 2 ^ j - 1 + 1 + G (st t) j u)) := by show _ = _; rw [hF.out]; unfold D once twice; rw [hu.out, hv.out]
        have l1 := G_lt (st s) j (3 - u - v); have l2 := G_lt (st t) j (3 - u - v); have l3 := G_lt (st s) j v; have l4 := G_lt (st t) j u
        have l5 : 2 ^ j ≤ 2 ^ 39 := Nat.pow_le_pow_right (by omega) (by omega)
        have A1 := fun k => A (wr.drewN k) hxw (3 - u - v) (by omega) (3 - (u : Int) - v) (Lib.hid (by omega))
        have B1 := fun k => B (wr.drewN k) hyw (3 - u - v) (by omega) (3 - (u : Int) - v) (Lib.hid (by omega))
        have A2 := fun k => A (wr.drewN k) hxw v g2 v rfl
        have B2 := fun k => B (wr.drewN k) hyw u g1 u rfl
        clear A B
        generalize G (st s) j (3 - u - v) = x1 at *
        generalize G (st t) j (3 - u - v) = x2 at *
        generalize G (st s) j v = x3 at *
        generalize G (st t) j u = x4 at *
        have hP1 := two_pos j
        obtain ⟨P, hP⟩ : ∃ P, P = 2 ^ j := ⟨_, rfl⟩
        have hsh := shl_lt j (by omega)
        have e2 : (2 : Int) ^ j = (P : Int) := by rw [hP]; push_cast; rfl
        rw [← hP] at hDf hP1 l1 l2 l3 l4 l5
        rw [e2] at hsh
        replace hP := Lib.hid hP; replace A1 := Lib.hid A1; replace A2 := Lib.hid A2; replace B1 := Lib.hid B1; replace B2 := Lib.hid B2
        clear hxw hyw
        have b1' : x1 < 1099511627776 := by omega
        have b2' : x2 < 1099511627776 := by omega
        have b3' : x3 < 1099511627776 := by omega
        have b4' : x4 < 1099511627776 := by omega
        have b5' : P < 1099511627776 := by omega
        clear l1 l2 l3 l4 l5 hk
        refine (A1.out _).mono ?_
        rintro e w' ⟨rfl, rfl⟩
        go_wp2_with fail
        refine (B1.out _).mono ?_
        rintro e w' ⟨rfl, rfl⟩
        go_wp2_with fail
        have s1 : IntKind.i64.wrap ((x3 : Int) + 1) = (x3 : Int) + 1 := IntWalk.i64_in _ (by omega)
        have s2 : IntKind.i64.wrap ((x3 : Int) + 1 + P) = (x3 : Int) + 1 + P := IntWalk.i64_in _ (by omega)
        have s3 : IntKind.i64.wrap ((x3 : Int) + 1 + P - 1) = (x3 : Int) + 1 + P - 1 := IntWalk.i64_in _ (by omega)
        have s4 : IntKind.i64.wrap ((x3 : Int) + 1 + P - 1 + 1) = (x3 : Int) + 1 + P - 1 + 1 := IntWalk.i64_in _ (by omega)
        have s5 : IntKind.i64.wrap ((x3 : Int) + 1 + P - 1 + 1 + x4) = (x3 : Int) + 1 + P - 1 + 1 + x4 := IntWalk.i64_in _ (by omega)
        go_quiet ((go_at_call 15; first | ((with_reducible refine (A2.out _).mono ?_); exact fun _ _ h => ⟨h.1, _, h.2.symm⟩) | ((with_reducible refine (B2.out _).mono ?_); exact fun _ _ h => ⟨h.1, _, h.2.symm⟩)))
        clear s1 s2 s3 s4 s5
        have hBf : Hid (∀ k, Below w.heap.size w (wr.drewN k)) := fun k => hB1.out.trans ((below_drewN hB.out _).mono hB1.out.size)
        by_cases hm : x1 + 1 + x2 ≤ x3 + 1 + P + x4
        · have hr : Hid ((x1 : Int) + 1 + x2 = (F (st s) (st t) n : Nat)) := by show _ = _; rw [hDf.out]; omega
          have hm1 : ¬ ((x3 : Int) + 1 + P + x4 < x1 + 1 + x2) := by omega
          go_wp2
          go_ret2
          exact ⟨by rw [← hr.out]; rfl, hBf.out _⟩
        · have hr : Hid ((x3 : Int) + 1 + P + x4 = (F (st s) (st t) n : Nat)) := by show _ = _; rw [hDf.out]; omega
          have hm1 : (x3 : Int) + 1 + P + x4 < x1 + 1 + x2 := by omega
          go_wp2
          go_ret2
          exact ⟨by rw [← hr.out]; rfl, hBf.out _⟩
end Go.Proofs.Ytfjlhghiadoodaa
