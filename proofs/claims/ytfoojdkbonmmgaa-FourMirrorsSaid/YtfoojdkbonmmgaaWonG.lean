/- Has a sign at a place made a row: on any board; conditions: a board of at most 10 by 10 places. -/
import Derived.Test.YtfoojdkbonmmgaaFPl
import Derived.Test.YtfoojdkbonmmgaaWon
namespace Go.Proofs.Ytfoojdkbonmmgaa
open Go.RowKit

theorem dirsG (i : Nat) (hi : i < 4) : (∀ w, (Instr.index 57 (.agg #[.int .i64 1, .int .i64 0, .int .i64 0, .int .i64 1, .int .i64 1, .int .i64 1, .int .i64 1, .int .i64 (-1)]) (.int .i64 i)).run Try.prog w = .ok (.agg #[.int .i64 (dx4 i), .int .i64 (dy4 i)]) w) ∧
    -1 ≤ dx4 i ∧ dx4 i ≤ 1 ∧ -1 ≤ dy4 i ∧ dy4 i ≤ 1 ∧ (dx4 i ≠ 0 ∨ dy4 i ≠ 0) := by
  rcases (show i = 0 ∨ i = 1 ∨ i = 2 ∨ i = 3 from by omega) with rfl | rfl | rfl | rfl
  · exact ⟨fun w => by kernel_rfl, by decide⟩
  · exact ⟨fun w => by kernel_rfl, by decide⟩
  · exact ⟨fun w => by kernel_rfl, by decide⟩
  · exact ⟨fun w => by kernel_rfl, by decide⟩
def sg4 (j : Nat) : Int := if j = 0 then 1 else -1
theorem signsG (i : Nat) (hi : i < 2) : (∀ w, (Instr.index 56 (.agg #[.int .i64 1, .int .i64 (-1)]) (.int .i64 i)).run Try.prog w = .ok (.int .i64 (sg4 i)) w) ∧ (sg4 i = 1 ∨ sg4 i = -1) := by
  rcases (show i = 0 ∨ i = 1 from by omega) with rfl | rfl
  · exact ⟨fun w => by kernel_rfl, by decide⟩
  · exact ⟨fun w => by kernel_rfl, by decide⟩
/-- how many are counted behind jj signs. -/
def CntD (c : Int → Int → Int) (who x y dx dy : Int) (jj N : Nat) : Prop := ∃ r1 r2 : Nat, N = 1 + r1 + r2 ∧ (1 ≤ jj → ext c who x y dx dy r1 ∧ c (x + dx * (r1 + 1 : Nat)) (y + dy * (r1 + 1 : Nat)) ≠ who) ∧ (2 ≤ jj → ext c who x y (-dx) (-dy) r2 ∧ c (x + -dx * (r2 + 1 : Nat)) (y + -dy * (r2 + 1 : Nat)) ≠ who) ∧ (jj = 0 → r1 = 0) ∧ (jj ≤ 1 → r2 = 0) ∧ N ≤ 1 + jj * 9
theorem CntD.zero (c : Int → Int → Int) (who x y dx dy : Int) : CntD c who x y dx dy 0 1 := ⟨0, 0, rfl, fun h => absurd h (by omega), fun h => absurd h (by omega), fun _ => rfl, fun _ => rfl, by omega⟩
theorem CntD.next {c : Int → Int → Int} {who x y dx dy : Int} {jj N r : Nat} (h : CntD c who x y dx dy jj N) (hj : jj < 2) (h1 : ext c who x y (sg4 jj * dx) (sg4 jj * dy) r) (h2 : c (x + sg4 jj * dx * (r + 1 : Nat)) (y + sg4 jj * dy * (r + 1 : Nat)) ≠ who) (hr : r ≤ 9) : CntD c who x y dx dy (jj + 1) (N + r) := by
  obtain ⟨r1, r2, e, k1, k2, k3, k4, k5⟩ := h
  rcases (show jj = 0 ∨ jj = 1 by omega) with rfl | rfl
  · have e1 := k3 rfl
    have e2 := k4 (by omega)
    rw [show sg4 0 = 1 from rfl, Int.one_mul, Int.one_mul] at h1 h2
    exact ⟨r, 0, by omega, fun _ => ⟨h1, h2⟩, fun h => absurd h (by omega), fun h => absurd h (by omega), fun _ => rfl, by omega⟩
  · have e2 := k4 (by omega)
    rw [show sg4 1 = -1 from rfl, show (-1 : Int) * dx = -dx by omega, show (-1 : Int) * dy = -dy by omega] at h1 h2
    exact ⟨r1, r, by omega, fun _ => k1 (by omega), fun _ => ⟨h1, h2⟩, fun h => absurd h (by omega), fun h => absurd h (by omega), by omega⟩
theorem CntD.yes {c : Int → Int → Int} {who x y dx dy : Int} {N k : Nat} (h : CntD c who x y dx dy 2 N) (hk : k ≤ N) : ∃ p q : Nat, ext c who x y dx dy p ∧ ext c who x y (-dx) (-dy) q ∧ k ≤ p + q + 1 := by
  obtain ⟨r1, r2, e, k1, k2, _⟩ := h
  exact ⟨r1, r2, (k1 (by omega)).1, (k2 (by omega)).1, by omega⟩
theorem CntD.no {c : Int → Int → Int} {who x y dx dy : Int} {N k : Nat} (h : CntD c who x y dx dy 2 N) (hk : N < k) : ¬ ∃ p q : Nat, ext c who x y dx dy p ∧ ext c who x y (-dx) (-dy) q ∧ k ≤ p + q + 1 := by
  obtain ⟨r1, r2, e, k1, k2, _⟩ := h
  rintro ⟨p, q, h1, h2, h3⟩
  have := ext_le h1 (k1 (by omega)).2
  have := ext_le h2 (k2 (by omega)).2
  omega
theorem step_eq {x a A : Int} {t : Nat} (h : A = x + a * (t + 1 : Nat)) : A + a = x + a * (t + 1 + 1 : Nat) := by
  rw [h, Int.natCast_add (t + 1) 1, Int.mul_add]; simp; omega
/-- what won answers. -/
def WonEnd (c : Int → Int → Int) (who x y : Int) (k : Nat) (w : World) (e : Ending) (w' : World) : Prop := (∃ b : Bool, e = .returned (.bool b) ∧ (b = true ↔ Row4 c who x y k)) ∧ Below w.heap.size w w'
set_option maxHeartbeats 4000000 in
set_option maxRecDepth 100000 in
theorem wonG_any (wl g gc W H k at_ x y n : Nat) (cs : List Nat) (w : World) (hW : 1 ≤ W) (hW2 : W ≤ 10) (hH : H ≤ 10) (hx : x < W) (hy : y < H) (hat : Hid (at_ = y * W + x)) (hn : Hid (n = W * H)) (mv : Int)
    (hwl : w.heap[wl]? = some (.cells #[.int .i64 W, .int .i64 H, .slice (some ⟨g, 0, none⟩) n gc, .int .i64 k, .int .i64 mv] 41 (0, 0))) (hg : IntsIn w (some ⟨g, 0, none⟩) n (asI cs)) (who : Nat) (hw : Hid (st cs at_ = who)) :
    Calls Try.prog 14 #[.pointer (some ⟨wl, 0, none⟩), .int .i64 at_] w (WonEnd (cf W H cs) who x y k w) := by
  have hmul : y * W + x < n := by
    rw [hn.out, Nat.mul_comm W H]
    calc y * W + x < y * W + W := by omega
      _ = (y + 1) * W := by rw [Nat.add_mul, Nat.one_mul]
      _ ≤ H * W := Nat.mul_le_mul_right _ hy
  have hn100 : n ≤ 100 := by rw [hn.out]; exact Nat.mul_le_mul hW2 hH
  have ha1 : at_ < n := by rw [hat.out]; exact hmul
  obtain ⟨c0, c1, c2, c3⟩ := wcells hwl
  have HG := Lib.hid (fun W' (hb : Below w.heap.size w W') i (hi : i < n) => (by
    obtain ⟨b, o, e, _, hc⟩ := (hg.below hb).at (by omega)
    cases e
    have := hc i hi
    rw [Nat.zero_add, asI_at] at this
    exact this : W'.cell? ⟨g, i, none⟩ = some (.int .i64 (st cs i : Nat))))
  have ca := HG.out w (Below.refl _ _) at_ ha1
  rw [hw.out] at ca
  replace hwl := Lib.hid hwl
  clear hg
  go_enter Try.func14, Try.ntmps14
  go_wp2
  have hxd : (at_ : Int) % W = x := by
    rw [hat.out]; push_cast; rw [Int.add_comm, Int.mul_comm, Int.add_mul_emod_self_left]; exact Int.emod_eq_of_lt (by omega) (by omega)
  have hyd : (at_ : Int) / W = y := by
    rw [hat.out]; push_cast; rw [Int.add_comm, Int.add_mul_ediv_right _ _ (by omega)]; rw [Int.ediv_eq_zero_of_lt (by omega) (by omega)]; omega
  go_quiet (fail)
  go_wp2
  simp only [hxd]
  clear c0 c1 c2 c3 ca hxd hyd
  go_loopg [42] 4 (fun kk i W' => ∃ ii : Nat, ii ≤ 4 ∧ kk = 4 - ii ∧ i = .int .i64 ii ∧ Hid (Below w.heap.size w W') ∧ Hid (∀ j, j < ii → ¬ ∃ p q : Nat, ext (cf W H cs) who x y (dx4 j) (dy4 j) p ∧ ext (cf W H cs) who x y (-(dx4 j)) (-(dy4 j)) q ∧ k ≤ p + q + 1))
  case atStart => exact ⟨0, by omega, by omega, rfl, below_drewN (Below.refl _ _) _, fun j hj => absurd hj (Nat.not_lt_zero _)⟩
  case round =>
    obtain ⟨ii, hi, hgk, rfl, hB, hno⟩ := hrel
    obtain ⟨W1, rfl⟩ : ∃ W1 : World, W1 = wr := ⟨_, rfl⟩
    replace hgk := Lib.hid hgk
    by_cases hit : ii < 4
    · obtain ⟨hrun, d1, d2, d3, d4, d5⟩ := dirsG ii hit
      have hitd : decide ((ii : Int) < 4) = true := by simp; omega
      replace d5 := Lib.hid d5
      obtain ⟨dx, hdx⟩ : ∃ dx, dx = dx4 ii := ⟨_, rfl⟩
      obtain ⟨dy, hdy⟩ : ∃ dy, dy = dy4 ii := ⟨_, rfl⟩
      rw [← hdx] at hrun d1 d2 d5
      rw [← hdy] at hrun d3 d4 d5
      replace hdx := Lib.hid hdx; replace hdy := Lib.hid hdy
      go_wp2
      have hBa := Lib.hid ((hB.out.alloc hB.out.size (.cells #[.int .i64 dx, .int .i64 dy] 56)))
      have e0 : (W1.alloc (.cells #[.int .i64 dx, .int .i64 dy] 56)).cell? ⟨W1.heap.size, 0, none⟩ = some (.int .i64 dx) := by rw [World.cell?_alloc_new]; rfl
      have e1 : (W1.alloc (.cells #[.int .i64 dx, .int .i64 dy] 56)).cell? ⟨W1.heap.size, 1, none⟩ = some (.int .i64 dy) := by rw [World.cell?_alloc_new]; rfl
      have hsz : W1.heap.size < (W1.alloc (.cells #[.int .i64 dx, .int .i64 dy] 56)).heap.size := by simp
      obtain ⟨d, hd⟩ : ∃ d, d = W1.heap.size := ⟨_, rfl⟩
      rw [← hd] at e0 e1 hsz ⊢
      generalize W1.alloc (.cells #[.int .i64 dx, .int .i64 dy] 56) = W2 at *
      replace hd := Lib.hid hd
      obtain ⟨c0, c1, c2, c3⟩ := wcells ((hBa.out.block wl (lt_of_heap hwl.out)).trans hwl.out)
      have HG2 := Lib.hid (fun i (hi : i < n) => HG.out W2 hBa.out i hi)
      go_loopg [10, 46] 2 (fun kk nn i W' => ∃ jj N r : Nat, jj ≤ 2 ∧ kk = 2 - jj ∧ nn = .int .i64 N ∧ i = .int .i64 jj ∧ Hid (CntD (cf W H cs) who x y dx dy jj N) ∧ W' = W2.drewN r)
      case atStart => exact ⟨0, 1, 0, by omega, by omega, rfl, rfl, CntD.zero _ _ _ _ _ _, rfl⟩
      case round =>
        obtain ⟨jj, N, r, hj, hgk2, rfl, rfl, hC, rfl⟩ := hrel
        replace hgk2 := Lib.hid hgk2
        have hN19 : N ≤ 19 := by obtain ⟨_, _, _, _, _, _, _, h⟩ := hC.out; omega
        by_cases hjt : jj < 2
        · obtain ⟨hrun2, hs⟩ := signsG jj hjt
          obtain ⟨s, hsd⟩ : ∃ s, s = sg4 jj := ⟨_, rfl⟩
          have hnx := Lib.hid (fun r h1 h2 h3 => hC.out.next (r := r) hjt h1 h2 h3)
          rw [← hsd] at hrun2 hs hnx
          replace hsd := Lib.hid hsd
          obtain ⟨a, ha⟩ : ∃ a : Int, a = s * dx := ⟨_, rfl⟩
          obtain ⟨b, hb⟩ : ∃ b : Int, b = s * dy := ⟨_, rfl⟩
          have hab : -1 ≤ a ∧ a ≤ 1 ∧ -1 ≤ b ∧ b ≤ 1 ∧ (a ≠ 0 ∨ b ≠ 0) := by
            have := d5.out
            rcases hs with rfl | rfl <;> omega
          rw [← ha, ← hb] at hnx
          have ha' : s * dx = a := ha.symm
          have hb' : s * dy = b := hb.symm
          have hab2 := Lib.hid hab
          obtain ⟨a1, a2, b1, b2, -⟩ := hab
          have hwb : Hid (0 ≤ (who : Int)) := Int.natCast_nonneg _
          have hxb : Hid (0 ≤ (x : Int) ∧ (x : Int) < W) := by show _ ∧ _; omega
          have hyb : Hid (0 ≤ (y : Int) ∧ (y : Int) < H) := by show _ ∧ _; omega
          replace hs := Lib.hid hs
          clear ha hb
          go_wp2
          go_quiet (fail)
          go_wp2
          go_loopg [10, 13, 14] 10 (fun kk nn av bv W' => ∃ (t r : Nat) (A B : Int), t ≤ 9 ∧ kk = 10 - t ∧ nn = .int .i64 ((N + t : Nat) : Int) ∧ av = .int .i64 A ∧ bv = .int .i64 B ∧ Hid (A = x + a * (t + 1 : Nat)) ∧ Hid (B = y + b * (t + 1 : Nat)) ∧ -1 ≤ A ∧ A ≤ 10 ∧ -1 ≤ B ∧ B ≤ 10 ∧ Hid (ext (cf W H cs) who x y a b t) ∧ W' = W2.drewN r)
          case atStart => exact ⟨0, _, x + a, y + b, by omega, by omega, by simp, rfl, rfl, (by show _ = _; simp), (by show _ = _; simp), by omega, by omega, by omega, by omega, ext_zero _ _ _ _ _ _, (by first | exact World.drewN_drewN _ _ _ | rfl)⟩
          case round =>
            obtain ⟨t, r3, A, B, ht, hgk3, rfl, rfl, rfl, hA, hBq, q1, q2, q3, q4, hE, rfl⟩ := hrel
            replace hgk3 := Lib.hid hgk3
            have hEx : Hid (cf W H cs A B = who → t + 1 ≤ 9 ∧ ext (cf W H cs) who x y a b (t + 1)) := fun e => by
              have h1 := ext_succ hE.out (by rw [← hA.out, ← hBq.out]; exact e)
              exact ⟨ext_bound hW2 hH hxb.out hyb.out hwb.out hab2.out h1, h1⟩
            by_cases k1 : 0 ≤ A
            · by_cases k2 : A < W
              · by_cases k3 : 0 ≤ B
                · by_cases k4 : B < H
                  · obtain ⟨u, rfl⟩ : ∃ u : Nat, A = (u : Int) := ⟨A.toNat, by omega⟩
                    obtain ⟨v, rfl⟩ : ∃ v : Nat, B = (v : Int) := ⟨B.toNat, by omega⟩
                    have hcfu : Hid (cf W H cs u v = ((st cs (v * W + u) : Nat) : Int)) := cf_at (by omega) (by omega)
                    have hvu : v * W + u < n := by
                      rw [hn.out, Nat.mul_comm W H]
                      calc v * W + u < v * W + W := by omega
                        _ = (v + 1) * W := by rw [Nat.add_mul, Nat.one_mul]
                        _ ≤ H * W := Nat.mul_le_mul_right _ (by omega)
                    have hct := HG2.out (v * W + u) hvu
                    obtain ⟨S, hS⟩ : ∃ S, S = v * W := ⟨_, rfl⟩
                    have hSi : (v : Int) * (W : Int) = (S : Int) := by rw [hS]; simp
                    rw [← hS] at hct hvu hcfu
                    have hSu : (S : Int) + (u : Int) = ((S + u : Nat) : Int) := by simp
                    obtain ⟨z, hz⟩ : ∃ z, z = S + u := ⟨_, rfl⟩
                    rw [← hz] at hct hvu hcfu hSu
                    have hz0 : (0 : Int) ≤ (z : Int) := by omega
                    have hzn : (z : Int) < (n : Int) := by omega
                    have hS100 : (S : Int) ≤ 100 := by omega
                    generalize st cs z = sv at *
                    replace hz := Lib.hid hz; replace hS := Lib.hid hS
                    by_cases heq : sv = who
                    · have hcw := hEx.out (by rw [hcfu.out, heq])
                      obtain ⟨ht9, hE2⟩ := hcw
                      have hA2 := step_eq hA.out
                      have hB2 := step_eq hBq.out
                      rw [heq] at hct
                      replace heq := Lib.hid heq
                      replace hE2 := Lib.hid hE2; replace hA2 := Lib.hid hA2; replace hB2 := Lib.hid hB2
                      clear hE hA hBq hEx hcfu
                      go_wp2
                      go_quiet (fail)
                      go_wp2
                      go_quiet (fail)
                      go_wp2
                      have hgk3 := hgk3.out
                      go_roundg (10 - (t + 1))
                      case measure => omega
                      case rel => exact ⟨t + 1, _, (u : Int) + a, (v : Int) + b, ht9, rfl, by go_num, by go_num, by go_num, hA2.out, hB2.out, by omega, by omega, by omega, by omega, hE2.out, (by first | exact World.drewN_drewN _ _ _ | rfl)⟩
                    · have hdq : decide ((sv : Int) = (who : Int)) = false := by simp; omega
                      have hdb : ((sv : Int) == (who : Int)) = false := by simp; omega
                      have hnc := Lib.hid (hnx.out t hE.out (by rw [← hA.out, ← hBq.out]; rw [hcfu.out]; omega) ht)
                      go_wp2
                      go_quiet (fail)
                      go_wp2
                      have hgk2 := hgk2.out
                      go_roundg (2 - (jj + 1))
                      case measure => omega
                      case rel => exact ⟨jj + 1, N + t, _, by omega, rfl, by go_num, by go_num, hnc.out, (by first | exact World.drewN_drewN _ _ _ | rfl)⟩
                  · have k4' : decide (B < H) = false := by simpa using k4
                    have hnc := Lib.hid (hnx.out t hE.out (by rw [← hA.out, ← hBq.out]; exact fun e => by have := cf_in e hwb.out; omega) ht)
                    go_wp2
                    go_quiet (fail)
                    go_wp2
                    have hgk2 := hgk2.out
                    go_roundg (2 - (jj + 1))
                    case measure => omega
                    case rel => exact ⟨jj + 1, N + t, _, by omega, rfl, by go_num, by go_num, hnc.out, (by first | exact World.drewN_drewN _ _ _ | rfl)⟩
                · have k3' : decide (0 ≤ B) = false := by simpa using k3
                  have hnc := Lib.hid (hnx.out t hE.out (by rw [← hA.out, ← hBq.out]; exact fun e => by have := cf_in e hwb.out; omega) ht)
                  go_wp2
                  go_quiet (fail)
                  go_wp2
                  have hgk2 := hgk2.out
                  go_roundg (2 - (jj + 1))
                  case measure => omega
                  case rel => exact ⟨jj + 1, N + t, _, by omega, rfl, by go_num, by go_num, hnc.out, (by first | exact World.drewN_drewN _ _ _ | rfl)⟩
              · have k2' : decide (A < W) = false := by simpa using k2
                have hnc := Lib.hid (hnx.out t hE.out (by rw [← hA.out, ← hBq.out]; exact fun e => by have := cf_in e hwb.out; omega) ht)
                go_wp2
                go_quiet (fail)
                go_wp2
                have hgk2 := hgk2.out
                go_roundg (2 - (jj + 1))
                case measure => omega
                case rel => exact ⟨jj + 1, N + t, _, by omega, rfl, by go_num, by go_num, hnc.out, (by first | exact World.drewN_drewN _ _ _ | rfl)⟩
            · have k1' : decide (0 ≤ A) = false := by simpa using k1
              have hnc := Lib.hid (hnx.out t hE.out (by rw [← hA.out, ← hBq.out]; exact fun e => by have := cf_in e hwb.out; omega) ht)
              go_wp2
              go_quiet (fail)
              go_wp2
              have hgk2 := hgk2.out
              go_roundg (2 - (jj + 1))
              case measure => omega
              case rel => exact ⟨jj + 1, N + t, _, by omega, rfl, by go_num, by go_num, hnc.out, (by first | exact World.drewN_drewN _ _ _ | rfl)⟩
        · obtain rfl : jj = 2 := by omega
          have hBf := Lib.hid (below_drewN hBa.out r)
          by_cases hkN : k ≤ N
          · have hy2 := Lib.hid (hC.out.yes hkN)
            go_wp2
            go_ret
            refine ⟨⟨true, rfl, fun _ => ⟨ii, hit, ?_⟩, fun _ => rfl⟩, hBf.out⟩
            rw [← hdx.out, ← hdy.out]; exact hy2.out
          · have hn2 := Lib.hid (hC.out.no (show N < k by omega))
            have hno2 : Hid (∀ j, j < ii + 1 → ¬ ∃ p q : Nat, ext (cf W H cs) who x y (dx4 j) (dy4 j) p ∧ ext (cf W H cs) who x y (-(dx4 j)) (-(dy4 j)) q ∧ k ≤ p + q + 1) := fun j hj => by
              rcases Nat.lt_or_ge j ii with h1 | h1
              · exact hno.out j h1
              · obtain rfl : j = ii := by omega
                rw [← hdx.out, ← hdy.out]; exact hn2.out
            go_wp2
            have hgk := hgk.out
            go_roundg (4 - (ii + 1))
            case measure => omega
            case rel => exact ⟨ii + 1, by omega, rfl, by go_num, hBf, hno2.out⟩
    · obtain rfl : ii = 4 := by omega
      go_wp2
      go_ret
      exact ⟨⟨false, rfl, (fun h => by cases h), fun ⟨j, hj, h⟩ => absurd h (hno.out j hj)⟩, hB.out⟩
end Go.Proofs.Ytfoojdkbonmmgaa
