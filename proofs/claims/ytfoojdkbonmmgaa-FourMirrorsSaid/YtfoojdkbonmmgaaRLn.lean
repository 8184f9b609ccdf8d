/- What rows.lines computes: the lines of k places of a board, in their order; conditions: width, height and k are 1 to 10. -/
import Derived.Test.YtfoojdkbonmmgaaRWn
namespace Go.Proofs.Ytfoojdkbonmmgaa
open Go.RowKit

theorem dirs4 (i : Nat) (hi : i < 4) : (∀ w, (Instr.index 57 (.agg #[.int .i64 1, .int .i64 0, .int .i64 0, .int .i64 1, .int .i64 1, .int .i64 1, .int .i64 (-1), .int .i64 1]) (.int .i64 i)).run Try.prog w = .ok (.agg #[.int .i64 (dx i), .int .i64 (dy i)]) w) ∧
    -1 ≤ dx i ∧ dx i ≤ 1 ∧ 0 ≤ dy i ∧ dy i ≤ 1 := by
  rcases (show i = 0 ∨ i = 1 ∨ i = 2 ∨ i = 3 from by omega) with rfl | rfl | rfl | rfl
  · exact ⟨fun w => by kernel_rfl, by decide⟩
  · exact ⟨fun w => by kernel_rfl, by decide⟩
  · exact ⟨fun w => by kernel_rfl, by decide⟩
  · exact ⟨fun w => by kernel_rfl, by decide⟩
theorem cell_ok (W H k x y j i : Nat) (hj : j < 4) (hx : x < W) (hy : y < H) (hi : i < k) (hf : fits W H k x y j = true) : ∃ u v : Nat, u < H ∧ v < W ∧ (y : Int) + dy j * i = u ∧ (x : Int) + dx j * i = v ∧ cell W x y j i = u * W + v := by
  unfold fits at hf
  simp only [decide_eq_true_eq] at hf
  obtain ⟨h1, h2, h3⟩ := hf
  have hd : ∃ u v : Nat, u < H ∧ v < W ∧ (y : Int) + dy j * i = u ∧ (x : Int) + dx j * i = v := by
    refine ⟨((y : Int) + dy j * i).toNat, ((x : Int) + dx j * i).toNat, ?_⟩
    rcases (show j = 0 ∨ j = 1 ∨ j = 2 ∨ j = 3 from by omega) with rfl | rfl | rfl | rfl <;> simp [dx, dy] at h1 h2 h3 ⊢ <;> omega
  obtain ⟨u, v, hu, hv, e1, e2⟩ := hd
  refine ⟨u, v, hu, hv, e1, e2, ?_⟩
  unfold cell
  rw [e1, Int.add_assoc, e2]
  have : ((u : Int) * W + v) = ((u * W + v : Nat) : Int) := by simp
  rw [this, Int.toNat_natCast]

theorem el35 : ElT Try.prog 49 27 (.slice none 0 0) 1 24 := ⟨Try.underlying49, by kernel_rfl, rfl, by omega, by omega⟩

set_option maxHeartbeats 4000000 in
set_option maxRecDepth 100000 in
theorem lines_any (W H k : Nat) (w : World) (hW1 : 1 ≤ W) (hW : W ≤ 10) (hH1 : 1 ≤ H) (hH : H ≤ 10) (hk1 : 1 ≤ k) (hk : k ≤ 10) (kI : Int) (hkI : Hid (kI = k)) :
    Calls Try.prog 19 #[.int .i64 W, .int .i64 H, .int .i64 kI] w fun e w' => ∃ q c, e = .returned (.slice q (LY W H k H).length c) ∧ RowsIn w.heap.size w' q ((LY W H k H).map asI) ∧ Below w.heap.size w w' := by
  have hkI := hkI.out
  subst hkI
  go_enter Try.func19, Try.ntmps19
  go_wp2
  go_loopg [7, 17] H (fun gk l yv W' => ∃ y n c : Nat, ∃ q : Option Addr, y ≤ H ∧ gk = H - y ∧ yv = .int .i64 y ∧ l = .slice q n c ∧ n ≤ y * 40 ∧ OwnRows 27 w.heap.size W' q n c ((LY W H k y).map asI) ∧ Below w.heap.size w W')
  case atStart => exact ⟨0, 0, 0, none, by omega, by omega, rfl, rfl, by omega, OwnRows.nil _ _ _, Below.refl _ _⟩
  case round =>
    obtain ⟨y, n, c, q, hy, hgk, rfl, rfl, hn, hO, hB⟩ := hrel
    obtain ⟨W1, rfl⟩ : ∃ W1 : World, W1 = wr := ⟨_, rfl⟩
    replace hgk := Lib.hid hgk; replace hO := Lib.hid hO; replace hB := Lib.hid hB
    by_cases hlt : y < H
    · go_wp2
      go_loopg [7, 21] W (fun gk l xv W' => ∃ x n c : Nat, ∃ q : Option Addr, x ≤ W ∧ gk = W - x ∧ xv = .int .i64 x ∧ l = .slice q n c ∧ n ≤ y * 40 + x * 4 ∧ OwnRows 27 w.heap.size W' q n c ((LY W H k y ++ LX W H k y x).map asI) ∧ Below w.heap.size w W')
      case atStart => exact ⟨0, n, c, q, by omega, by omega, rfl, rfl, by omega, by simpa [LX] using hO.out, hB.out⟩
      case round =>
        clear hO hB hn
        obtain ⟨x, n, c, q, hx, hgk2, rfl, rfl, hn, hO, hB⟩ := hrel
        clear W1
        obtain ⟨W1, rfl⟩ : ∃ W1 : World, W1 = wr := ⟨_, rfl⟩
        replace hgk2 := Lib.hid hgk2; replace hO := Lib.hid hO; replace hB := Lib.hid hB
        by_cases hltx : x < W
        · go_wp2
          go_loopg [7, 29] 4 (fun gk l jv W' => ∃ j n c : Nat, ∃ q : Option Addr, j ≤ 4 ∧ gk = 4 - j ∧ jv = .int .i64 j ∧ l = .slice q n c ∧ n ≤ y * 40 + x * 4 + j ∧ OwnRows 27 w.heap.size W' q n c ((LY W H k y ++ LX W H k y x ++ LD W H k y x j).map asI) ∧ Below w.heap.size w W')
          case atStart => exact ⟨0, n, c, q, by omega, by omega, rfl, rfl, by omega, by simpa [LD] using hO.out, hB.out⟩
          case round =>
            clear hO hB hn
            obtain ⟨j, n, c, q, hj, hgk3, rfl, rfl, hn, hO, hB⟩ := hrel
            clear W1
            obtain ⟨W1, rfl⟩ : ∃ W1 : World, W1 = wr := ⟨_, rfl⟩
            replace hgk3 := Lib.hid hgk3
            by_cases hltj : j < 4
            · obtain ⟨hrun, d1, d2, d3, d4⟩ := dirs4 j hltj
              have hcell := Lib.hid (fun i hi => cell_ok W H k x y j i hltj hltx hlt hi)
              have hno : Hid (¬ (0 ≤ (x : Int) + dx j * ((k : Int) - 1) ∧ (x : Int) + dx j * ((k : Int) - 1) < W ∧ (y : Int) + dy j * ((k : Int) - 1) < H) → LD W H k y x (j + 1) = LD W H k y x j) := fun h => by
                rw [LD_succ, cand, if_neg (by unfold fits; simpa using h), List.append_nil]
              have hyes : Hid ((0 ≤ (x : Int) + dx j * ((k : Int) - 1) ∧ (x : Int) + dx j * ((k : Int) - 1) < W ∧ (y : Int) + dy j * ((k : Int) - 1) < H) → fits W H k x y j = true ∧ LD W H k y x (j + 1) = LD W H k y x j ++ [lineUp W x y j k]) := fun h => by
                have hf : fits W H k x y j = true := by unfold fits; simpa using h
                exact ⟨hf, by rw [LD_succ, cand, if_pos hf]⟩
              generalize hdx : dx j = dxj at *
              generalize hdy : dy j = dyj at *
              obtain ⟨A, hA⟩ : ∃ A : Int, dxj * ((k : Int) - 1) = A := ⟨_, rfl⟩
              obtain ⟨Bv, hBv⟩ : ∃ A : Int, dyj * ((k : Int) - 1) = A := ⟨_, rfl⟩
              rw [hA, hBv] at hno hyes
              have hA2 : -9 ≤ A ∧ A ≤ 9 := by
                rcases (show dxj = -1 ∨ dxj = 0 ∨ dxj = 1 from by omega) with rfl | rfl | rfl <;> omega
              have hB2 : 0 ≤ Bv ∧ Bv ≤ 9 := by
                rcases (show dyj = 0 ∨ dyj = 1 from by omega) with rfl | rfl <;> omega
              obtain ⟨A1, A2⟩ := hA2
              obtain ⟨B1, B2⟩ := hB2
              have hdec : decide ((j : Int) < 4) = true := by simp; omega
              replace hdx := Lib.hid hdx; replace hdy := Lib.hid hdy
              have hBs := hB.size
              have hOa := Lib.hid (hO.keep ((Below.refl _ _).alloc (Nat.le_refl _) (.cells #[.int .i64 dxj, .int .i64 dyj] 56)))
              have hBa := Lib.hid (hB.alloc hBs (.cells #[.int .i64 dxj, .int .i64 dyj] 56))
              clear hO hB
              go_wp2
              have e0 : (W1.alloc (.cells #[.int .i64 dxj, .int .i64 dyj] 56)).cell? ⟨W1.heap.size, 0, none⟩ = some (.int .i64 dxj) := by rw [World.cell?_alloc_new]; rfl
              have e1 : (W1.alloc (.cells #[.int .i64 dxj, .int .i64 dyj] 56)).cell? ⟨W1.heap.size, 1, none⟩ = some (.int .i64 dyj) := by rw [World.cell?_alloc_new]; rfl
              have hsz : W1.heap.size < (W1.alloc (.cells #[.int .i64 dxj, .int .i64 dyj] 56)).heap.size := by simp
              obtain ⟨d, hd⟩ : ∃ d, d = W1.heap.size := ⟨_, rfl⟩
              rw [← hd] at e0 e1 hsz ⊢
              generalize W1.alloc (.cells #[.int .i64 dxj, .int .i64 dyj] 56) = W2 at *
              replace hd := Lib.hid hd
              go_quiet (fail)
              by_cases c1 : 0 ≤ (x : Int) + A
              · by_cases c2 : (x : Int) + A < W
                · by_cases c3 : (y : Int) + Bv < H
                  · have hdn : Below W2.heap.size W2 (W2.drewN nq) := below_drewN (Below.refl _ _) _
                    have hdn2 := hdn.size
                    have hsz3 := Nat.lt_of_lt_of_le hsz hdn2
                    have e0' := (hdn.cell (p := ⟨d, 0, none⟩) hsz).trans e0
                    have e1' := (hdn.cell (p := ⟨d, 1, none⟩) hsz).trans e1
                    have hOb := Lib.hid (hOa.out.keep hdn)
                    have hBb := Lib.hid (hBa.out.trans (hdn.mono hBa.out.size))
                    obtain ⟨hft, hLDy⟩ := hyes.out ⟨c1, c2, c3⟩
                    have hcl := Lib.hid (fun i hi => hcell.out i hi hft)
                    replace hft := Lib.hid hft; replace hLDy := Lib.hid hLDy
                    clear hOa hBa hdn e0 e1 hno hyes hcell hsz hdn2
                    go_wp2
                    generalize W2.drewN nq = W3 at *
                    clear hd
                    go_loopg [14, 59] k (fun gk l iv W' => ∃ i c : Nat, ∃ p : Option Addr, i ≤ k ∧ gk = k - i ∧ iv = .int .i64 i ∧ l = .slice p i c ∧ Own 3 W3.heap.size W' p i c (asI (lineUp W x y j i)) ∧ Below W3.heap.size W3 W')
                    case atStart => exact ⟨0, 0, none, by omega, by omega, rfl, rfl, Own.nil _ _ _, Below.refl _ _⟩
                    case round =>
                      obtain ⟨i, c2, p, hi, hgk4, rfl, rfl, hO4, hB4⟩ := hrel
                      obtain ⟨W4, rfl⟩ : ∃ W4 : World, W4 = wr := ⟨_, rfl⟩
                      have f0 := (hB4.cell (p := ⟨d, 0, none⟩) hsz3).trans e0'
                      have f1 := (hB4.cell (p := ⟨d, 1, none⟩) hsz3).trans e1'
                      replace hgk4 := Lib.hid hgk4; replace e0' := Lib.hid e0'; replace e1' := Lib.hid e1'
                      by_cases hlti : i < k
                      · obtain ⟨u, v, hu, hv, g1, g2, g3⟩ := hcl.out i hlti
                        have huW : u * W + v < 100 := by
                          have : u * W ≤ 9 * 10 := Nat.mul_le_mul (by omega) hW
                          omega
                        obtain ⟨P, hP⟩ : ∃ P : Int, dyj * (i : Int) = P := ⟨_, rfl⟩
                        obtain ⟨R, hR⟩ : ∃ P : Int, dxj * (i : Int) = P := ⟨_, rfl⟩
                        rw [hP] at g1; rw [hR] at g2
                        obtain ⟨Q, hQ⟩ : ∃ Q : Int, ((y : Int) + P) * W = Q := ⟨_, rfl⟩
                        have hQ2 : Q = ((u * W : Nat) : Int) := by rw [← hQ, g1]; simp
                        have q1 : -20 ≤ P := by omega
                        have q2 : P ≤ 20 := by omega
                        have q3 : -20 ≤ R := by omega
                        have q4 : R ≤ 20 := by omega
                        have q5 : 0 ≤ Q := by omega
                        have q6 : Q ≤ 100 := by omega
                        have hsnoc : Hid (asI (lineUp W x y j i) ++ [Q + x + R] = asI (lineUp W x y j (i + 1))) := by
                          show _ = _
                          rw [lineUp_succ, asI_app, g3]
                          congr 1
                          show [Q + ↑x + R] = [((u * W + v : Nat) : Int)]
                          congr 1
                          omega
                        replace g1 := Lib.hid g1; replace g2 := Lib.hid g2; replace g3 := Lib.hid g3; replace hQ2 := Lib.hid hQ2; replace hO4 := Lib.hid hO4
                        have hB4s := hB4.size
                        replace hB4 := Lib.hid hB4
                        go_wp2_with (at_builtin; refine wp_append1 intG W4 rfl _ _ rfl W3.heap.size p i c2 _ rfl hO4.out (Q + x + R) rfl (by omega) hB4s ?_; intro p2 c3 w2 hM hg2 _ hz2)
                        rw [hsnoc.out] at hM
                        have hB5 := hB4.out.grown hg2 hB4s (fun x hx => by cases p with
                          | none => cases hx
                          | some a => cases hx; exact (hO4.out.block a rfl).1)
                        have hgk4 := hgk4.out
                        go_roundg (k - (i + 1))
                        case measure => omega
                        case rel => exact ⟨i + 1, c3, p2, by omega, rfl, by go_num, rfl, hM, hB5⟩
                      · have hie : i = k := by omega
                        subst hie
                        have hO5 := hOb.out.keep hB4
                        have hne : ∀ a, p = some a → q.map (·.block) ≠ some a.block ∧ w.heap.size ≤ a.block ∧ a.block < W4.heap.size := fun a ha => by
                          obtain ⟨r1, r2⟩ := hO4.block a ha
                          refine ⟨fun e => ?_, Nat.le_trans hBb.out.size r1, r2⟩
                          cases q with
                          | none => cases e
                          | some b =>
                            obtain ⟨vs, hC, _⟩ := hOb.out
                            have := (hC.block b rfl).2
                            simp at e; omega
                        have hin := hO4.in
                        have hB4s : w.heap.size ≤ W4.heap.size := Nat.le_trans hBb.out.size hB4.size
                        have hBc := hBb.out.trans (hB4.mono hBb.out.size)
                        replace hO5 := Lib.hid hO5; replace hne := Lib.hid hne; replace hin := Lib.hid hin; replace hO4 := Lib.hid hO4; replace hB4 := Lib.hid hB4; replace hBc := Lib.hid hBc
                        go_wp2_with (at_builtin; refine wp_appendRow el35 W4 rfl _ _ rfl w.heap.size q n c _ rfl hO5.out p i c2 _ hin.out hne.out rfl (by omega) hB4s ?_; intro q2 c3 w2 hM hg2 hz2)
                        have hB5 := hBc.out.grown hg2 hB4s (fun x hx => by
                          cases q with
                          | none => cases hx
                          | some a =>
                            cases hx
                            obtain ⟨vs, hC, _⟩ := hO5.out
                            exact (hC.block a rfl).1)
                        have hgk3 := hgk3.out
                        go_roundg (4 - (j + 1))
                        case measure => omega
                        case rel => exact ⟨j + 1, n + 1, c3, q2, by omega, rfl, by go_num, rfl, by omega, by rw [hLDy.out, ← List.append_assoc, List.map_append]; exact hM, hB5⟩
                  · go_wp2
                    have hgk3 := hgk3.out
                    go_roundg (4 - (j + 1))
                    case measure => omega
                    case rel => exact ⟨j + 1, n, c, q, by omega, rfl, by go_num, rfl, by omega, by rw [hno.out (by omega)]; exact hOa.out.keep (below_drewN (Below.refl _ _) _), below_drewN hBa.out _⟩
                · go_wp2
                  have hgk3 := hgk3.out
                  go_roundg (4 - (j + 1))
                  case measure => omega
                  case rel => exact ⟨j + 1, n, c, q, by omega, rfl, by go_num, rfl, by omega, by rw [hno.out (by omega)]; exact hOa.out.keep (below_drewN (Below.refl _ _) _), below_drewN hBa.out _⟩
              · go_wp2
                have hgk3 := hgk3.out
                go_roundg (4 - (j + 1))
                case measure => omega
                case rel => exact ⟨j + 1, n, c, q, by omega, rfl, by go_num, rfl, by omega, by rw [hno.out (by omega)]; exact hOa.out.keep (below_drewN (Below.refl _ _) _), below_drewN hBa.out _⟩
            · have hje : j = 4 := by omega
              subst hje
              replace hO := Lib.hid hO; replace hB := Lib.hid hB
              go_wp2
              have hgk2 := hgk2.out
              go_roundg (W - (x + 1))
              case measure => omega
              case rel => exact ⟨x + 1, n, c, q, by omega, rfl, by go_num, rfl, by omega, by rw [LX_succ, ← List.append_assoc]; exact hO.out, hB.out⟩
        · have hje : x = W := by omega
          subst hje
          go_wp2
          have hgk := hgk.out
          go_roundg (H - (y + 1))
          case measure => omega
          case rel => exact ⟨y + 1, n, c, q, by omega, rfl, by go_num, rfl, by omega, by rw [LY_succ]; exact hO.out, hB.out⟩
    · have hje : y = H := by omega
      subst hje
      have hlen := hO.out.len
      rw [List.length_map] at hlen
      subst hlen
      go_wp2
      go_ret
      exact ⟨q, c, rfl, hO.out.in, hB.out⟩
end Go.Proofs.Ytfoojdkbonmmgaa
