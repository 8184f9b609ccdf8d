/- What othello.turned computes; conditions: a board of 1 to 10 by 1 to 10 places whose signs are 0 to 2, who is 1 or 2, a place of the board. -/
import Derived.Test.YtlhbbkjplecghaaOTurn
namespace Go.Proofs.Ytlhbbkjplecghaa
open Go.RowKit

theorem pl_cast {a b : Nat} {x y : Int} (h : inb a b x y) : y * (a : Int) + x = (pl a x y : Nat) := by
  obtain ⟨h1, h2, h3, h4⟩ := h
  unfold pl
  push_cast
  rw [Int.toNat_of_nonneg h1, Int.toNat_of_nonneg h3]

/-- how many steps are left at most. -/
def room (a b : Nat) (dx dy x y : Int) : Nat := if dx = 1 then (a - 1 - x).toNat else if dx = -1 then x.toNat else if dy = 1 then (b - 1 - y).toNat else y.toNat
theorem room_le (a b : Nat) (dx dy : Int) (x y : Int) (ha : a ≤ 10) (hb : b ≤ 10) (h : inb a b x y) : room a b dx dy x y ≤ 9 := by
  obtain ⟨h1, h2, h3, h4⟩ := h
  unfold room
  split
  · omega
  · split
    · omega
    · split <;> omega
theorem room_less (a b : Nat) (dx dy x y : Int) (i1 : -1 ≤ dx) (i2 : dx ≤ 1) (i3 : -1 ≤ dy) (i4 : dy ≤ 1) (i5 : dx ≠ 0 ∨ dy ≠ 0) (h : inb a b x y) (hk : inb a b (x + dx) (y + dy)) : room a b dx dy (x + dx) (y + dy) + 1 = room a b dx dy x y := by
  obtain ⟨h1, h2, h3, h4⟩ := h
  obtain ⟨k1, k2, k3, k4⟩ := hk
  unfold room
  split
  · omega
  · split
    · omega
    · split <;> omega

set_option maxRecDepth 20000 in
set_option maxHeartbeats 4000000 in
theorem turned_any (q : Option Addr) (n c a b who at0 : Nat) (s : List Nat) (w : World) (ha1 : 1 ≤ a) (ha : a ≤ 10) (hb1 : 1 ≤ b) (hb : b ≤ 10) (hn : n = a * b) (hw1 : 1 ≤ who) (hw2 : who ≤ 2) (hat : at0 < n) (hs : ∀ j, st s j ≤ 2) (hx : IntsIn w q n (asI s)) :
    Calls Try.prog 15 #[.agg #[.int .i64 a, .int .i64 b, .slice q n c], .int .i64 who, .int .i64 at0] w fun e w' => ∃ p c', e = .returned (.slice p (turnedS s a b who at0).length c') ∧ Own 3 w.heap.size w' p (turnedS s a b who at0).length c' (asI (turnedS s a b who at0)) ∧ Below w.heap.size w w' := by
  have hn100 : n ≤ 100 := by rw [hn]; exact Nat.mul_le_mul ha hb
  have e0 := heap_alloc_new w (.cells #[.int .i64 a, .int .i64 b, .slice q n c] 24)
  have hx0 := hx.alloc (.cells #[.int .i64 a, .int .i64 b, .slice q n c] 24)
  have hB0 := Lib.hid ((Below.refl w.heap.size w).alloc (Nat.le_refl _) (.cells #[.int .i64 a, .int .i64 b, .slice q n c] 24))
  have hsz0 : w.heap.size < (w.alloc (.cells #[.int .i64 a, .int .i64 b, .slice q n c] 24)).heap.size := by simp
  obtain ⟨gb, go, rfl, hgb, _⟩ := hx.at (by omega)
  have hT : Hid (turnedS s a b who at0 = if st s at0 = 0 then turnedN s a b who at0 8 else []) := rfl
  have c2 := hx0.cellN hat
  replace hn := Lib.hid hn
  clear hx
  by_cases h0 : st s at0 = 0
  · rw [h0] at c2
    have hT2 : Hid (turnedS s a b who at0 = turnedN s a b who at0 8) := by show _ = _; rw [hT.out, if_pos h0]
    replace h0 := Lib.hid h0
    go_enter Try.func15, Try.ntmps15
    go_wp2_with fail
    generalize w.alloc (.cells #[.int .i64 a, .int .i64 b, .slice (some ⟨gb, go, none⟩) n c] 24) = W at *
    refine (ways_any _).mono ?_
    rintro e w1 ⟨rfl, hB⟩
    have hB1 := Lib.hid (hB0.out.trans (hB.mono hB0.out.size))
    have e1 := Lib.hid ((hB.block _ hsz0).trans e0)
    have hx1 := Lib.hid (hx0.below hB)
    have hsz1 := Nat.lt_of_lt_of_le hsz0 hB.size
    clear hB hB0 e0 hx0 hsz0 c2
    unfold W8
    go_wp2_with fail
    go_loopg [7, 21] 8 (fun gk lv jv W' => ∃ (j k c' : Nat) (p : Option Addr), j ≤ 8 ∧ gk = 8 - j ∧ jv = .int .i64 j ∧ lv = .slice p k c' ∧ Own 3 w1.heap.size W' p k c' (asI (turnedN s a b who at0 j)) ∧ Below w1.heap.size w1 W' ∧ k ≤ 10 * j)
    case atStart => exact ⟨0, 0, 0, none, by omega, by omega, rfl, rfl, Own.nil _ _ _, Below.refl _ _, by omega⟩
    case round =>
      obtain ⟨j, k, c', p, hj, hgk, rfl, rfl, hO, hBr, hkj⟩ := hrel
      obtain ⟨W1, rfl⟩ : ∃ W1 : World, W1 = wr := ⟨_, rfl⟩
      replace hgk := Lib.hid hgk
      by_cases hlt : j < 8
      · have hix := index8 j hlt
        have hj8 : decide ((j : Int) < 8) = true := by simp; omega
        unfold W8 at hix
        obtain ⟨i1, i2, i3, i4, i5⟩ := dir_ok j hlt
        have hdx : Hid (turnedN s a b who at0 (j + 1) = turnedN s a b who at0 j ++ rayL s a b who (dxs j) (dys j) 11 ((at0 % a : Nat) : Int) ((at0 / a : Nat) : Int) []) := rfl
        generalize dxs j = dx at *
        generalize dys j = dy at *
        have eb := Lib.hid ((hBr.block _ hsz1).trans e1.out)
        have hszr := Nat.lt_of_lt_of_le hsz1 hBr.size
        have d0 : W1.cell? ⟨w.heap.size, 0, none⟩ = some (.int .i64 (a : Int)) := wcell (cs := [_, _, _]) eb.out 0
        have hxr := Lib.hid (hx1.out.below hBr)
        replace hO := Lib.hid hO; replace hBr := Lib.hid hBr
        have hrem : (at0 : Int).tmod (a : Int) = ((at0 % a : Nat) : Int) := by rw [Int.tmod_eq_emod_of_nonneg (by omega)]; push_cast; rfl
        have hrem2 : (at0 : Int) % (a : Int) = ((at0 % a : Nat) : Int) := by push_cast; rfl
        have hdiv : (at0 : Int).tdiv (a : Int) = ((at0 / a : Nat) : Int) := by rw [Int.tdiv_eq_ediv_of_nonneg (by omega)]; push_cast; rfl
        have hdiv2 : (at0 : Int) / (a : Int) = ((at0 / a : Nat) : Int) := by push_cast; rfl
        have haz : ((a : Int) == 0) = false := by simp; omega
        have hX : at0 % a < a := Nat.mod_lt _ (by omega)
        have hY : at0 / a < b := by
          have := hn.out
          exact (Nat.div_lt_iff_lt_mul (by omega)).2 (by rw [Nat.mul_comm]; omega)
        generalize at0 % a = X0 at *
        generalize at0 / a = Y0 at *
        go_upto_region 8 with fail
        have eb2 := Lib.hid ((Below.heap_alloc W1 (.cells #[.int .i64 dx, .int .i64 dy] 46) _ hszr).trans eb.out)
        have ed2 := Lib.hid (heap_alloc_new W1 (.cells #[.int .i64 dx, .int .i64 dy] 46))
        have hszd : W1.heap.size < (W1.alloc (.cells #[.int .i64 dx, .int .i64 dy] 46)).heap.size := by simp
        have hB2 := Lib.hid (hBr.out.alloc hBr.out.size (.cells #[.int .i64 dx, .int .i64 dy] 46))
        have hO2 := Lib.hid (show Own 3 w1.heap.size (W1.alloc (.cells #[.int .i64 dx, .int .i64 dy] 46)) p k c' (asI (turnedN s a b who at0 j)) from hO.out.alloc _)
        have hwz1 : w.heap.size < W1.heap.size := hszr
        generalize W1.alloc (.cells #[.int .i64 dx, .int .i64 dy] 46) = W2 at *
        generalize W1.heap.size = bd at *
        clear d0 hO hBr eb hxr
        have d0 : W2.cell? ⟨w.heap.size, 0, none⟩ = some (.int .i64 (a : Int)) := wcell (cs := [_, _, _]) eb2.out 0
        go_wp2_with fail
        go_quiet (fail)
        go_wp2_with fail
        have eb3 : Hid ((W2.drewN nq).heap[w.heap.size]? = some (.cells #[.int .i64 (a : Int), .int .i64 (b : Int), .slice (some ⟨gb, go, none⟩) n c] 24)) := eb2.out
        have ed3 : Hid ((W2.drewN nq).heap[bd]? = some (.cells #[.int .i64 dx, .int .i64 dy] 46)) := ed2.out
        have hszd3 : bd < (W2.drewN nq).heap.size := hszd
        have hB3 := Lib.hid (below_drewN hB2.out nq)
        have hO3 := Lib.hid (show Own 3 w1.heap.size (W2.drewN nq) p k c' (asI (turnedN s a b who at0 j)) from OwnC.below (k := 1) hO2.out (below_drewN (Below.refl W2.heap.size W2) nq) (Nat.le_refl _))
        clear d0 hB2 hO2 eb2 ed2 hszd
        generalize W2.drewN nq = W3 at *
        have hszw : w.heap.size < W3.heap.size := by omega
        go_loopg [7, 10, 11, 12] (room a b dx dy X0 Y0) (fun gk l7 lv xv yv W' => l7 = .slice p k c' ∧ ∃ (f : Nat) (x y : Int) (acc : List Nat) (q10 : Option Addr) (k10 c10 : Nat), inb a b x y ∧ gk = room a b dx dy x y ∧ gk < f ∧ xv = .int .i64 x ∧ yv = .int .i64 y ∧ lv = .slice q10 k10 c10 ∧ Own 3 W3.heap.size W' q10 k10 c10 (asI acc) ∧ rayL s a b who dx dy 11 (X0 : Int) (Y0 : Int) [] = rayL s a b who dx dy f x y acc ∧ Below W3.heap.size W3 W' ∧ acc.length + room a b dx dy x y ≤ 10 ∧ (acc = [] → q10 = none ∧ k10 = 0 ∧ c10 = 0))
        case atStart => exact ⟨rfl, 11, X0, Y0, [], none, 0, 0, by unfold inb; omega, rfl, by have := room_le a b dx dy X0 Y0 ha hb (by unfold inb; omega); omega, rfl, rfl, rfl, Own.nil _ _ _, rfl, Below.refl _ _, by have := room_le a b dx dy X0 Y0 ha hb (by unfold inb; omega); simp; omega, fun _ => ⟨rfl, rfl, rfl⟩⟩
        case round =>
          obtain ⟨rfl, f, x, y, acc, q10, k10, c10, hin, hgk2, hf, rfl, rfl, rfl, hO4, hray, hB4, hal, hnil⟩ := hrel
          obtain ⟨W4, rfl⟩ : ∃ W4 : World, W4 = wr := ⟨_, rfl⟩
          obtain ⟨f, rfl⟩ : ∃ f1, f = f1 + 1 := ⟨f - 1, by omega⟩
          have hb3 := (hB4.block _ hszw).trans eb3.out
          have d0 : W4.cell? ⟨w.heap.size, 0, none⟩ = some (.int .i64 (a : Int)) := wcell (cs := [_, _, _]) hb3 0
          have d1 : W4.cell? ⟨w.heap.size, 1, none⟩ = some (.int .i64 (b : Int)) := wcell (cs := [_, _, _]) hb3 1
          have d2 : W4.cell? ⟨w.heap.size, 2, none⟩ = some (.slice (some ⟨gb, go, none⟩) n c) := wcell (cs := [_, _, _]) hb3 2
          have hd3 := (hB4.block _ hszd3).trans ed3.out
          have g0 : W4.cell? ⟨bd, 0, none⟩ = some (.int .i64 dx) := wcell (cs := [_, _]) hd3 0
          have g1 : W4.cell? ⟨bd, 1, none⟩ = some (.int .i64 dy) := wcell (cs := [_, _]) hd3 1
          obtain ⟨u1, u2, u3, u4⟩ := hin
          have w1' : IntKind.i64.wrap (x + dx) = x + dx := IntWalk.i64_in _ (by omega)
          have w2' : IntKind.i64.wrap (y + dy) = y + dy := IntWalk.i64_in _ (by omega)
          have hroom := Lib.hid (fun h => room_less a b dx dy x y i1 i2 i3 i4 i5 ⟨u1, u2, u3, u4⟩ h)
          conv at hray => rhs; rw [rayL]
          replace hgk2 := Lib.hid hgk2; replace hray := Lib.hid hray; replace hO4 := Lib.hid hO4; replace hB4 := Lib.hid hB4; replace hb3 := Lib.hid hb3; replace hd3 := Lib.hid hd3; replace hal := Lib.hid hal; replace hnil := Lib.hid hnil
          go_wp2_with fail
          go_quiet (fail)
          have hb5 : Hid ((W4.drewN nq).heap[w.heap.size]? = some (.cells #[.int .i64 (a : Int), .int .i64 (b : Int), .slice (some ⟨gb, go, none⟩) n c] 24)) := hb3.out
          have hB5 := Lib.hid (below_drewN hB4.out nq)
          have hO5 := Lib.hid (show Own 3 W3.heap.size (W4.drewN nq) q10 k10 c10 (asI acc) from OwnC.below (k := 1) hO4.out (below_drewN (Below.refl W4.heap.size W4) nq) (Nat.le_refl _))
          clear hb3 hd3 hB4 hO4 d0 d1 d2 g0 g1
          generalize W4.drewN nq = W5 at *
          have d0 : W5.cell? ⟨w.heap.size, 0, none⟩ = some (.int .i64 (a : Int)) := wcell (cs := [_, _, _]) hb5.out 0
          have d1 : W5.cell? ⟨w.heap.size, 1, none⟩ = some (.int .i64 (b : Int)) := wcell (cs := [_, _, _]) hb5.out 1
          have d2 : W5.cell? ⟨w.heap.size, 2, none⟩ = some (.slice (some ⟨gb, go, none⟩) n c) := wcell (cs := [_, _, _]) hb5.out 2
          have hB6 := Lib.hid (hB3.out.trans (hB5.out.mono hB3.out.size))
          have hO6 := Lib.hid (OwnC.below (k := 1) hO3.out hB5.out (Nat.le_refl _))
          have hx5 := Lib.hid (hx1.out.below hB6.out)
          have hlb : -1 ≤ x + dx ∧ x + dx ≤ a ∧ -1 ≤ y + dy ∧ y + dy ≤ b := by omega
          generalize x + dx = x2 at *
          generalize y + dy = y2 at *
          obtain ⟨l1, l2, l3, l4⟩ := hlb
          clear w1' w2'
          by_cases hin : inb a b x2 y2
          · obtain ⟨v1, v2, v3, v4⟩ := id hin
            have hlt1 := Lib.hid (pl_lt hin)
            have hpc := pl_cast hin
            have hroom2 := hroom.out hin
            have hyn : ∃ m : Nat, y2 * (a : Int) = m ∧ m ≤ 100 := by
              obtain ⟨yn, rfl⟩ : ∃ yn : Nat, y2 = yn := ⟨y2.toNat, by omega⟩
              exact ⟨yn * a, by push_cast; rfl, Nat.le_trans (Nat.mul_le_mul (show yn ≤ 10 by omega) ha) (by omega)⟩
            obtain ⟨m, hm1, hm2⟩ := hyn
            rw [hm1] at hpc
            have hcell := hx5.out.cellN (i := pl a x2 y2) (by rw [hn.out]; exact hlt1.out)
            have hray2 := Lib.hid (hray.out.trans (if_pos hin))
            have hlt2 : pl a x2 y2 < n := by rw [hn.out]; exact hlt1.out
            generalize pl a x2 y2 = P at *
            have hsP := hs P
            generalize st s P = v at *
            replace hin := Lib.hid hin
            by_cases hv1 : v = 3 - who
            · have z1 : ((v : Int) == 3 - (who : Int)) = true := by simp; omega
              have hray3 := Lib.hid (hray2.out.trans (if_pos hv1))
              have hk10 : k10 = acc.length := by have := hO5.out.len; rw [asI_len] at this; omega
              have hz5 : W3.heap.size ≤ W5.heap.size := hB5.out.size
              replace hv1 := Lib.hid hv1
              replace hk10 := Lib.hid hk10
              have hk10b : k10 ≤ 20 := by have := hk10.out; have := hal.out; omega
              go_wp2_with (at_builtin; refine wp_append1 intG W5 rfl (.tmp 72) (.tmp 74) rfl W3.heap.size q10 k10 c10 (asI acc) rfl hO5.out (P : Int) rfl ?_ hz5 ?_; (omega); intro p6 c6 w6 hO7 hg6 hr6 hz6)
              have hB7 := Lib.hid (hB5.out.grown hg6 hz5 (fun x hx => by
                cases q10 with
                | none => cases hx
                | some y => simp at hx; subst hx; exact (hO5.out.block y rfl).1))
              have e7 : asI acc ++ [(P : Int)] = asI (acc ++ [P]) := by simp [asI]
              rw [e7] at hO7
              replace hO7 := Lib.hid hO7
              clear hg6 hr6 hz6 e7
              go_wp2_with fail
              go_roundg (room a b dx dy x2 y2)
              case measure => have := hgk2.out; omega
              case rel => exact ⟨rfl, f, x2, y2, acc ++ [P], p6, k10 + 1, c6, hin.out, rfl, by have := hgk2.out; omega, rfl, rfl, rfl, hO7.out, hray3.out, hB7.out, by simp; have := hal.out; omega, fun h => by simp at h⟩
            · by_cases hv2 : v = who
              · have hnew : Hid (turnedN s a b who at0 (j + 1) = turnedN s a b who at0 j ++ acc) := by
                  show _ = _
                  rw [hdx.out, hray2.out, if_neg hv1, if_pos hv2]
                have z1 : ((v : Int) == 3 - (who : Int)) = false := by simp; omega
                have z2 : ((v : Int) == (who : Int)) = true := by simp; omega
                have hz5 : w1.heap.size ≤ W5.heap.size := hB6.out.size
                have hkl : k ≤ 80 := by omega
                replace hv1 := Lib.hid hv1; replace hv2 := Lib.hid hv2
                by_cases hac : acc = []
                · obtain ⟨rfl, rfl, rfl⟩ := hnil.out hac
                  obtain ⟨i0, hi, hz0, hz1, hz2⟩ := info_parts intG.info
                  have hnew2 : Hid (turnedN s a b who at0 (j + 1) = turnedN s a b who at0 j) := by show _ = _; rw [hnew.out, hac, List.append_nil]
                  replace hi := Lib.hid hi; replace hz0 := Lib.hid hz0; replace hz1 := Lib.hid hz1; replace hz2 := Lib.hid hz2; replace hac := Lib.hid hac
                  go_wp2_with (at_builtin; refine wpList_append_own_none rfl (.tmp 83) (.tmp 84) 22 rfl w1.heap.size 3 i0 1 intG.under hi.out (.slice p k c') k _ rfl hO6.out rfl ?_)
                  have hgk := hgk.out
                  go_roundg (8 - (j + 1))
                  case measure => omega
                  case rel => exact ⟨j + 1, k, c', p, by omega, rfl, by go_num, rfl, by rw [hnew2.out]; exact hO6.out, hB6.out, by omega⟩
                · have hk10 : k10 = acc.length := by have := hO5.out.len; rw [asI_len] at this; omega
                  have hpos : 0 < acc.length := List.length_pos_iff.2 hac
                  have hk0 : 0 < k10 := by omega
                  obtain ⟨g10, rfl, hg10a, hg10b, _⟩ := OwnC.where (k := 1) hO5.out hk0
                  have hin10 := Lib.hid hO5.out.in
                  replace hk10 := Lib.hid hk10; replace hac := Lib.hid hac; replace hpos := Lib.hid hpos
                  have hk10b : k10 ≤ 20 := by have := hk10.out; have := hal.out; omega
                  go_wp2_with (at_builtin; refine wp_appendL intG W5 rfl (.tmp 83) (.tmp 84) rfl w1.heap.size p k c' _ rfl hO6.out ⟨g10, 0, none⟩ k10 c10 (asI acc) rfl hin10.out ?_ hz5 ?_; (omega); intro p6 c6 w6 hO7 hg6 hr6 hz6)
                  have hB7 : Below w1.heap.size w1 w6 := hB6.out.grown hg6 hz5 (fun x hx => by
                    cases p with
                    | none => cases hx
                    | some y => simp at hx; subst hx; exact (hO6.out.block y rfl).1)
                  rw [← asI_app, ← hnew.out] at hO7
                  replace hO7 := Lib.hid hO7; replace hB7 := Lib.hid hB7
                  clear hg6 hr6 hz6
                  go_wp2_with fail
                  have hgk := hgk.out
                  go_roundg (8 - (j + 1))
                  case measure => omega
                  case rel => exact ⟨j + 1, k + k10, c6, p6, by omega, rfl, by go_num, rfl, hO7.out, hB7.out, by have := hal.out; have := hk10.out; omega⟩
              · have hnone : Hid (turnedN s a b who at0 (j + 1) = turnedN s a b who at0 j) := by
                  show _ = _
                  rw [hdx.out, hray2.out, if_neg hv1, if_neg hv2, List.append_nil]
                have z1 : ((v : Int) == 3 - (who : Int)) = false := by simp; omega
                have z2 : ((v : Int) == (who : Int)) = false := by simp; omega
                replace hv1 := Lib.hid hv1; replace hv2 := Lib.hid hv2
                go_wp2_with fail
                have hgk := hgk.out
                go_roundg (8 - (j + 1))
                case measure => omega
                case rel => exact ⟨j + 1, k, c', p, by omega, rfl, by go_num, rfl, by rw [hnone.out]; exact hO6.out, hB6.out, by omega⟩
          · have hnone : Hid (turnedN s a b who at0 (j + 1) = turnedN s a b who at0 j) := by
              show _ = _
              rw [hdx.out, hray.out, if_neg hin, List.append_nil]
            have hcase : x2 < 0 ∨ ((0 ≤ x2 ∧ (a : Int) ≤ x2) ∨ ((0 ≤ x2 ∧ x2 < a ∧ y2 < 0) ∨ (0 ≤ x2 ∧ x2 < a ∧ 0 ≤ y2 ∧ (b : Int) ≤ y2))) := by unfold inb at hin; omega
            replace hin := Lib.hid hin
            rcases hcase with h | ⟨h, h'⟩ | ⟨h, h', h''⟩ | ⟨h, h', h'', h3⟩
            all_goals
              go_wp2_with fail
              have hgk := hgk.out
              go_roundg (8 - (j + 1))
              case measure => omega
              case rel => exact ⟨j + 1, k, c', p, by omega, rfl, by go_num, rfl, by rw [hnone.out]; exact hO6.out, hB6.out, by omega⟩
      · obtain rfl : j = 8 := by omega
        have hO8 := Lib.hid (OwnC.mono (k := 1) hO (Nat.le_of_lt hsz1))
        have hkl : k = (turnedS s a b who at0).length := by rw [hT2.out]; have := hO.len; rw [asI_len] at this; omega
        have hBB := Lib.hid (hB1.out.trans (hBr.mono hB1.out.size))
        replace hkl := Lib.hid hkl; replace hO := Lib.hid hO
        go_wp2_with fail
        go_ret
        exact ⟨p, c', by rw [← hkl.out]; rfl, by rw [← hkl.out, hT2.out]; exact hO8.out, hBB.out⟩
  · have hT2 : Hid (turnedS s a b who at0 = []) := by show _ = _; rw [hT.out, if_neg h0]
    have z1 : (((st s at0 : Nat) : Int) != 0) = true := by simp; omega
    replace h0 := Lib.hid h0
    go_enter Try.func15, Try.ntmps15
    go_wp2_with fail
    go_ret
    exact ⟨none, 0, by rw [hT2.out]; rfl, by rw [hT2.out]; exact Own.nil _ _ _, hB0.out⟩
end Go.Proofs.Ytlhbbkjplecghaa
