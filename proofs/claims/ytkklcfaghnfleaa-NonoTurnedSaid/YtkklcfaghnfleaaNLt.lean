/- The law NonoTurned: its walk; no conditions but the arguments' kinds. -/
import Derived.Test.YtkklcfaghnfleaaNLp
import Derived.BigQuiet
namespace Go.Proofs.Ytkklcfaghnfleaa
open Go.RowKit

theorem OwnRows.blk {E B : Nat} {w : World} {q : Option Addr} {n c : Nat} {ls : List (List Int)} (h : OwnRows E B w q n c ls) : ∀ a, q = some a → B ≤ a.block ∧ a.block < w.heap.size := by
  obtain ⟨vs, hO, _⟩ := h
  exact fun a ha => hO.block a ha
theorem OwnRows.mono {E B B' : Nat} {w : World} {q : Option Addr} {n c : Nat} {ls : List (List Int)} (h : OwnRows E B w q n c ls) (hB : B' ≤ B) : OwnRows E B' w q n c ls := by
  obtain ⟨vs, hO, hl, hr⟩ := h
  exact ⟨vs, hO.mono hB, hl, fun i l hi => by
    obtain ⟨p, m, c', h1, h2, h3⟩ := hr i l hi
    exact ⟨p, m, c', h1, h2, fun a ha => ⟨(h3 a ha).1, Nat.le_trans hB (h3 a ha).2.1, (h3 a ha).2.2⟩⟩⟩
set_option maxRecDepth 20000 in
set_option maxHeartbeats 8000000 in
theorem turned_any (wi hi : Int) (rq : Option Addr) (rl rcap : Nat) (xs : List Int) (w : World) (hwi : -9223372036854775808 ≤ wi ∧ wi ≤ 9223372036854775807) (hhi : -9223372036854775808 ≤ hi ∧ hi ≤ 9223372036854775807)
    (hrl : rl ≤ 9223372036854775807) (hxb : ∀ j, j < rl → -9223372036854775808 ≤ xs[j]?.getD 0 ∧ xs[j]?.getD 0 ≤ 9223372036854775807) (hx : IntsIn w rq rl xs) :
    Calls Try.prog 4 #[.int .i64 wi, .int .i64 hi, .slice rq rl rcap] w fun e w' => e = .returned (.bool true) ∧ Below w.heap.size w w' := by
  have PA := Lib.hid (fun W => picked_any wi 5 W hwi.1 hwi.2 (by omega) (by omega) 5 rfl)
  have PB := Lib.hid (fun W => picked_any hi 5 W hhi.1 hhi.2 (by omega) (by omega) 5 rfl)
  have la := pick_lt wi 5 (by omega)
  have lb := pick_lt hi 5 (by omega)
  clear hwi hhi
  obtain ⟨a, ha⟩ : ∃ a, a = pick wi 5 + 1 := ⟨_, rfl⟩
  obtain ⟨b, hb⟩ : ∃ b, b = pick hi 5 + 1 := ⟨_, rfl⟩
  have a1 : (1 : Int) + ((pick wi 5 : Nat) : Int) = (a : Int) := by omega
  have b1 : (1 : Int) + ((pick hi 5 : Nat) : Int) = (b : Int) := by omega
  have ha5 : 1 ≤ a ∧ a ≤ 5 := by omega
  have hb5 : 1 ≤ b ∧ b ≤ 5 := by omega
  clear ha hb la lb
  generalize pick wi 5 = aw at *
  generalize pick hi 5 = bw at *
  obtain ⟨N, hN⟩ : ∃ N, N = a * b := ⟨_, rfl⟩
  have hNb : N = b * a := by rw [hN, Nat.mul_comm]
  have hN25 : N ≤ 25 := by rw [hN]; exact Nat.mul_le_mul ha5.2 hb5.2
  have hN1 : 1 ≤ N := by rw [hN]; exact Nat.mul_le_mul ha5.1 hb5.1
  have HG := Lib.hid (gridr_any a b w (by omega) (by omega) N hN rq rl rcap xs 1 (by omega) hrl hxb hx)
  have hGl := rawG_len xs 1 N
  have hGb := rawG_le xs 1 N
  generalize rawG xs 1 N = G at *
  clear hxb hx hrl
  have hGl' : G.length = b * a := by rw [hGl, hNb]
  have hmul : (a : Int) * (b : Int) = (N : Int) := by rw [hN]; simp
  replace hN := Lib.hid hN; replace hNb := Lib.hid hNb; replace hGl := Lib.hid hGl; replace hGl' := Lib.hid hGl'; replace hGb := Lib.hid hGb
  have hRok := Lib.hid (clR_ok a G (by omega))
  have hCok := Lib.hid (clC_ok a b G (by omega))
  obtain ⟨ha1, ha5⟩ := ha5
  obtain ⟨hb1, hb5⟩ := hb5
  go_enter Try.func4, Try.ntmps4
  go_wp2_with fail
  refine (PA.out _).mono ?_
  rintro e w' ⟨rfl, rfl⟩
  go_wp2_with fail
  refine (PB.out _).mono ?_
  rintro e w' ⟨rfl, rfl⟩
  clear PA PB
  go_wp2_with fail
  refine HG.out.mono ?_
  rintro e W1 ⟨gq, gc, rfl, hO1, hB1⟩
  obtain ⟨gb, rfl, hgb1, hgb2, hgc⟩ := hO1.where (by omega)
  have e2 := heap_alloc_new W1 (.cells #[.int .i64 (a : Int), .int .i64 (b : Int), .slice (some ⟨gb, 0, none⟩) N gc] 33)
  have hB2 : Hid (Below w.heap.size w (W1.alloc (.cells #[.int .i64 (a : Int), .int .i64 (b : Int), .slice (some ⟨gb, 0, none⟩) N gc] 33))) := hB1.alloc hB1.size _
  have hO2 := Lib.hid (hO1.alloc (.cells #[.int .i64 (a : Int), .int .i64 (b : Int), .slice (some ⟨gb, 0, none⟩) N gc] 33))
  clear HG hO1 hB1
  have z1 := heap_alloc_new W1 (.cells #[.int .i64 0, .int .i64 0, .slice none 0 0] 33)
  have y0 : (W1.alloc (.cells #[.int .i64 0, .int .i64 0, .slice none 0 0] 33)).cell? ⟨W1.heap.size, 0, none⟩ = some (.int .i64 0) := wcell (cs := [_, _, _]) z1 0
  have y1 : (W1.alloc (.cells #[.int .i64 0, .int .i64 0, .slice none 0 0] 33)).cell? ⟨W1.heap.size, 1, none⟩ = some (.int .i64 0) := wcell (cs := [_, _, _]) z1 1
  have y2 : (W1.alloc (.cells #[.int .i64 0, .int .i64 0, .slice none 0 0] 33)).cell? ⟨W1.heap.size, 2, none⟩ = some (.slice none 0 0) := wcell (cs := [_, _, _]) z1 2
  have v0 := wfree z1 0
  have v1 := wfree z1 1
  have v2 := wfree z1 2
  replace e2 := Lib.hid e2; replace z1 := Lib.hid z1
  go_upto_region 3 with fail
  clear y0 y1 y2 v0 v1 v2 z1
  generalize W1.alloc (.cells #[.int .i64 (a : Int), .int .i64 (b : Int), .slice (some ⟨gb, 0, none⟩) N gc] 33) = W2 at *
  generalize W1.heap.size = gx at *
  obtain ⟨M, hM⟩ : ∃ M, M = W2.heap.size := ⟨_, rfl⟩
  have hgxM : gx < M := by rw [hM]; exact lt_of_heap e2.out
  have hgbM : gb < M := by rw [hM]; exact (hO2.out.block _ rfl).2
  have HD := Lib.hid (fun W (h : Below M W2 W) => (wcell (cs := [_, _, _]) ((h.block gx hgxM).trans e2.out) 2 : W.cell? ⟨gx, 2, none⟩ = some (.slice (some ⟨gb, 0, none⟩) N gc)))
  have HI := Lib.hid (fun W (h : Below M W2 W) => ((hO2.out.in).below (by rw [← hM]; exact h) : IntsIn W (some ⟨gb, 0, none⟩) N (asI G)))
  have HW := Lib.hid (fun W (h : Below M W2 W) => (hB2.out.trans (h.mono (by rw [hM]; exact hB2.out.size)) : Below w.heap.size w W))
  have HZ := Lib.hid (fun W (h : Below M W2 W) => (by have := h.size; rw [← hM] at this; exact this : M ≤ W.heap.size))
  have HC := Lib.hid (fun W (h : Below M W2 W) i (hi : i < N) => ((HI.out W h).cellN hi : W.cell? ⟨gb, 0 + i, none⟩ = some (.int .i64 (st G i : Nat))))
  have hgcN : Hid (N ≤ gc) := hgc
  clear e2 hO2 hB2 hgb1 hgb2
  replace hM := Lib.hid hM
  go_wp2_with fail
  go_loopg [10, 12] b (fun gk lv yv W' => ∃ (y : Nat) (q : Option Addr) (c : Nat), gk = b - y ∧ y ≤ b ∧ yv = .int .i64 (y : Nat) ∧ lv = .slice q y c ∧ Hid (OwnRows 22 M W' q y c (rowsOf (clR a G) y)) ∧ Hid (Below M W2 W'))
  case atStart => exact ⟨0, none, 0, by omega, by omega, rfl, rfl, OwnRows.nil _ _ _, Below.refl _ _⟩
  case round =>
    obtain ⟨y, q, c, hgk, hy, rfl, rfl, hA, hB⟩ := hrel
    obtain ⟨W3, rfl⟩ : ∃ W3 : World, W3 = wr := ⟨_, rfl⟩
    replace hgk := Lib.hid hgk
    rcases Nat.lt_or_ge y b with hlt | hge
    · have hin : y * a + a ≤ N := by
        rw [hNb.out]
        have := Nat.mul_le_mul_right a (show y + 1 ≤ b from hlt)
        rw [Nat.succ_mul] at this; exact this
      obtain ⟨S, hS⟩ : ∃ S, S = y * a := ⟨_, rfl⟩
      have hSi : (y : Int) * (a : Int) = (S : Int) := by rw [hS]; simp
      have hin3 : Hid (IntsIn W3 (some ⟨gb, S, none⟩) a (asI (rowS a G y))) := by
        refine IntsIn.mk' (by rw [asI_len, rowS_len]) (Nat.lt_of_lt_of_le hgbM (HZ.out W3 hB.out)) fun j hj => ?_
        have := HC.out W3 hB.out (S + j) (by omega)
        rw [Nat.zero_add] at this
        rw [this, asI_at]
        congr 3
        unfold rowS
        rw [hS, st, st, List.getElem?_map, List.getElem?_range hj]; rfl
      rw [← hS] at hin
      have d2 := HD.out W3 hB.out
      have HCl := Lib.hid (fun lc => ClueO_any a lc (some ⟨gb, S, none⟩) (rowS a G y) W3 (by omega) (rowS_le hGb.out a y) hin3.out)
      have hgcn := hgcN.out
      have hSg : S + a ≤ gc := by omega
      replace hS := Lib.hid hS
      go_wp2_with fail
      refine (HCl.out _).mono ?_
      rintro e W4 ⟨p, k, ck, rfl, -, hO4, hb4⟩
      have hB4 := hB.out.trans (hb4.mono (HZ.out W3 hB.out))
      have hA4 := hA.out.keep hb4
      have hZ4 := HZ.out W4 hB4
      have hZ3 := HZ.out W3 hB.out
      have hne : ∀ x, p = some x → q.map (·.block) ≠ some x.block ∧ M ≤ x.block ∧ x.block < W4.heap.size := fun x hx => by
        have h1 := hO4.block x hx
        refine ⟨fun e => ?_, by omega, h1.2⟩
        cases q with
        | none => cases e
        | some z => simp at e; have := (hA.out.blk z rfl).2; omega
      have hin4 := Lib.hid hO4.in
      have hqb : Hid (∀ x, q.map (·.block) = some x → M ≤ x) := fun x hx => by
        cases q with
        | none => cases hx
        | some z => simp at hx; subst hx; exact (hA.out.blk z rfl).1
      have hR4 : Hid (rowsOf (clR a G) (y + 1) = rowsOf (clR a G) y ++ [asI (runs (rowS a G y))]) := rowsOf_succ _ _
      replace hA4 := Lib.hid hA4; replace hne := Lib.hid hne; replace hB4 := Lib.hid hB4
      clear HCl hO4 hb4 hA hB d2 hin3
      go_wp2_with (at_builtin; refine wp_appendRow elS W4 rfl (.tmp 62) (.tmp 64) rfl M q y c (rowsOf (clR a G) y) rfl hA4.out p k ck _ hin4.out hne.out rfl (by omega) hZ4 ?_; intro q5 c5 w5 hA5 hg5 hz5; replace hA5 := Lib.hid hA5; replace hg5 := Lib.hid hg5)
      have hB5 := Lib.hid (hB4.out.grown hg5.out hZ4 hqb.out)
      rw [← hR4.out] at hA5
      have hgk := hgk.out
      go_roundg (b - (y + 1))
      case measure => omega
      case rel => exact ⟨y + 1, q5, c5, rfl, by omega, by go_num, rfl, hA5, hB5⟩
    · obtain rfl : y = b := by omega
      clear hge hgk hy
      go_wp2_with fail
      obtain ⟨M2, hM2⟩ : ∃ M2, M2 = W3.heap.size := ⟨_, rfl⟩
      have hMM : M ≤ M2 := by rw [hM2]; exact HZ.out W3 hB.out
      have HA := Lib.hid (fun W (h : Below M2 W3 W) => (hA.out.keep (by rw [← hM2]; exact h) : OwnRows 22 M W q y c (rowsOf (clR a G) y)))
      have HB3 := Lib.hid (fun W (h : Below M2 W3 W) => (hB.out.trans (h.mono hMM) : Below M W2 W))
      replace hM2 := Lib.hid hM2
      go_loopg [11, 15] a (fun gk lv xv W' => ∃ (x : Nat) (q : Option Addr) (c : Nat), gk = a - x ∧ x ≤ a ∧ xv = .int .i64 (x : Nat) ∧ lv = .slice q x c ∧ Hid (OwnRows 22 M2 W' q x c (rowsOf (clC a y G) x)) ∧ Hid (Below M2 W3 W'))
      case atStart => exact ⟨0, none, 0, by omega, by omega, rfl, rfl, OwnRows.nil _ _ _, Below.refl _ _⟩
      case round =>
        clear hA hB
        obtain ⟨x, q2, c2, hgk, hx, rfl, rfl, hA, hB⟩ := hrel
        obtain ⟨W5, rfl⟩ : ∃ W5 : World, W5 = wr := ⟨_, rfl⟩
        replace hgk := Lib.hid hgk
        rcases Nat.lt_or_ge x a with hlt | hge
        · obtain ⟨M3, hM3⟩ : ∃ M3, M3 = W5.heap.size := ⟨_, rfl⟩
          have hM23 : M2 ≤ M3 := by rw [hM3]; have := hB.out.size; rw [← hM2.out] at this; exact this
          have HB5 := Lib.hid (fun W (h : Below M3 W5 W) => (hB.out.trans (h.mono hM23) : Below M2 W3 W))
          replace hM3 := Lib.hid hM3
          go_wp2_with fail
          go_loopg [16, 17] y (fun gk lv jv W' => ∃ (j : Nat) (q : Option Addr) (c : Nat), gk = y - j ∧ j ≤ y ∧ jv = .int .i64 (j : Nat) ∧ lv = .slice q j c ∧ Hid (Own 3 M3 W' q j c (asI (colS a G x j))) ∧ Hid (Below M3 W5 W'))
          case atStart => exact ⟨0, none, 0, by omega, by omega, rfl, rfl, Own.nil _ _ _, Below.refl _ _⟩
          case round =>
            obtain ⟨j, q3, c3, hgk2, hj, rfl, rfl, hO, hB6⟩ := hrel
            obtain ⟨W6, rfl⟩ : ∃ W6 : World, W6 = wr := ⟨_, rfl⟩
            replace hgk2 := Lib.hid hgk2
            have hBM6 := HB3.out W6 (HB5.out W6 hB6.out)
            have hz6 : M3 ≤ W6.heap.size := by have := hB6.out.size; rw [← hM3.out] at this; exact this
            rcases Nat.lt_or_ge j y with hjl | hjg
            · have hidx : j * a + x < N := by rw [hNb.out]; exact fx_in hjl hlt
              have cc := HC.out W6 hBM6 (j * a + x) hidx
              rw [Nat.zero_add] at cc
              have d2 := HD.out W6 hBM6
              have hsu := Lib.hid (colS_succ a G x j)
              obtain ⟨S, hS⟩ : ∃ S, S = j * a + x := ⟨_, rfl⟩
              obtain ⟨T, hT⟩ : ∃ T, T = j * a := ⟨_, rfl⟩
              have hTi : (j : Int) * (a : Int) = (T : Int) := by rw [hT]; simp
              have hTS : T + x = S := by rw [hT, hS]
              have hSi : (T : Int) + (x : Int) = (S : Int) := by omega
              replace hT := Lib.hid hT; replace hTS := Lib.hid hTS
              rw [← hS] at cc hsu hidx
              generalize st G S = v at *
              have hgcn := hgcN.out
              replace hS := Lib.hid hS
              go_wp2_with (at_builtin; refine wp_append1 intG W6 rfl (.tmp 76) (.tmp 86) rfl M3 q3 j c3 _ rfl hO.out (v : Int) rfl (by omega) hz6 ?_; intro p6 c6 w6 hO7 hg6 hr6 hz6')
              have hB7 := Lib.hid (hB6.out.grown hg6 hz6 (fun x hx => by
                cases q3 with
                | none => cases hx
                | some z => simp at hx; subst hx; exact (hO.out.block z rfl).1))
              rw [← hsu.out] at hO7
              replace hO7 := Lib.hid hO7
              clear hg6 hr6 hz6'
              go_wp2_with fail
              have hgk2 := hgk2.out
              go_roundg (y - (j + 1))
              case measure => omega
              case rel => exact ⟨j + 1, p6, c6, rfl, by omega, by go_num, rfl, hO7, hB7⟩
            · obtain rfl : j = y := by omega
              clear hjg hgk2 hj
              have HCl := Lib.hid (ClueO_any j c3 q3 (colS a G x j) W6 (by omega) (colS_le hGb.out a x j) hO.out.in)
              go_wp2_with fail
              refine HCl.out.mono ?_
              rintro e W7 ⟨p, k, ck, rfl, -, hO7, hb7⟩
              have hB7 := hB6.out.trans (hb7.mono hz6)
              have hB7' := HB5.out W7 hB7
              have hA7 : OwnRows 22 M2 W7 q2 x c2 (rowsOf (clC a j G) x) := hA.out.keep (by rw [← hM3.out]; exact hB7)
              have hz7 : M3 ≤ W7.heap.size := by have := hB7.size; rw [← hM3.out] at this; exact this
              have hne : ∀ z, p = some z → q2.map (·.block) ≠ some z.block ∧ M2 ≤ z.block ∧ z.block < W7.heap.size := fun z hz => by
                have h1 := hO7.block z hz
                refine ⟨fun e => ?_, by omega, h1.2⟩
                cases q2 with
                | none => cases e
                | some z' => simp at e; have := (hA.out.blk z' rfl).2; rw [← hM3.out] at this; omega
              have hin7 := Lib.hid hO7.in
              have hqb : Hid (∀ z, q2.map (·.block) = some z → M2 ≤ z) := fun z hz => by
                cases q2 with
                | none => cases hz
                | some z' => simp at hz; subst hz; exact (hA.out.blk z' rfl).1
              have hR7 : Hid (rowsOf (clC a j G) (x + 1) = rowsOf (clC a j G) x ++ [asI (runs (colS a G x j))]) := rowsOf_succ _ _
              have hz72 : M2 ≤ W7.heap.size := by omega
              replace hA7 := Lib.hid hA7; replace hne := Lib.hid hne; replace hB7' := Lib.hid hB7'
              clear HCl hO7 hb7 hO hB6 hB7 hBM6 hA hB
              go_wp2_with (at_builtin; refine wp_appendRow elS W7 rfl (.tmp 95) (.tmp 97) rfl M2 q2 x c2 (rowsOf (clC a j G) x) rfl hA7.out p k ck _ hin7.out hne.out rfl (by omega) hz72 ?_; intro q5 c5 w5 hA5 hg5 hz5; replace hA5 := Lib.hid hA5; replace hg5 := Lib.hid hg5)
              have hB5 := Lib.hid (hB7'.out.grown hg5.out hz72 hqb.out)
              rw [← hR7.out] at hA5
              have hgk := hgk.out
              go_roundg (a - (x + 1))
              case measure => omega
              case rel => exact ⟨x + 1, q5, c5, rfl, by omega, by go_num, rfl, hA5, hB5⟩
        · obtain rfl : x = a := by omega
          clear hge hgk hx
          have hB5' := hB.out
          have cr := clu_of_rows (R := clR x G) (HA.out W5 hB5') (fun z hz => rowsOf_at _ hz) (fun z _ => (hRok.out z).2)
          have cd := clu_of_rows (R := clC x y G) hA.out (fun z hz => rowsOf_at _ hz) (fun z _ => (hCok.out z).2)
          have hR := Lib.hid (fun z (_ : z < y) => (hRok.out z).1)
          have hC := Lib.hid (fun z (_ : z < x) => (hCok.out z).1)
          have hgood := Lib.hid (own_good hGl'.out hGb.out)
          have HS1 := Lib.hid (Solve_any (rc := c) (cc := c2) cr cd ⟨hb1, by omega⟩ ⟨ha1, by omega⟩ hR.out hC.out)
          have HS2 := Lib.hid (fun W (h : Below W5.heap.size W5 W) => Solve_any (rc := c2) (cc := c) ((cd.below h).mono h.size) ((cr.below h).mono h.size) ⟨ha1, by omega⟩ ⟨hb1, by omega⟩ hC.out hR.out)
          have HP := Lib.hid (fun W (h : Below W5.heap.size W5 W) => Push_any (rc := c) (cc := c2) ((cr.below h).mono h.size) ((cd.below h).mono h.size) ⟨hb1, by omega⟩ ⟨ha1, by omega⟩ hR.out hC.out _ hgood.out)
          have hz5 : M ≤ W5.heap.size := HZ.out W5 (HB3.out W5 hB5')
          have HB5 := Lib.hid (fun W (h : Below W5.heap.size W5 W) => ((HB3.out W5 hB5').trans (h.mono hz5) : Below M W2 W))
          have hpos := law_pos hGl'.out hGb.out
          have htc := turn_cnt y x (clR x G) (clC x y G)
          replace hpos := Lib.hid hpos; replace htc := Lib.hid htc
          clear cr cd hB5' hA hB HA HB3 hz5 hMM hR hC
          go_wp2_with fail
          refine HS1.out.mono ?_
          rintro e W6 ⟨hb6, v1, q1, len1, k1, rfl, hv1, hs1⟩
          have HS2' := Lib.hid (HS2.out W6 hb6)
          replace hb6 := Lib.hid hb6; replace hv1 := Lib.hid hv1; replace hs1 := Lib.hid hs1
          clear HS1 HS2
          go_wp2_with fail
          refine HS2'.out.mono ?_
          rintro e W7 ⟨hb7, v2, q2', len2, k2, rfl, hv2, -⟩
          have hb67 := Lib.hid hb7
          have hb57 := hb6.out.trans (hb7.mono hb6.out.size)
          have HP' := Lib.hid (HP.out W7 hb57)
          obtain rfl : v2 = v1 := by rw [hv2, hv1.out, htc.out]
          replace hb57 := Lib.hid hb57
          clear HS2' HP hb7 hv2
          go_wp2_with fail
          refine HP'.out.mono ?_
          rintro e W8 ⟨hb8, q3, k3, c1, rfl, hS, hL, hin8⟩
          rw [← hNb.out] at hin8 ⊢
          have hb68 : Below W6.heap.size W6 W8 := hb67.out.trans (hb8.mono hb67.out.size)
          have hB8 := Lib.hid (HB5.out W8 (hb57.out.trans (hb8.mono hb57.out.size)))
          have hPat : Hid (∀ i, i < N → (flatI y x c1)[i]?.getD 0 = -1 ∨ (flatI y x c1)[i]?.getD 0 = (st G i : Nat)) := fun i hi => law_at hGl'.out hGb.out hS (by rw [← hNb.out]; exact hi)
          have hone : Hid ((∀ j, j < N → 0 ≤ (flatI y x c1)[j]?.getD 0) → v2 = 1) := fun h => by
            have := law_known hS hL (fun i hi => h i (by rw [hNb.out]; exact hi))
            rw [hv1.out, this]; rfl
          have hv9 : 1 ≤ v2 ∧ v2 ≤ 9 := by have := hpos.out; have := hv1.out; omega
          obtain ⟨pb3, po3, rfl, hpb3, hpc⟩ := hin8.at (by omega)
          replace hpc := Lib.hid hpc; replace hin8 := Lib.hid hin8
          obtain ⟨hv91, hv99⟩ := hv9
          clear HP' hb8 hS hL hb57 hb67 hgood HB5 hRok hCok
          by_cases hv1 : v2 = 1
          · subst hv1
            obtain ⟨hl1, s, hs, hsl, hsi⟩ := hs1.out rfl
            rw [← hNb.out] at hl1 hsi
            subst hl1
            have hsG := law_one hGl'.out hGb.out (by have := hv1.out; omega) hs hsl
            subst hsG
            have HM := Lib.hid (same_any q1 (some ⟨gb, 0, none⟩) len1 k1 len1 gc (asI s) (asI s) W8 (by omega) (hsi.below hb68) (HI.out W8 hB8.out))
            rw [decide_eq_true (rfl : asI s = asI s)] at HM
            have d2 := HD.out W8 hB8.out
            have hz8 : M ≤ W8.heap.size := HZ.out W8 hB8.out
            clear hs hsl hsi hs1 hb68
            go_wp2_with fail
            refine HM.out.mono ?_
            rintro e W9 ⟨rfl, hb9⟩
            have hB9 := Lib.hid (hB8.out.trans (hb9.mono hz8))
            have hpc9 : Hid (∀ j, j < len1 → W9.cell? ⟨pb3, po3 + j, none⟩ = some (.int .i64 ((flatI y x c1)[j]?.getD 0))) := fun j hj => (hb9.cell (p := ⟨pb3, po3 + j, none⟩) hpb3).trans (hpc.out j hj)
            clear HM hb9 d2 hpc
            go_wp2_with fail
            go_loopg [28, 29] len1 (fun gk kv iv W' => ∃ (kb : Bool) (i r : Nat), gk = len1 - i ∧ i ≤ len1 ∧ kv = .bool kb ∧ iv = .int .i64 (i : Nat) ∧ Hid (kb = true → ∀ j, j < i → 0 ≤ (flatI y x c1)[j]?.getD 0) ∧ W' = W9.drewN r)
            case atStart => exact ⟨true, 0, 0, by omega, by omega, rfl, rfl, fun _ j hj => absurd hj (Nat.not_lt_zero _), rfl⟩
            case round =>
              obtain ⟨kb, i, r, hgk, hi, rfl, rfl, hkn, rfl⟩ := hrel
              replace hgk := Lib.hid hgk
              rcases Nat.lt_or_ge i len1 with hlt | hge
              · have p1 := hpc9.out i hlt
                have g1 := HC.out W9 hB9.out i hlt
                rw [Nat.zero_add] at g1
                have d2 := HD.out W9 hB9.out
                rcases hPat.out i hlt with hP | hP
                · rw [hP] at p1
                  generalize st s i = v at *
                  have hgcn := hgcN.out
                  cases kb with
                  | true =>
                    go_wp2_with fail
                    go_quiet (fail)
                    go_wp2_with fail
                    have hgk := hgk.out
                    go_roundg (len1 - (i + 1))
                    case measure => omega
                    case rel => exact ⟨false, i + 1, r + nq, rfl, by omega, rfl, by go_num, (fun h => by cases h), rfl⟩
                  | false =>
                    go_wp2_with fail
                    go_quiet (fail)
                    go_wp2_with fail
                    have hgk := hgk.out
                    go_roundg (len1 - (i + 1))
                    case measure => omega
                    case rel => exact ⟨false, i + 1, r + nq, rfl, by omega, rfl, by go_num, (fun h => by cases h), rfl⟩
                · have hkn2 : Hid (kb = true → ∀ j, j < i + 1 → 0 ≤ (flatI y x c1)[j]?.getD 0) := fun h j hj => by
                    rcases Nat.lt_or_ge j i with h1 | h1
                    · exact hkn.out h j h1
                    · obtain rfl : j = i := by omega
                      rw [hP]; omega
                  rw [hP] at p1
                  generalize st s i = v at *
                  have hv0 : decide ((0 : Int) ≤ (v : Int)) = true := decide_eq_true (by omega)
                  have hgcn := hgcN.out
                  clear hkn
                  cases kb with
                  | true =>
                    have hkn3 := Lib.hid (hkn2.out rfl)
                    clear hkn2
                    go_wp2_with fail
                    go_quiet (fail)
                    go_wp2_with fail
                    have hgk := hgk.out
                    go_roundg (len1 - (i + 1))
                    case measure => omega
                    case rel => exact ⟨true, i + 1, r + nq, rfl, by omega, rfl, by go_num, fun _ => hkn3.out, rfl⟩
                  | false =>
                    clear hkn2
                    go_wp2_with fail
                    go_quiet (fail)
                    go_wp2_with fail
                    have hgk := hgk.out
                    go_roundg (len1 - (i + 1))
                    case measure => omega
                    case rel => exact ⟨false, i + 1, r + nq, rfl, by omega, rfl, by go_num, (fun h => by cases h), rfl⟩
              · obtain rfl : i = len1 := by omega
                cases kb with
                | false =>
                  go_wp2_with fail
                  go_ret
                  exact ⟨rfl, below_drewN (HW.out W9 hB9.out) r⟩
                | true =>
                  go_wp2_with fail
                  go_ret
                  exact ⟨rfl, below_drewN (HW.out W9 hB9.out) r⟩
          · have hvi : ¬ (v2 : Int) = 1 := by omega
            have hvd : decide ((v2 : Int) = 1) = false := decide_eq_false hvi
            have hvb : ((v2 : Int) == 1) = false := by simp; omega
            go_wp2_with fail
            go_loopg [28, 29] N (fun gk kv iv W' => ∃ (kb : Bool) (i r : Nat), gk = N - i ∧ i ≤ N ∧ kv = .bool kb ∧ iv = .int .i64 (i : Nat) ∧ Hid (kb = true → ∀ j, j < i → 0 ≤ (flatI y x c1)[j]?.getD 0) ∧ W' = W8.drewN r)
            case atStart => exact ⟨true, 0, 0, by omega, by omega, rfl, rfl, fun _ j hj => absurd hj (Nat.not_lt_zero _), rfl⟩
            case round =>
              obtain ⟨kb, i, r, hgk, hi, rfl, rfl, hkn, rfl⟩ := hrel
              replace hgk := Lib.hid hgk
              rcases Nat.lt_or_ge i N with hlt | hge
              · have p1 := hpc.out i hlt
                have g1 := HC.out W8 hB8.out i hlt
                rw [Nat.zero_add] at g1
                have d2 := HD.out W8 hB8.out
                rcases hPat.out i hlt with hP | hP
                · rw [hP] at p1
                  generalize st G i = v at *
                  have hgcn := hgcN.out
                  cases kb with
                  | true =>
                    go_wp2_with fail
                    go_quiet (fail)
                    go_wp2_with fail
                    have hgk := hgk.out
                    go_roundg (N - (i + 1))
                    case measure => omega
                    case rel => exact ⟨false, i + 1, r + nq, rfl, by omega, rfl, by go_num, (fun h => by cases h), rfl⟩
                  | false =>
                    go_wp2_with fail
                    go_quiet (fail)
                    go_wp2_with fail
                    have hgk := hgk.out
                    go_roundg (N - (i + 1))
                    case measure => omega
                    case rel => exact ⟨false, i + 1, r + nq, rfl, by omega, rfl, by go_num, (fun h => by cases h), rfl⟩
                · have hkn2 : Hid (kb = true → ∀ j, j < i + 1 → 0 ≤ (flatI y x c1)[j]?.getD 0) := fun h j hj => by
                    rcases Nat.lt_or_ge j i with h1 | h1
                    · exact hkn.out h j h1
                    · obtain rfl : j = i := by omega
                      rw [hP]; omega
                  rw [hP] at p1
                  generalize st G i = v at *
                  have hv0 : decide ((0 : Int) ≤ (v : Int)) = true := decide_eq_true (by omega)
                  have hgcn := hgcN.out
                  clear hkn
                  cases kb with
                  | true =>
                    have hkn3 := Lib.hid (hkn2.out rfl)
                    clear hkn2
                    go_wp2_with fail
                    go_quiet (fail)
                    go_wp2_with fail
                    have hgk := hgk.out
                    go_roundg (N - (i + 1))
                    case measure => omega
                    case rel => exact ⟨true, i + 1, r + nq, rfl, by omega, rfl, by go_num, fun _ => hkn3.out, rfl⟩
                  | false =>
                    clear hkn2
                    go_wp2_with fail
                    go_quiet (fail)
                    go_wp2_with fail
                    have hgk := hgk.out
                    go_roundg (N - (i + 1))
                    case measure => omega
                    case rel => exact ⟨false, i + 1, r + nq, rfl, by omega, rfl, by go_num, (fun h => by cases h), rfl⟩
              · obtain rfl : i = N := by omega
                cases kb with
                | false =>
                  go_wp2_with fail
                  go_ret
                  exact ⟨rfl, below_drewN (HW.out W8 hB8.out) r⟩
                | true =>
                  exact absurd (hone.out (hkn.out rfl)) hv1
end Go.Proofs.Ytkklcfaghnfleaa
