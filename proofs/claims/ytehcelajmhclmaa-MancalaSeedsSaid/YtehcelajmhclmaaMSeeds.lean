/- What gameroomkeep.MancalaSeeds computes; conditions: the numbers fit their kind. -/
import Derived.Test.YtehcelajmhclmaaMSowT
namespace Go.Proofs.Ytehcelajmhclmaa
open Go.RowKit

theorem eq_cast (a b : Nat) : ∃ z : Bool, ((a : Int) == (b : Int)) = z ∧ decide (a = b) = z := by
  by_cases h : a = b
  · exact ⟨true, by simp [h], by simp [h]⟩
  · exact ⟨false, by simp; omega, by simp [h]⟩
/-- the board that Sow told in a round, and what it told besides. -/
def OutB (W : World) (n P u : Nat) (S : Nat) (v va ve : Value) (wx : World) : Prop := Below W.heap.size W wx ∧ ∃ b er, v = .pointer (some ⟨b, 0, none⟩) ∧ ve = .int .i64 er ∧
  (((er = 9 ∨ er = 10) ∧ ∃ ag, va = .bool ag) ∨ (er = 0 ∧ ∃ (q : Option Addr) (c u2 : Nat) (s : List Nat), W.heap.size ≤ b ∧ wx.heap[b]? = some (.cells #[.slice q n c, .int .i64 (u2 : Int)] 24) ∧ IntsIn wx q n (asI s) ∧ s.sum = S ∧ s.length = 2 * P + 2 ∧ u2 ≤ 1 ∧ va = .bool (decide (u2 = u))))
theorem outB_bad_new {W w6 : World} {n P u S : Nat} {er : Int} {ag : Bool} {o : Obj} (h : er = 9 ∨ er = 10) (hB : Below W.heap.size W w6) : OutB W n P u S (.pointer (some ⟨w6.heap.size, 0, none⟩)) (.bool ag) (.int .i64 er) (w6.alloc o) :=
  ⟨hB.alloc hB.size _, _, er, rfl, rfl, .inl ⟨h, ag, rfl⟩⟩
theorem outB_bad_set {W w6 : World} {n P u S : Nat} {er : Int} {ag : Bool} {x y : Value} (h : er = 9 ∨ er = 10) (hB : Below W.heap.size W w6) : OutB W n P u S (.pointer (some ⟨W.heap.size, 0, none⟩)) (.bool ag) (.int .i64 er) ((w6.setCell ⟨W.heap.size, 0, none⟩ x).setCell ⟨W.heap.size, 1, none⟩ y) :=
  ⟨(hB.setCell (p := ⟨W.heap.size, 0, none⟩) (Nat.le_refl _) _).setCell (p := ⟨W.heap.size, 1, none⟩) (Nat.le_refl _) _, _, er, rfl, rfl, .inl ⟨h, ag, rfl⟩⟩
theorem outB_new {W w6 : World} {n P u u2 S c6 : Nat} {s : List Nat} {q6 : Option Addr} {ag : Bool} {U : Int} (hU : U = u2) (ha : ag = decide (u2 = u)) (hx : IntsIn w6 q6 n (asI s)) (hs : s.sum = S) (hl : s.length = 2 * P + 2) (hu : u2 ≤ 1) (hB : Below W.heap.size W w6) :
    OutB W n P u S (.pointer (some ⟨w6.heap.size, 0, none⟩)) (.bool ag) (.int .i64 0) (w6.alloc (.cells #[.slice q6 n c6, .int .i64 U] 24)) := by
  subst hU; subst ha
  exact ⟨hB.alloc hB.size _, _, 0, rfl, rfl, .inr ⟨rfl, q6, c6, u2, s, hB.size, heap_alloc_new w6 _, hx.alloc _, hs, hl, hu, rfl⟩⟩
theorem outB_set {W w6 : World} {n P u u2 S c6 : Nat} {s : List Nat} {q6 : Option Addr} {ag : Bool} {U : Int} (hU : U = u2) (ha : ag = decide (u2 = u)) (hx : IntsIn w6 q6 n (asI s)) (hs : s.sum = S) (hl : s.length = 2 * P + 2) (hu : u2 ≤ 1) (hB : Below W.heap.size W w6)
    (h8 : w6.heap[W.heap.size]? = some (.cells #[.slice none 0 0, .int .i64 0] 24)) (hn : 3 ≤ n) :
    OutB W n P u S (.pointer (some ⟨W.heap.size, 0, none⟩)) (.bool ag) (.int .i64 0) ((w6.setCell ⟨W.heap.size, 0, none⟩ (.slice q6 n c6)).setCell ⟨W.heap.size, 1, none⟩ (.int .i64 U)) := by
  subst hU; subst ha
  obtain ⟨b, p, c, e, h1, h2, h3, h4⟩ := out_set (u := u2) (c6 := c6) hx hB h8 hn
  cases e
  refine ⟨h4, _, 0, rfl, rfl, .inr ⟨rfl, q6, c6, u2, s, h3, ?_, ?_, hs, hl, hu, rfl⟩⟩
  · simpa using wset (wset h8 0 (.slice q6 n c6)) 1 (.int .i64 (u2 : Int))
  · have hne := ints_ne_box hx hn h8
    exact hx.keep (by simp [World.setCell]) fun b o e => by rw [wset_ne _ _ (hne b o e), wset_ne _ _ (hne b o e)]

set_option maxRecDepth 100000 in
set_option maxHeartbeats 8000000 in
theorem seeds_any (a1 a2 : Int) (p : Option Addr) (m cp : Nat) (xs : List Int) (w : World) (hm : m ≤ 9223372036854775807) (ha1 : -9223372036854775808 ≤ a1) (ha1' : a1 ≤ 9223372036854775807) (ha2 : -9223372036854775808 ≤ a2) (ha2' : a2 ≤ 9223372036854775807)
    (hx : IntsIn w p m xs) (hxb : ∀ j, j < m → -9223372036854775808 ≤ xs[j]?.getD 0 ∧ xs[j]?.getD 0 ≤ 9223372036854775807) :
    Calls Try.prog 4 #[.int .i64 a1, .int .i64 a2, .slice p m cp] w fun e w' => e = .returned (.bool true) ∧ Below w.heap.size w w' := by
  have HP1 := Lib.hid (picked_any a1 6 w ha1 ha1' (by omega) (by omega) 6 (Lib.hid rfl))
  have HP2 := Lib.hid (picked_any a2 11 w ha2 ha2' (by omega) (by omega) 11 (Lib.hid rfl))
  have p1 := pick_lt a1 6 (by omega)
  have p2 := pick_lt a2 11 (by omega)
  obtain ⟨P, hP⟩ : ∃ P, 1 + pick a1 6 = P := ⟨_, rfl⟩
  have hPi : 1 + ((pick a1 6 : Nat) : Int) = (P : Int) := by omega
  have hP1 : 1 ≤ P := by omega
  have hP6 : P ≤ 6 := by omega
  generalize pick a1 6 = k1 at *
  generalize pick a2 11 = k at *
  have HN := Lib.hid (new_any P k w hP1 hP6 (by omega))
  replace hP := Lib.hid hP
  replace hxb := Lib.hid hxb
  go_enter Try.func4, Try.ntmps4
  go_wp2_with fail
  refine HP1.out.mono ?_
  rintro e w' ⟨rfl, rfl⟩
  go_wp2_with fail
  refine HP2.out.mono ?_
  rintro e w' ⟨rfl, rfl⟩
  go_wp2_with fail
  refine HN.out.mono ?_
  rintro e w1 ⟨q, c, rfl, hq, hB⟩
  have hq1 := hq.alloc (.cells #[.slice q (2 * P + 2) c, .int .i64 0] 24)
  have e1 := heap_alloc_new w1 (.cells #[.slice q (2 * P + 2) c, .int .i64 0] 24)
  have hB1 := Lib.hid (hB.alloc hB.size (.cells #[.slice q (2 * P + 2) c, .int .i64 0] 24))
  have hb91 : w.heap.size ≤ w1.heap.size := hB.size
  have hsz1 : w1.heap.size < (w1.alloc (.cells #[.slice q (2 * P + 2) c, .int .i64 0] 24)).heap.size := by simp
  have hpk : 2 * P * k ≤ 120 := by
    have h1 := Nat.mul_le_mul (Nat.mul_le_mul_left 2 hP6) (show k ≤ 10 by omega)
    omega
  have hmt : mayF (asI (newL P k)) 0 = true := by
    have h1 : mayGo (asI (newL P k)) 1000 = true := by simpa using mayGo_of (newL P k) 1000 (by rw [newL_sum]; omega)
    unfold mayF; rw [h1, asI_len, newL_len, decide_eq_true (by omega)]; rfl
  have HM := may_any q (2 * P + 2) c 0 (asI (newL P k)) (w1.alloc (.cells #[.slice q (2 * P + 2) c, .int .i64 0] 24)) (by omega) (by omega) (by omega) hq1
  rw [hmt] at HM
  replace HM := Lib.hid HM
  clear hB hq HN HP1 HP2 hmt
  go_wp2_with fail
  generalize w1.alloc (.cells #[.slice q (2 * P + 2) c, .int .i64 0] 24) = W1 at *
  generalize w1.heap.size = b9 at *
  refine HM.out.mono ?_
  rintro e w2 ⟨rfl, hB⟩
  have hB2 := Lib.hid (hB1.out.trans (hB.mono hB1.out.size))
  have e2 := Lib.hid ((hB.block _ hsz1).trans e1)
  have hq2 := Lib.hid (hq1.below hB)
  have hsz2 := Nat.lt_of_lt_of_le hsz1 hB.size
  clear hB hB1 e1 hq1 hsz1 HM
  obtain ⟨n, hn⟩ : ∃ n, 2 * P + 2 = n := ⟨_, rfl⟩
  rw [hn] at e2 hq2
  replace hx := Lib.hid hx
  obtain ⟨S, hS⟩ : ∃ S, 2 * P * k = S := ⟨_, rfl⟩
  have hSi : 2 * (P : Int) * (k : Int) = (S : Int) := by rw [← hS]; push_cast; rfl
  rw [hS] at hpk
  have hS0 := Lib.hid (newL_sum P k)
  have hl0 := Lib.hid (newL_len P k)
  have hk10 : k ≤ 10 := by omega
  replace hn := Lib.hid hn; replace hS := Lib.hid hS
  go_wp2_with fail
  go_loopg [11] m (fun gk iv W' => ∃ (j : Nat) (q : Option Addr) (c u : Nat) (s : List Nat), j ≤ m ∧ gk = m - j ∧ iv = .int .i64 j ∧ W'.heap[b9]? = some (.cells #[.slice q n c, .int .i64 (u : Int)] 24) ∧ IntsIn W' q n (asI s) ∧ s.sum = S ∧ s.length = 2 * P + 2 ∧ u ≤ 1 ∧ Below w.heap.size w W')
  case atStart => exact ⟨0, q, c, 0, newL P k, by omega, by omega, rfl, e2.out, hq2.out, by rw [hS0.out, hS.out], hl0.out, by omega, hB2.out⟩
  case round =>
    clear e2 hq2 hB2 hsz2 hS0 hl0
    obtain ⟨j, q, c, u, s, hj, hgk, rfl, e9, hq, hsum, hlen, hu, hBr⟩ := hrel
    obtain ⟨W3, rfl⟩ : ∃ W3 : World, W3 = wr := ⟨_, rfl⟩
    replace hgk := Lib.hid hgk
    by_cases hlt : j < m ∧ j < 40
    · obtain ⟨hlt, hj40⟩ := hlt
      obtain ⟨lb, lo, rfl, hlb, hc⟩ := hx.out.at (by omega)
      have hlb3 : lb < W3.heap.size := Nat.lt_of_lt_of_le hlb hBr.size
      have d2 := (hBr.cell (p := ⟨lb, lo + j, none⟩) hlb).trans (hc j hlt)
      obtain ⟨x1, x2⟩ := hxb.out j hlt
      clear hc
      have d0 : W3.cell? ⟨b9, 0, none⟩ = some (.slice q n c) := wcell (cs := [_, _]) e9 0
      have d1 : W3.cell? ⟨b9, 1, none⟩ = some (.int .i64 (u : Int)) := wcell (cs := [_, _]) e9 1
      have hb9 : b9 < W3.heap.size := lt_of_heap e9
      have HP := Lib.hid (fun W => picked_any (xs[j]?.getD 0) P W x1 x2 hP1 (by omega) (P : Int) (Lib.hid rfl))
      have hpl := pick_lt (xs[j]?.getD 0) P hP1
      have HT := Lib.hid (fun W (h : Below W3.heap.size W3 W) => sowT_any q n c P u (pick (xs[j]?.getD 0) P) s W hP1 hP6 hn.out.symm hu (by omega) hpl (hq.below h))
      generalize pick (xs[j]?.getD 0) P = pit at *
      replace e9 := Lib.hid e9; replace hq := Lib.hid hq; replace hBr := Lib.hid hBr; replace hsum := Lib.hid hsum; replace hlen := Lib.hid hlen
      go_wp2_with fail
      go_upto_region 9 with fail
      go_cut [12, 13, 14] (fun v va ve wx => OutB W3 n P u S v va ve wx)
      case first =>
        by_cases hbad : overS (turnL s P u) P = true ∨ st (turnL s P u) pit = 0
        · obtain ⟨er, her, HR⟩ : ∃ er : Int, (er = 9 ∨ er = 10) ∧ ∀ W w' e, SowPost n P u pit (turnL s P u) W e w' → e = .returned (.tuple #[.agg #[.slice none 0 0, .int .i64 0], .bool false, .int .i64 er]) ∧ Below W.heap.size W w' := by
            cases ho : overS (turnL s P u) P with
            | true =>
              refine ⟨9, .inl rfl, ?_⟩
              rintro W w' e ⟨hb, ⟨_, h⟩ | ⟨h, _⟩ | ⟨h, _⟩⟩
              · exact ⟨h, hb⟩
              · rw [ho] at h; cases h
              · rw [ho] at h; cases h
            | false =>
              rw [ho] at hbad
              have h0 : st (turnL s P u) pit = 0 := by simpa using hbad
              refine ⟨10, .inr rfl, ?_⟩
              rintro W w' e ⟨hb, ⟨h, _⟩ | ⟨_, _, h⟩ | ⟨_, h, _⟩⟩
              · rw [ho] at h; cases h
              · exact ⟨h, hb⟩
              · exact absurd h0 h
          have HS2 : Hid (∀ W : World, Below W3.heap.size W3 W → Calls Try.prog 10 #[.agg #[.slice q n c, .int .i64 u], .int .i64 pit] W fun e w' => e = .returned (.tuple #[.agg #[.slice none 0 0, .int .i64 0], .bool false, .int .i64 er]) ∧ Below W3.heap.size W3 w') := fun W h =>
            (HT.out W h).mono fun e w' hh => ⟨(HR W w' e hh).1, h.trans ((HR W w' e hh).2.mono h.size)⟩
          have HS1 : Hid (∀ W : World, Below W3.heap.size W3 W → W.heap[W3.heap.size]? = some (.cells #[.slice none 0 0, .int .i64 0] 24) → Calls Try.prog 10 #[.agg #[.slice q n c, .int .i64 u], .int .i64 pit] W fun e w' => e = .returned (.tuple #[.agg #[.slice none 0 0, .int .i64 0], .bool false, .int .i64 er]) ∧ Below W3.heap.size W3 w' ∧ w'.heap[W3.heap.size]? = some (.cells #[.slice none 0 0, .int .i64 0] 24)) := fun W h h8 =>
            (HT.out W h).mono fun e w' hh => ⟨(HR W w' e hh).1, h.trans ((HR W w' e hh).2.mono h.size), ((HR W w' e hh).2.block _ (lt_of_heap h8)).trans h8⟩
          replace her := Lib.hid her
          clear HR HT hbad
          go_region_held3 (fun w' => w'.cell? ⟨b9, 0, none⟩ = some (.slice q n c) ∧ w'.cell? ⟨b9, 1, none⟩ = some (.int .i64 (u : Int)) ∧ w'.cell? ⟨lb, lo + j, none⟩ = some (.int .i64 (xs[j]?.getD 0))) (first | exact ⟨d0', d1', d2'⟩ | exact ⟨(cell2_ne _ (Nat.ne_of_lt hb9) _ _ _).trans d0', (cell2_ne _ (Nat.ne_of_lt hb9) _ _ _).trans d1', (cell2_ne _ (Nat.ne_of_lt hlb3) _ _ _).trans d2'⟩ | exact ⟨d0, d1, d2⟩ | go_keep)
            (first
            | (go_at_call 8; refine (HP.out _).mono ?_; rintro e w' ⟨rfl, rfl⟩)
            | (go_at_call 10; refine (HS1.out _ ?_ ?_).mono ?_; (first | exact Below.refl _ _ | exact below_drewN (Below.refl _ _) 1 | exact (below_drewN (Below.refl _ _) 1).alloc (Nat.le_refl _) _ | exact below_drewN ((Below.refl _ _).alloc (Nat.le_refl _) _) 1); (first | exact heap_alloc_new W3 _ | exact heap_alloc_new W3.drew _); rintro e w6 ⟨rfl, hB6, x8⟩; have d0' : w6.cell? ⟨b9, 0, none⟩ = some (.slice q n c) := wcell (cs := [_, _]) ((hB6.block _ hb9).trans e9.out) 0; have d1' : w6.cell? ⟨b9, 1, none⟩ = some (.int .i64 (u : Int)) := wcell (cs := [_, _]) ((hB6.block _ hb9).trans e9.out) 1; have d2' : w6.cell? ⟨lb, lo + j, none⟩ = some (.int .i64 (xs[j]?.getD 0)) := (hB6.cell (p := ⟨lb, lo + j, none⟩) hlb3).trans d2; have hs56 := Lib.hid hB6.size; replace hB6 := Lib.hid hB6; have y0 : w6.cell? ⟨W3.heap.size, 0, none⟩ = some (.slice none 0 0) := wcell (cs := [_, _]) x8 0; have y1 : w6.cell? ⟨W3.heap.size, 1, none⟩ = some (.int .i64 0) := wcell (cs := [_, _]) x8 1; have f0' : w6.frozen? ⟨W3.heap.size, 0, none⟩ = false := wfree x8 0; have f1' : w6.frozen? ⟨W3.heap.size, 1, none⟩ = false := wfree x8 1; replace x8 := Lib.hid x8)
            | (go_at_call 10; refine (HS2.out _ ?_).mono ?_; (first | exact Below.refl _ _ | exact below_drewN (Below.refl _ _) 1 | exact (below_drewN (Below.refl _ _) 1).alloc (Nat.le_refl _) _ | exact below_drewN ((Below.refl _ _).alloc (Nat.le_refl _) _) 1); rintro e w6 ⟨rfl, hB6⟩; have d0' : w6.cell? ⟨b9, 0, none⟩ = some (.slice q n c) := wcell (cs := [_, _]) ((hB6.block _ hb9).trans e9.out) 0; have d1' : w6.cell? ⟨b9, 1, none⟩ = some (.int .i64 (u : Int)) := wcell (cs := [_, _]) ((hB6.block _ hb9).trans e9.out) 1; have d2' : w6.cell? ⟨lb, lo + j, none⟩ = some (.int .i64 (xs[j]?.getD 0)) := (hB6.cell (p := ⟨lb, lo + j, none⟩) hlb3).trans d2; have hs56 := Lib.hid hB6.size; replace hB6 := Lib.hid hB6))
          all_goals
            go_wp2_with fail
            go_meet
            first | exact outB_bad_new her.out hB6.out | exact outB_bad_set her.out hB6.out
        · have hov : overS (turnL s P u) P = false := by
            cases ho : overS (turnL s P u) P with
            | true => exact absurd (.inl ho) hbad
            | false => rfl
          have h0 : st (turnL s P u) pit ≠ 0 := fun h => hbad (.inr h)
          have hso := sowS_ok (turnL s P u) P pit (by rw [turnL_len]; exact hlen.out) hpl
          have HR : ∀ W w' e, SowPost n P u pit (turnL s P u) W e w' → ∃ q2 c2, e = .returned (.tuple #[.agg #[.slice q2 n c2, .int .i64 (if (sowS (turnL s P u) P pit).2 = true then (u : Int) else 1 - (u : Int))], .bool (sowS (turnL s P u) P pit).2, .int .i64 0]) ∧ IntsIn w' q2 n (asI (turnL (sowS (turnL s P u) P pit).1 P u)) ∧ Below W.heap.size W w' := by
            rintro W w' e ⟨hb, ⟨h, _⟩ | ⟨_, h, _⟩ | ⟨_, _, q2, c2, h, hx⟩⟩
            · rw [hov] at h; cases h
            · exact absurd h h0
            · exact ⟨q2, c2, h, hx, hb⟩
          have hsu2 : (turnL (sowS (turnL s P u) P pit).1 P u).sum = S := by rw [turnL_sum, hso.2, turnL_sum]; exact hsum.out
          have hle2 : (turnL (sowS (turnL s P u) P pit).1 P u).length = 2 * P + 2 := by rw [turnL_len, hso.1, turnL_len]; exact hlen.out
          obtain ⟨u2, hu2, hag, hu21⟩ : ∃ u2 : Nat, (if (sowS (turnL s P u) P pit).2 = true then (u : Int) else 1 - (u : Int)) = (u2 : Int) ∧ (sowS (turnL s P u) P pit).2 = decide (u2 = u) ∧ u2 ≤ 1 := by
            cases (sowS (turnL s P u) P pit).2 with
            | true => exact ⟨u, rfl, by simp, hu⟩
            | false => exact ⟨1 - u, by rw [if_neg (by simp)]; omega, by rw [decide_eq_false (by omega)], by omega⟩
          obtain ⟨dd, hdd⟩ : ∃ dd : Bool, dd = decide (u2 = u) := ⟨_, rfl⟩
          rw [hu2, hag, ← hdd] at HR
          replace hdd := Lib.hid hdd
          generalize turnL (sowS (turnL s P u) P pit).1 P u = s2 at *
          have HS2 : Hid (∀ W : World, Below W3.heap.size W3 W → Calls Try.prog 10 #[.agg #[.slice q n c, .int .i64 u], .int .i64 pit] W fun e w' => ∃ q2 c2, e = .returned (.tuple #[.agg #[.slice q2 n c2, .int .i64 (u2 : Int)], .bool dd, .int .i64 0]) ∧ IntsIn w' q2 n (asI s2) ∧ Below W3.heap.size W3 w') := fun W h =>
            (HT.out W h).mono fun e w' hh => by
              obtain ⟨q2, c2, h1, h2, h3⟩ := HR W w' e hh
              exact ⟨q2, c2, h1, h2, h.trans (h3.mono h.size)⟩
          have HS1 : Hid (∀ W : World, Below W3.heap.size W3 W → W.heap[W3.heap.size]? = some (.cells #[.slice none 0 0, .int .i64 0] 24) → Calls Try.prog 10 #[.agg #[.slice q n c, .int .i64 u], .int .i64 pit] W fun e w' => ∃ q2 c2, e = .returned (.tuple #[.agg #[.slice q2 n c2, .int .i64 (u2 : Int)], .bool dd, .int .i64 0]) ∧ IntsIn w' q2 n (asI s2) ∧ Below W3.heap.size W3 w' ∧ w'.heap[W3.heap.size]? = some (.cells #[.slice none 0 0, .int .i64 0] 24)) := fun W h h8 =>
            (HT.out W h).mono fun e w' hh => by
              obtain ⟨q2, c2, h1, h2, h3⟩ := HR W w' e hh
              exact ⟨q2, c2, h1, h2, h.trans (h3.mono h.size), (h3.block _ (lt_of_heap h8)).trans h8⟩
          replace hsu2 := Lib.hid hsu2; replace hle2 := Lib.hid hle2
          clear HR HT hbad hso hu2 hag h0 hov
          go_region_held3 (fun w' => w'.cell? ⟨b9, 0, none⟩ = some (.slice q n c) ∧ w'.cell? ⟨b9, 1, none⟩ = some (.int .i64 (u : Int)) ∧ w'.cell? ⟨lb, lo + j, none⟩ = some (.int .i64 (xs[j]?.getD 0))) (first | exact ⟨d0', d1', d2'⟩ | exact ⟨(cell2_ne _ (Nat.ne_of_lt hb9) _ _ _).trans d0', (cell2_ne _ (Nat.ne_of_lt hb9) _ _ _).trans d1', (cell2_ne _ (Nat.ne_of_lt hlb3) _ _ _).trans d2'⟩ | exact ⟨d0, d1, d2⟩ | go_keep)
            (first
            | (go_at_call 8; refine (HP.out _).mono ?_; rintro e w' ⟨rfl, rfl⟩)
            | (go_at_call 10; refine (HS1.out _ ?_ ?_).mono ?_; (first | exact Below.refl _ _ | exact below_drewN (Below.refl _ _) 1 | exact (below_drewN (Below.refl _ _) 1).alloc (Nat.le_refl _) _ | exact below_drewN ((Below.refl _ _).alloc (Nat.le_refl _) _) 1); (first | exact heap_alloc_new W3 _ | exact heap_alloc_new W3.drew _); rintro e w6 ⟨q6, c6, rfl, hx6, hB6, x8⟩; have d0' : w6.cell? ⟨b9, 0, none⟩ = some (.slice q n c) := wcell (cs := [_, _]) ((hB6.block _ hb9).trans e9.out) 0; have d1' : w6.cell? ⟨b9, 1, none⟩ = some (.int .i64 (u : Int)) := wcell (cs := [_, _]) ((hB6.block _ hb9).trans e9.out) 1; have d2' : w6.cell? ⟨lb, lo + j, none⟩ = some (.int .i64 (xs[j]?.getD 0)) := (hB6.cell (p := ⟨lb, lo + j, none⟩) hlb3).trans d2; have hs56 := Lib.hid hB6.size; replace hB6 := Lib.hid hB6; replace hx6 := Lib.hid hx6; have y0 : w6.cell? ⟨W3.heap.size, 0, none⟩ = some (.slice none 0 0) := wcell (cs := [_, _]) x8 0; have y1 : w6.cell? ⟨W3.heap.size, 1, none⟩ = some (.int .i64 0) := wcell (cs := [_, _]) x8 1; have f0' : w6.frozen? ⟨W3.heap.size, 0, none⟩ = false := wfree x8 0; have f1' : w6.frozen? ⟨W3.heap.size, 1, none⟩ = false := wfree x8 1; replace x8 := Lib.hid x8)
            | (go_at_call 10; refine (HS2.out _ ?_).mono ?_; (first | exact Below.refl _ _ | exact below_drewN (Below.refl _ _) 1 | exact (below_drewN (Below.refl _ _) 1).alloc (Nat.le_refl _) _ | exact below_drewN ((Below.refl _ _).alloc (Nat.le_refl _) _) 1); rintro e w6 ⟨q6, c6, rfl, hx6, hB6⟩; have d0' : w6.cell? ⟨b9, 0, none⟩ = some (.slice q n c) := wcell (cs := [_, _]) ((hB6.block _ hb9).trans e9.out) 0; have d1' : w6.cell? ⟨b9, 1, none⟩ = some (.int .i64 (u : Int)) := wcell (cs := [_, _]) ((hB6.block _ hb9).trans e9.out) 1; have d2' : w6.cell? ⟨lb, lo + j, none⟩ = some (.int .i64 (xs[j]?.getD 0)) := (hB6.cell (p := ⟨lb, lo + j, none⟩) hlb3).trans d2; have hs56 := Lib.hid hB6.size; replace hB6 := Lib.hid hB6; replace hx6 := Lib.hid hx6))
          all_goals
            go_wp2_with fail
            go_meet
            first | exact outB_new rfl hdd.out hx6.out hsu2.out hle2.out hu21 hB6.out | exact outB_set rfl hdd.out hx6.out hsu2.out hle2.out hu21 hB6.out x8.out (by have := hn.out; omega)
      case rest =>
        obtain ⟨hBc, b, er, rfl, rfl, hcase⟩ := hcut
        have hB4 := Lib.hid (hBr.out.trans (hBc.mono hBr.out.size))
        have e4 := Lib.hid ((hBc.block _ hb9).trans e9.out)
        have hq4 := Lib.hid (hq.out.below hBc)
        replace hBc := Lib.hid hBc
        clear d0 d1 d2 HP HT
        rcases hcase with ⟨her, ag, rfl⟩ | ⟨rfl, q5, c5, u2, s2, hb5, e5, hq5, hs5, hl5, hu5, rfl⟩
        · rcases her with rfl | rfl
          all_goals
            go_wp2_with fail
            have hgk := hgk.out
            go_roundg (m - (j + 1))
            case measure => omega
            case rel => exact ⟨j + 1, q, c, u, s, by omega, rfl, by go_num, e4.out, hq4.out, hsum.out, hlen.out, hu, hB4.out⟩
        · have hqn := ints_ne_box hq5 (show 3 ≤ n by have := hn.out; omega) e4.out
          have k0 : wc.cell? ⟨b, 0, none⟩ = some (.slice q5 n c5) := wcell (cs := [_, _]) e5 0
          have k1 : wc.cell? ⟨b, 1, none⟩ = some (.int .i64 (u2 : Int)) := wcell (cs := [_, _]) e5 1
          have d1 : wc.cell? ⟨b9, 1, none⟩ = some (.int .i64 (u : Int)) := wcell (cs := [_, _]) e4.out 1
          have hle := Lib.hid (fun j => sumN_le s2 j)
          have hfull : Hid (sumN s2 n = S) := by show _ = _; unfold sumN; rw [List.take_of_length_le (by have := hn.out; omega), hs5]
          have hsuc := Lib.hid (fun j h => sumN_succ s2 j h)
          have hl5n : s2.length = n := by have := hn.out; omega
          have hn14 : n ≤ 14 := by have := hn.out; omega
          have hmt : mayF (asI s2) u2 = true := by
            have h1 : mayGo (asI s2) 1000 = true := by simpa using mayGo_of s2 1000 (by omega)
            unfold mayF; rw [h1, asI_len, hl5, decide_eq_true (by omega)]; rfl
          have HM := may_any q5 n c5 u2 (asI s2) wc (by have := hn.out; omega) (by omega) (by omega) hq5
          rw [hmt] at HM
          replace HM := Lib.hid HM
          obtain ⟨b5, o5, hqe, hb5w, hc5⟩ := hq5.at (show 0 < n by have := hn.out; omega)
          have hc5' := Lib.hid hc5
          clear hc5
          subst hqe
          replace hl5 := Lib.hid hl5; replace hq5 := Lib.hid hq5; replace e5 := Lib.hid e5; replace hqn := Lib.hid hqn; replace hs5 := Lib.hid hs5; replace hl5n := Lib.hid hl5n
          clear hmt
          have hbw : b < wc.heap.size := lt_of_heap e5.out
          go_wp2_with fail
          obtain ⟨W5, hW5⟩ : ∃ W5 : World, W5 = wc := ⟨_, rfl⟩
          go_loopg [15, 16] n (fun gk sv iv W' => ∃ j2 : Nat, j2 ≤ n ∧ gk = n - j2 ∧ iv = .int .i64 j2 ∧ sv = .int .i64 (sumN s2 j2 : Nat) ∧ wc = W')
          case atStart => exact ⟨0, by omega, by omega, rfl, rfl, rfl⟩
          case round =>
            obtain ⟨j2, hj2, hgk2, rfl, rfl, rfl⟩ := hrel
            replace hgk2 := Lib.hid hgk2
            have h1 := hle.out j2
            by_cases hlt2 : j2 < n
            · have hcj := hc5'.out j2 hlt2
              rw [asI_at] at hcj
              have hsu := hsuc.out j2 (by have := hl5n.out; omega)
              have h2 := hle.out (j2 + 1)
              have hs5' := hs5.out
              generalize sumN s2 j2 = A at *
              generalize hA2 : sumN s2 (j2 + 1) = A2 at *
              replace hA2 := Lib.hid hA2
              generalize st s2 j2 = v at *
              have h3 : A + v ≤ 120 := by omega
              replace hs5' := Lib.hid hs5'
              replace hsu := Lib.hid hsu
              go_wp2_with fail
              have hgk2 := hgk2.out
              go_roundg (n - (j2 + 1))
              case measure => omega
              case rel => exact ⟨j2 + 1, by omega, rfl, by go_num, by rw [hA2.out, hsu.out]; go_num, rfl⟩
            · have hje : n = j2 := by omega
              subst hje
              rw [hfull.out]
              clear h1
              have hp0 : 0 ≤ 2 * (P : Int) * (k : Int) := by rw [hSi]; omega
              have hp1 : 2 * (P : Int) * (k : Int) ≤ 9223372036854775807 := by rw [hSi]; omega
              have hne1 : (((S : Nat) : Int) != 2 * (P : Int) * (k : Int)) = false := by rw [hSi]; simp
              obtain ⟨z, hz1, hz2⟩ := eq_cast u2 u
              rw [hz2]
              replace hz2 := Lib.hid hz2
              have hzz : (z != z) = false := by simp
              go_wp2_with fail
              refine HM.out.mono ?_
              rintro e w7 ⟨rfl, hB7⟩
              have e7 := (hB7.block _ hbw).trans e5.out
              have f7 := (hB7.block _ (Nat.lt_of_lt_of_le hb9 hBc.out.size)).trans e4.out
              have hq7 := hq5.out.below hB7
              have hB8 := hB4.out.trans (hB7.mono hB4.out.size)
              clear k0 k1 d1 hB7
              have k0 : w7.cell? ⟨b, 0, none⟩ = some (.slice (some ⟨b5, o5, none⟩) n c5) := wcell (cs := [_, _]) e7 0
              have k1 : w7.cell? ⟨b, 1, none⟩ = some (.int .i64 (u2 : Int)) := wcell (cs := [_, _]) e7 1
              have m0 : w7.cell? ⟨b9, 0, none⟩ = some (.slice q n c) := wcell (cs := [_, _]) f7 0
              have m1 : w7.cell? ⟨b9, 1, none⟩ = some (.int .i64 (u : Int)) := wcell (cs := [_, _]) f7 1
              have f0 : w7.frozen? ⟨b9, 0, none⟩ = false := wfree f7 0
              have f1 : w7.frozen? ⟨b9, 1, none⟩ = false := wfree f7 1
              have z3 := wset (wset f7 0 (.slice (some ⟨b5, o5, none⟩) n c5)) 1 (.int .i64 (u2 : Int))
              have hB9 := Lib.hid ((hB8.setCell (p := ⟨b9, 0, none⟩) hb91 (.slice (some ⟨b5, o5, none⟩) n c5)).setCell (p := ⟨b9, 1, none⟩) hb91 (.int .i64 (u2 : Int)))
              have hx9 := Lib.hid (hq7.keep (w' := (w7.setCell ⟨b9, 0, none⟩ (.slice (some ⟨b5, o5, none⟩) n c5)).setCell ⟨b9, 1, none⟩ (.int .i64 (u2 : Int))) (by simp [World.setCell]) (fun b o e => by rw [wset_ne _ _ (hqn.out b o e), wset_ne _ _ (hqn.out b o e)]))
              replace z3 := Lib.hid z3
              clear e7 f7 hq7 hB8 hz1 hzz hne1 hp0 hp1 hSi
              go_wp2_with fail
              have hgk := hgk.out
              go_roundg (m - (j + 1))
              case measure => omega
              case rel => exact ⟨j + 1, some ⟨b5, o5, none⟩, c5, u2, s2, by omega, rfl, by go_num, by simpa using z3.out, hx9.out, hs5.out, hl5.out, hu5, hB9.out⟩
    · have hlt2 : ¬ (j < m) ∨ (j < m ∧ ¬ j < 40) := by omega
      rcases hlt2 with h | ⟨h, h2⟩
      all_goals
        go_wp2_with fail
        go_ret
        exact ⟨rfl, hBr⟩
end Go.Proofs.Ytehcelajmhclmaa
