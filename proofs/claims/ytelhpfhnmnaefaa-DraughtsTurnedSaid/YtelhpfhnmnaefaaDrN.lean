/- What newPlay, middle and do compute; conditions stand in each. -/
import Derived.Test.YtelhpfhnmnaefaaDrM
import Derived.Deep.RegionLaw
import Derived.Deep.RegionHeld3
namespace Go.Proofs.Ytelhpfhnmnaefaa
open Go.RowKit

theorem bel_refl_alloc (W : World) (o : Obj) : Below W.heap.size W (W.alloc o) := (Below.refl _ _).alloc (Nat.le_refl _) o
set_option maxHeartbeats 2000000 in
theorem newPlay_any (p : Option Addr) (c : Nat) (t : Nat) (ht : t = 1 ∨ t = 2) (b : List Int) (W : World) (hx : IntsIn W p 33 b) (hv : ∀ i : Nat, -2 ≤ b[i]?.getD 0 ∧ b[i]?.getD 0 ≤ 2) :
    Calls Try.prog 10 #[.agg #[.slice p 33 c, .int .i64 t]] W fun e W' => ∃ pb g cb, e = .returned (.pointer (some ⟨pb, 0, none⟩)) ∧ Py pb g cb W'.heap.size b (3 - 2 * (t : Int)) none 0 [] W' ∧ (∀ i, W'.frozen? ⟨g, i, none⟩ = false) ∧ W.heap.size ≤ g ∧ W.heap.size ≤ pb ∧ Below W.heap.size W W' := by
  obtain ⟨W1, hW1⟩ : ∃ W1, W1 = W.alloc (.cells #[.slice p 33 c, .int .i64 t] 24) := ⟨_, rfl⟩
  have hB1 : Below W.heap.size W W1 := by rw [hW1]; exact bel_refl_alloc _ _
  have hbx : W1.heap[W.heap.size]? = some (.cells #[.slice p 33 c, .int .i64 t] 24 (0, 0)) := by rw [hW1]; exact heap_alloc_new _ _
  have HC := clone_any p 33 c b W1.drew (by omega) ((hx.below hB1).keep (Nat.le_refl _) fun _ _ _ => rfl)
  have a0 := wcell (cs := [_, _]) hbx 0
  have a1 := wcell (cs := [_, _]) hbx 1
  have hk : ∀ W2, Below W1.heap.size W1 W2 → W2.cell? ⟨W.heap.size, 1, none⟩ = some (.int .i64 t) := fun W2 h => wcell (cs := [_, _]) ((h.block _ (lt_of_heap hbx)).trans hbx) 1
  rw [hW1] at HC a0 a1
  have ht2 : (0 : Int) ≤ t ∧ (t : Int) ≤ 2 := by omega
  have e3 : IntKind.i64.wrap (2 * (t : Int)) = 2 * (t : Int) := IntWalk.i64_in _ (by omega)
  have e4 : IntKind.i64.wrap (3 - 2 * (t : Int)) = 3 - 2 * (t : Int) := IntWalk.i64_in _ (by omega)
  replace HC := Lib.hid HC; replace hk := Lib.hid hk; replace hx := Lib.hid hx; replace hv := Lib.hid hv; replace hB1 := Lib.hid hB1; replace hbx := Lib.hid hbx; replace hW1 := Lib.hid hW1
  go_enter Try.func10, Try.ntmps10
  go_wp2_with fail
  go_region_law (go_simp; go_at_call 13; ((with_reducible refine HC.out.mono ?_); rintro e w6 ⟨p6, c6, rfl, hO6, hb6⟩; have hb6' : Below W1.heap.size W1 w6 := (by rw [hW1.out]; exact (Below.refl _ _).drew.trans hb6); have k1 := hk.out w6 hb6'; replace hO6 := Lib.hid hO6; replace hb6 := Lib.hid hb6; replace hb6' := Lib.hid hb6'))
  all_goals
    go_wp2_with fail
    go_ret
    have hO := hO6.out
    obtain ⟨g, rfl, hg1, hg2, hgc⟩ := hO.where (by omega)
    have hWs := hB1.out.size
    have hs6 := hb6'.out.size
    have hg1' : W1.heap.size ≤ g := by rw [hW1.out]; exact hg1
    have hBB := hB1.out.trans (hb6'.out.mono hWs)
    refine ⟨w6.heap.size, g, c6, rfl, ⟨?_, ?_, OwnC.nil _ _ _ _ |> fun h => ⟨[], h, rfl, fun i l hi => by simp at hi⟩, ⟨by simp, by simp; omega, by omega⟩, Nat.le_refl _, ?_, hv.out⟩, fun i => ?_, by omega, by omega, hBB.alloc (by omega) _⟩
    · rw [heap_alloc_new]; simp
    · exact hO.in.alloc _
    · rcases ht with rfl | rfl
      · left; decide
      · right; decide
    · have := hO.free i
      unfold World.frozen? at *
      simp only [Below.heap_alloc _ _ _ hg2] at *
      exact this

theorem mid_le {a b : Nat} (h1 : 1 ≤ a) (h2 : a ≤ 32) : midS a b ≤ 32 := by
  have n0 := nxt_le ⟨a, by omega⟩ ⟨0, by omega⟩ h1
  have n1 := nxt_le ⟨a, by omega⟩ ⟨1, by omega⟩ h1
  have n2 := nxt_le ⟨a, by omega⟩ ⟨2, by omega⟩ h1
  have n3 := nxt_le ⟨a, by omega⟩ ⟨3, by omega⟩ h1
  simp only at n0 n1 n2 n3
  unfold midS
  split
  · exact n0
  · split
    · exact n1
    · split
      · exact n2
      · split
        · exact n3
        · omega
theorem mid_at {a b j : Nat} (hj : j < 4) (hno : ∀ d, d < j → midF a b d = false) (h : midF a b j = true) : midS a b = nxt a j := by
  unfold midS
  rcases (show j = 0 ∨ j = 1 ∨ j = 2 ∨ j = 3 by omega) with rfl | rfl | rfl | rfl
  · rw [h]; rfl
  · rw [hno 0 (by omega), h]; rfl
  · rw [hno 0 (by omega), hno 1 (by omega), h]; rfl
  · rw [hno 0 (by omega), hno 1 (by omega), hno 2 (by omega), h]; rfl
theorem mid_no {a b : Nat} (hno : ∀ d, d < 4 → midF a b d = false) : midS a b = 0 := by
  unfold midS
  rw [hno 0 (by omega), hno 1 (by omega), hno 2 (by omega), hno 3 (by omega)]; rfl

set_option maxHeartbeats 4000000 in
theorem middle_any (a b : Nat) (h1 : 1 ≤ a) (h2 : a ≤ 32) (W : World) : Calls Try.prog 22 #[.int .i64 a, .int .i64 b] W fun e W' => e = .returned (.int .i64 (midS a b : Nat)) ∧ W' = W := by
  obtain ⟨r, hr⟩ : ∃ r, midS a b = r := ⟨_, rfl⟩
  rw [hr]
  replace hr := Lib.hid hr
  go_enter Try.func22, Try.ntmps22
  go_wp2_with fail
  go_loopg [7] 4 (fun gk dv W' => ∃ j : Nat, j ≤ 4 ∧ gk = 4 - j ∧ dv = .int .i64 j ∧ (∀ d, d < j → midF a b d = false) ∧ W' = W)
  case atStart => exact ⟨0, by omega, by omega, rfl, fun d hd => absurd hd (by omega), rfl⟩
  case round =>
    obtain ⟨j, hj, hgk, rfl, hno, rfl⟩ := hrel
    obtain ⟨W1, rfl⟩ : ∃ W1 : World, W1 = wr := ⟨_, rfl⟩
    replace hgk := Lib.hid hgk
    by_cases hlt : j < 4
    · have HN := Lib.hid (next_any a j h1 h2 hlt W1)
      obtain ⟨m, hm⟩ : ∃ m, nxt a j = m := ⟨_, rfl⟩
      have hml := nxt_le ⟨a, by omega⟩ ⟨j, hlt⟩ h1
      simp only at hml
      rw [hm] at HN hml
      by_cases hm0 : m = 0
      · have hz : ¬ (0 : Int) < (m : Int) := by omega
        have hno2 : Hid (∀ d, d < j + 1 → midF a b d = false) := fun d hd => by
          by_cases e : d = j
          · subst e; unfold midF; rw [hm, hm0]; rfl
          · exact hno d (by omega)
        replace hno := Lib.hid hno; replace hm := Lib.hid hm; replace hm0 := Lib.hid hm0
        go_wp2_with fail
        refine HN.out.mono ?_
        rintro e w' ⟨rfl, rfl⟩
        go_wp2_with fail
        have hgk := hgk.out
        go_roundg (4 - (j + 1))
        case measure => omega
        case rel => exact ⟨j + 1, by omega, rfl, by go_num, hno2.out, rfl⟩
      · have hz : (0 : Int) < (m : Int) := by omega
        have HM := Lib.hid (next_any m j (by omega) hml hlt W1)
        obtain ⟨q, hq⟩ : ∃ q, nxt m j = q := ⟨_, rfl⟩
        rw [hq] at HM
        by_cases hqb : q = b
        · have hzb : ((q : Int) == (b : Int)) = true := by simp [hqb]
          have hres : Hid (r = m) := by
            show _ = _
            rw [← hr.out, mid_at hlt hno (by unfold midF; rw [hm, hq]; simp [hqb]; omega)]; exact hm
          replace hno := Lib.hid hno; replace hm := Lib.hid hm; replace hm0 := Lib.hid hm0; replace hqb := Lib.hid hqb; replace hq := Lib.hid hq
          go_wp2_with fail
          refine HN.out.mono ?_
          rintro e w' ⟨rfl, rfl⟩
          go_wp2_with fail
          refine HM.out.mono ?_
          rintro e w' ⟨rfl, rfl⟩
          go_wp2_with fail
          go_ret
          exact ⟨by rw [hres.out]; rfl, rfl⟩
        · have hzb : ((q : Int) == (b : Int)) = false := beq_eq_false_iff_ne.2 (by omega)
          have hno2 : Hid (∀ d, d < j + 1 → midF a b d = false) := fun d hd => by
            by_cases e : d = j
            · subst e; unfold midF; rw [hm, hq]; simp [hqb]
            · exact hno d (by omega)
          replace hno := Lib.hid hno; replace hm := Lib.hid hm; replace hm0 := Lib.hid hm0; replace hqb := Lib.hid hqb; replace hq := Lib.hid hq
          go_wp2_with fail
          refine HN.out.mono ?_
          rintro e w' ⟨rfl, rfl⟩
          go_wp2_with fail
          refine HM.out.mono ?_
          rintro e w' ⟨rfl, rfl⟩
          go_wp2_with fail
          have hgk := hgk.out
          go_roundg (4 - (j + 1))
          case measure => omega
          case rel => exact ⟨j + 1, by omega, rfl, by go_num, hno2.out, rfl⟩
    · obtain rfl : j = 4 := by omega
      have hres : Hid (r = 0) := by show _ = _; rw [← hr.out, mid_no hno]
      replace hno := Lib.hid hno
      go_wp2_with fail
      go_ret
      exact ⟨by rw [hres.out]; rfl, rfl⟩

/-- the play's block and its board, which may be written. -/
structure Pd (pb g cb : Nat) (s : Int) (b : List Int) (W : World) : Prop where
  hd : ∃ q n c, W.heap[pb]? = some (.cells #[.slice (some ⟨g, 0, none⟩) 33 cb, .int .i64 s, .slice q n c] 41 (0, 0))
  bd : IntsIn W (some ⟨g, 0, none⟩) 33 b
  fz : ∀ i, W.frozen? ⟨g, i, none⟩ = false
  ne : pb ≠ g
section
variable {pb g cb : Nat} {s : Int} {b : List Int} {W W' : World}
theorem Pd.c0 (h : Pd pb g cb s b W) : W.cell? ⟨pb, 0, none⟩ = some (.slice (some ⟨g, 0, none⟩) 33 cb) := by
  obtain ⟨q, n, c, hd⟩ := h.hd; exact wcell (cs := [_, _, _]) hd 0
theorem Pd.c1 (h : Pd pb g cb s b W) : W.cell? ⟨pb, 1, none⟩ = some (.int .i64 s) := by
  obtain ⟨q, n, c, hd⟩ := h.hd; exact wcell (cs := [_, _, _]) hd 1
theorem Pd.cb' (h : Pd pb g cb s b W) {p : Nat} (hp : p ≤ 32) : W.cell? ⟨g, p, none⟩ = some (.int .i64 (b[p]?.getD 0)) := by
  obtain ⟨b', o', e, _, hc⟩ := h.bd.at (by omega)
  cases e
  rw [← hc p (by omega), Nat.zero_add]
theorem Pd.set (h : Pd pb g cb s b W) {i : Nat} (hi : i ≤ 32) (v : Int) : Pd pb g cb s (b.set i v) (W.setCell ⟨g, i, none⟩ (.int .i64 v)) := by
  obtain ⟨q, n, c, hd⟩ := h.hd
  have hl := h.bd.len
  obtain ⟨b', o', e, hlt, hc⟩ := h.bd.at (by omega)
  cases e
  refine ⟨⟨q, n, c, (Below.heap_setCell W ⟨g, i, none⟩ _ pb h.ne).trans hd⟩, ⟨by simpa using hl, fun j hj => ⟨g, 0, rfl, by simpa [World.setCell] using hlt, ?_⟩⟩, fun j => by rw [World.frozen?_setCell]; exact h.fz j, h.ne⟩
  by_cases e : j = i
  · subst e
    rw [Nat.zero_add, World.cell?_setCell_same' _ _ _ (by rw [h.cb' hi]; rfl)]
    simp [hl, hj]
  · rw [Nat.zero_add, World.cell?_setCell_other (h := by intro e2; apply e; cases e2; rfl), h.cb' (by omega)]
    rw [List.getElem?_set_ne (by omega)]
theorem Pd.drewN (h : Pd pb g cb s b W) (k : Nat) : Pd pb g cb s b (W.drewN k) := ⟨h.hd, h.bd.keep (Nat.le_refl _) fun _ _ _ => rfl, h.fz, h.ne⟩
theorem Pd.drew (h : Pd pb g cb s b W) : Pd pb g cb s b W.drew := ⟨h.hd, h.bd.keep (Nat.le_refl _) fun _ _ _ => rfl, h.fz, h.ne⟩
end
theorem Ob.drew {g : Nat} {A B : World} (h : Ob g A B) : Ob g A B.drew := ⟨h.os, h.tape, h.output, h.size, h.block⟩
theorem last_pd (pb g cb : Nat) (s : Int) (b : List Int) (W : World) (hs : s = 1 ∨ s = -1) (h : Pd pb g cb s b W) (p : Nat) :
    Calls Try.prog 23 #[.pointer (some ⟨pb, 0, none⟩), .int .i64 p] W fun e W' => e = .returned (.bool (lastS s p)) ∧ W = W' := by
  have c1 := h.c1
  clear h
  rcases hs with rfl | rfl
  · have e : Hid (lastS 1 p = decide (p ≤ 4)) := rfl
    by_cases h4 : p ≤ 4
    · have hi : (p : Int) ≤ 4 := by omega
      have e2 : Hid (lastS 1 p = true) := e.out.trans (decide_eq_true h4)
      go_enter Try.func23, Try.ntmps23
      go_wp2_with fail
      go_ret
      exact ⟨ret_bool (by rw [e2.out]), rfl⟩
    · have hi : ¬ (p : Int) ≤ 4 := by omega
      have e2 : Hid (lastS 1 p = false) := e.out.trans (decide_eq_false h4)
      go_enter Try.func23, Try.ntmps23
      go_wp2_with fail
      go_ret
      exact ⟨ret_bool (by rw [e2.out]), rfl⟩
  · have e : Hid (lastS (-1) p = decide (29 ≤ p)) := rfl
    by_cases h4 : 29 ≤ p
    · have hi : 29 ≤ (p : Int) := by omega
      have e2 : Hid (lastS (-1) p = true) := e.out.trans (decide_eq_true h4)
      go_enter Try.func23, Try.ntmps23
      go_wp2_with fail
      go_ret
      exact ⟨ret_bool (by rw [e2.out]), rfl⟩
    · have hi : ¬ 29 ≤ (p : Int) := by omega
      have e2 : Hid (lastS (-1) p = false) := e.out.trans (decide_eq_false h4)
      go_enter Try.func23, Try.ntmps23
      go_wp2_with fail
      go_ret
      exact ⟨ret_bool (by rw [e2.out]), rfl⟩
end Go.Proofs.Ytelhpfhnmnaefaa
