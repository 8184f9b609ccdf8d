/- poker.check, told, Value and Best of five to seven unlike cards; conditions stand in each. -/
import Derived.Test.YtkakggagaplaiaaPkB
namespace Go.Proofs.Ytkakggagaplaiaa
open Go.RowKit

/-- which cards are among the first j. -/
def snB (l : List Nat) (j : Nat) : List Value := (List.range 52).map fun c => .bool (decide (c ∈ l.take j))
theorem snB_at (l : List Nat) (j : Nat) {c : Nat} (h : c < 52) : (snB l j)[c]? = some (.bool (decide (c ∈ l.take j))) := by simp [snB, h]
theorem snB_succ {l : List Nat} {j : Nat} (h : j < l.length) : (snB l j).set (st l j) (.bool true) = snB l (j + 1) := by
  apply List.ext_getElem
  · simp [snB]
  · intro i h1 h2
    rw [List.getElem_set]
    simp only [snB, List.getElem_map, List.getElem_range]
    rw [take_next h]
    by_cases hx : st l j = i
    · simp [hx]
    · simp [hx, show ¬ i = st l j from fun e => hx e.symm]
set_option maxRecDepth 20000 in
set_option maxHeartbeats 2000000 in
theorem checkP_any (p : Option Addr) (n c : Nat) (l : List Nat) (w : World) (hn : n ≤ 100) (hx : IntsIn w p n (asI l)) (hl : ∀ x ∈ l, x < 52) (hd : l.Nodup) :
    Calls Try.prog 35 #[.slice p n c] w fun e w' => e = .returned (.int .i64 0) ∧ Below w.heap.size w w' := by
  have hll : l.length = n := by have := hx.len; rwa [asI_len] at this
  have hsn : Hid (∀ j, j < n → snB l (j + 1) = (snB l j).set (st l j) (.bool true)) := fun j hj => (snB_succ (by omega)).symm
  have hat : Hid (∀ j, j < n → (snB l j)[st l j]? = some (.bool false)) := fun j hj => by
    rw [snB_at l j (hl _ (st_mem_lt (by omega)))]
    have : st l j ∉ l.take j := fun hm => by
      obtain ⟨i, hi, e⟩ := List.getElem_of_mem hm
      rw [List.length_take] at hi
      rw [List.getElem_take] at e
      have e2 : l[i]'(by omega) = l[j]'(by omega) := by rw [e]; unfold st; simp [show j < l.length by omega]
      have := (List.getElem_inj hd).1 e2
      omega
    simp [this]
  have h52 : Hid (∀ j, j < n → st l j < 52) := fun j hj => hl _ (st_mem_lt (by omega))
  have hx' : Hid (∀ j, j < n → ∃ b o, p = some ⟨b, o, none⟩ ∧ b < w.heap.size ∧ w.cell? ⟨b, o + j, none⟩ = some (.int .i64 (st l j : Nat))) := fun j hj => by
    obtain ⟨b, o, e, hb, hc⟩ := hx.2 j hj
    rw [asI_at] at hc
    exact ⟨b, o, e, hb, hc⟩
  clear hx hl hd
  replace hll := Lib.hid hll
  go_enter Try.func35, Try.ntmps35
  go_upto_region 2 with fail
  generalize hW : w.alloc (Obj.cells _ 98) = W0
  have hg0 : Hid (W0.heap[w.heap.size]? = some (.cells (snB l 0).toArray 98 (0, 0))) := by rw [← hW]; exact heap_alloc_new w _
  have hB0 : Hid (Below w.heap.size w W0) := by rw [← hW]; exact (Below.refl _ _).alloc (Nat.le_refl _) _
  clear hW
  go_wp2_with fail
  go_loopg [10] n (fun gk iv W' => ∃ j : Nat, j ≤ n ∧ gk = n - j ∧ iv = .int .i64 j ∧ W0 = W')
  case atStart => exact ⟨0, Nat.zero_le _, rfl, rfl, rfl⟩
  case round =>
    obtain ⟨j, hj, hgk, rfl, rfl⟩ := hrel
    replace hgk := Lib.hid hgk
    by_cases hlt : j < n
    · obtain ⟨b, o, rfl, hb, hc0⟩ := hx'.out j hlt
      have hc := (hB0.out.cell (p := ⟨b, o + j, none⟩) hb).trans hc0
      have h5 := h52.out j hlt
      clear hc0
      generalize st l j = x at *
      have d1 : decide ((x : Int) < 0) = false := decide_eq_false (by omega)
      have d2 : decide ((52 : Int) ≤ (x : Int)) = false := decide_eq_false (by omega)
      go_wp2_with fail
      have hgk := hgk.out
      go_roundg (n - (j + 1))
      case measure => omega
      case rel => exact ⟨j + 1, by omega, rfl, by go_num, rfl⟩
    · obtain rfl : j = n := by omega
      go_wp2_with fail
      go_loopg [23] j (fun gk iv W' => ∃ i : Nat, i ≤ j ∧ gk = j - i ∧ iv = .int .i64 i ∧ Hid (W'.heap[w.heap.size]? = some (.cells (snB l i).toArray 98 (0, 0))) ∧ Hid (Below w.heap.size w W'))
      case atStart => exact ⟨0, Nat.zero_le _, rfl, rfl, hg0, hB0⟩
      case round =>
        clear hg0 hB0
        obtain ⟨i, hi, hgk, rfl, hg, hB⟩ := hrel
        obtain ⟨W1, rfl⟩ : ∃ W1 : World, W1 = wr := ⟨_, rfl⟩
        replace hgk := Lib.hid hgk
        by_cases hlt : i < j
        · obtain ⟨b, o, rfl, hb, hc0⟩ := hx'.out i hlt
          have hc := (hB.out.cell (p := ⟨b, o + i, none⟩) hb).trans hc0
          have h5 := h52.out i hlt
          have cs := (wcell hg.out (st l i)).trans (hat.out i hlt)
          have fs := wfree hg.out (st l i)
          have hg2 := wset hg.out (st l i) (.bool true)
          have e : (snB l i).toArray.setIfInBounds (st l i) (.bool true) = (snB l (i + 1)).toArray := by
            rw [hsn.out i hlt]; simp
          rw [e] at hg2
          have hB2 := Lib.hid (hB.out.setCell (p := ⟨w.heap.size, st l i, none⟩) (Nat.le_refl _) (.bool true))
          replace hg2 := Lib.hid hg2
          have n1 : (0 : Int) ≤ ((st l i : Nat) : Int) := by omega
          have n2 : ((st l i : Nat) : Int) < 52 := by omega
          clear hc0 hg hB e
          generalize st l i = x at *
          go_wp2_with fail
          have hgk := hgk.out
          go_roundg (j - (i + 1))
          case measure => omega
          case rel => exact ⟨i + 1, by omega, rfl, by go_num, hg2, hB2⟩
        · obtain rfl : i = j := by omega
          go_wp2_with fail
          go_ret
          exact ⟨rfl, hB.out⟩
set_option maxHeartbeats 1000000 in
theorem told_any (p : Option Addr) (n c : Nat) (L : List Nat) (w : World) (h5 : 5 ≤ n) (h7 : n ≤ 7) (hx : IntsIn w p n (asI L)) (h52 : ∀ x ∈ L, x < 52) (hd : L.Nodup) :
    Calls Try.prog 31 #[.slice p n c] w fun e w' => ∃ q k, e = .returned (.tuple #[.int .i64 (bestS L).1, .slice q 5 k, .int .i64 0]) ∧ Own 3 w.heap.size w' q 5 k (asI (bestS L).2) ∧ Below w.heap.size w w' := by
  have HC := Lib.hid (checkP_any p n c L w (by omega) hx h52 hd)
  have HB : Hid (∀ X, Below w.heap.size w X → Calls Try.prog 37 #[.slice p n c] X fun e w' => ∃ q c, e = .returned (.tuple #[.int .i64 (bestS L).1, .slice q 5 c]) ∧ Own 3 X.heap.size w' q 5 c (asI (bestS L).2) ∧ Below X.heap.size X w') := fun X hX => best7_any p n c L X h5 h7 (hx.below hX) h52
  clear hx
  generalize bestS L = bs at *
  have d1 : decide ((n : Int) < 5) = false := decide_eq_false (by omega)
  have d2 : decide ((7 : Int) < (n : Int)) = false := decide_eq_false (by omega)
  go_enter Try.func31, Try.ntmps31
  go_wp2_with fail
  refine HC.out.mono ?_
  rintro e w1 ⟨rfl, hB1⟩
  go_wp2_with fail
  refine (HB.out _ hB1).mono ?_
  rintro e w2 ⟨q, k, rfl, hO, hB2⟩
  have hO2 := Lib.hid (OwnC.mono (k := 1) hO hB1.size)
  have hBB := Lib.hid (hB1.trans (hB2.mono hB1.size))
  clear hO hB2 hB1
  go_wp2_with fail
  go_ret3
  exact ⟨q, k, rfl, hO2.out, hBB.out⟩
set_option maxHeartbeats 1000000 in
theorem value7_any (p : Option Addr) (n c : Nat) (L : List Nat) (w : World) (h5 : 5 ≤ n) (h7 : n ≤ 7) (hx : IntsIn w p n (asI L)) (h52 : ∀ x ∈ L, x < 52) (hd : L.Nodup) :
    Calls Try.prog 12 #[.slice p n c] w fun e w' => e = .returned (.tuple #[.int .i64 (bestS L).1, .int .i64 0]) ∧ Below w.heap.size w w' := by
  have HT := Lib.hid (told_any p n c L w h5 h7 hx h52 hd)
  clear hx
  generalize bestS L = bs at *
  go_enter Try.func12, Try.ntmps12
  go_wp2_with fail
  refine HT.out.mono ?_
  rintro e w1 ⟨q, k, rfl, hO, hB1⟩
  replace hB1 := Lib.hid hB1
  clear hO
  go_wp2_with fail
  go_ret2
  exact ⟨rfl, hB1.out⟩
set_option maxHeartbeats 1000000 in
theorem bestP_any (p : Option Addr) (n c : Nat) (L : List Nat) (w : World) (h5 : 5 ≤ n) (h7 : n ≤ 7) (hx : IntsIn w p n (asI L)) (h52 : ∀ x ∈ L, x < 52) (hd : L.Nodup) :
    Calls Try.prog 13 #[.slice p n c] w fun e w' => ∃ q k, e = .returned (.tuple #[.slice q 5 k, .int .i64 0]) ∧ Own 3 w.heap.size w' q 5 k (asI (bestS L).2) ∧ Below w.heap.size w w' := by
  have HT := Lib.hid (told_any p n c L w h5 h7 hx h52 hd)
  clear hx
  generalize bestS L = bs at *
  go_enter Try.func13, Try.ntmps13
  go_wp2_with fail
  refine HT.out.mono ?_
  rintro e w1 ⟨q, k, rfl, hO, hB1⟩
  replace hB1 := Lib.hid hB1; replace hO := Lib.hid hO
  go_wp2_with fail
  go_ret2
  exact ⟨q, k, rfl, hO.out, hB1.out⟩
end Go.Proofs.Ytkakggagaplaiaa
