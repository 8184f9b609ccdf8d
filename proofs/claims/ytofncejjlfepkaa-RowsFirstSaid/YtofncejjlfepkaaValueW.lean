/- What (rows.match).value computes: the value of a board for a player to move, and how many places reach it; conditions: the cells are a row of the call's own of at most 100 numbers from 0 to 2, the lines are places of them and lie in later blocks. -/
import Derived.Test.YtofncejjlfepkaaLinesW
namespace Go.Proofs.Ytofncejjlfepkaa
open Go.RowKit

def zeros (cs : List Nat) : Nat := cs.count 0
theorem zeros_set {cs : List Nat} {j v : Nat} (hj : j < cs.length) (h0 : st cs j = 0) (hv : v ≠ 0) : zeros (cs.set j v) + 1 = zeros cs := by
  unfold zeros
  have e : cs[j] = 0 := by simpa [st, hj] using h0
  rw [List.count_set hj, e]
  have : 0 < cs.count 0 := by
    rw [List.count_pos_iff, ← e]; exact List.getElem_mem hj
  simp [hv]; omega
def valueR (ls : List (List Nat)) (rec : List Nat → Nat → Int) (cs : List Nat) (who : Nat) : Int × List Nat :=
  if won cs ls = 0 then pickd (seek rec cs who cs.length) else if won cs ls = who then (1, []) else (-1, [])
theorem value_zero (ls : List (List Nat)) (cs : List Nat) (who : Nat) : value ls 0 cs who = valueR ls (fun _ _ => 0) cs who := rfl
theorem value_succ (ls : List (List Nat)) (f : Nat) (cs : List Nat) (who : Nat) : value ls (f + 1) cs who = valueR ls (fun c w => (value ls f c w).1) cs who := rfl
theorem seek_bd {rec : List Nat → Nat → Int} (h : ∀ c w, -1 ≤ rec c w ∧ rec c w ≤ 1) (cs : List Nat) (who j : Nat) : -2 ≤ (seek rec cs who j).1 ∧ (seek rec cs who j).1 ≤ 1 := by
  induction j with
  | zero => simp [seek]
  | succ j ih =>
    rw [seek_succ]
    generalize seek rec cs who j = b at *
    unfold tryAt
    split
    · have := h (cs.set j who) (3 - who)
      unfold better
      split
      · simp only; omega
      · split
        · simp only; omega
        · omega
    · exact ih
theorem seek_len (rec : List Nat → Nat → Int) (cs : List Nat) (who j : Nat) : (seek rec cs who j).2.length ≤ j := by
  induction j with
  | zero => simp [seek]
  | succ j ih =>
    rw [seek_succ]
    generalize seek rec cs who j = b at *
    unfold tryAt
    split
    · unfold better
      split
      · simp
      · split
        · simp; omega
        · omega
    · omega
theorem valueR_bd {ls : List (List Nat)} {rec : List Nat → Nat → Int} (h : ∀ c w, -1 ≤ rec c w ∧ rec c w ≤ 1) (cs : List Nat) (who : Nat) : -1 ≤ (valueR ls rec cs who).1 ∧ (valueR ls rec cs who).1 ≤ 1 := by
  have := seek_bd h cs who cs.length
  unfold valueR
  split
  · unfold pickd
    split
    · simp
    · omega
  · split <;> simp
theorem value_bd (ls : List (List Nat)) (f : Nat) : ∀ (cs : List Nat) (who : Nat), -1 ≤ (value ls f cs who).1 ∧ (value ls f cs who).1 ≤ 1 := by
  induction f with
  | zero => intro cs who; rw [value_zero]; exact valueR_bd (fun _ _ => by simp) cs who
  | succ f ih => intro cs who; rw [value_succ]; exact valueR_bd (fun c w => ih c w) cs who
theorem tryAt_skip {rec : List Nat → Nat → Int} {cs : List Nat} {who i : Nat} {b : Int × List Nat} (h : st cs i ≠ 0) : tryAt rec cs who b i = b := if_neg h
theorem tryAt_up {rec : List Nat → Nat → Int} {cs : List Nat} {who i : Nat} {b : Int × List Nat} (h : st cs i = 0) (h2 : b.1 < -(rec (cs.set i who) (3 - who))) : tryAt rec cs who b i = (-(rec (cs.set i who) (3 - who)), [i]) := by
  rw [tryAt, if_pos h, better, if_pos h2]
theorem tryAt_eq {rec : List Nat → Nat → Int} {cs : List Nat} {who i : Nat} {b : Int × List Nat} (h : st cs i = 0) (h2 : -(rec (cs.set i who) (3 - who)) = b.1) : tryAt rec cs who b i = (b.1, b.2 ++ [i]) := by
  rw [tryAt, if_pos h, better, if_neg (by omega), if_pos h2]
theorem tryAt_no {rec : List Nat → Nat → Int} {cs : List Nat} {who i : Nat} {b : Int × List Nat} (h : st cs i = 0) (h2 : -(rec (cs.set i who) (3 - who)) < b.1) : tryAt rec cs who b i = b := by
  rw [tryAt, if_pos h, better, if_neg (by omega), if_neg (by omega)]
theorem st_set {s : List Nat} {i v j : Nat} (h : i < s.length) : st (s.set i v) j = if j = i then v else st s j := by
  unfold st
  by_cases e : j = i
  · subst e; simp [h]
  · rw [if_neg e, List.getElem?_set_ne (by omega)]

set_option maxHeartbeats 4000000 in
set_option maxRecDepth 100000 in
theorem value_step (g B n c nl cl : Nat) (ql : Option Addr) (cs : List Nat) (ls : List (List Nat)) (who : Nat) (w : World) (rec : List Nat → Nat → Int) (hrec : Hid (∀ c w, -1 ≤ rec c w ∧ rec c w ≤ 1))
    (hn1 : 1 ≤ n) (hn : n ≤ 100) (hO : Own 3 0 w (some ⟨g, 0, none⟩) n c (asI cs)) (hgB : g < B) (hls : RowsIn B w ql (ls.map asI)) (hlen : ls.length = nl) (hnl : nl ≤ 100000) (hok : LinesOk n ls) (h2 : ∀ j, st cs j ≤ 2) (hw1 : 1 ≤ who) (hw2 : who ≤ 2)
    (IH : Hid (∀ (cs' : List Nat) (who' : Nat) (W : World), zeros cs' < zeros cs → cs'.length = n → (∀ j, st cs' j ≤ 2) → 1 ≤ who' → who' ≤ 2 → Own 3 0 W (some ⟨g, 0, none⟩) n c (asI cs') → RowsIn B W ql (ls.map asI) → ∀ wI : Int, Hid (wI = who') →
      Calls Try.prog 10 #[.agg #[.slice (some ⟨g, 0, none⟩) n c, .slice ql nl cl], .int .i64 wI] W fun e w' => ∃ q m c', e = .returned (.tuple #[.int .i64 (rec cs' who'), .slice q m c']) ∧ Below W.heap.size W w')) (wI : Int) (hwI : Hid (wI = who)) :
    Calls Try.prog 10 #[.agg #[.slice (some ⟨g, 0, none⟩) n c, .slice ql nl cl], .int .i64 wI] w fun e w' => ∃ q c', e = .returned (.tuple #[.int .i64 (valueR ls rec cs who).1, .slice q (valueR ls rec cs who).2.length c']) ∧ Below w.heap.size w w' := by
  have hwI := hwI.out
  subst hwI
  have hll : cs.length = n := by have := hO.len; rwa [asI_len] at this
  have a0 := heap_alloc_new w (.cells #[.slice (some ⟨g, 0, none⟩) n c, .slice ql nl cl] 38)
  have hB0 : Hid (Below w.heap.size w (w.alloc (.cells #[.slice (some ⟨g, 0, none⟩) n c, .slice ql nl cl] 38))) := (Below.refl _ _).alloc (Nat.le_refl _) _
  have hOa := hO.alloc (.cells #[.slice (some ⟨g, 0, none⟩) n c, .slice ql nl cl] 38)
  have hlsa := hls.alloc (.cells #[.slice (some ⟨g, 0, none⟩) n c, .slice ql nl cl] 38)
  have hsz : w.heap.size < (w.alloc (.cells #[.slice (some ⟨g, 0, none⟩) n c, .slice ql nl cl] 38)).heap.size := by simp
  have hgw : g < w.heap.size := (hO.block _ rfl).2
  have HW := Lib.hid (won_any (some ⟨g, 0, none⟩) ql n c nl cl cs ls _ hn hOa.in B hlsa hlen hnl hok h2)
  have hv3 := won_le cs ls h2
  have hval : Hid (valueR ls rec cs who = if won cs ls = 0 then pickd (seek rec cs who cs.length) else if won cs ls = who then (1, []) else (-1, [])) := rfl
  replace hOa := Lib.hid hOa; replace hlsa := Lib.hid hlsa; replace hlen := Lib.hid hlen; replace hok := Lib.hid hok; replace h2 := Lib.hid h2; replace hll := Lib.hid hll
  clear hO hls
  generalize won cs ls = v at *
  go_enter Try.func10, Try.ntmps10
  go_wp2_with fail
  generalize w.alloc (.cells #[.slice (some ⟨g, 0, none⟩) n c, .slice ql nl cl] 38) = W at *
  have c0 : W.cell? ⟨w.heap.size, 0, none⟩ = some (.slice (some ⟨g, 0, none⟩) n c) := wcell (cs := [_, _]) a0 0
  have c1 : W.cell? ⟨w.heap.size, 1, none⟩ = some (.slice ql nl cl) := wcell (cs := [_, _]) a0 1
  replace a0 := Lib.hid a0
  refine HW.out.mono ?_
  rintro e W1 ⟨rfl, hB1⟩
  have b0 := (hB1.block _ hsz).trans a0.out
  have hB1w := Lib.hid (hB0.out.trans (hB1.mono (Nat.le_of_lt hsz)))
  have hO1 := Lib.hid (hOa.out.below hB1 (Nat.le_refl _))
  have hls1 := Lib.hid (hlsa.out.below hB1)
  have hsz1 := Nat.lt_of_lt_of_le hsz hB1.size
  have d0 : W1.cell? ⟨w.heap.size, 0, none⟩ = some (.slice (some ⟨g, 0, none⟩) n c) := wcell (cs := [_, _]) b0 0
  clear c0 c1 HW hOa hlsa hB0 hB1 a0 hsz W
  replace b0 := Lib.hid b0
  by_cases hv0 : v = 0
  · subst hv0
    have hval2 : Hid (valueR ls rec cs who = pickd (seek rec cs who n)) := by
      show _ = _
      rw [hval.out, if_pos rfl, hll.out]
    clear hval
    go_wp2_with fail
    clear d0
    go_loopg [6, 7, 22] n (fun gk bv pv iv W' => ∃ j c' : Nat, ∃ q : Option Addr, j ≤ n ∧ gk = n - j ∧ iv = .int .i64 j ∧ bv = .int .i64 (seek rec cs who j).1 ∧ pv = .slice q (seek rec cs who j).2.length c' ∧ Own 3 W1.heap.size W' q (seek rec cs who j).2.length c' (asI (seek rec cs who j).2) ∧ Below W1.heap.size W1 W')
    case atStart => exact ⟨0, 0, none, by omega, by omega, rfl, rfl, rfl, Own.nil _ _ _, Below.refl _ _⟩
    case round =>
      obtain ⟨j, c', q, hj, hgk, rfl, rfl, rfl, hR, hB⟩ := hrel
      obtain ⟨W2, rfl⟩ : ∃ W2 : World, W2 = wr := ⟨_, rfl⟩
      have hbd := seek_bd hrec.out cs who j
      have hsl := seek_len rec cs who j
      obtain ⟨hbd1, hbd2⟩ := hbd
      replace hgk := Lib.hid hgk
      by_cases hlt : j < n
      · have b2 := (hB.block _ hsz1).trans b0.out
        have d0 : W2.cell? ⟨w.heap.size, 0, none⟩ = some (.slice (some ⟨g, 0, none⟩) n c) := wcell (cs := [_, _]) b2 0
        have hO2 := hO1.out.below hB (Nat.le_refl _)
        have d2 := hO2.cell hlt
        rw [asI_at] at d2
        have hss := Lib.hid (seek_succ rec cs who j)
        generalize seek rec cs who j = bst at *
        obtain ⟨best, wl⟩ := bst
        simp only at hbd1 hbd2 hsl hR ⊢
        by_cases h0 : st cs j = 0
        · have hz0 : ((st cs j : Int) != 0) = false := by simp [h0]
          have hf0 := hO2.free j
          have hj2 : j < cs.length := by have := hll.out; omega
          have hsetlen : (cs.set j who).length = n := by rw [List.length_set]; exact hll.out
          have hset2 : ∀ i, st (cs.set j who) i ≤ 2 := fun i => by
            rw [st_set hj2]; split
            · exact hw2
            · exact h2.out i
          have hO3 := hO2.set j (who : Int)
          rw [← asI_set] at hO3
          have hls3 := (hls1.out.below hB).set (a := ⟨g, j, none⟩) hgB (.int .i64 (who : Int))
          have IHc := Lib.hid (IH.out (cs.set j who) (3 - who) _ (by have := zeros_set hj2 h0 (show who ≠ 0 by omega); omega) hsetlen hset2 (by omega) (by omega) hO3 hls3 (3 - (who : Int)) (Lib.hid (by omega)))
          have hup := Lib.hid (tryAt_up (rec := rec) (cs := cs) (who := who) (i := j) (b := (best, wl)) h0)
          have heq := Lib.hid (tryAt_eq (rec := rec) (cs := cs) (who := who) (i := j) (b := (best, wl)) h0)
          have hno := Lib.hid (tryAt_no (rec := rec) (cs := cs) (who := who) (i := j) (b := (best, wl)) h0)
          have hrb := hrec.out (cs.set j who) (3 - who)
          obtain ⟨hrb1, hrb2⟩ := hrb
          obtain ⟨cur, hcur, hcx⟩ : ∃ cur, W2.heap[g]? = some (.cells cur 3 (0, 0)) ∧ cur[j]? = some (.int .i64 0) := by
            rcases hO2.2 with ⟨hv, _⟩ | ⟨g', cap, cur, hv, _, hh, _⟩
            · cases hv
            · injection hv with e1 _ _
              injection e1 with e1
              injection e1 with e1
              subst e1
              refine ⟨cur, hh, ?_⟩
              rw [h0] at d2
              rw [cell_of_row W2 g j cur 3 (0, 0) hh] at d2
              exact d2
          generalize rec (cs.set j who) (3 - who) = r at *
          have hs2 : (W2.setCell ⟨g, j, none⟩ (.int .i64 (who : Int))).heap.size = W2.heap.size := by simp [World.setCell]
          have d3 : (W2.setCell ⟨g, j, none⟩ (.int .i64 (who : Int))).cell? ⟨w.heap.size, 0, none⟩ = some (.slice (some ⟨g, 0, none⟩) n c) := wcell (cs := [_, _]) ((wset_ne _ _ (by simp; omega)).trans b2) 0
          have d4 : (W2.setCell ⟨g, j, none⟩ (.int .i64 (who : Int))).cell? ⟨w.heap.size, 1, none⟩ = some (.slice ql nl cl) := wcell (cs := [_, _]) ((wset_ne _ _ (by simp; omega)).trans b2) 1
          replace h0 := Lib.hid h0; replace hO2 := Lib.hid hO2; replace hO3 := Lib.hid hO3; replace hls3 := Lib.hid hls3; replace hset2 := Lib.hid hset2; replace hsetlen := Lib.hid hsetlen; replace hR := Lib.hid hR; replace hB := Lib.hid hB; replace hcur := Lib.hid hcur; replace hcx := Lib.hid hcx; replace b2 := Lib.hid b2; replace hs2 := Lib.hid hs2
          go_wp2_with fail
          ((with_reducible refine IHc.out.mono ?_))
          rintro e W4 ⟨q4, m4, c4, rfl, hB4⟩
          rw [hs2.out] at hB4
          have hgW2 : g < W2.heap.size := lt_of_heap hcur.out
          have hbk := Lib.hid (below_back hcur.out hcx.out (v := .int .i64 (who : Int)) (by rw [hs2.out] at *; exact hB4))
          have e0 := (hB4.cell (p := ⟨w.heap.size, 0, none⟩) (by have := hB.out.size; simp; omega)).trans d3
          have f0 := (hB4.frozen (p := ⟨g, j, none⟩) hgW2).trans (hO3.out.free j)
          have f1 := (hB4.cell (p := ⟨g, j, none⟩) hgW2).trans (hO3.out.cell hlt)
          have hsz4 : Hid (W4.heap.size = (W4.setCell ⟨g, j, none⟩ (.int .i64 0)).heap.size) := by show _ = _; simp [World.setCell]
          have hWB : W1.heap.size ≤ (W4.setCell ⟨g, j, none⟩ (.int .i64 0)).heap.size := Nat.le_trans hB.out.size hbk.out.size
          have hRk := Lib.hid (hR.out.below hbk.out (Nat.le_refl _))
          have hBk := Lib.hid (hB.out.trans (hbk.out.mono hB.out.size))
          clear d0 d2 d3 d4 hf0 IHc hB4 hO3 hls3
          have hgk := hgk.out
          by_cases u1 : best < -r
          · have hres := hup.out u1
            replace hgk := Lib.hid hgk; replace hres := Lib.hid hres
            go_wp2_with (at_builtin; refine wp_append1s int23 (W4.setCell ⟨g, j, none⟩ (.int .i64 0)) rfl _ _ rfl W1.heap.size none 0 0 [] rfl (Own.nil _ _ _) (j : Int) _ hsz4.out rfl (by omega) hWB ?_; intro p2 c3 w2 hM hg2 _ hz2)
            have hB5 := hBk.out.grown hg2 hWB (fun x hx => by cases hx)
            have hgk := hgk.out
            go_roundg (n - (j + 1))
            case measure => omega
            case rel => exact ⟨j + 1, c3, p2, by omega, rfl, by go_num, by rw [hss.out, hres.out], by rw [hss.out, hres.out]; rfl, by rw [hss.out, hres.out]; exact hM, hB5⟩
          · by_cases u2 : -r = best
            · have hres := heq.out u2
              have u3 : (-r == best) = true := by simp [u2]
              replace hgk := Lib.hid hgk; replace hres := Lib.hid hres; replace u2 := Lib.hid u2
              go_wp2_with (at_builtin; refine wp_append1s int23 (W4.setCell ⟨g, j, none⟩ (.int .i64 0)) rfl _ _ rfl W1.heap.size q wl.length c' _ rfl hRk.out (j : Int) _ hsz4.out rfl (by omega) hWB ?_; intro p2 c3 w2 hM hg2 _ hz2)
              have hB5 := hBk.out.grown hg2 hWB (fun x hx => by
                cases q with
                | none => cases hx
                | some a => cases hx; exact (hRk.out.block a rfl).1)
              have hgk := hgk.out
              go_roundg (n - (j + 1))
              case measure => omega
              case rel => exact ⟨j + 1, c3, p2, by omega, rfl, by go_num, by rw [hss.out, hres.out], by rw [hss.out, hres.out]; simp, by rw [hss.out, hres.out, asI_app]; simpa [asI] using hM, hB5⟩
            · have hres := hno.out (by omega)
              have u3 : (-r == best) = false := by simp [u2]
              replace hgk := Lib.hid hgk; replace hres := Lib.hid hres
              go_wp2_with fail
              have hgk := hgk.out
              go_roundg (n - (j + 1))
              case measure => omega
              case rel => exact ⟨j + 1, c', q, by omega, rfl, by go_num, by rw [hss.out, hres.out], by rw [hss.out, hres.out], by rw [hss.out, hres.out]; exact hRk.out, hBk.out⟩
        · have hz0 : ((st cs j : Int) != 0) = true := by simp; omega
          have hres := tryAt_skip (rec := rec) (cs := cs) (who := who) (i := j) (b := (best, wl)) h0
          replace hres := Lib.hid hres; replace h0 := Lib.hid h0; replace hO2 := Lib.hid hO2; replace hR := Lib.hid hR; replace hB := Lib.hid hB; replace b2 := Lib.hid b2
          go_wp2_with fail
          have hgk := hgk.out
          go_roundg (n - (j + 1))
          case measure => omega
          case rel => exact ⟨j + 1, c', q, by omega, rfl, by go_num, by rw [hss.out, hres.out], by rw [hss.out, hres.out], by rw [hss.out, hres.out]; exact hR.out, hB.out⟩
      · have hje : j = n := by omega
        subst hje
        have hfin := hB1w.out.trans (hB.mono hB1w.out.size)
        generalize seek rec cs who j = bst at *
        obtain ⟨best, wl⟩ := bst
        simp only at hbd1 hbd2 hsl hR ⊢
        replace hR := Lib.hid hR; replace hB := Lib.hid hB; replace hfin := Lib.hid hfin
        by_cases u1 : best < -1
        · have hr : valueR ls rec cs who = (0, []) := by rw [hval2.out, pickd, if_pos u1]
          replace hr := Lib.hid hr
          go_wp2_with fail
          go_ret2
          exact ⟨none, 0, by rw [hr.out]; rfl, hfin.out⟩
        · have hr : valueR ls rec cs who = (best, wl) := by rw [hval2.out, pickd, if_neg u1]
          replace hr := Lib.hid hr
          go_wp2_with fail
          go_ret2
          exact ⟨⟨q, c', by rw [hr.out]; rfl⟩, hfin.out⟩
  · by_cases hvw : v = who
    · have z0 : ((v : Int) == 0) = false := by simp; omega
      have z1 : ((v : Int) == (who : Int)) = true := by simp [hvw]
      have hr : valueR ls rec cs who = (1, []) := by rw [hval.out, if_neg hv0, if_pos hvw]
      replace hr := Lib.hid hr; replace hvw := Lib.hid hvw
      go_wp2_with fail
      go_ret2
      exact ⟨none, 0, by rw [hr.out]; rfl, hB1w.out⟩
    · have z0 : ((v : Int) == 0) = false := by simp; omega
      have z1 : ((v : Int) == (who : Int)) = false := by simp; omega
      have hr : valueR ls rec cs who = (-1, []) := by rw [hval.out, if_neg hv0, if_neg hvw]
      replace hr := Lib.hid hr; replace hvw := Lib.hid hvw
      go_wp2_with fail
      go_ret2
      exact ⟨none, 0, by rw [hr.out]; rfl, hB1w.out⟩

theorem value_any (g B n c nl cl : Nat) (ql : Option Addr) (ls : List (List Nat)) (hn1 : 1 ≤ n) (hn : n ≤ 100) (hgB : g < B) (hlen : ls.length = nl) (hnl : nl ≤ 100000) (hok : LinesOk n ls) : ∀ (f : Nat) (cs : List Nat) (who : Nat) (w : World), zeros cs ≤ f → cs.length = n →
    (∀ j, st cs j ≤ 2) → 1 ≤ who → who ≤ 2 → Own 3 0 w (some ⟨g, 0, none⟩) n c (asI cs) → RowsIn B w ql (ls.map asI) → ∀ wI : Int, Hid (wI = who) →
    Calls Try.prog 10 #[.agg #[.slice (some ⟨g, 0, none⟩) n c, .slice ql nl cl], .int .i64 wI] w fun e w' => ∃ q c', e = .returned (.tuple #[.int .i64 (value ls f cs who).1, .slice q (value ls f cs who).2.length c']) ∧ Below w.heap.size w w' := by
  intro f
  induction f with
  | zero =>
    intro cs who w hz hl h2 h3 h4 hO hls wI hwI
    rw [value_zero]
    exact value_step g B n c nl cl ql cs ls who w _ (fun _ _ => by simp) hn1 hn hO hgB hls hlen hnl hok h2 h3 h4 (fun cs' who' W hlt => absurd hlt (by omega)) wI hwI
  | succ f ih =>
    intro cs who w hz hl h2 h3 h4 hO hls wI hwI
    rw [value_succ]
    refine value_step g B n c nl cl ql cs ls who w _ (fun c w => value_bd ls f c w) hn1 hn hO hgB hls hlen hnl hok h2 h3 h4 (fun cs' who' W hlt hl' h2' h3' h4' hO' hls' wI' hwI' => ?_) wI hwI
    refine (ih cs' who' W (by omega) hl' h2' h3' h4' hO' hls' wI' hwI').mono ?_
    rintro e w' ⟨q, c', he, hB⟩
    exact ⟨q, _, c', he, hB⟩
end Go.Proofs.Ytofncejjlfepkaa
