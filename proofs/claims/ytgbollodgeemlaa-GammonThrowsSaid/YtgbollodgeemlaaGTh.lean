/- What gameroomkeep.GammonThrows computes; conditions: the arguments fit their kinds. -/
import Derived.Test.YtgbollodgeemlaaGRo
namespace Go.Proofs.Ytgbollodgeemlaa
open Go.RowKit Go.Maps

def gup (l : List Nat) : Nat := gmean l / ggcd l
def gdn (l : List Nat) : Nat := 78364164096 / ggcd l
def gunit (k : Nat) : List Nat := [0, 0, 0, 0, 0, 0].set k 1
def gask (l : List Nat) : Bool := decide (1 ≤ gdn l ∧ gup l ≤ 1099511627776 ∧ gdn l ≤ 78364164096) && (if Nat.beq l.sum 0 then Nat.beq (gup l) 0 && Nat.beq (gdn l) 1 else decide (gdn l ≤ gup l ∧ l.sum * gdn l ≤ 4 * gup l ∧ 2 * gup l ≤ (gpips l + 1) * gdn l ∧ gpips l ≤ 18))
theorem gask_all : gall gask = true := by decide +kernel
def gneed (k : Nat) : Nat := [36, 36, 36, 38, 41, 45].getD k 0
theorem gone : ∀ k, k < 6 → gup (gunit k) * 36 = gneed k * gdn (gunit k) := by decide +kernel
theorem gunit_st {k : Nat} (hk : k < 6) : gst (gunit k) := by
  rcases (show k = 0 ∨ k = 1 ∨ k = 2 ∨ k = 3 ∨ k = 4 ∨ k = 5 by omega) with rfl | rfl | rfl | rfl | rfl | rfl <;> simp [gst, gunit]
/-- one man more. -/
def gadd (l : List Nat) (k : Nat) : List Nat := l.set k (gat l k + 1)
theorem gadd_len {l : List Nat} (k : Nat) (h : l.length = 6) : (gadd l k).length = 6 := by unfold gadd; rw [List.length_set]; exact h
theorem gadd_sum {l : List Nat} {k : Nat} (h : l.length = 6) (hk : k < 6) : (gadd l k).sum = l.sum + 1 ∧ gpips (gadd l k) = gpips l + (k + 1) := by
  match l, h with
  | [a, b, c, d, e, f], _ =>
    rcases (show k = 0 ∨ k = 1 ∨ k = 2 ∨ k = 3 ∨ k = 4 ∨ k = 5 by omega) with rfl | rfl | rfl | rfl | rfl | rfl <;>
      simp only [gadd, gat, List.set_cons_zero, List.set_cons_succ, List.getD_cons_zero, List.getD_cons_succ, gpips, List.sum_cons, List.sum_nil] <;> omega
theorem gat_le_sum {l : List Nat} (k : Nat) (h : l.length = 6) : gat l k ≤ l.sum := by
  match l, h with
  | [a, b, c, d, e, f], _ =>
    by_cases hk : k < 6
    · rcases (show k = 0 ∨ k = 1 ∨ k = 2 ∨ k = 3 ∨ k = 4 ∨ k = 5 by omega) with rfl | rfl | rfl | rfl | rfl | rfl <;>
        simp only [gat, List.getD_cons_zero, List.getD_cons_succ, List.sum_cons, List.sum_nil] <;> omega
    · rw [gat, List.getD, List.getElem?_eq_none (by simp; omega)]; simp
theorem hcells_set {l : List Nat} (k v : Nat) : (hcells l).toArray.setIfInBounds k (.int .i64 (v : Int)) = (hcells (l.set k v)).toArray := by
  simp [hcells, List.map_set]
theorem hcells_ints {w : World} {b : Nat} {l : List Nat} (h6 : l.length = 6) (hb : w.heap[b]? = some (.cells (hcells l).toArray 3 (0, 0))) : IntsIn w (some ⟨b, 0, none⟩) 6 (asI l) := by
  refine IntsIn.mk' (by rw [asI_len, h6]) (lt_of_heap hb) fun j hj => ?_
  rw [Nat.zero_add, wcell hb j, hcells, asI_at, st, List.getElem?_map, List.getElem?_eq_getElem (by omega)]
  rfl

set_option maxRecDepth 100000 in
set_option maxHeartbeats 8000000 in
theorem throws_any (q : Option Addr) (n c : Nat) (zz : List Int) (which : Int) (w : World) (hn : n ≤ 9223372036854775807) (hw1 : -9223372036854775808 ≤ which) (hw2 : which ≤ 9223372036854775807) (hz : ∀ j : Nat, j < n → -9223372036854775808 ≤ zz[j]?.getD 0 ∧ zz[j]?.getD 0 ≤ 9223372036854775807) (hx : IntsIn w q n zz) :
    Calls Try.prog 3 #[.slice q n c, .int .i64 which] w fun e w' => e = .returned (.bool true) ∧ Below w.heap.size w w' := by
  have hmk : Hid (∀ W : World, (Instr.makeSlice 22 (.int .i64 6) (.int .i64 6)).run Try.prog W = .ok (.slice (some ⟨W.heap.size, 0, none⟩) 6 6) (W.alloc (.cells #[.int .i64 0, .int .i64 0, .int .i64 0, .int .i64 0, .int .i64 0, .int .i64 0] 3))) := fun W => run_mk intG .i64 .i64 6 6 6 rfl rfl (by omega) W
  have hmk1 := hmk.out w
  have e0 : (w.alloc (.cells #[.int .i64 0, .int .i64 0, .int .i64 0, .int .i64 0, .int .i64 0, .int .i64 0] 3)).heap[w.heap.size]? = some (.cells (hcells [0, 0, 0, 0, 0, 0]).toArray 3 (0, 0)) := heap_alloc_new w _
  have hB0 := Lib.hid ((Below.refl w.heap.size w).alloc (Nat.le_refl _) (.cells #[.int .i64 0, .int .i64 0, .int .i64 0, .int .i64 0, .int .i64 0, .int .i64 0] 3))
  have hxl := hx.len
  have hxlt : Hid (∀ j, j < n → ∃ b o, q = some ⟨b, o, none⟩ ∧ b < w.heap.size) := fun j hj => by obtain ⟨b, o, h1, h2, _⟩ := hx.2 j hj; exact ⟨b, o, h1, h2⟩
  replace hx := Lib.hid hx; replace hz := Lib.hid hz; replace e0 := Lib.hid e0; replace hxl := Lib.hid hxl
  go_enter Try.func3, Try.ntmps3
  go_wp2_with fail
  generalize w.alloc (.cells #[.int .i64 0, .int .i64 0, .int .i64 0, .int .i64 0, .int .i64 0, .int .i64 0] 3) = W0 at *
  clear hmk1
  go_loopg [6, 7, 8] 3 (fun gk v6 v7 v8 W' => ∃ (i : Nat) (L : List Nat), i ≤ 3 ∧ i ≤ n ∧ gk = 3 - i ∧ v6 = .int .i64 i ∧ v7 = .int .i64 (gpips L : Nat) ∧ v8 = .int .i64 i ∧ L.length = 6 ∧ L.sum = i ∧ gpips L ≤ 6 * i ∧ W'.heap[w.heap.size]? = some (.cells (hcells L).toArray 3 (0, 0)) ∧ Below w.heap.size w W')
  case atStart => exact ⟨0, [0, 0, 0, 0, 0, 0], by omega, by omega, by omega, rfl, rfl, rfl, rfl, rfl, by decide, e0.out, hB0.out⟩
  case round =>
    obtain ⟨i, L, hi3, hin, hgk, rfl, rfl, rfl, hL6, hLs, hLp, hb, hBr⟩ := hrel
    obtain ⟨W1, rfl⟩ : ∃ W1 : World, W1 = wr := ⟨_, rfl⟩
    replace hgk := Lib.hid hgk
    by_cases hlt : i < n ∧ i < 3
    · obtain ⟨h1, h2⟩ := hlt
      obtain ⟨gb, go, rfl, hgb⟩ := hxlt.out i h1
      obtain ⟨_, _, e, _, hcx⟩ := (hx.out.below hBr).2 i h1
      cases e
      have hzi := hz.out i h1
      generalize zz[i]?.getD 0 = x at *
      have HP := Lib.hid (fun W => picked_any x 6 W hzi.1 hzi.2 (by omega) (by omega) 6 (Lib.hid rfl))
      have hk := pick_lt x 6 (by omega)
      generalize pick x 6 = k at *
      have hk1 : W1.cell? ⟨w.heap.size, k, none⟩ = some (.int .i64 ((gat L k : Nat) : Int)) := by
        rw [wcell hb k, hcells, List.getElem?_map, gat, List.getD_eq_getElem?_getD, List.getElem?_eq_getElem (by omega)]; rfl
      have hf1 : W1.frozen? ⟨w.heap.size, k, none⟩ = false := wfree hb k
      have hgl := gat_le_sum k hL6
      obtain ⟨ha1, ha2⟩ := gadd_sum hL6 hk
      have hal := Lib.hid (gadd_len k hL6)
      have hset := hcells_set (l := L) k (gat L k + 1)
      have hga : Hid (gadd L k = L.set k (gat L k + 1)) := rfl
      generalize gat L k = G at *
      generalize gadd L k = L2 at *
      replace hb := Lib.hid hb; replace hBr := Lib.hid hBr; replace hset := Lib.hid hset
      go_wp2_with fail
      refine (HP.out _).mono ?_
      rintro r w' ⟨rfl, rfl⟩
      go_wp2_with fail
      have hgk := hgk.out
      go_roundg (3 - (i + 1))
      case measure => omega
      case rel => exact ⟨i + 1, L2, by omega, by omega, rfl, by go_num, by rw [ha2]; go_num, by go_num, hal.out, by omega, by omega, by rw [wset hb.out, hga.out, ← hset.out]; rfl, hBr.out.setCell (Nat.le_refl _) _⟩
    · have hgL : gst L := ⟨hL6, by omega⟩
      have HR := Lib.hid (Rolls_any L (some ⟨w.heap.size, 0, none⟩) 6 W1 hgL (hcells_ints hL6 hb))
      have hask := gall_st gask_all L hgL
      unfold gask at hask
      rw [Bool.and_eq_true, decide_eq_true_eq, hLs] at hask
      obtain ⟨⟨hk1, hk2, hk3⟩, hk4⟩ := hask
      rw [show gmean L / ggcd L = gup L from rfl, show 78364164096 / ggcd L = gdn L from rfl] at HR
      generalize gup L = A at *
      generalize gdn L = Bn at *
      generalize gpips L = P at *
      have hdisj : n ≤ i ∨ (i < n ∧ i = 3) := by omega
      replace hk4 := Lib.hid hk4; replace hBr := Lib.hid hBr
      have hA0 : ¬ (A : Int) < 0 := by omega
      have hB0' : ¬ (Bn : Int) < 1 := by omega
      have hW := Lib.hid (fun W => picked_any which 6 W hw1 hw2 (by omega) (by omega) 6 (Lib.hid rfl))
      have hkk := pick_lt which 6 (by omega)
      generalize pick which 6 = kk at *
      clear hlt hb hgL hLp hL6 hLs
      by_cases hi0 : i = 0
      · have hn0 : ¬ ((i : Int) < (n : Int)) := by omega
        have hi00 : ((i : Int) == 0) = true := by simp; omega
        have hk5 := hk4.out
        rw [hi0] at hk5
        rw [show Nat.beq 0 0 = true from rfl] at hk5
        simp only [if_true, Bool.and_eq_true] at hk5
        have hA1 : A = 0 := Nat.eq_of_beq_eq_true hk5.1
        have hB1 : Bn = 1 := Nat.eq_of_beq_eq_true hk5.2
        subst hA1 hB1
        clear hdisj hk5
        go_wp2_with fail
        refine HR.out.mono ?_
        rintro r w2 ⟨rfl, hB2⟩
        have hB3 := Lib.hid (hBr.out.trans (hB2.mono hBr.out.size))
        clear hB2
        go_wp2_with fail
        go_ret
        exact ⟨rfl, hB3.out⟩
      · have hi00 : ((i : Int) == 0) = false := by simp; omega
        have hib : Nat.beq i 0 = false := by
          cases h : Nat.beq i 0 with
          | false => rfl
          | true => exact absurd (Nat.eq_of_beq_eq_true h) hi0
        have hk5 := hk4.out
        rw [hib] at hk5
        simp only [Bool.false_eq_true, if_false, decide_eq_true_eq] at hk5
        obtain ⟨h5, h6, h7, h8⟩ := hk5
        have hgo := gone kk hkk
        have hgs := Lib.hid (gunit_st hkk)
        have hgk := gall_st gask_all _ (gunit_st hkk)
        unfold gask at hgk
        rw [Bool.and_eq_true, decide_eq_true_eq] at hgk
        obtain ⟨⟨hu1, hu2, hu3⟩, _⟩ := hgk
        have HR2 := Lib.hid (fun (b : Nat) (W : World) (hb : W.heap[b]? = some (.cells (hcells (gunit kk)).toArray 3 (0, 0))) => Rolls_any (gunit kk) (some ⟨b, 0, none⟩) 6 W hgs.out (hcells_ints hgs.out.1 hb))
        rw [show gmean (gunit kk) / ggcd (gunit kk) = gup (gunit kk) from rfl, show 78364164096 / ggcd (gunit kk) = gdn (gunit kk) from rfl] at HR2
        have hset0 : Hid ([Value.int .i64 0, .int .i64 0, .int .i64 0, .int .i64 0, .int .i64 0, .int .i64 0].set kk (.int .i64 1) = hcells (gunit kk)) := by show _ = _; unfold gunit hcells; rw [List.map_set]; rfl
        have hnb : gneed kk ≤ 45 := by
          rcases (show kk = 0 ∨ kk = 1 ∨ kk = 2 ∨ kk = 3 ∨ kk = 4 ∨ kk = 5 by omega) with rfl | rfl | rfl | rfl | rfl | rfl <;> decide
        have hnd : ∀ h : kk < [Value.int .i64 36, .int .i64 36, .int .i64 36, .int .i64 38, .int .i64 41, .int .i64 45].length, [Value.int .i64 36, .int .i64 36, .int .i64 36, .int .i64 38, .int .i64 41, .int .i64 45][kk]'h = .int .i64 (gneed kk : Int) := six_get (l := [36, 36, 36, 38, 41, 45]) rfl kk hkk
        generalize gup (gunit kk) = C at *
        generalize gdn (gunit kk) = D at *
        generalize gneed kk = nd at *
        have hp1 : nd * D ≤ 45 * 78364164096 := Nat.mul_le_mul hnb hu3
        have hp2 : i * Bn ≤ 3 * 78364164096 := Nat.mul_le_mul hi3 hk3
        have hp3 : (P + 1) * Bn ≤ 19 * 78364164096 := Nat.mul_le_mul (by omega) hk3
        obtain ⟨P1, hP1⟩ : ∃ P1, P1 = nd * D := ⟨_, rfl⟩
        obtain ⟨P2, hP2⟩ : ∃ P2, P2 = i * Bn := ⟨_, rfl⟩
        obtain ⟨P3, hP3⟩ : ∃ P3, P3 = (P + 1) * Bn := ⟨_, rfl⟩
        have q1 : (nd : Int) * (D : Int) = (P1 : Int) := by rw [hP1]; push_cast; rfl
        have q2 : (i : Int) * (Bn : Int) = (P2 : Int) := by rw [hP2]; push_cast; rfl
        have q3 : ((P : Int) + 1) * (Bn : Int) = (P3 : Int) := by rw [hP3]; push_cast; rfl
        rw [← hP1] at hp1 hgo
        rw [← hP2] at hp2 h6
        rw [← hP3] at hp3 h7
        have c1 : ((C : Int) * 36 == (P1 : Int)) = true := by simp; omega
        have c2 : (Bn : Int) ≤ (A : Int) := by omega
        have c3 : (P2 : Int) ≤ 4 * (A : Int) := by omega
        have c4 : 2 * (A : Int) ≤ (P3 : Int) := by omega
        clear hP1 hP2 hP3 hib hi0
        replace hk4 := Lib.hid hk4
        rcases hdisj with h1 | ⟨h1, h2⟩
        all_goals
          go_wp2_with fail
          refine HR.out.mono ?_
          rintro r w2 ⟨rfl, hB2⟩
          have hB3 := Lib.hid (hBr.out.trans (hB2.mono hBr.out.size))
          clear hB2
          have hmk1 := hmk.out w2
          go_wp2_with fail
          refine (hW.out _).mono ?_
          rintro r w3 ⟨rfl, rfl⟩
          have e2 : (w2.alloc (.cells #[.int .i64 0, .int .i64 0, .int .i64 0, .int .i64 0, .int .i64 0, .int .i64 0] 3)).heap[w2.heap.size]? = some (.cells (hcells [0, 0, 0, 0, 0, 0]).toArray 3 (0, 0)) := heap_alloc_new w2 _
          have hk1' : (w2.alloc (.cells #[.int .i64 0, .int .i64 0, .int .i64 0, .int .i64 0, .int .i64 0, .int .i64 0] 3)).cell? ⟨w2.heap.size, kk, none⟩ = some (.int .i64 ((gat [0, 0, 0, 0, 0, 0] kk : Nat) : Int)) := by
            rw [wcell e2 kk]; exact six_at rfl kk hkk
          have hf1 : (w2.alloc (.cells #[.int .i64 0, .int .i64 0, .int .i64 0, .int .i64 0, .int .i64 0, .int .i64 0] 3)).frozen? ⟨w2.heap.size, kk, none⟩ = false := wfree e2 kk
          have HR3 := Lib.hid (HR2.out w2.heap.size (w2.alloc (.cells ([Value.int .i64 0, .int .i64 0, .int .i64 0, .int .i64 0, .int .i64 0, .int .i64 0].set kk (.int .i64 1)).toArray 3)) (by rw [← hset0.out]; exact heap_alloc_new w2 _))
          have hB5 := Lib.hid (hB3.out.trans (((Below.refl w2.heap.size w2).alloc (Nat.le_refl _) (.cells ([Value.int .i64 0, .int .i64 0, .int .i64 0, .int .i64 0, .int .i64 0, .int .i64 0].set kk (.int .i64 1)).toArray 3)).mono hB3.out.size))
          go_wp2_with fail
          refine HR3.out.mono ?_
          rintro r w4 ⟨rfl, hB6⟩
          have hB7 := Lib.hid (hB5.out.trans (hB6.mono hB5.out.size))
          clear hB6 hk1' hf1 e2 hmk1
          go_wp2_with fail
          go_ret
          exact ⟨rfl, hB7.out.alloc hB7.out.size _⟩
end Go.Proofs.Ytgbollodgeemlaa
