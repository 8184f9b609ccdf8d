/- What gammon.Rolls computes: the mean in lowest terms; conditions: six numbers, three men at most. -/
import Derived.Test.YtgbollodgeemlaaGOf
import Derived.Test.YtgbollodgeemlaaCf
namespace Go.Proofs.Ytgbollodgeemlaa
open Go.RowKit Go.Maps

theorem neg_no (x : Int) (h : 0 ≤ x) (w : World) : Calls Try.prog 13 #[.int .i64 x] w fun e w' => e = .returned (.bool false) ∧ w = w' := by
  have h' : ¬ x < 0 := by omega
  go_enter Try.func13, Try.ntmps13
  go_wp2_with fail
  go_ret
  exact ⟨rfl, rfl⟩

def gfill (l : List Nat) (k : Nat) : List Nat := l.take k ++ List.replicate (6 - k) 0
theorem gfill_set {l : List Nat} (h : l.length = 6) {k : Nat} (hk : k < 6) : (hcells (gfill l k)).toArray.setIfInBounds k (.int .i64 ((st l k : Nat) : Int)) = (hcells (gfill l (k + 1))).toArray := by
  match l, h with
  | [a, b, c, d, e, f], _ =>
    rcases (show k = 0 ∨ k = 1 ∨ k = 2 ∨ k = 3 ∨ k = 4 ∨ k = 5 by omega) with rfl | rfl | rfl | rfl | rfl | rfl <;> rfl
theorem sum_take_succ (l : List Nat) (k : Nat) (h : k < l.length) : (l.take (k + 1)).sum = (l.take k).sum + st l k := by
  rw [List.take_succ_eq_append_getElem h, List.sum_append]
  simp [st, h]
theorem sum_take_le : ∀ (l : List Nat) (k : Nat), (l.take k).sum ≤ l.sum := by
  intro l
  induction l with
  | nil => intro k; simp
  | cons x l ih => intro k; cases k with
    | zero => simp
    | succ k => simp only [List.take_succ_cons, List.sum_cons]; have := ih k; omega
def ggcd (l : List Nat) : Nat := Nat.gcd (gmean l) 78364164096

set_option maxRecDepth 20000 in
set_option maxHeartbeats 8000000 in
theorem Rolls_any (l : List Nat) (q : Option Addr) (cc : Nat) (w : World) (hst : gst l) (hx : IntsIn w q 6 (asI l)) :
    Calls Try.prog 6 #[.slice q 6 cc] w fun r w' => r = .returned (.tuple #[.int .i64 ((gmean l / ggcd l : Nat) : Int), .int .i64 ((78364164096 / ggcd l : Nat) : Int), .int .i64 0]) ∧ Below w.heap.size w w' := by
  obtain ⟨gb, go, rfl, hgb, hcx⟩ := hx.at (by omega)
  clear hcx
  have hB0 := Lib.hid ((Below.refl w.heap.size w).alloc (Nat.le_refl _) (.cells #[.int .i64 0, .int .i64 0, .int .i64 0, .int .i64 0, .int .i64 0, .int .i64 0] 40))
  have hx0 := hx.alloc (.cells #[.int .i64 0, .int .i64 0, .int .i64 0, .int .i64 0, .int .i64 0, .int .i64 0] 40)
  have e0 : (w.alloc (.cells #[.int .i64 0, .int .i64 0, .int .i64 0, .int .i64 0, .int .i64 0, .int .i64 0] 40)).heap[w.heap.size]? = some (.cells (hcells (gfill l 0)).toArray 40 (0, 0)) := heap_alloc_new w _
  have hsz0 : w.heap.size < (w.alloc (.cells #[.int .i64 0, .int .i64 0, .int .i64 0, .int .i64 0, .int .i64 0, .int .i64 0] 40)).heap.size := by simp
  have HC := Lib.hid (contains_none (some ⟨gb, go, none⟩) 6 cc (asI l) (w.alloc (.cells #[.int .i64 0, .int .i64 0, .int .i64 0, .int .i64 0, .int .i64 0, .int .i64 0] 40)) (by omega) hx0 (fun j hj W => neg_no _ (by rw [asI_at]; omega) W))
  replace hx := Lib.hid hx; replace hx0 := Lib.hid hx0; replace e0 := Lib.hid e0
  go_enter Try.func6, Try.ntmps6
  go_wp2_with fail
  generalize w.alloc (.cells #[.int .i64 0, .int .i64 0, .int .i64 0, .int .i64 0, .int .i64 0, .int .i64 0] 40) = W at *
  refine HC.out.mono ?_
  rintro r w1 ⟨rfl, rfl⟩
  go_wp2_with fail
  go_loopg [6, 20] 6 (fun gk v6 v20 W' => ∃ k : Nat, k ≤ 6 ∧ gk = 6 - k ∧ v6 = .int .i64 (3 - ((l.take k).sum : Nat)) ∧ v20 = .int .i64 k ∧ W'.heap[w.heap.size]? = some (.cells (hcells (gfill l k)).toArray 40 (0, 0)) ∧ Below w.heap.size w W')
  case atStart => exact ⟨0, by omega, by omega, by simp, rfl, e0.out, hB0.out⟩
  case round =>
    obtain ⟨k, hk, hgk, rfl, rfl, hb, hBr⟩ := hrel
    obtain ⟨W1, rfl⟩ : ∃ W1 : World, W1 = wr := ⟨_, rfl⟩
    replace hgk := Lib.hid hgk
    by_cases hlt : k < 6
    · have hsu := sum_take_succ l k (by rw [hst.1]; exact hlt)
      have hle := sum_take_le l (k + 1)
      have h3 := hst.2
      have k1 : W1.cell? ⟨gb, go + k, none⟩ = some (.int .i64 ((st l k : Nat) : Int)) := (hx.out.below hBr).cellN hlt
      have f1 : W1.frozen? ⟨w.heap.size, k, none⟩ = false := wfree hb k
      have k2 : W1.cell? ⟨w.heap.size, k, none⟩ = some (.int .i64 ((st (gfill l k) k : Nat) : Int)) := by
        rw [wcell hb k, hcells, List.getElem?_map]
        have : k < (gfill l k).length := by unfold gfill; simp [hst.1]; omega
        rw [List.getElem?_eq_getElem this, st, List.getElem?_eq_getElem this]; rfl
      generalize hs : st l k = s at *
      have hle1 : ¬ ((s : Int) > 3 - ((l.take k).sum : Nat)) := by omega
      have hset := gfill_set hst.1 hlt
      rw [hs] at hset
      replace hb := Lib.hid hb; replace hBr := Lib.hid hBr; replace hset := Lib.hid hset; replace hs := Lib.hid hs; replace hsu := Lib.hid hsu
      generalize hT : (l.take k).sum = T at *
      go_wp2_with fail
      have hgk := hgk.out
      go_roundg (6 - (k + 1))
      case measure => omega
      case rel => exact ⟨k + 1, by omega, rfl, by rw [hsu.out]; go_num, by go_num, by rw [wset hb.out, hset.out], hBr.out.setCell (Nat.le_refl _) _⟩
    · obtain rfl : k = 6 := by omega
      obtain ⟨a, b, c, d, e, f, hl⟩ := six hst.1
      have hgf : (hcells (gfill l 6)).toArray = #[.int .i64 (a : Int), .int .i64 (b : Int), .int .i64 (c : Int), .int .i64 (d : Int), .int .i64 (e : Int), .int .i64 (f : Int)] := by rw [hl]; rfl
      rw [hgf] at hb
      have x1 : W1.cell? ⟨w.heap.size, 0, none⟩ = some (.int .i64 (a : Int)) := wcell (cs := [_, _, _, _, _, _]) hb 0
      have x2 : W1.cell? ⟨w.heap.size, 1, none⟩ = some (.int .i64 (b : Int)) := wcell (cs := [_, _, _, _, _, _]) hb 1
      have x3 : W1.cell? ⟨w.heap.size, 2, none⟩ = some (.int .i64 (c : Int)) := wcell (cs := [_, _, _, _, _, _]) hb 2
      have x4 : W1.cell? ⟨w.heap.size, 3, none⟩ = some (.int .i64 (d : Int)) := wcell (cs := [_, _, _, _, _, _]) hb 3
      have x5 : W1.cell? ⟨w.heap.size, 4, none⟩ = some (.int .i64 (e : Int)) := wcell (cs := [_, _, _, _, _, _]) hb 4
      have x6 : W1.cell? ⟨w.heap.size, 5, none⟩ = some (.int .i64 (f : Int)) := wcell (cs := [_, _, _, _, _, _]) hb 5
      have hsum : a + b + c + d + e + f ≤ 3 := by
        have := hst.2
        rw [hl] at this
        simp only [List.sum_cons, List.sum_nil] at this; omega
      have HO := Lib.hid (of_any _ a b c d e f W1.heap.size (W1.alloc (.map #[] 0)) hsum (Nat.lt_succ_self _) (mapOk_made W1))
      rw [← hl] at HO
      have hgle := gmean_le hst
      have hcap := Lib.hid (hBr.alloc hBr.size (.map #[] 0))
      have hszr := hBr.size
      have hs1 : w.heap.size < W1.heap.size := lt_of_heap hb
      have hgd : Hid (ggcd l = Nat.gcd (gmean l) 78364164096) := rfl
      have hg1 : 0 < ggcd l := by unfold ggcd; exact Nat.gcd_pos_of_pos_right _ (by omega)
      generalize hgG : ggcd l = g at *
      generalize hgM : gmean l = M at *
      replace hgG := Lib.hid hgG; replace hgM := Lib.hid hgM
      have hmm := @run_makeMap Try.prog
      replace hb := Lib.hid hb; replace hBr := Lib.hid hBr; replace hl := Lib.hid hl
      go_wp2_with fail
      refine HO.out.mono ?_
      rintro r w2 ⟨rfl, hM2, hg2⟩
      have hB2 : Hid (Below w.heap.size w w2) := Lib.hid (hcap.out.grown hg2 (by simp; omega) (fun x hx => by cases hx; exact hszr))
      clear x1 x2 x3 x4 x5 x6 HO hM2 hg2
      go_wp2_with fail
      go_loopg [11, 12] 78364164096 (fun gk v11 v12 W' => ∃ A B : Nat, gk = B ∧ v11 = .int .i64 A ∧ v12 = .int .i64 B ∧ A ≤ 1099511627776 ∧ B ≤ 1099511627776 ∧ Hid (Nat.gcd A B = g) ∧ Below w.heap.size w W')
      case atStart => exact ⟨M, 78364164096, rfl, rfl, rfl, by omega, by omega, Lib.hid hgd.out.symm, hB2.out⟩
      case round =>
        obtain ⟨A, B, hgk, rfl, rfl, hA, hBb, hgcd, hBr3⟩ := hrel
        obtain ⟨W3, rfl⟩ : ∃ W3 : World, W3 = wr := ⟨_, rfl⟩
        replace hgk := Lib.hid hgk; replace hBr3 := Lib.hid hBr3
        by_cases hB0 : B = 0
        · subst hB0
          obtain rfl : A = g := by have := hgcd.out; rw [Nat.gcd_zero_right] at this; exact this
          obtain ⟨U, hU⟩ : ∃ U, U = M / A := ⟨_, rfl⟩
          obtain ⟨V, hV⟩ : ∃ V, V = 78364164096 / A := ⟨_, rfl⟩
          have hq1 : (M : Int) / (A : Int) = (U : Int) := by rw [hU]; exact (Int.natCast_ediv M A).symm
          have hq2 : (78364164096 : Int) / (A : Int) = (V : Int) := by rw [hV]; exact (Int.natCast_ediv 78364164096 A).symm
          have hq3 : (78364164096 : Int).tdiv (A : Int) = (V : Int) := by rw [Int.tdiv_eq_ediv_of_nonneg (by omega)]; exact hq2
          have hd1 : U ≤ 1099511627776 := by rw [hU]; exact Nat.le_trans (Nat.div_le_self _ _) hgle
          have hd2 : V ≤ 78364164096 := by rw [hV]; exact Nat.div_le_self _ _
          have w1 : IntKind.i64.wrap (U : Int) = U := IntWalk.i64_in _ (by omega)
          have w2 : IntKind.i64.wrap (V : Int) = V := IntWalk.i64_in _ (by omega)
          have hA0 : ¬ A = 0 := by omega
          replace hU := Lib.hid hU; replace hV := Lib.hid hV
          go_wp2_with fail
          go_region_law (fail)
          all_goals
            go_wp2_with fail
            refine bodyPost_ret (v := .tuple #[.int .i64 (U : Int), .int .i64 (V : Int), .int .i64 0]) (by simp [results, Try.results6, go_sem]) rfl ⟨by rw [hU.out, hV.out, hgG.out, hgM.out], ⟨hBr3.out.os, hBr3.out.tape, hBr3.out.output, hBr3.out.size, hBr3.out.block⟩⟩
        · have hb0 : ((B : Int) != 0) = true := by simp; omega
          have hb1 : ¬ (B : Int) = 0 := by omega
          have hr1 : (A : Int).tmod (B : Int) = ((A % B : Nat) : Int) := by rw [Int.tmod_eq_emod_of_nonneg (by omega)]; exact (Int.natCast_emod A B).symm
          have hlt : A % B < B := Nat.mod_lt _ (by omega)
          go_wp2_with fail
          go_region_law (fail)
          go_wp2_with fail
          have hgk := hgk.out
          go_roundg (A % B)
          case measure => omega
          case rel => exact ⟨B, A % B, rfl, rfl, by go_num, by omega, by omega, Lib.hid (by rw [← hgcd.out, Nat.gcd_comm A B, Nat.gcd_rec B A, Nat.gcd_comm]), ⟨hBr3.out.os, hBr3.out.tape, hBr3.out.output, hBr3.out.size, hBr3.out.block⟩⟩
end Go.Proofs.Ytgbollodgeemlaa
