/- What pegs.Class computes; conditions: a board of 1 to 10 by 1 to 10 places. -/
import Derived.Test.YtapoimadiiheaaaExs
import Derived.Test.YtapoimadiiheaaaPgC
namespace Go.Proofs.Ytapoimadiiheaaa
open Go.RowKit

def f0 (x v : Nat) : Nat := if v < 2 then 1 - x else x
def f1 (x v : Nat) : Nat := if 0 < v then 1 - x else x
def kC1 (a : Nat) (s : List Nat) (k : Nat) : Nat := cntK (fun i => decide (col1 a i < 2)) s k % 2
def kC2 (a : Nat) (s : List Nat) (k : Nat) : Nat := cntK (fun i => decide (0 < col1 a i)) s k % 2
def kC3 (a : Nat) (s : List Nat) (k : Nat) : Nat := cntK (fun i => decide (col2 a i < 2)) s k % 2
def kC4 (a : Nat) (s : List Nat) (k : Nat) : Nat := cntK (fun i => decide (0 < col2 a i)) s k % 2
theorem k_no (P : Nat → Bool) (s : List Nat) (k : Nat) (h : st s k ≠ 1) : cntK P s (k + 1) % 2 = cntK P s k % 2 := by
  rw [cntK_succ]; simp [h]
theorem k_yes (P : Nat → Bool) (s : List Nat) (k : Nat) (h : st s k = 1) : cntK P s (k + 1) % 2 = if P k then 1 - cntK P s k % 2 else cntK P s k % 2 := by
  rw [cntK_succ, h]
  by_cases hp : P k = true
  · rw [if_pos (by simp [hp]), if_pos hp]; omega
  · rw [if_neg (by simp [hp]), if_neg hp]; simp
theorem k_le (P : Nat → Bool) (s : List Nat) (k : Nat) : cntK P s k % 2 ≤ 1 := by omega
theorem set4 {X : World} {b : Nat} {t : TypeId} {y0 y1 y2 y3 : Value} (h : X.heap[b]? = some (.cells #[y0, y1, y2, y3] t (0, 0))) (v : Value) :
    (X.setCell ⟨b, 0, none⟩ v).heap[b]? = some (.cells #[v, y1, y2, y3] t (0, 0)) ∧ (X.setCell ⟨b, 1, none⟩ v).heap[b]? = some (.cells #[y0, v, y2, y3] t (0, 0)) ∧ (X.setCell ⟨b, 2, none⟩ v).heap[b]? = some (.cells #[y0, y1, v, y3] t (0, 0)) ∧ (X.setCell ⟨b, 3, none⟩ v).heap[b]? = some (.cells #[y0, y1, y2, v] t (0, 0)) := by
  refine ⟨?_, ?_, ?_, ?_⟩ <;> simp [World.setCell, Array.getElem?_modify, h]
def cl4 (x1 x2 x3 x4 v u : Nat) : Nat → Array Value
  | 0 => #[.int .i64 (x1 : Int), .int .i64 (x2 : Int), .int .i64 (x3 : Int), .int .i64 (x4 : Int)]
  | 1 => #[.int .i64 (f0 x1 v : Int), .int .i64 (f1 x2 v : Int), .int .i64 (x3 : Int), .int .i64 (x4 : Int)]
  | _ => #[.int .i64 (f0 x1 v : Int), .int .i64 (f1 x2 v : Int), .int .i64 (f0 x3 u : Int), .int .i64 (f1 x4 u : Int)]
/-- the class, four numbers. -/
def clsV (a : Nat) (s : List Nat) : Value := .agg #[.int .i64 (kC1 a s s.length : Int), .int .i64 (kC2 a s s.length : Int), .int .i64 (kC3 a s s.length : Int), .int .i64 (kC4 a s s.length : Int)]
theorem clsS_k (a : Nat) (s : List Nat) : clsS a s = [kC1 a s s.length, kC2 a s s.length, kC3 a s s.length, kC4 a s s.length] := rfl
theorem clsV_eq {a : Nat} {s t : List Nat} (h : clsS a s = clsS a t) : clsV a s = clsV a t := by
  rw [clsS_k, clsS_k] at h
  simp only [List.cons.injEq, and_true] at h
  unfold clsV
  rw [h.1, h.2.1, h.2.2.1, h.2.2.2]
set_option maxHeartbeats 8000000 in
set_option maxRecDepth 100000 in
theorem cls_yes (a b n c : Nat) (q : Option Addr) (s : List Nat) (w : World) (ha1 : 1 ≤ a) (ha : a ≤ 10) (hb1 : 1 ≤ b) (hb : b ≤ 10) (hn : n = a * b) (hx : IntsIn w q n (asI s)) (hs2 : ∀ j, st s j ≤ 2) :
    Calls Try.prog 10 #[.agg #[.int .i64 (a : Int), .int .i64 (b : Int), .slice q n c]] w fun e w' => e = .returned (.tuple #[clsV a s, .int .i64 0]) ∧ Bw w w' := by
  have hn100 : n ≤ 100 := by rw [hn]; exact Nat.mul_le_mul ha hb
  have hsl : s.length = n := by have := hx.len; rwa [asI_len] at this
  have hm : mayG a b (asI s) = true := mayG_of ha1 ha hb1 hb (by rw [hsl, hn]) hs2
  have ha0 : ¬ a = 0 := by omega
  obtain ⟨e0, e1⟩ := heap2 w (.cells #[.int .i64 (a : Int), .int .i64 (b : Int), .slice q n c] 24) (.cells #[.int .i64 0, .int .i64 0, .int .i64 0, .int .i64 0] 38)
  have hB0 := below2 w (.cells #[.int .i64 (a : Int), .int .i64 (b : Int), .slice q n c] 24) (.cells #[.int .i64 0, .int .i64 0, .int .i64 0, .int .i64 0] 38)
  have hs0 : ((w.alloc (.cells #[.int .i64 (a : Int), .int .i64 (b : Int), .slice q n c] 24)).alloc (.cells #[.int .i64 0, .int .i64 0, .int .i64 0, .int .i64 0] 38)).heap.size = w.heap.size + 2 := by simp
  have hw0 := Lib.hid hx
  have hcv : Hid (clsV a s = .agg #[.int .i64 (kC1 a s n : Int), .int .i64 (kC2 a s n : Int), .int .i64 (kC3 a s n : Int), .int .i64 (kC4 a s n : Int)]) := by show _ = _; unfold clsV; rw [hsl]
  clear hx
  replace hn := Lib.hid hn; replace hB0 := Lib.hid hB0
  obtain ⟨cv, hcve⟩ : ∃ cv, cv = clsV a s := ⟨_, rfl⟩
  rw [← hcve] at hcv ⊢
  replace hcve := Lib.hid hcve
  go_enter Try.func10, Try.ntmps10
  go_upto_region 1 with fail
  generalize (w.alloc (.cells #[.int .i64 (a : Int), .int .i64 (b : Int), .slice q n c] 24)).alloc (.cells #[.int .i64 0, .int .i64 0, .int .i64 0, .int .i64 0] 38) = W0 at *
  have HM := may_any q n c a b (asI s) W0 (by omega) (by omega) (by omega) (by omega) (by omega) (hw0.out.below hB0.out)
  rw [hm] at HM
  replace HM := Lib.hid HM
  have d0 : W0.cell? ⟨w.heap.size, 0, none⟩ = some (.int .i64 (a : Int)) := wcell (cs := [_, _, _]) e0 0
  have d1 : W0.cell? ⟨w.heap.size, 1, none⟩ = some (.int .i64 (b : Int)) := wcell (cs := [_, _, _]) e0 1
  have d2 : W0.cell? ⟨w.heap.size, 2, none⟩ = some (.slice q n c) := wcell (cs := [_, _, _]) e0 2
  go_upto_region 3 with (go_at_call 11; refine HM.out.mono ?_; rintro e w1 ⟨rfl, hB1⟩)
  have hbw : Bw W0 w1 := hB1
  have g1 := (Below.block hbw _ (by omega)).trans e0
  have c1 : w1.heap[w.heap.size + 1]? = some (.cells #[.int .i64 (kC1 a s 0 : Int), .int .i64 (kC2 a s 0 : Int), .int .i64 (kC3 a s 0 : Int), .int .i64 (kC4 a s 0 : Int)] 38 (0, 0)) := (Below.block hbw _ (by omega)).trans e1
  have l1 : Below w.heap.size w w1 := hB0.out.trans (Below.mono hbw (by omega))
  clear d0 d1 d2 HM
  have d2 : w1.cell? ⟨w.heap.size, 2, none⟩ = some (.slice q n c) := wcell (cs := [_, _, _]) g1 2
  replace g1 := Lib.hid g1; replace c1 := Lib.hid c1; replace l1 := Lib.hid l1; replace e0 := Lib.hid e0; replace e1 := Lib.hid e1; replace hbw := Lib.hid hbw; replace hB1 := Lib.hid hB1
  go_wp2_with fail
  clear d2
  go_loopg [17] n (fun gk iv W' => ∃ k : Nat, k ≤ n ∧ gk = n - k ∧ iv = .int .i64 k ∧ W'.heap[w.heap.size + 1]? = some (.cells #[.int .i64 (kC1 a s k : Int), .int .i64 (kC2 a s k : Int), .int .i64 (kC3 a s k : Int), .int .i64 (kC4 a s k : Int)] 38 (0, 0)) ∧ W'.heap[w.heap.size]? = some (.cells #[.int .i64 (a : Int), .int .i64 (b : Int), .slice q n c] 24 (0, 0)) ∧ Below w.heap.size w W')
  case atStart => exact ⟨0, Nat.zero_le _, rfl, rfl, c1.out, g1.out, l1.out⟩
  case round =>
    obtain ⟨k, hkn, hgk, rfl, hc, hg, hl⟩ := hrel
    obtain ⟨W2, rfl⟩ : ∃ W2 : World, W2 = wr := ⟨_, rfl⟩
    replace hgk := Lib.hid hgk
    clear c1 g1 l1
    by_cases hlt : k < n
    · obtain ⟨bq, oq, rfl, _, hcq⟩ := (hw0.out.below hl).at (by omega)
      have kk := hcq k hlt
      rw [asI_at] at kk
      obtain ⟨x, hx⟩ : ∃ x, x = k % a := ⟨_, rfl⟩
      obtain ⟨y, hy⟩ : ∃ y, y = k / a := ⟨_, rfl⟩
      have hxa : x < a := by rw [hx]; exact Nat.mod_lt _ ha1
      have hyb : y < b := by rw [hy]; exact Nat.div_lt_of_lt_mul (by rw [← hn.out]; exact hlt)
      have hm1 : (k : Int) % (a : Int) = (x : Int) := by rw [hx]; exact (Int.natCast_emod k a).symm
      have hm2 : (k : Int).tmod (a : Int) = (x : Int) := by rw [Int.tmod_eq_emod_of_nonneg (by omega)]; exact hm1
      have hd1 : (k : Int) / (a : Int) = (y : Int) := by rw [hy]; exact (Int.natCast_ediv k a).symm
      have hd2 : (k : Int).tdiv (a : Int) = (y : Int) := by rw [Int.tdiv_eq_ediv_of_nonneg (by omega)]; exact hd1
      have hwx : IntKind.i64.wrap (x : Int) = x := IntWalk.i64_in _ (by omega)
      have hwy : IntKind.i64.wrap (y : Int) = y := IntWalk.i64_in _ (by omega)
      obtain ⟨v, hv⟩ : ∃ v, v = col1 a k := ⟨_, rfl⟩
      obtain ⟨u, hu⟩ : ∃ u, u = col2 a k := ⟨_, rfl⟩
      have hv3 : v < 3 := by rw [hv]; unfold col1; omega
      have hu3 : u < 3 := by rw [hu]; unfold col2; omega
      have hva : ((x : Int) + (y : Int)).tmod 3 = (v : Int) := by rw [Int.tmod_eq_emod_of_nonneg (by omega), hv]; unfold col1; rw [← hx, ← hy]; omega
      have hua : ((x : Int) - (y : Int) + 30).tmod 3 = (u : Int) := by rw [Int.tmod_eq_emod_of_nonneg (by omega), hu]; unfold col2; rw [← hx, ← hy]; omega
      have hva2 : ((x : Int) + (y : Int)) % 3 = (v : Int) := by rw [← hva, Int.tmod_eq_emod_of_nonneg (by omega)]
      have hua2 : ((x : Int) - (y : Int) + 30) % 3 = (u : Int) := by rw [← hua, Int.tmod_eq_emod_of_nonneg (by omega)]
      have w1' : IntKind.i64.wrap ((x : Int) + (y : Int)) = (x : Int) + (y : Int) := IntWalk.i64_in _ (by omega)
      have w2' : IntKind.i64.wrap ((x : Int) - (y : Int)) = (x : Int) - (y : Int) := IntWalk.i64_in _ (by omega)
      have w3' : IntKind.i64.wrap ((x : Int) - (y : Int) + 30) = (x : Int) - (y : Int) + 30 := IntWalk.i64_in _ (by omega)
      have w4' : IntKind.i64.wrap (v : Int) = (v : Int) := IntWalk.i64_in _ (by omega)
      have w5' : IntKind.i64.wrap (u : Int) = (u : Int) := IntWalk.i64_in _ (by omega)
      clear hcq
      by_cases hpeg : st s k = 1
      · rw [hpeg] at kk
        have y1 : Hid (kC1 a s (k + 1) = f0 (kC1 a s k) v) := by show _ = _; unfold kC1 f0; rw [k_yes _ _ _ hpeg, hv]; simp
        have y2 : Hid (kC2 a s (k + 1) = f1 (kC2 a s k) v) := by show _ = _; unfold kC2 f1; rw [k_yes _ _ _ hpeg, hv]; simp
        have y3 : Hid (kC3 a s (k + 1) = f0 (kC3 a s k) u) := by show _ = _; unfold kC3 f0; rw [k_yes _ _ _ hpeg, hu]; simp
        have y4 : Hid (kC4 a s (k + 1) = f1 (kC4 a s k) u) := by show _ = _; unfold kC4 f1; rw [k_yes _ _ _ hpeg, hu]; simp
        have l1 : kC1 a s k ≤ 1 := k_le _ _ _
        have l2 : kC2 a s k ≤ 1 := k_le _ _ _
        have l3 : kC3 a s k ≤ 1 := k_le _ _ _
        have l4 : kC4 a s k ≤ 1 := k_le _ _ _
        replace hx := Lib.hid hx; replace hy := Lib.hid hy; replace hv := Lib.hid hv; replace hu := Lib.hid hu
        generalize kC1 a s k = x1 at *
        generalize kC2 a s k = x2 at *
        generalize kC3 a s k = x3 at *
        generalize kC4 a s k = x4 at *
        have d0 : W2.cell? ⟨w.heap.size, 0, none⟩ = some (.int .i64 (a : Int)) := wcell (cs := [_, _, _]) hg 0
        replace hc := Lib.hid hc; replace hg := Lib.hid hg; replace hl := Lib.hid hl; replace hpeg := Lib.hid hpeg
        go_upto_region 7 with fail
        go_quiet (fail)
        generalize hVV : W2.drewN nq = V at *
        have hcV : V.heap[w.heap.size + 1]? = some (.cells (cl4 x1 x2 x3 x4 v u 0) 38 (0, 0)) := by rw [← hVV]; exact hc.out
        have hgV : V.heap[w.heap.size]? = some (.cells #[.int .i64 (a : Int), .int .i64 (b : Int), .slice (some ⟨bq, oq, none⟩) n c] 24 (0, 0)) := by rw [← hVV]; exact hg.out
        have hlV : Below w.heap.size w V := by rw [← hVV]; exact below_drewN hl.out nq
        clear hVV
        replace hcV := Lib.hid hcV; replace hgV := Lib.hid hgV; replace hlV := Lib.hid hlV
        have b1 := xor_flip l1
        have b2 := xor_flip l2
        have b3 := xor_flip l3
        have b4 := xor_flip l4
        have hi0 : ∀ X : World, (Instr.index 61 (.agg #[.int .i64 (v : Int), .int .i64 (u : Int)]) (.int .i64 0)).run Try.prog X = .ok (.int .i64 (v : Int)) X := fun X => by kernel_rfl
        have hi1 : ∀ X : World, (Instr.index 61 (.agg #[.int .i64 (v : Int), .int .i64 (u : Int)]) (.int .i64 1)).run Try.prog X = .ok (.int .i64 (u : Int)) X := fun X => by kernel_rfl
        clear hc hg hl d0 kk
        go_wp2_with fail
        go_loopg [42] 2 (fun gk iv W' => ∃ j : Nat, j ≤ 2 ∧ gk = 2 - j ∧ iv = .int .i64 j ∧ W'.heap[w.heap.size + 1]? = some (.cells (cl4 x1 x2 x3 x4 v u j) 38 (0, 0)) ∧ W'.heap[w.heap.size]? = some (.cells #[.int .i64 (a : Int), .int .i64 (b : Int), .slice (some ⟨bq, oq, none⟩) n c] 24 (0, 0)) ∧ Below w.heap.size w W')
        case atStart => exact ⟨0, Nat.zero_le _, rfl, rfl, hcV.out, hgV.out, hlV.out⟩
        case round =>
          obtain ⟨j, hj2, hgk2, rfl, hcj, hgj, hlj⟩ := hrel
          obtain ⟨V, rfl⟩ : ∃ V : World, V = wr := ⟨_, rfl⟩
          replace hgk2 := Lib.hid hgk2
          clear hcV hgV hlV
          rcases (show j = 0 ∨ j = 1 ∨ j = 2 by omega) with rfl | rfl | rfl
          · clear y1 y2 y3 y4 hm1 hm2 hd1 hd2
            rcases (show (v < 2 ∧ ¬ 0 < v) ∨ (v < 2 ∧ 0 < v) ∨ (¬ v < 2 ∧ 0 < v) by omega) with ⟨t1, t2⟩ | ⟨t1, t2⟩ | ⟨t1, t2⟩
            · have s1 : (v : Int) < 2 := by omega
              have s2 : ¬ (0 : Int) < (v : Int) := by omega
              replace t1 := Lib.hid t1; replace t2 := Lib.hid t2
              have hc0 : V.heap[w.heap.size + 1]? = some (.cells #[.int .i64 (x1 : Int), .int .i64 (x2 : Int), .int .i64 (x3 : Int), .int .i64 (x4 : Int)] 38 (0, 0)) := hcj
              have ka : V.cell? ⟨w.heap.size + 1, 0, none⟩ = some (.int .i64 (x1 : Int)) := wcell (cs := [_, _, _, _]) hc0 0
              have za : V.frozen? ⟨w.heap.size + 1, 0, none⟩ = false := wfree hc0 0
              have ha := (set4 hc0 (.int .i64 ((1 - x1 : Nat) : Int))).1
              have la : Below w.heap.size w (V.setCell ⟨w.heap.size + 1, 0, none⟩ (.int .i64 ((1 - x1 : Nat) : Int))) := hlj.setCell (p := ⟨w.heap.size + 1, 0, none⟩) (by simp) _
              have ga : (V.setCell ⟨w.heap.size + 1, 0, none⟩ (.int .i64 ((1 - x1 : Nat) : Int))).heap[w.heap.size]? = some (.cells #[.int .i64 (a : Int), .int .i64 (b : Int), .slice (some ⟨bq, oq, none⟩) n c] 24 (0, 0)) := (Below.heap_setCell _ ⟨w.heap.size + 1, 0, none⟩ _ _ (by simp)).trans hgj
              replace hc0 := Lib.hid hc0
              replace hcj := Lib.hid hcj
              replace hgj := Lib.hid hgj
              replace hlj := Lib.hid hlj
              replace ha := Lib.hid ha
              replace la := Lib.hid la
              replace ga := Lib.hid ga
              go_wp2_with fail
              have hgk2 := hgk2.out
              go_roundg 1
              case measure => omega
              case rel => exact ⟨1, by omega, rfl, by go_num, by rw [show cl4 x1 x2 x3 x4 v u 1 = #[.int .i64 (f0 x1 v : Int), .int .i64 (f1 x2 v : Int), .int .i64 (x3 : Int), .int .i64 (x4 : Int)] from rfl, show f0 x1 v = _ from if_pos t1.out, show f1 x2 v = _ from if_neg t2.out]; exact ha.out, ga.out, la.out⟩
            · have s1 : (v : Int) < 2 := by omega
              have s2 : (0 : Int) < (v : Int) := by omega
              replace t1 := Lib.hid t1; replace t2 := Lib.hid t2
              have hc0 : V.heap[w.heap.size + 1]? = some (.cells #[.int .i64 (x1 : Int), .int .i64 (x2 : Int), .int .i64 (x3 : Int), .int .i64 (x4 : Int)] 38 (0, 0)) := hcj
              have ka : V.cell? ⟨w.heap.size + 1, 0, none⟩ = some (.int .i64 (x1 : Int)) := wcell (cs := [_, _, _, _]) hc0 0
              have za : V.frozen? ⟨w.heap.size + 1, 0, none⟩ = false := wfree hc0 0
              have ha := (set4 hc0 (.int .i64 ((1 - x1 : Nat) : Int))).1
              have la : Below w.heap.size w (V.setCell ⟨w.heap.size + 1, 0, none⟩ (.int .i64 ((1 - x1 : Nat) : Int))) := hlj.setCell (p := ⟨w.heap.size + 1, 0, none⟩) (by simp) _
              have ga : (V.setCell ⟨w.heap.size + 1, 0, none⟩ (.int .i64 ((1 - x1 : Nat) : Int))).heap[w.heap.size]? = some (.cells #[.int .i64 (a : Int), .int .i64 (b : Int), .slice (some ⟨bq, oq, none⟩) n c] 24 (0, 0)) := (Below.heap_setCell _ ⟨w.heap.size + 1, 0, none⟩ _ _ (by simp)).trans hgj
              have kb : (V.setCell ⟨w.heap.size + 1, 0, none⟩ (.int .i64 ((1 - x1 : Nat) : Int))).cell? ⟨w.heap.size + 1, 1, none⟩ = some (.int .i64 (x2 : Int)) := wcell (cs := [_, _, _, _]) ha 1
              have zb : (V.setCell ⟨w.heap.size + 1, 0, none⟩ (.int .i64 ((1 - x1 : Nat) : Int))).frozen? ⟨w.heap.size + 1, 1, none⟩ = false := wfree ha 1
              have hb := (set4 ha (.int .i64 ((1 - x2 : Nat) : Int))).2.1
              have lb : Below w.heap.size w ((V.setCell ⟨w.heap.size + 1, 0, none⟩ (.int .i64 ((1 - x1 : Nat) : Int))).setCell ⟨w.heap.size + 1, 1, none⟩ (.int .i64 ((1 - x2 : Nat) : Int))) := la.setCell (p := ⟨w.heap.size + 1, 1, none⟩) (by simp) _
              have gb : ((V.setCell ⟨w.heap.size + 1, 0, none⟩ (.int .i64 ((1 - x1 : Nat) : Int))).setCell ⟨w.heap.size + 1, 1, none⟩ (.int .i64 ((1 - x2 : Nat) : Int))).heap[w.heap.size]? = some (.cells #[.int .i64 (a : Int), .int .i64 (b : Int), .slice (some ⟨bq, oq, none⟩) n c] 24 (0, 0)) := (Below.heap_setCell _ ⟨w.heap.size + 1, 1, none⟩ _ _ (by simp)).trans ga
              replace hc0 := Lib.hid hc0
              replace hcj := Lib.hid hcj
              replace hgj := Lib.hid hgj
              replace hlj := Lib.hid hlj
              replace ha := Lib.hid ha
              replace la := Lib.hid la
              replace ga := Lib.hid ga
              replace hb := Lib.hid hb
              replace lb := Lib.hid lb
              replace gb := Lib.hid gb
              go_wp2_with fail
              have hgk2 := hgk2.out
              go_roundg 1
              case measure => omega
              case rel => exact ⟨1, by omega, rfl, by go_num, by rw [show cl4 x1 x2 x3 x4 v u 1 = #[.int .i64 (f0 x1 v : Int), .int .i64 (f1 x2 v : Int), .int .i64 (x3 : Int), .int .i64 (x4 : Int)] from rfl, show f0 x1 v = _ from if_pos t1.out, show f1 x2 v = _ from if_pos t2.out]; exact hb.out, gb.out, lb.out⟩
            · have s1 : ¬ (v : Int) < 2 := by omega
              have s2 : (0 : Int) < (v : Int) := by omega
              replace t1 := Lib.hid t1; replace t2 := Lib.hid t2
              have hc0 : V.heap[w.heap.size + 1]? = some (.cells #[.int .i64 (x1 : Int), .int .i64 (x2 : Int), .int .i64 (x3 : Int), .int .i64 (x4 : Int)] 38 (0, 0)) := hcj
              have kb : V.cell? ⟨w.heap.size + 1, 1, none⟩ = some (.int .i64 (x2 : Int)) := wcell (cs := [_, _, _, _]) hc0 1
              have zb : V.frozen? ⟨w.heap.size + 1, 1, none⟩ = false := wfree hc0 1
              have hb := (set4 hc0 (.int .i64 ((1 - x2 : Nat) : Int))).2.1
              have lb : Below w.heap.size w (V.setCell ⟨w.heap.size + 1, 1, none⟩ (.int .i64 ((1 - x2 : Nat) : Int))) := hlj.setCell (p := ⟨w.heap.size + 1, 1, none⟩) (by simp) _
              have gb : (V.setCell ⟨w.heap.size + 1, 1, none⟩ (.int .i64 ((1 - x2 : Nat) : Int))).heap[w.heap.size]? = some (.cells #[.int .i64 (a : Int), .int .i64 (b : Int), .slice (some ⟨bq, oq, none⟩) n c] 24 (0, 0)) := (Below.heap_setCell _ ⟨w.heap.size + 1, 1, none⟩ _ _ (by simp)).trans hgj
              replace hc0 := Lib.hid hc0
              replace hcj := Lib.hid hcj
              replace hgj := Lib.hid hgj
              replace hlj := Lib.hid hlj
              replace hb := Lib.hid hb
              replace lb := Lib.hid lb
              replace gb := Lib.hid gb
              go_wp2_with fail
              have hgk2 := hgk2.out
              go_roundg 1
              case measure => omega
              case rel => exact ⟨1, by omega, rfl, by go_num, by rw [show cl4 x1 x2 x3 x4 v u 1 = #[.int .i64 (f0 x1 v : Int), .int .i64 (f1 x2 v : Int), .int .i64 (x3 : Int), .int .i64 (x4 : Int)] from rfl, show f0 x1 v = _ from if_neg t1.out, show f1 x2 v = _ from if_pos t2.out]; exact hb.out, gb.out, lb.out⟩
          · clear y1 y2 y3 y4 hm1 hm2 hd1 hd2
            have q1 : f0 x1 v ≤ 1 := by unfold f0; split <;> omega
            have q2 : f1 x2 v ≤ 1 := by unfold f1; split <;> omega
            replace hcj : V.heap[w.heap.size + 1]? = some (.cells #[.int .i64 (f0 x1 v : Int), .int .i64 (f1 x2 v : Int), .int .i64 (x3 : Int), .int .i64 (x4 : Int)] 38 (0, 0)) := hcj
            obtain ⟨p1, hp1⟩ : ∃ p1, p1 = f0 x1 v := ⟨_, rfl⟩
            obtain ⟨p2, hp2⟩ : ∃ p2, p2 = f1 x2 v := ⟨_, rfl⟩
            rw [← hp1] at q1 hcj
            rw [← hp2] at q2 hcj
            replace hp1 := Lib.hid hp1; replace hp2 := Lib.hid hp2
            rcases (show (u < 2 ∧ ¬ 0 < u) ∨ (u < 2 ∧ 0 < u) ∨ (¬ u < 2 ∧ 0 < u) by omega) with ⟨t1, t2⟩ | ⟨t1, t2⟩ | ⟨t1, t2⟩
            · have s1 : (u : Int) < 2 := by omega
              have s2 : ¬ (0 : Int) < (u : Int) := by omega
              replace t1 := Lib.hid t1; replace t2 := Lib.hid t2
              have hc0 : V.heap[w.heap.size + 1]? = some (.cells #[.int .i64 (p1 : Int), .int .i64 (p2 : Int), .int .i64 (x3 : Int), .int .i64 (x4 : Int)] 38 (0, 0)) := hcj
              have ka : V.cell? ⟨w.heap.size + 1, 2, none⟩ = some (.int .i64 (x3 : Int)) := wcell (cs := [_, _, _, _]) hc0 2
              have za : V.frozen? ⟨w.heap.size + 1, 2, none⟩ = false := wfree hc0 2
              have ha := (set4 hc0 (.int .i64 ((1 - x3 : Nat) : Int))).2.2.1
              have la : Below w.heap.size w (V.setCell ⟨w.heap.size + 1, 2, none⟩ (.int .i64 ((1 - x3 : Nat) : Int))) := hlj.setCell (p := ⟨w.heap.size + 1, 2, none⟩) (by simp) _
              have ga : (V.setCell ⟨w.heap.size + 1, 2, none⟩ (.int .i64 ((1 - x3 : Nat) : Int))).heap[w.heap.size]? = some (.cells #[.int .i64 (a : Int), .int .i64 (b : Int), .slice (some ⟨bq, oq, none⟩) n c] 24 (0, 0)) := (Below.heap_setCell _ ⟨w.heap.size + 1, 2, none⟩ _ _ (by simp)).trans hgj
              replace hc0 := Lib.hid hc0
              replace hcj := Lib.hid hcj
              replace hgj := Lib.hid hgj
              replace hlj := Lib.hid hlj
              replace ha := Lib.hid ha
              replace la := Lib.hid la
              replace ga := Lib.hid ga
              go_wp2_with fail
              have hgk2 := hgk2.out
              go_roundg 0
              case measure => omega
              case rel => exact ⟨2, by omega, rfl, by go_num, by rw [show cl4 x1 x2 x3 x4 v u 2 = #[.int .i64 (f0 x1 v : Int), .int .i64 (f1 x2 v : Int), .int .i64 (f0 x3 u : Int), .int .i64 (f1 x4 u : Int)] from rfl, show f0 x3 u = _ from if_pos t1.out, show f1 x4 u = _ from if_neg t2.out, ← hp1.out, ← hp2.out]; exact ha.out, ga.out, la.out⟩
            · have s1 : (u : Int) < 2 := by omega
              have s2 : (0 : Int) < (u : Int) := by omega
              replace t1 := Lib.hid t1; replace t2 := Lib.hid t2
              have hc0 : V.heap[w.heap.size + 1]? = some (.cells #[.int .i64 (p1 : Int), .int .i64 (p2 : Int), .int .i64 (x3 : Int), .int .i64 (x4 : Int)] 38 (0, 0)) := hcj
              have ka : V.cell? ⟨w.heap.size + 1, 2, none⟩ = some (.int .i64 (x3 : Int)) := wcell (cs := [_, _, _, _]) hc0 2
              have za : V.frozen? ⟨w.heap.size + 1, 2, none⟩ = false := wfree hc0 2
              have ha := (set4 hc0 (.int .i64 ((1 - x3 : Nat) : Int))).2.2.1
              have la : Below w.heap.size w (V.setCell ⟨w.heap.size + 1, 2, none⟩ (.int .i64 ((1 - x3 : Nat) : Int))) := hlj.setCell (p := ⟨w.heap.size + 1, 2, none⟩) (by simp) _
              have ga : (V.setCell ⟨w.heap.size + 1, 2, none⟩ (.int .i64 ((1 - x3 : Nat) : Int))).heap[w.heap.size]? = some (.cells #[.int .i64 (a : Int), .int .i64 (b : Int), .slice (some ⟨bq, oq, none⟩) n c] 24 (0, 0)) := (Below.heap_setCell _ ⟨w.heap.size + 1, 2, none⟩ _ _ (by simp)).trans hgj
              have kb : (V.setCell ⟨w.heap.size + 1, 2, none⟩ (.int .i64 ((1 - x3 : Nat) : Int))).cell? ⟨w.heap.size + 1, 3, none⟩ = some (.int .i64 (x4 : Int)) := wcell (cs := [_, _, _, _]) ha 3
              have zb : (V.setCell ⟨w.heap.size + 1, 2, none⟩ (.int .i64 ((1 - x3 : Nat) : Int))).frozen? ⟨w.heap.size + 1, 3, none⟩ = false := wfree ha 3
              have hb := (set4 ha (.int .i64 ((1 - x4 : Nat) : Int))).2.2.2
              have lb : Below w.heap.size w ((V.setCell ⟨w.heap.size + 1, 2, none⟩ (.int .i64 ((1 - x3 : Nat) : Int))).setCell ⟨w.heap.size + 1, 3, none⟩ (.int .i64 ((1 - x4 : Nat) : Int))) := la.setCell (p := ⟨w.heap.size + 1, 3, none⟩) (by simp) _
              have gb : ((V.setCell ⟨w.heap.size + 1, 2, none⟩ (.int .i64 ((1 - x3 : Nat) : Int))).setCell ⟨w.heap.size + 1, 3, none⟩ (.int .i64 ((1 - x4 : Nat) : Int))).heap[w.heap.size]? = some (.cells #[.int .i64 (a : Int), .int .i64 (b : Int), .slice (some ⟨bq, oq, none⟩) n c] 24 (0, 0)) := (Below.heap_setCell _ ⟨w.heap.size + 1, 3, none⟩ _ _ (by simp)).trans ga
              replace hc0 := Lib.hid hc0
              replace hcj := Lib.hid hcj
              replace hgj := Lib.hid hgj
              replace hlj := Lib.hid hlj
              replace ha := Lib.hid ha
              replace la := Lib.hid la
              replace ga := Lib.hid ga
              replace hb := Lib.hid hb
              replace lb := Lib.hid lb
              replace gb := Lib.hid gb
              go_wp2_with fail
              have hgk2 := hgk2.out
              go_roundg 0
              case measure => omega
              case rel => exact ⟨2, by omega, rfl, by go_num, by rw [show cl4 x1 x2 x3 x4 v u 2 = #[.int .i64 (f0 x1 v : Int), .int .i64 (f1 x2 v : Int), .int .i64 (f0 x3 u : Int), .int .i64 (f1 x4 u : Int)] from rfl, show f0 x3 u = _ from if_pos t1.out, show f1 x4 u = _ from if_pos t2.out, ← hp1.out, ← hp2.out]; exact hb.out, gb.out, lb.out⟩
            · have s1 : ¬ (u : Int) < 2 := by omega
              have s2 : (0 : Int) < (u : Int) := by omega
              replace t1 := Lib.hid t1; replace t2 := Lib.hid t2
              have hc0 : V.heap[w.heap.size + 1]? = some (.cells #[.int .i64 (p1 : Int), .int .i64 (p2 : Int), .int .i64 (x3 : Int), .int .i64 (x4 : Int)] 38 (0, 0)) := hcj
              have kb : V.cell? ⟨w.heap.size + 1, 3, none⟩ = some (.int .i64 (x4 : Int)) := wcell (cs := [_, _, _, _]) hc0 3
              have zb : V.frozen? ⟨w.heap.size + 1, 3, none⟩ = false := wfree hc0 3
              have hb := (set4 hc0 (.int .i64 ((1 - x4 : Nat) : Int))).2.2.2
              have lb : Below w.heap.size w (V.setCell ⟨w.heap.size + 1, 3, none⟩ (.int .i64 ((1 - x4 : Nat) : Int))) := hlj.setCell (p := ⟨w.heap.size + 1, 3, none⟩) (by simp) _
              have gb : (V.setCell ⟨w.heap.size + 1, 3, none⟩ (.int .i64 ((1 - x4 : Nat) : Int))).heap[w.heap.size]? = some (.cells #[.int .i64 (a : Int), .int .i64 (b : Int), .slice (some ⟨bq, oq, none⟩) n c] 24 (0, 0)) := (Below.heap_setCell _ ⟨w.heap.size + 1, 3, none⟩ _ _ (by simp)).trans hgj
              replace hc0 := Lib.hid hc0
              replace hcj := Lib.hid hcj
              replace hgj := Lib.hid hgj
              replace hlj := Lib.hid hlj
              replace hb := Lib.hid hb
              replace lb := Lib.hid lb
              replace gb := Lib.hid gb
              go_wp2_with fail
              have hgk2 := hgk2.out
              go_roundg 0
              case measure => omega
              case rel => exact ⟨2, by omega, rfl, by go_num, by rw [show cl4 x1 x2 x3 x4 v u 2 = #[.int .i64 (f0 x1 v : Int), .int .i64 (f1 x2 v : Int), .int .i64 (f0 x3 u : Int), .int .i64 (f1 x4 u : Int)] from rfl, show f0 x3 u = _ from if_neg t1.out, show f1 x4 u = _ from if_pos t2.out, ← hp1.out, ← hp2.out]; exact hb.out, gb.out, lb.out⟩
          · have hfin : Hid (V.heap[w.heap.size + 1]? = some (.cells #[.int .i64 (kC1 a s (k + 1) : Int), .int .i64 (kC2 a s (k + 1) : Int), .int .i64 (kC3 a s (k + 1) : Int), .int .i64 (kC4 a s (k + 1) : Int)] 38 (0, 0))) := by
              show _ = _
              rw [y1.out, y2.out, y3.out, y4.out]; exact hcj
            replace hgj := Lib.hid hgj; replace hlj := Lib.hid hlj; replace hcj := Lib.hid hcj
            go_wp2_with fail
            have hgk := hgk.out
            go_roundg (n - (k + 1))
            case measure => omega
            case rel => exact ⟨k + 1, hlt, rfl, by go_num, hfin.out, hgj.out, hlj.out⟩
      · have y1 : Hid (kC1 a s (k + 1) = kC1 a s k) := k_no _ _ _ hpeg
        have y2 : Hid (kC2 a s (k + 1) = kC2 a s k) := k_no _ _ _ hpeg
        have y3 : Hid (kC3 a s (k + 1) = kC3 a s k) := k_no _ _ _ hpeg
        have y4 : Hid (kC4 a s (k + 1) = kC4 a s k) := k_no _ _ _ hpeg
        have hpb : (((st s k : Nat) : Int) != 1) = true := by simp; omega
        replace hc := Lib.hid hc; replace hg := Lib.hid hg; replace hl := Lib.hid hl; replace hpeg := Lib.hid hpeg
        go_wp2_with fail
        have hgk := hgk.out
        go_roundg (n - (k + 1))
        case measure => omega
        case rel => exact ⟨k + 1, hlt, rfl, by go_num, by rw [y1.out, y2.out, y3.out, y4.out]; exact hc.out, hg.out, hl.out⟩
    · have hke : k = n := by omega
      subst hke
      have hkk : ¬ (k : Int) < (k : Int) := by omega
      have d0 := (show W2.cell? ⟨w.heap.size + 1, 0, none⟩ = some (.int .i64 (kC1 a s k : Int)) from wcell (cs := [_, _, _, _]) hc 0)
      have d1 := (show W2.cell? ⟨w.heap.size + 1, 1, none⟩ = some (.int .i64 (kC2 a s k : Int)) from wcell (cs := [_, _, _, _]) hc 1)
      have d2 := (show W2.cell? ⟨w.heap.size + 1, 2, none⟩ = some (.int .i64 (kC3 a s k : Int)) from wcell (cs := [_, _, _, _]) hc 2)
      have d3 := (show W2.cell? ⟨w.heap.size + 1, 3, none⟩ = some (.int .i64 (kC4 a s k : Int)) from wcell (cs := [_, _, _, _]) hc 3)
      have z0 : W2.frozen? ⟨w.heap.size + 1, 0, none⟩ = false := wfree hc 0
      have z1 : W2.frozen? ⟨w.heap.size + 1, 1, none⟩ = false := wfree hc 1
      have z2 : W2.frozen? ⟨w.heap.size + 1, 2, none⟩ = false := wfree hc 2
      have z3 : W2.frozen? ⟨w.heap.size + 1, 3, none⟩ = false := wfree hc 3
      replace hc := Lib.hid hc; replace hg := Lib.hid hg; replace hl := Lib.hid hl
      go_wp2_with fail
      have hX := (set4 (set4 (set4 (set4 hc.out (.int .i64 (kC1 a s k : Int))).1 (.int .i64 (kC2 a s k : Int))).2.1 (.int .i64 (kC3 a s k : Int))).2.2.1 (.int .i64 (kC4 a s k : Int))).2.2.2
      have hL := (((hl.out.setCell (p := ⟨w.heap.size + 1, 0, none⟩) (by simp) (.int .i64 (kC1 a s k : Int))).setCell (p := ⟨w.heap.size + 1, 1, none⟩) (by simp) (.int .i64 (kC2 a s k : Int))).setCell (p := ⟨w.heap.size + 1, 2, none⟩) (by simp) (.int .i64 (kC3 a s k : Int))).setCell (p := ⟨w.heap.size + 1, 3, none⟩) (by simp) (.int .i64 (kC4 a s k : Int))
      generalize ((((W2.setCell ⟨w.heap.size + 1, 0, none⟩ (.int .i64 (kC1 a s k : Int))).setCell ⟨w.heap.size + 1, 1, none⟩ (.int .i64 (kC2 a s k : Int))).setCell ⟨w.heap.size + 1, 2, none⟩ (.int .i64 (kC3 a s k : Int))).setCell ⟨w.heap.size + 1, 3, none⟩ (.int .i64 (kC4 a s k : Int))) = X at *
      have x0 : X.cell? ⟨w.heap.size + 1, 0, none⟩ = some (.int .i64 (kC1 a s k : Int)) := wcell (cs := [_, _, _, _]) hX 0
      have x1 : X.cell? ⟨w.heap.size + 1, 1, none⟩ = some (.int .i64 (kC2 a s k : Int)) := wcell (cs := [_, _, _, _]) hX 1
      have x2 : X.cell? ⟨w.heap.size + 1, 2, none⟩ = some (.int .i64 (kC3 a s k : Int)) := wcell (cs := [_, _, _, _]) hX 2
      have x3 : X.cell? ⟨w.heap.size + 1, 3, none⟩ = some (.int .i64 (kC4 a s k : Int)) := wcell (cs := [_, _, _, _]) hX 3
      refine bodyPost_ret (v := .tuple #[.agg #[.int .i64 (kC1 a s k : Int), .int .i64 (kC2 a s k : Int), .int .i64 (kC3 a s k : Int), .int .i64 (kC4 a s k : Int)], .int .i64 0]) (by simp [results, Try.results10, go_sem, x0, x1, x2, x3]) rfl ⟨by rw [hcv.out], hL⟩
end Go.Proofs.Ytapoimadiiheaaa
