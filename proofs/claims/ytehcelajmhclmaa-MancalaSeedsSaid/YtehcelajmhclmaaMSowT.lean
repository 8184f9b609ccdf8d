/- What mancala.Sow computes; conditions: 1 to 6 pits, turn 0 or 1, at most 1000 seeds, the pit is one of the mover's. -/
import Derived.Test.YtehcelajmhclmaaMNew
namespace Go.Proofs.Ytehcelajmhclmaa
open Go.RowKit

/-- what Sow tells. -/
def SowPost (n P u pit : Nat) (l : List Nat) (w : World) (e : Ending) (w' : World) : Prop :=
  Below w.heap.size w w' ∧
  ((overS l P = true ∧ e = .returned (.tuple #[.agg #[.slice none 0 0, .int .i64 0], .bool false, .int .i64 9])) ∨
   (overS l P = false ∧ st l pit = 0 ∧ e = .returned (.tuple #[.agg #[.slice none 0 0, .int .i64 0], .bool false, .int .i64 10])) ∨
   (overS l P = false ∧ st l pit ≠ 0 ∧ ∃ q c, e = .returned (.tuple #[.agg #[.slice q n c, .int .i64 (if (sowS l P pit).2 = true then (u : Int) else 1 - (u : Int))], .bool (sowS l P pit).2, .int .i64 0]) ∧ IntsIn w' q n (asI (turnL (sowS l P pit).1 P u))))
/-- the board that Sow tells, in its box. -/
def OutAt (W : World) (n u : Nat) (s : List Nat) (v : Value) (wx : World) : Prop := ∃ b9 p9 c9, v = .pointer (some ⟨b9, 0, none⟩) ∧ wx.heap[b9]? = some (.cells #[.slice p9 n c9, .int .i64 (u : Int)] 24) ∧ IntsIn wx p9 n (asI s) ∧ W.heap.size ≤ b9 ∧ Below W.heap.size W wx

theorem ints_ne_box {w : World} {b8 n : Nat} {q : Option Addr} {xs : List Int} {x y : Value} {t : TypeId} (hx : IntsIn w q n xs) (hn : 3 ≤ n) (h8 : w.heap[b8]? = some (.cells #[x, y] t)) : ∀ b o, q = some ⟨b, o, none⟩ → b ≠ b8 := by
  rintro b o rfl rfl
  obtain ⟨b', o', e, _, hc⟩ := hx.at (show 0 < n by omega)
  cases e
  have h2 := hc 2 (by omega)
  rw [wcell (cs := [x, y]) h8] at h2
  simp at h2
theorem out_new {W w6 : World} {n u c6 : Nat} {s : List Nat} {q6 : Option Addr} (hx : IntsIn w6 q6 n (asI s)) (hB : Below W.heap.size W w6) :
    OutAt W n u s (.pointer (some ⟨w6.heap.size, 0, none⟩)) (w6.alloc (.cells #[.slice q6 n c6, .int .i64 (u : Int)] 24)) :=
  ⟨w6.heap.size, q6, c6, rfl, heap_alloc_new w6 _, hx.alloc _, hB.size, hB.alloc hB.size _⟩
theorem out_set {W w6 : World} {n u c6 : Nat} {s : List Nat} {q6 : Option Addr} (hx : IntsIn w6 q6 n (asI s)) (hB : Below W.heap.size W w6) (h8 : w6.heap[W.heap.size]? = some (.cells #[.slice none 0 0, .int .i64 0] 24)) (hn : 3 ≤ n) :
    OutAt W n u s (.pointer (some ⟨W.heap.size, 0, none⟩)) ((w6.setCell ⟨W.heap.size, 0, none⟩ (.slice q6 n c6)).setCell ⟨W.heap.size, 1, none⟩ (.int .i64 (u : Int))) := by
  have hne := ints_ne_box hx hn h8
  refine ⟨W.heap.size, q6, c6, rfl, ?_, hx.keep (by simp [World.setCell]) fun b o e => ?_, Nat.le_refl _, ?_⟩
  · simpa using wset (wset h8 0 (.slice q6 n c6)) 1 (.int .i64 (u : Int))
  · rw [wset_ne _ _ (hne b o e), wset_ne _ _ (hne b o e)]
  · exact (hB.setCell (p := ⟨W.heap.size, 0, none⟩) (Nat.le_refl _) _).setCell (p := ⟨W.heap.size, 1, none⟩) (Nat.le_refl _) _
theorem cell2_ne (w : World) {a b : Nat} (h : a ≠ b) (i : Nat) (u v : Value) : ((w.setCell ⟨b, 0, none⟩ u).setCell ⟨b, 1, none⟩ v).cell? ⟨a, i, none⟩ = w.cell? ⟨a, i, none⟩ :=
  World.cell?_of_block (a := ⟨a, i, none⟩) ((wset_ne _ _ h).trans (wset_ne _ _ h))
set_option maxRecDepth 20000 in
set_option maxHeartbeats 4000000 in
theorem sowT_any (q : Option Addr) (n c P u pit : Nat) (s : List Nat) (w : World) (hP1 : 1 ≤ P) (hP : P ≤ 6) (hn : n = 2 * P + 2) (hu : u ≤ 1) (hs : s.sum ≤ 1000) (hpit : pit < P) (hx : IntsIn w q n (asI s)) :
    Calls Try.prog 10 #[.agg #[.slice q n c, .int .i64 u], .int .i64 pit] w (SowPost n P u pit (turnL s P u) w) := by
  have hls : s.length = n := by have := hx.len; rwa [asI_len] at this
  have h1 : mayGo (asI s) 1000 = true := by simpa using mayGo_of s 1000 hs
  have hmt : mayF (asI s) u = true := by unfold mayF; rw [h1, asI_len, hls, decide_eq_true (by omega)]; rfl
  have HM := may_any q n c u (asI s) ((w.alloc (.cells #[.slice q n c, .int .i64 u] 24)).alloc (.cells #[.slice none 0 0, .int .i64 0] 24)) (by omega) (by omega) (by omega) ((hx.alloc _).alloc _)
  rw [hmt] at HM
  have hB0 := Lib.hid (below2 w (.cells #[.slice q n c, .int .i64 u] 24) (.cells #[.slice none 0 0, .int .i64 0] 24))
  have a0 := heap2 w (.cells #[.slice q n c, .int .i64 u] 24) (.cells #[.slice none 0 0, .int .i64 0] 24)
  obtain ⟨a0, b0⟩ := a0
  have hx1 := (hx.alloc (.cells #[.slice q n c, .int .i64 u] 24)).alloc (.cells #[.slice none 0 0, .int .i64 0] 24)
  have hsz : w.heap.size + 1 < ((w.alloc (.cells #[.slice q n c, .int .i64 u] 24)).alloc (.cells #[.slice none 0 0, .int .i64 0] 24)).heap.size := by simp
  replace HM := Lib.hid HM
  clear hx hmt h1
  replace hls := Lib.hid hls; replace hn := Lib.hid hn
  obtain ⟨l, htl⟩ : ∃ l, turnL s P u = l := ⟨_, rfl⟩
  rw [htl]
  replace htl := Lib.hid htl
  go_enter Try.func10, Try.ntmps10
  go_wp2_with fail
  generalize ((w.alloc (.cells #[.slice q n c, .int .i64 u] 24)).alloc (.cells #[.slice none 0 0, .int .i64 0] 24)) = W at *
  refine HM.out.mono ?_
  rintro e w1 ⟨rfl, hB⟩
  have hB1 := Lib.hid (hB0.out.trans (hB.mono hB0.out.size))
  have a1 := (hB.block _ (by omega)).trans a0
  have b1 := (hB.block _ (by omega)).trans b0
  have hsz1 := Nat.lt_of_lt_of_le hsz hB.size
  have HF := Lib.hid (from_any q n c P u s w1 hP1 hP hn.out hu (hx1.below hB))
  clear hB hB0 a0 b0 hsz hx1 HM
  have c0 : w1.cell? ⟨w.heap.size, 0, none⟩ = some (.slice q n c) := wcell (cs := [_, _]) a1 0
  have c1 : w1.cell? ⟨w.heap.size, 1, none⟩ = some (.int .i64 (u : Int)) := wcell (cs := [_, _]) a1 1
  go_wp2_with fail
  refine HF.out.mono ?_
  rintro e w2 ⟨g, c2, rfl, hO, hB⟩
  have hB2 := Lib.hid (hB1.out.trans (hB.mono hB1.out.size))
  have a2 := (hB.block _ (by omega)).trans a1
  have b2 := (hB.block _ (by omega)).trans b1
  have hg1 : w.heap.size + 1 < g := Nat.lt_of_lt_of_le hsz1 (OwnC.block (k := 1) hO _ rfl).1
  have hsz2 := Nat.lt_of_lt_of_le hsz1 hB.size
  replace hO := OwnC.mono (k := 1) hO (Nat.le_of_lt hsz1)
  have hO : Own 3 (w.heap.size + 1) w2 (some ⟨g, 0, none⟩) n c2 (asI (turnL s P u)) := hO
  have hll : (turnL s P u).length = n := by rw [turnL_len]; exact hls.out
  have hlsum : (turnL s P u).sum ≤ 1000 := by rw [turnL_sum]; exact hs
  clear c0 c1 hB a1 b1 hsz1 HF hB1
  rw [htl.out] at hO hll hlsum
  have e3 := heap_alloc_new w2 (.cells #[.slice (some ⟨g, 0, none⟩) n c2, .int .i64 P] 37)
  have a3 := (Below.heap_alloc w2 (.cells #[.slice (some ⟨g, 0, none⟩) n c2, .int .i64 P] 37) _ (show w.heap.size < w2.heap.size by omega)).trans a2
  have b3 := (Below.heap_alloc w2 (.cells #[.slice (some ⟨g, 0, none⟩) n c2, .int .i64 P] 37) _ (show w.heap.size + 1 < w2.heap.size by omega)).trans b2
  have hsz3 : w2.heap.size < (w2.alloc (.cells #[.slice (some ⟨g, 0, none⟩) n c2, .int .i64 P] 37)).heap.size := by simp
  have hB3 := Lib.hid (hB2.out.alloc hB2.out.size (.cells #[.slice (some ⟨g, 0, none⟩) n c2, .int .i64 P] 37))
  have hgw := hO.lt
  have hO3 := Lib.hid (show Own 3 (w.heap.size + 1) (w2.alloc (.cells #[.slice (some ⟨g, 0, none⟩) n c2, .int .i64 P] 37)) (some ⟨g, 0, none⟩) n c2 (asI l) from hO.alloc _)
  clear hO a2 b2 hB2
  replace hll := Lib.hid hll
  go_wp2_with fail
  generalize w2.alloc (.cells #[.slice (some ⟨g, 0, none⟩) n c2, .int .i64 P] 37) = W2 at *
  generalize w2.heap.size = bg at *
  have d0 : W2.cell? ⟨bg, 0, none⟩ = some (.slice (some ⟨g, 0, none⟩) n c2) := wcell (cs := [_, _]) e3 0
  have d1 : W2.cell? ⟨bg, 1, none⟩ = some (.int .i64 (P : Int)) := wcell (cs := [_, _]) e3 1
  have HO := Lib.hid (over_any g (w.heap.size + 1) n c2 P l W2 (by omega) hn.out hO3.out (by omega))
  obtain ⟨ov, hov⟩ : ∃ ov, overS l P = ov := ⟨_, rfl⟩
  rw [hov] at HO
  replace hov := Lib.hid hov
  go_wp2_with fail
  refine HO.out.mono ?_
  rintro e w4 ⟨rfl, hB⟩
  have e4 := (hB.block _ hsz3).trans e3
  have a4 := (hB.block _ (by omega)).trans a3
  have b4 := (hB.block _ (by omega)).trans b3
  have hO4 := Lib.hid (hO3.out.below hB (Nat.le_refl _))
  have hB4 := Lib.hid (hB3.out.trans (hB.mono hB3.out.size))
  have hsz4 := Nat.lt_of_lt_of_le hsz3 hB.size
  clear d0 d1 hB hO3 hB3 e3 a3 b3 hsz3 HO
  have m0 : w4.cell? ⟨w.heap.size + 1, 0, none⟩ = some (.slice none 0 0) := wcell (cs := [_, _]) b4 0
  have m1 : w4.cell? ⟨w.heap.size + 1, 1, none⟩ = some (.int .i64 0) := wcell (cs := [_, _]) b4 1
  have f0 : w4.frozen? ⟨w.heap.size + 1, 0, none⟩ = false := wfree b4 0
  have f1 : w4.frozen? ⟨w.heap.size + 1, 1, none⟩ = false := wfree b4 1
  have z2 := wset (wset b4 0 (.slice none 0 0)) 1 (.int .i64 0)
  have r0 : ((w4.setCell ⟨w.heap.size + 1, 0, none⟩ (.slice none 0 0)).setCell ⟨w.heap.size + 1, 1, none⟩ (.int .i64 0)).cell? ⟨w.heap.size + 1, 0, none⟩ = some (.slice none 0 0) := by rw [cell_of_row _ _ 0 _ _ _ z2]; rfl
  have r1 : ((w4.setCell ⟨w.heap.size + 1, 0, none⟩ (.slice none 0 0)).setCell ⟨w.heap.size + 1, 1, none⟩ (.int .i64 0)).cell? ⟨w.heap.size + 1, 1, none⟩ = some (.int .i64 0) := by rw [cell_of_row _ _ 1 _ _ _ z2]; rfl
  have hBz := Lib.hid ((hB4.out.setCell (p := ⟨w.heap.size + 1, 0, none⟩) (Nat.le_succ _) (.slice none 0 0)).setCell (p := ⟨w.heap.size + 1, 1, none⟩) (Nat.le_succ _) (.int .i64 0))
  replace r0 := Lib.hid r0; replace r1 := Lib.hid r1
  clear z2
  cases ov with
  | true =>
    go_wp2_with fail
    refine bodyPost_ret (v := .tuple #[.agg #[.slice none 0 0, .int .i64 0], .bool false, .int .i64 9]) (by simp [results, Try.results10, go_sem, r0.out, r1.out]) rfl ⟨hBz.out, .inl ⟨hov.out, rfl⟩⟩
  | false =>
    have d0 : w4.cell? ⟨bg, 0, none⟩ = some (.slice (some ⟨g, 0, none⟩) n c2) := wcell (cs := [_, _]) e4 0
    have d1 : w4.cell? ⟨bg, 1, none⟩ = some (.int .i64 (P : Int)) := wcell (cs := [_, _]) e4 1
    have dp := hO4.out.cellN (i := pit) (by have := hn.out; omega)
    have hpn : pit < n := by have := hn.out; omega
    have g1 : decide ((pit : Int) < 0) = false := by simp
    by_cases h0 : st l pit = 0
    · rw [h0] at dp
      replace h0 := Lib.hid h0
      go_wp2_with fail
      refine bodyPost_ret (v := .tuple #[.agg #[.slice none 0 0, .int .i64 0], .bool false, .int .i64 10]) (by simp [results, Try.results10, go_sem, r0.out, r1.out]) rfl ⟨hBz.out, .inr (.inl ⟨hov.out, h0.out, rfl⟩)⟩
    · have z1 : ((st l pit : Nat) : Int) ≠ 0 := by omega
      have z2 : (((st l pit : Nat) : Int) == 0) = false := by simp; omega
      have HS := Lib.hid (sow_any g (w.heap.size + 1) n c2 P pit l w4 (by omega) hn.out hpit hO4.out (by omega))
      have hso := sowS_ok l P pit (by have := hn.out; have := hll.out; omega) hpit
      have hfin : Hid (∀ w' q c, Below w.heap.size w w' → IntsIn w' q n (asI (turnL (sowS l P pit).1 P u)) → SowPost n P u pit l w (.returned (.tuple #[.agg #[.slice q n c, .int .i64 (if (sowS l P pit).2 = true then (u : Int) else 1 - (u : Int))], .bool (sowS l P pit).2, .int .i64 0])) w') := fun w' q c hb hx => ⟨hb, .inr (.inr ⟨hov.out, h0, q, c, rfl, hx⟩)⟩
      generalize sowS l P pit = R at *
      replace h0 := Lib.hid h0; replace z1 := Lib.hid z1
      clear r0 r1 hBz
      go_wp2_with fail
      refine HS.out.mono ?_
      rintro e w5 ⟨rfl, hO, hg⟩
      have hO5 := Lib.hid hO
      have e5 := (hg.block _ hsz4 (by simp; omega)).trans e4
      have a5 := (hg.block _ (by omega) (by simp; omega)).trans a4
      have b5 := (hg.block _ (by omega) (by simp; omega)).trans b4
      have hB5 := Lib.hid (hB4.out.grown hg hB4.out.size (fun x hx => by cases hx; omega))
      have hsz5 := Nat.lt_of_lt_of_le hsz4 hg.size
      clear m0 m1 f0 f1 d0 d1 dp hO hg e4 a4 b4 hO4 hB4 HS
      have d0 : w5.cell? ⟨bg, 0, none⟩ = some (.slice (some ⟨g, 0, none⟩) n c2) := wcell (cs := [_, _]) e5 0
      have d1 : w5.cell? ⟨bg, 1, none⟩ = some (.int .i64 (P : Int)) := wcell (cs := [_, _]) e5 1
      have c1 : w5.cell? ⟨w.heap.size, 1, none⟩ = some (.int .i64 (u : Int)) := wcell (cs := [_, _]) a5 1
      have hl5 : R.1.length = 2 * P + 2 := by have := hll.out; have := hn.out; omega
      have HBK2 : Hid (∀ W : World, Below w5.heap.size w5 W → Calls Try.prog 20 #[.agg #[.slice (some ⟨g, 0, none⟩) n c2, .int .i64 P], .int .i64 u] W fun e w' => ∃ q' c', e = .returned (.slice q' n c') ∧ IntsIn w' q' n (asI (turnL R.1 P u)) ∧ Below w5.heap.size w5 w') := fun W h =>
        (back_any g (w.heap.size + 1) n c2 P u R.1 W hP1 hP hn.out hu (hO5.out.below h (Nat.le_refl _))).mono fun e w' ⟨q', c', h1, h2, h3⟩ => ⟨q', c', h1, h2, h.trans (h3.mono h.size)⟩
      have HBK1 : Hid (∀ W : World, Below w5.heap.size w5 W → W.heap[w5.heap.size]? = some (.cells #[.slice none 0 0, .int .i64 0] 24) → Calls Try.prog 20 #[.agg #[.slice (some ⟨g, 0, none⟩) n c2, .int .i64 P], .int .i64 u] W fun e w' => ∃ q' c', e = .returned (.slice q' n c') ∧ IntsIn w' q' n (asI (turnL R.1 P u)) ∧ Below w5.heap.size w5 w' ∧ w'.heap[w5.heap.size]? = some (.cells #[.slice none 0 0, .int .i64 0] 24)) := fun W h h8 =>
        (back_any g (w.heap.size + 1) n c2 P u R.1 W hP1 hP hn.out hu (hO5.out.below h (Nat.le_refl _))).mono fun e w' ⟨q', c', h1, h2, h3⟩ => ⟨q', c', h1, h2, h.trans (h3.mono h.size), (h3.block _ (lt_of_heap h8)).trans h8⟩
      replace a5 := Lib.hid a5; replace b5 := Lib.hid b5; replace e5 := Lib.hid e5
      clear hso
      have hwz5 : w.heap.size < w5.heap.size := by omega
      have hsz5' : w.heap.size + 1 < w5.heap.size := by omega
      go_upto_region 12 with fail
      go_cut [9] (fun v wx => OutAt w5 n u (turnL R.1 P u) v wx)
      case first =>
        go_region_held3 (fun w' => w'.cell? ⟨bg, 0, none⟩ = some (.slice (some ⟨g, 0, none⟩) n c2) ∧ w'.cell? ⟨bg, 1, none⟩ = some (.int .i64 (P : Int)) ∧ w'.cell? ⟨w.heap.size, 1, none⟩ = some (.int .i64 (u : Int))) (first | exact ⟨d0', d1', c1'⟩ | exact ⟨(cell2_ne _ (Nat.ne_of_lt hsz5) _ _ _).trans d0', (cell2_ne _ (Nat.ne_of_lt hsz5) _ _ _).trans d1', (cell2_ne _ (Nat.ne_of_lt hwz5) _ _ _).trans c1'⟩ | exact ⟨d0, d1, c1⟩ | go_keep)
          (first
            | (go_at_call 20; refine (HBK1.out _ ?_ ?_).mono ?_; (first | exact Below.refl _ _ | exact below_drewN (Below.refl _ _) 1 | exact (below_drewN (Below.refl _ _) 1).alloc (Nat.le_refl _) _ | exact below_drewN ((Below.refl _ _).alloc (Nat.le_refl _) _) 1); (first | exact heap_alloc_new w5 _ | exact heap_alloc_new w5.drew _); rintro e w6 ⟨q6, c6, rfl, hx6, hB6, x8⟩; have d0' : w6.cell? ⟨bg, 0, none⟩ = some (.slice (some ⟨g, 0, none⟩) n c2) := wcell (cs := [_, _]) ((hB6.block _ hsz5).trans e5.out) 0; have d1' : w6.cell? ⟨bg, 1, none⟩ = some (.int .i64 (P : Int)) := wcell (cs := [_, _]) ((hB6.block _ hsz5).trans e5.out) 1; have c1' : w6.cell? ⟨w.heap.size, 1, none⟩ = some (.int .i64 (u : Int)) := wcell (cs := [_, _]) ((hB6.block _ (by omega)).trans a5.out) 1; have hs56 := Lib.hid hB6.size; replace hx6 := Lib.hid hx6; replace hB6 := Lib.hid hB6; have y0 : w6.cell? ⟨w5.heap.size, 0, none⟩ = some (.slice none 0 0) := wcell (cs := [_, _]) x8 0; have y1 : w6.cell? ⟨w5.heap.size, 1, none⟩ = some (.int .i64 0) := wcell (cs := [_, _]) x8 1; have f0' : w6.frozen? ⟨w5.heap.size, 0, none⟩ = false := wfree x8 0; have f1' : w6.frozen? ⟨w5.heap.size, 1, none⟩ = false := wfree x8 1; replace x8 := Lib.hid x8)
            | (go_at_call 20; refine (HBK2.out _ ?_).mono ?_; (first | exact Below.refl _ _ | exact below_drewN (Below.refl _ _) 1 | exact (below_drewN (Below.refl _ _) 1).alloc (Nat.le_refl _) _ | exact below_drewN ((Below.refl _ _).alloc (Nat.le_refl _) _) 1); rintro e w6 ⟨q6, c6, rfl, hx6, hB6⟩; have d0' : w6.cell? ⟨bg, 0, none⟩ = some (.slice (some ⟨g, 0, none⟩) n c2) := wcell (cs := [_, _]) ((hB6.block _ hsz5).trans e5.out) 0; have d1' : w6.cell? ⟨bg, 1, none⟩ = some (.int .i64 (P : Int)) := wcell (cs := [_, _]) ((hB6.block _ hsz5).trans e5.out) 1; have c1' : w6.cell? ⟨w.heap.size, 1, none⟩ = some (.int .i64 (u : Int)) := wcell (cs := [_, _]) ((hB6.block _ (by omega)).trans a5.out) 1; have hs56 := Lib.hid hB6.size; replace hx6 := Lib.hid hx6; replace hB6 := Lib.hid hB6))
        all_goals
          go_wp2_with fail
          go_meet
          first | exact out_new hx6.out hB6.out | exact out_set hx6.out hB6.out x8.out (by have := hn.out; omega)
      case rest =>
        obtain ⟨b9, p9, c9, rfl, e9, hx9, hb9, hB9⟩ := hcut
        have b9' := (hB9.block _ hsz5').trans b5.out
        have a9 := (hB9.block _ hwz5).trans a5.out
        have hBz := Lib.hid (hB5.out.trans (hB9.mono hB5.out.size))
        have hn3 : 3 ≤ n := by have := hn.out; omega
        have n1 := ints_ne_box hx9 hn3 e9
        have n2 := ints_ne_box hx9 hn3 b9'
        have hbb : w.heap.size + 1 < b9 := by omega
        have hba : w.heap.size < b9 := by omega
        clear d0 d1 c1 hB9 HBK1 HBK2
        obtain ⟨R1, R2⟩ := R
        simp only at hfin hx9 hl5
        cases R2 with
        | true =>
          have k0 : wc.cell? ⟨b9, 0, none⟩ = some (.slice p9 n c9) := wcell (cs := [_, _]) e9 0
          have k1 : wc.cell? ⟨b9, 1, none⟩ = some (.int .i64 (u : Int)) := wcell (cs := [_, _]) e9 1
          have m0 : wc.cell? ⟨w.heap.size + 1, 0, none⟩ = some (.slice none 0 0) := wcell (cs := [_, _]) b9' 0
          have m1 : wc.cell? ⟨w.heap.size + 1, 1, none⟩ = some (.int .i64 0) := wcell (cs := [_, _]) b9' 1
          have f0 : wc.frozen? ⟨w.heap.size + 1, 0, none⟩ = false := wfree b9' 0
          have f1 : wc.frozen? ⟨w.heap.size + 1, 1, none⟩ = false := wfree b9' 1
          have z2 := wset (wset b9' 0 (.slice p9 n c9)) 1 (.int .i64 (u : Int))
          have r0 : ((wc.setCell ⟨w.heap.size + 1, 0, none⟩ (.slice p9 n c9)).setCell ⟨w.heap.size + 1, 1, none⟩ (.int .i64 (u : Int))).cell? ⟨w.heap.size + 1, 0, none⟩ = some (.slice p9 n c9) := by rw [cell_of_row _ _ 0 _ _ _ z2]; rfl
          have r1 : ((wc.setCell ⟨w.heap.size + 1, 0, none⟩ (.slice p9 n c9)).setCell ⟨w.heap.size + 1, 1, none⟩ (.int .i64 (u : Int))).cell? ⟨w.heap.size + 1, 1, none⟩ = some (.int .i64 (u : Int)) := by rw [cell_of_row _ _ 1 _ _ _ z2]; rfl
          have hBy := Lib.hid ((hBz.out.setCell (p := ⟨w.heap.size + 1, 0, none⟩) (Nat.le_succ _) (.slice p9 n c9)).setCell (p := ⟨w.heap.size + 1, 1, none⟩) (Nat.le_succ _) (.int .i64 (u : Int)))
          have hxx := Lib.hid (hx9.keep (w' := (wc.setCell ⟨w.heap.size + 1, 0, none⟩ (.slice p9 n c9)).setCell ⟨w.heap.size + 1, 1, none⟩ (.int .i64 (u : Int))) (by simp [World.setCell]) (fun b o e => by rw [wset_ne _ _ (n2 b o e), wset_ne _ _ (n2 b o e)]))
          have hf := Lib.hid (hfin.out _ p9 c9 hBy.out hxx.out)
          replace r0 := Lib.hid r0; replace r1 := Lib.hid r1; replace n1 := Lib.hid n1; replace n2 := Lib.hid n2
          clear z2 hx9 hfin
          go_wp2_with fail
          refine bodyPost_ret (v := .tuple #[.agg #[.slice p9 n c9, .int .i64 (u : Int)], .bool true, .int .i64 0]) (by simp [results, Try.results10, go_sem, r0.out, r1.out]) rfl hf.out
        | false =>
          have k0 : wc.cell? ⟨b9, 0, none⟩ = some (.slice p9 n c9) := wcell (cs := [_, _]) e9 0
          have k1 : wc.cell? ⟨b9, 1, none⟩ = some (.int .i64 (u : Int)) := wcell (cs := [_, _]) e9 1
          have kf : wc.frozen? ⟨b9, 1, none⟩ = false := wfree e9 1
          have c1 : wc.cell? ⟨w.heap.size, 1, none⟩ = some (.int .i64 (u : Int)) := wcell (cs := [_, _]) a9 1
          have e10 := wset e9 1 (.int .i64 (1 - (u : Int)))
          have b10 := (wset_ne (p := ⟨b9, 1, none⟩) (w := wc) (.int .i64 (1 - (u : Int))) (Nat.ne_of_lt hbb)).trans b9'
          have hB10 := hBz.out.setCell (p := ⟨b9, 1, none⟩) (Nat.le_of_lt hba) (.int .i64 (1 - (u : Int)))
          have hx10 := hx9.keep (w' := wc.setCell ⟨b9, 1, none⟩ (.int .i64 (1 - (u : Int)))) (by simp [World.setCell]) (fun b o e => wset_ne _ _ (n1 b o e))
          have k0' : (wc.setCell ⟨b9, 1, none⟩ (.int .i64 (1 - (u : Int)))).cell? ⟨b9, 0, none⟩ = some (.slice p9 n c9) := wcell (cs := [_, _]) e10 0
          have k1' : (wc.setCell ⟨b9, 1, none⟩ (.int .i64 (1 - (u : Int)))).cell? ⟨b9, 1, none⟩ = some (.int .i64 (1 - (u : Int))) := wcell (cs := [_, _]) e10 1
          have m0 : (wc.setCell ⟨b9, 1, none⟩ (.int .i64 (1 - (u : Int)))).cell? ⟨w.heap.size + 1, 0, none⟩ = some (.slice none 0 0) := wcell (cs := [_, _]) b10 0
          have m1 : (wc.setCell ⟨b9, 1, none⟩ (.int .i64 (1 - (u : Int)))).cell? ⟨w.heap.size + 1, 1, none⟩ = some (.int .i64 0) := wcell (cs := [_, _]) b10 1
          have f0 : (wc.setCell ⟨b9, 1, none⟩ (.int .i64 (1 - (u : Int)))).frozen? ⟨w.heap.size + 1, 0, none⟩ = false := wfree b10 0
          have f1 : (wc.setCell ⟨b9, 1, none⟩ (.int .i64 (1 - (u : Int)))).frozen? ⟨w.heap.size + 1, 1, none⟩ = false := wfree b10 1
          have z3 := wset (wset b10 0 (.slice p9 n c9)) 1 (.int .i64 (1 - (u : Int)))
          have r0 : (((wc.setCell ⟨b9, 1, none⟩ (.int .i64 (1 - (u : Int)))).setCell ⟨w.heap.size + 1, 0, none⟩ (.slice p9 n c9)).setCell ⟨w.heap.size + 1, 1, none⟩ (.int .i64 (1 - (u : Int)))).cell? ⟨w.heap.size + 1, 0, none⟩ = some (.slice p9 n c9) := by rw [cell_of_row _ _ 0 _ _ _ z3]; rfl
          have r1 : (((wc.setCell ⟨b9, 1, none⟩ (.int .i64 (1 - (u : Int)))).setCell ⟨w.heap.size + 1, 0, none⟩ (.slice p9 n c9)).setCell ⟨w.heap.size + 1, 1, none⟩ (.int .i64 (1 - (u : Int)))).cell? ⟨w.heap.size + 1, 1, none⟩ = some (.int .i64 (1 - (u : Int))) := by rw [cell_of_row _ _ 1 _ _ _ z3]; rfl
          have hBy := Lib.hid ((hB10.setCell (p := ⟨w.heap.size + 1, 0, none⟩) (Nat.le_succ _) (.slice p9 n c9)).setCell (p := ⟨w.heap.size + 1, 1, none⟩) (Nat.le_succ _) (.int .i64 (1 - (u : Int))))
          have hxx := Lib.hid (hx10.keep (w' := ((wc.setCell ⟨b9, 1, none⟩ (.int .i64 (1 - (u : Int)))).setCell ⟨w.heap.size + 1, 0, none⟩ (.slice p9 n c9)).setCell ⟨w.heap.size + 1, 1, none⟩ (.int .i64 (1 - (u : Int)))) (by simp [World.setCell]) (fun b o e => by rw [wset_ne _ _ (n2 b o e), wset_ne _ _ (n2 b o e)]))
          have hf := Lib.hid (hfin.out _ p9 c9 hBy.out hxx.out)
          replace r0 := Lib.hid r0; replace r1 := Lib.hid r1; replace n1 := Lib.hid n1; replace n2 := Lib.hid n2
          clear z3 hx9 hfin e9 b9' a9 hBz e10 b10 hB10 hx10
          go_wp2_with fail
          refine bodyPost_ret (v := .tuple #[.agg #[.slice p9 n c9, (.int .i64 (1 - (u : Int)))], .bool false, .int .i64 0]) (by simp [results, Try.results10, go_sem, r0.out, r1.out]) rfl hf.out
end Go.Proofs.Ytehcelajmhclmaa
