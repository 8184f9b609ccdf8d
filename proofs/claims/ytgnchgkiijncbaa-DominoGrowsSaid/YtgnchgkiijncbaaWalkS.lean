/- What (*domino.walker).walk computes: Hierholzer's walk from a number on; conditions: the walker's struct is known, its pieces lie in an earlier block, at most 60 of them, with numbers up to 9. -/
import Derived.Test.YtgnchgkiijncbaaWalkW
import Derived.Deep.RegionLaw
namespace Go.Proofs.Ytgnchgkiijncbaa
open Go.RowKit

def unused (u : List Bool) : Nat := u.count false
theorem unused_set {u : List Bool} {i : Nat} (hi : i < u.length) (h : us u i = false) : unused (u.set i true) + 1 = unused u := by
  unfold unused
  have e : u[i] = false := by simpa [us, hi] using h
  rw [List.count_set hi, e]
  have : 0 < u.count false := by rw [List.count_pos_iff, ← e]; exact List.getElem_mem hi
  simp; omega
/-- such a walk never gives a mark back, and tells no more pieces than it marks. -/
def Good (m : Nat) (rec : Nat → WSt → WSt) : Prop := ∀ a s, s.1.length = m → (rec a s).1.length = s.1.length ∧ unused (rec a s).1 ≤ unused s.1 ∧ (rec a s).2.length + unused (rec a s).1 ≤ s.2.length + unused s.1
theorem walkN_good {ps : List Piece} {rec : Nat → WSt → WSt} (h : Good ps.length rec) (a : Nat) (s : WSt) (hl : s.1.length = ps.length) (j : Nat) (hj : j ≤ ps.length) :
    (walkN ps rec a s j).1.length = s.1.length ∧ unused (walkN ps rec a s j).1 ≤ unused s.1 ∧ (walkN ps rec a s j).2.length + unused (walkN ps rec a s j).1 ≤ s.2.length + unused s.1 := by
  induction j with
  | zero => exact ⟨rfl, Nat.le_refl _, Nat.le_refl _⟩
  | succ j ih =>
    obtain ⟨i1, i2, i3⟩ := ih (by omega)
    rw [walkN_succ]
    generalize walkN ps rec a s j = t at *
    unfold stepR
    by_cases hf : fits ps a t j = true
    · rw [if_pos hf]
      have hu : us t.1 j = false := by
        unfold fits at hf
        simp at hf
        exact hf.1
      have hset := unused_set (u := t.1) (i := j) (by omega) hu
      obtain ⟨r1, r2, r3⟩ := h (faced (pc ps j) a).2 (t.1.set j true, t.2) (by simp only [List.length_set]; omega)
      simp only at r1 r2 r3 ⊢
      refine ⟨by rw [r1, List.length_set, i1], by omega, ?_⟩
      rw [List.length_append]
      simp only [List.length_cons, List.length_nil]
      omega
    · rw [if_neg hf]
      exact ⟨i1, i2, i3⟩
theorem bcellsAt {w : World} {b : Nat} {u : List Bool} (h : w.heap[b]? = some (.cells (u.map Value.bool).toArray 4 (0, 0))) {i : Nat} (hi : i < u.length) : w.cell? ⟨b, i, none⟩ = some (.bool (us u i)) := by
  rw [cell_of_row w b i _ 4 (0, 0) h]
  simp [us, hi]

def WalkPost (ub wb B : Nat) (p : Option Addr) (n c : Nat) (ps : List Piece) (q : Option Addr) (t : WSt) (w : World) (e : Ending) (w' : World) : Prop :=
  e = .returned (.tuple #[]) ∧ ∃ q2 cq2, St w' ub wb B p n c ps q2 cq2 t ∧ Kp ub wb q q2 w w'

set_option maxHeartbeats 8000000 in
set_option maxRecDepth 100000 in
theorem walk_step (ub wb B n c a0 : Nat) (p : Option Addr) (ps : List Piece) (rec : Nat → WSt → WSt) (hrec : Hid (Good n rec)) (s0 : WSt) (q0 : Option Addr) (cq0 : Nat) (w : World) (hS : Hid (St w ub wb B p n c ps q0 cq0 s0)) (hn : n ≤ 60) (hps : Hid (∀ i, i < n → (pc ps i).1 ≤ 9 ∧ (pc ps i).2 ≤ 9)) (ha : a0 ≤ 9) (hm : Hid (s0.2.length + unused s0.1 ≤ 1000))
    (IH : Hid (∀ (a' : Nat) (s' : WSt) (q' : Option Addr) (cq' : Nat) (W : World), unused s'.1 < unused s0.1 → a' ≤ 9 → s'.2.length + unused s'.1 ≤ 1000 → St W ub wb B p n c ps q' cq' s' → ∀ aI : Int, Hid (aI = a') →
      Calls Try.prog 12 #[.pointer (some ⟨wb, 0, none⟩), .int .i64 aI] W (WalkPost ub wb B p n c ps q' (rec a' s') W))) (aI : Int) (haI : Hid (aI = a0)) :
    Calls Try.prog 12 #[.pointer (some ⟨wb, 0, none⟩), .int .i64 aI] w (WalkPost ub wb B p n c ps q0 (walkN ps rec a0 s0 ps.length) w) := by
  have haI := haI.out
  subst haI
  have hpl : ps.length = n := hS.out.l.1
  have hul : s0.1.length = n := hS.out.ul
  have hgood := Lib.hid (fun j hj => walkN_good (ps := ps) (by rw [hpl]; exact hrec.out) a0 s0 (by omega) j hj)
  have e0 : w.cell? ⟨wb, 0, none⟩ = some (.slice p n c) := wcell (cs := [_, _, _]) hS.out.b0 0
  replace hpl := Lib.hid hpl; replace hul := Lib.hid hul
  go_enter Try.func12, Try.ntmps12
  go_wp2_with fail
  clear e0
  go_loopg [11] n (fun gk jv W' => ∃ j cq : Nat, ∃ q : Option Addr, j ≤ n ∧ gk = n - j ∧ jv = .int .i64 j ∧ St W' ub wb B p n c ps q cq (walkN ps rec a0 s0 j) ∧ Kp ub wb q0 q w W')
  case atStart => exact ⟨0, cq0, q0, by omega, by omega, rfl, hS.out, Kp.refl _ _ _ _⟩
  case round =>
    obtain ⟨j, cq, q, hj, hgk, rfl, hSt, hKp⟩ := hrel
    obtain ⟨W1, rfl⟩ : ∃ W1 : World, W1 = wr := ⟨_, rfl⟩
    obtain ⟨i1, i2, i3⟩ := hgood.out j (by have := hpl.out; omega)
    have hsu := Lib.hid (walkN_succ ps rec a0 s0 j)
    replace hgk := Lib.hid hgk
    by_cases hlt : j < n
    · generalize walkN ps rec a0 s0 j = s at *
      obtain ⟨pa, pb⟩ : ∃ x : Nat × Nat, x = pc ps j := ⟨_, rfl⟩
      obtain ⟨b1, b2⟩ := hps.out j hlt
      obtain ⟨g, rfl, _, hg, hc⟩ := hSt.l.at (by omega)
      obtain ⟨c1, c2⟩ := hc j hlt
      have hfits : Hid (fits ps a0 s j = (!us s.1 j && ((pc ps j).1 == a0 || (pc ps j).2 == a0))) := rfl
      have hstep : Hid (stepR ps rec a0 s j = if fits ps a0 s j then ((rec (faced (pc ps j) a0).2 (s.1.set j true, s.2)).1, (rec (faced (pc ps j) a0).2 (s.1.set j true, s.2)).2 ++ [faced (pc ps j) a0]) else s) := rfl
      have hface : Hid (faced (pc ps j) a0 = if (pc ps j).1 = a0 then pc ps j else ((pc ps j).2, (pc ps j).1)) := rfl
      generalize pc ps j = x at *
      obtain ⟨xa, xb⟩ := x
      simp only at b1 b2 c1 c2 hfits hface
      have hS2 := hSt.below ((Below.refl _ _).alloc (Nat.le_refl _) (.cells #[.int .i64 (xa : Int), .int .i64 (xb : Int)] 30))
      have hK2 := hKp.trans (Kp.ofBelow ((Below.refl _ _).alloc (Nat.le_refl _) (.cells #[.int .i64 (xa : Int), .int .i64 (xb : Int)] 30)))
      have a0' := heap_alloc_new W1 (.cells #[.int .i64 (xa : Int), .int .i64 (xb : Int)] 30)
      have hdq : some W1.heap.size ≠ q.map (·.block) := by
        intro e
        cases q with
        | none => cases e
        | some y => have := (hSt.own.1.block y rfl).2; simp at e; omega
      have hwd : wb < W1.heap.size := hSt.lt
      have hwS : w.heap.size ≤ W1.heap.size := hKp.size
      have hsz2 : W1.heap.size < (W1.alloc (.cells #[.int .i64 (xa : Int), .int .i64 (xb : Int)] 30)).heap.size := by simp
      replace hSt := Lib.hid hSt; replace hKp := Lib.hid hKp
      clear hc
      have d0 : W1.cell? ⟨wb, 1, none⟩ = some (.slice (some ⟨ub, 0, none⟩) n n) := wcell (cs := [_, _, _]) hSt.out.b0 1
      have d3 : W1.cell? ⟨ub, j, none⟩ = some (.bool (us s.1 j)) := bcellsAt hSt.out.u0 (by have := hSt.out.ul; omega)
      have fu := wfree hSt.out.u0 j
      have hub : ub < W1.heap.size := by have := hSt.out.o2; omega
      have hubne : ub ≠ W1.heap.size := by omega
      have hwbne : wb ≠ W1.heap.size := by omega
      have hjl : j < s.1.length := by have := hSt.out.ul; omega
      replace hS2 := Lib.hid hS2; replace hK2 := Lib.hid hK2; replace a0' := Lib.hid a0'; replace pb := Lib.hid pb
      replace hjl := Lib.hid hjl
      have hset := Lib.hid (fun h => unused_set (u := s.1) (i := j) hjl.out h)
      generalize hu : us s.1 j = u at *
      replace hu := Lib.hid hu
      cases u with
      | true =>
        have hr : stepR ps rec a0 s j = s := by rw [hstep.out, hfits.out]; simp
        replace hr := Lib.hid hr
        go_wp2_with fail
        have hgk := hgk.out
        go_roundg (n - (j + 1))
        case measure => omega
        case rel => exact ⟨j + 1, cq, q, by omega, rfl, by go_num, by rw [hsu.out, hr.out]; exact hS2.out, hK2.out⟩
      | false =>
        by_cases ea : xa = a0
        · subst ea
          have hr : stepR ps rec xa s j = ((rec xb (s.1.set j true, s.2)).1, (rec xb (s.1.set j true, s.2)).2 ++ [(xa, xb)]) := by
            rw [hstep.out, hfits.out, hface.out]; simp
          have hus := hset.out rfl
          have hss : (W1.setCell ⟨ub, j, none⟩ (.bool true)).heap.size = W1.heap.size := by simp [World.setCell]
          have hBe : Below (W1.setCell ⟨ub, j, none⟩ (.bool true)).heap.size (W1.setCell ⟨ub, j, none⟩ (.bool true)) ((W1.setCell ⟨ub, j, none⟩ (.bool true)).alloc (.cells #[.int .i64 (xa : Int), .int .i64 (xb : Int)] 30)) := (Below.refl _ _).alloc (Nat.le_refl _) _
          have hS3 := (hSt.out.used j).below hBe
          have hsz3 : W1.heap.size < ((W1.setCell ⟨ub, j, none⟩ (.bool true)).alloc (.cells #[.int .i64 (xa : Int), .int .i64 (xb : Int)] 30)).heap.size := by simp [World.setCell]
          have hK3 := (hKp.out.trans (Kp.set W1 ⟨ub, j, none⟩ (.inl rfl) (.bool true))).trans (Kp.ofBelow hBe)
          have hd3 := heap_alloc_new (W1.setCell ⟨ub, j, none⟩ (.bool true)) (.cells #[.int .i64 (xa : Int), .int .i64 (xb : Int)] 30)
          rw [hss] at hd3
          replace hss := Lib.hid hss; replace hBe := Lib.hid hBe
          have IHc := Lib.hid (IH.out xb (s.1.set j true, s.2) q cq _ (by simp only; omega) b2 (by simp only; have := hm.out; omega) hS3 xb rfl)
          replace hS3 := Lib.hid hS3; replace hsz3 := Lib.hid hsz3; replace hK3 := Lib.hid hK3; replace hd3 := Lib.hid hd3; replace hr := Lib.hid hr; replace hus := Lib.hid hus
          have ev : ((xa : Int) != (xa : Int)) = false := by simp
          go_wp2_with fail
          generalize (W1.setCell ⟨ub, j, none⟩ (.bool true)).alloc (.cells #[.int .i64 (xa : Int), .int .i64 (xb : Int)] 30) = W3 at *
          refine IHc.out.mono ?_
          rintro e W4 ⟨rfl, q4, cq4, hS4, hK4⟩
          have hK5 := hK3.out.trans hK4
          have hd4 := (hK4.block W1.heap.size hsz3.out (by omega) (by omega) hdq).trans hd3.out
          have k0 : W4.cell? ⟨wb, 2, none⟩ = some (.slice q4 (rec xb (s.1.set j true, s.2)).2.length cq4) := wcell (cs := [_, _, _]) hS4.b0 2
          have k1 : W4.cell? ⟨W1.heap.size, 0, none⟩ = some (.int .i64 (xa : Int)) := wcell (cs := [_, _]) hd4 0
          have k2 : W4.cell? ⟨W1.heap.size, 1, none⟩ = some (.int .i64 (xb : Int)) := wcell (cs := [_, _]) hd4 1
          have k3 := wfree hS4.b0 2
          have hwb4 := hS4.lt
          have hd4l := lt_of_heap hd4
          have hlen : (rec xb (s.1.set j true, s.2)).2.length ≤ 1000 := by
            have h5 := (hrec.out xb (s.1.set j true, s.2) (by have := hul.out; simp only [List.length_set]; omega)).2.2
            have := hm.out; have := hus.out
            dsimp only at h5
            omega
          generalize hT : rec xb (s.1.set j true, s.2) = T at *
          replace hT := Lib.hid hT; replace hS4 := Lib.hid hS4; replace hK4 := Lib.hid hK4; replace hK5 := Lib.hid hK5; replace hd4 := Lib.hid hd4
          clear d0 d3 fu
          go_wp2_with fail
          have hown5 : OwnP (wb + 1) ((W4.alloc (.cells #[.int .i64 (xa : Int), .int .i64 (xb : Int)] 30)).drew) q4 T.2.length cq4 T.2 := ⟨World.ownsRow.drew (hS4.out.own.1.alloc _), hS4.out.own.2⟩
          have hS5 : St ((W4.alloc (.cells #[.int .i64 (xa : Int), .int .i64 (xb : Int)] 30)).drew) ub wb B (some ⟨g, 0, none⟩) n c ps q4 cq4 T := hS4.out.below (((Below.refl _ _).alloc (Nat.le_refl _) _).drew)
          have hK6 := hK5.out.trans (Kp.ofBelow (((Below.refl W4.heap.size W4).alloc (Nat.le_refl _) (.cells #[.int .i64 (xa : Int), .int .i64 (xb : Int)] 30)).drew))
          have n0 : ((W4.alloc (.cells #[.int .i64 (xa : Int), .int .i64 (xb : Int)] 30)).drew).cell? ⟨W4.heap.size, 0, none⟩ = some (.int .i64 (xa : Int)) := wcell (cs := [_, _]) (heap_alloc_new W4 _) 0
          have n1 : ((W4.alloc (.cells #[.int .i64 (xa : Int), .int .i64 (xb : Int)] 30)).drew).cell? ⟨W4.heap.size, 1, none⟩ = some (.int .i64 (xb : Int)) := wcell (cs := [_, _]) (heap_alloc_new W4 _) 1
          have hbs : wb + 1 ≤ ((W4.alloc (.cells #[.int .i64 (xa : Int), .int .i64 (xb : Int)] 30)).drew).heap.size := by simp; omega
          have hqb := hS4.out.qb wb (Nat.le_refl _)
          replace hown5 := Lib.hid hown5; replace hS5 := Lib.hid hS5; replace hK6 := Lib.hid hK6; replace n0 := Lib.hid n0; replace n1 := Lib.hid n1; replace hbs := Lib.hid hbs; replace hqb := Lib.hid hqb
          go_region_law (refine step_appendP _ (by rfl) _ _ (by rfl) (wb + 1) q4 T.2.length cq4 T.2 (by rfl) hown5.out (xa, xb) W4.heap.size (by rfl) n0.out n1.out (by omega) hbs.out ?_; intro q5 cq5 W5 hM hg5 hr5; obtain ⟨hS6, hK7⟩ := hS5.out.push hM hg5 hr5; have m0 := (World.cell?_of_block (a := ⟨wb, 2, none⟩) (hg5.block wb (by simp; omega) hqb.out)).trans (wcell (cs := [_, _, _]) hS5.out.b0 2); have m1 : W5.frozen? ⟨wb, 2, none⟩ = false := wfree ((hg5.block wb (by simp; omega) hqb.out).trans hS5.out.b0) 2; replace hS6 := Lib.hid hS6; replace hK7 := Lib.hid (hK6.out.trans hK7); replace hM := Lib.hid hM; replace hg5 := Lib.hid hg5; replace hr5 := Lib.hid hr5)
          all_goals
            go_wp2_with fail
            have hgk := hgk.out
            go_roundg (n - (j + 1))
            case measure => omega
            case rel => exact ⟨j + 1, cq5, q5, by omega, rfl, by go_num, by rw [hsu.out, hr.out]; exact hS6.out, hK7.out⟩
        · by_cases eb : xb = a0
          · subst eb
            have hr : stepR ps rec xb s j = ((rec xa (s.1.set j true, s.2)).1, (rec xa (s.1.set j true, s.2)).2 ++ [(xb, xa)]) := by
              rw [hstep.out, hfits.out, hface.out]; simp [ea]
            have hus := hset.out rfl
            have ev : ((xa : Int) != (xb : Int)) = true := by simp; omega
            have ev2 : ((xb : Int) != (xb : Int)) = false := by simp
            have HT := Lib.hid (turned_any xa xb (W1.alloc (.cells #[.int .i64 (xa : Int), .int .i64 (xb : Int)] 30)))
            replace ea := Lib.hid ea; replace hr := Lib.hid hr; replace hus := Lib.hid hus
            go_wp2_with fail
            generalize W1.alloc (.cells #[.int .i64 (xa : Int), .int .i64 (xb : Int)] 30) = W2 at *
            refine HT.out.mono ?_
            rintro e V2 ⟨rfl, hBt⟩
            have hSt2 := hS2.out.below hBt
            have hKt2 := hK2.out.trans (Kp.ofBelow hBt)
            have hdt := (hBt.block W1.heap.size hsz2).trans a0'.out
            have hSt3 := (((hSt2.fresh W1.heap.size hwd hdq 0 (.int .i64 (xb : Int))).fresh W1.heap.size hwd hdq 1 (.int .i64 (xa : Int))).used j)
            have hKt3 := (((hKt2.fresh hwS ⟨W1.heap.size, 0, none⟩ rfl (.int .i64 (xb : Int))).fresh hwS ⟨W1.heap.size, 1, none⟩ rfl (.int .i64 (xa : Int))).trans (Kp.set _ ⟨ub, j, none⟩ (.inl rfl) (.bool true)))
            have hd3 := (wset_ne (w := (V2.setCell ⟨W1.heap.size, 0, none⟩ (.int .i64 (xb : Int))).setCell ⟨W1.heap.size, 1, none⟩ (.int .i64 (xa : Int))) ⟨ub, j, none⟩ (.bool true) (b := W1.heap.size) (by simp; omega)).trans (wset (wset hdt 0 (.int .i64 (xb : Int))) 1 (.int .i64 (xa : Int)))
            have hsz3 : W1.heap.size < (((V2.setCell ⟨W1.heap.size, 0, none⟩ (.int .i64 (xb : Int))).setCell ⟨W1.heap.size, 1, none⟩ (.int .i64 (xa : Int))).setCell ⟨ub, j, none⟩ (.bool true)).heap.size := by
              have := hBt.size; simp [World.setCell]; omega
            have IHc := Lib.hid (IH.out xa (s.1.set j true, s.2) q cq _ (by have := hus.out; dsimp only; omega) b1 (by dsimp only; have := hm.out; have := hus.out; omega) hSt3 xa rfl)
            have hS3 := Lib.hid hSt3
            have hK3 := Lib.hid hKt3
            have h0 : V2.cell? ⟨W1.heap.size, 0, none⟩ = some (.int .i64 (xa : Int)) := wcell (cs := [_, _]) hdt 0
            have h1 : V2.cell? ⟨W1.heap.size, 1, none⟩ = some (.int .i64 (xb : Int)) := wcell (cs := [_, _]) hdt 1
            have h2 := wfree hdt 0
            have h3 := wfree hdt 1
            have h4 : V2.cell? ⟨wb, 1, none⟩ = some (.slice (some ⟨ub, 0, none⟩) n n) := wcell (cs := [_, _, _]) hSt2.b0 1
            have h5 : V2.cell? ⟨ub, j, none⟩ = some (.bool (us s.1 j)) := bcellsAt hSt2.u0 hjl.out
            rw [hu.out] at h5
            have h6 := wfree hSt2.u0 j
            have h7 := hBt.size
            replace hSt2 := Lib.hid hSt2; replace hKt2 := Lib.hid hKt2; replace hdt := Lib.hid hdt; replace hd3 := Lib.hid hd3; replace hsz3 := Lib.hid hsz3; replace hBt := Lib.hid hBt
            clear hSt3 hKt3 d0 d3 fu
            go_wp2_with fail
            generalize (((V2.setCell ⟨W1.heap.size, 0, none⟩ (.int .i64 (xb : Int))).setCell ⟨W1.heap.size, 1, none⟩ (.int .i64 (xa : Int))).setCell ⟨ub, j, none⟩ (.bool true)) = W3 at *
            refine IHc.out.mono ?_
            rintro e W4 ⟨rfl, q4, cq4, hS4, hK4⟩
            have hK5 := hK3.out.trans hK4
            have hd4 := (hK4.block W1.heap.size hsz3.out (by omega) (by omega) hdq).trans hd3.out
            have k0 : W4.cell? ⟨wb, 2, none⟩ = some (.slice q4 (rec xa (s.1.set j true, s.2)).2.length cq4) := wcell (cs := [_, _, _]) hS4.b0 2
            have k1 : W4.cell? ⟨W1.heap.size, 0, none⟩ = some (.int .i64 (xb : Int)) := wcell (cs := [_, _]) hd4 0
            have k2 : W4.cell? ⟨W1.heap.size, 1, none⟩ = some (.int .i64 (xa : Int)) := wcell (cs := [_, _]) hd4 1
            have k3 := wfree hS4.b0 2
            have hwb4 := hS4.lt
            have hd4l := lt_of_heap hd4
            have hlen : (rec xa (s.1.set j true, s.2)).2.length ≤ 1000 := by
              have h5 := (hrec.out xa (s.1.set j true, s.2) (by have := hul.out; simp only [List.length_set]; omega)).2.2
              have := hm.out; have := hus.out
              dsimp only at h5
              omega
            generalize hT : rec xa (s.1.set j true, s.2) = T at *
            replace hT := Lib.hid hT; replace hS4 := Lib.hid hS4; replace hK4 := Lib.hid hK4; replace hK5 := Lib.hid hK5; replace hd4 := Lib.hid hd4
            clear h0 h1 h2 h3 h4 h5 h6 h7
            go_wp2_with fail
            have hown5 : OwnP (wb + 1) ((W4.alloc (.cells #[.int .i64 (xb : Int), .int .i64 (xa : Int)] 30)).drew) q4 T.2.length cq4 T.2 := ⟨World.ownsRow.drew (hS4.out.own.1.alloc _), hS4.out.own.2⟩
            have hS5 : St ((W4.alloc (.cells #[.int .i64 (xb : Int), .int .i64 (xa : Int)] 30)).drew) ub wb B (some ⟨g, 0, none⟩) n c ps q4 cq4 T := hS4.out.below (((Below.refl _ _).alloc (Nat.le_refl _) _).drew)
            have hK6 := hK5.out.trans (Kp.ofBelow (((Below.refl W4.heap.size W4).alloc (Nat.le_refl _) (.cells #[.int .i64 (xb : Int), .int .i64 (xa : Int)] 30)).drew))
            have n0 : ((W4.alloc (.cells #[.int .i64 (xb : Int), .int .i64 (xa : Int)] 30)).drew).cell? ⟨W4.heap.size, 0, none⟩ = some (.int .i64 (xb : Int)) := wcell (cs := [_, _]) (heap_alloc_new W4 _) 0
            have n1 : ((W4.alloc (.cells #[.int .i64 (xb : Int), .int .i64 (xa : Int)] 30)).drew).cell? ⟨W4.heap.size, 1, none⟩ = some (.int .i64 (xa : Int)) := wcell (cs := [_, _]) (heap_alloc_new W4 _) 1
            have hbs : wb + 1 ≤ ((W4.alloc (.cells #[.int .i64 (xb : Int), .int .i64 (xa : Int)] 30)).drew).heap.size := by simp; omega
            have hqb := hS4.out.qb wb (Nat.le_refl _)
            replace hown5 := Lib.hid hown5; replace hS5 := Lib.hid hS5; replace hK6 := Lib.hid hK6; replace n0 := Lib.hid n0; replace n1 := Lib.hid n1; replace hbs := Lib.hid hbs; replace hqb := Lib.hid hqb
            go_region_law (refine step_appendP _ (by rfl) _ _ (by rfl) (wb + 1) q4 T.2.length cq4 T.2 (by rfl) hown5.out (xb, xa) W4.heap.size (by rfl) n0.out n1.out (by omega) hbs.out ?_; intro q5 cq5 W5 hM hg5 hr5; obtain ⟨hS6, hK7⟩ := hS5.out.push hM hg5 hr5; have m0 := (World.cell?_of_block (a := ⟨wb, 2, none⟩) (hg5.block wb (by simp; omega) hqb.out)).trans (wcell (cs := [_, _, _]) hS5.out.b0 2); have m1 : W5.frozen? ⟨wb, 2, none⟩ = false := wfree ((hg5.block wb (by simp; omega) hqb.out).trans hS5.out.b0) 2; replace hS6 := Lib.hid hS6; replace hK7 := Lib.hid (hK6.out.trans hK7); replace hM := Lib.hid hM; replace hg5 := Lib.hid hg5; replace hr5 := Lib.hid hr5)
            all_goals
              go_wp2_with fail
              have hgk := hgk.out
              go_roundg (n - (j + 1))
              case measure => omega
              case rel => exact ⟨j + 1, cq5, q5, by omega, rfl, by go_num, by rw [hsu.out, hr.out]; exact hS6.out, hK7.out⟩
          · have hr : stepR ps rec a0 s j = s := by rw [hstep.out, hfits.out]; simp [ea, eb]
            have ev : ((xa : Int) != (a0 : Int)) = true := by simp; omega
            have ev2 : ((xb : Int) != (a0 : Int)) = true := by simp; omega
            replace hr := Lib.hid hr; replace ea := Lib.hid ea; replace eb := Lib.hid eb
            go_wp2_with fail
            have hgk := hgk.out
            go_roundg (n - (j + 1))
            case measure => omega
            case rel => exact ⟨j + 1, cq, q, by omega, rfl, by go_num, by rw [hsu.out, hr.out]; exact hS2.out, hK2.out⟩
    · have hje : j = n := by omega
      subst hje
      replace hSt := Lib.hid hSt; replace hKp := Lib.hid hKp
      go_wp2_with fail
      go_end0
      refine ⟨rfl, q, cq, ?_, hKp.out⟩
      rw [hpl.out]; exact hSt.out

theorem walkS_good (ps : List Piece) : ∀ f, Good ps.length (walkS ps f) := by
  intro f
  induction f with
  | zero => exact fun a s hl => walkN_good (ps := ps) (rec := fun _ t => t) (fun _ _ _ => ⟨rfl, Nat.le_refl _, Nat.le_refl _⟩) a s hl ps.length (Nat.le_refl _)
  | succ f ih => exact fun a s hl => walkN_good (ps := ps) ih a s hl ps.length (Nat.le_refl _)

theorem walk_any (ub wb B n c : Nat) (p : Option Addr) (ps : List Piece) (hn : n ≤ 60) (hps : ∀ i, i < n → (pc ps i).1 ≤ 9 ∧ (pc ps i).2 ≤ 9) (hpl : ps.length = n) : ∀ (f a0 : Nat) (s0 : WSt) (q0 : Option Addr) (cq0 : Nat) (w : World), unused s0.1 ≤ f →
    a0 ≤ 9 → s0.2.length + unused s0.1 ≤ 1000 → St w ub wb B p n c ps q0 cq0 s0 → ∀ aI : Int, Hid (aI = a0) →
    Calls Try.prog 12 #[.pointer (some ⟨wb, 0, none⟩), .int .i64 aI] w (WalkPost ub wb B p n c ps q0 (walkS ps f a0 s0) w) := by
  intro f
  induction f with
  | zero =>
    intro a0 s0 q0 cq0 w hu ha hm hS aI haI
    exact walk_step ub wb B n c a0 p ps (fun _ t => t) (fun _ _ _ => ⟨rfl, Nat.le_refl _, Nat.le_refl _⟩) s0 q0 cq0 w hS hn hps ha hm (fun a' s' q' cq' W hlt => absurd hlt (by omega)) aI haI
  | succ f ih =>
    intro a0 s0 q0 cq0 w hu ha hm hS aI haI
    exact walk_step ub wb B n c a0 p ps (walkS ps f) (by rw [← hpl]; exact walkS_good ps f) s0 q0 cq0 w hS hn hps ha hm (fun a' s' q' cq' W hlt ha' hm' hS' aI' haI' => ih a' s' q' cq' W (by omega) ha' hm' hS' aI' haI') aI haI
end Go.Proofs.Ytgnchgkiijncbaa
