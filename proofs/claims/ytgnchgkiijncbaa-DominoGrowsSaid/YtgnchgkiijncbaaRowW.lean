/- What domino.Row computes: how long a row it tells, and what is wrong; conditions: at most 60 pieces with numbers up to 9, in a block that was there. -/
import Derived.Test.YtgnchgkiijncbaaRevW
namespace Go.Proofs.Ytgnchgkiijncbaa
open Go.RowKit

theorem run_mkB (n : Nat) (hn : n ≤ 1000) (w : World) : (Instr.makeSlice 38 (.int .i64 (n : Int)) (.int .i64 (n : Int))).run Try.prog w = .ok (.slice (some ⟨w.heap.size, 0, none⟩) n n) (w.alloc (.cells (Array.replicate n (.bool false)) 4)) := by
  obtain ⟨i0, hi, hz0, hz1, hz2⟩ := info_parts (show (Try.prog.info? 4).map (fun i => (i.zero, i.size, i.bytes)) = some (some (.bool false), 1, 1) by kernel_rfl)
  have hrun := run_make (P := Try.prog) w 38 4 i0 (.bool false) Try.underlying38 hi hz0 .i64 .i64 n n (by omega) (by omega) (by rw [hz2]; omega) (by omega)
  simp only [Int.toNat_natCast] at hrun
  rw [hrun]
  congr 3
  simp only [madeCells, Value.cells, hz1, Nat.mul_one]
  apply Array.ext
  · simp
  · intro i h1 h2
    simp [Nat.mod_one]
theorem and_one (e : Nat) (h : e < 200) : bits BinOp.and IntKind.i64 (e : Int) 1 = ((e % 2 : Nat) : Int) := by
  have : ∀ e : Nat, e < 200 → bits BinOp.and IntKind.i64 (e : Int) 1 = ((e % 2 : Nat) : Int) := by decide +kernel
  exact this e h
def bump (e : List Nat) (a : Nat) : List Nat := e.set a (e[a]?.getD 0 + 1)
theorem endsN_succ (ps : List Piece) (j : Nat) (h : j < ps.length) : endsN ps (j + 1) = bump (bump (endsN ps j) (pc ps j).1) (pc ps j).2 := by
  unfold endsN
  rw [List.take_succ_eq_append_getElem h, List.foldl_append]
  simp [pc, h, bump]
theorem bump_len (e : List Nat) (a : Nat) : (bump e a).length = e.length := by simp [bump]
theorem bump_bd {e : List Nat} {m : Nat} (h : ∀ i : Nat, e[i]?.getD 0 ≤ m) (a : Nat) : ∀ i : Nat, (bump e a)[i]?.getD 0 ≤ m + 1 := by
  intro i
  unfold bump
  by_cases ei : a = i
  · subst ei
    by_cases hl : a < e.length
    · rw [List.getElem?_set_self hl]; simp; exact h a
    · rw [List.getElem?_eq_none (by simp; omega)]; simp
  · rw [List.getElem?_set_ne ei]; exact Nat.le_succ_of_le (h i)
theorem ends_bd (ps : List Piece) : ∀ j : Nat, j ≤ ps.length → (endsN ps j).length = 10 ∧ ∀ i : Nat, (endsN ps j)[i]?.getD 0 ≤ 2 * j := by
  intro j
  induction j with
  | zero =>
    intro _
    refine ⟨by simp [endsN], fun i => ?_⟩
    have : endsN ps 0 = List.replicate 10 0 := by simp [endsN]
    rw [this]
    rw [List.getElem?_replicate]; split <;> simp
  | succ j ih =>
    intro h
    obtain ⟨i1, i2⟩ := ih (by omega)
    rw [endsN_succ ps j (by omega)]
    exact ⟨by rw [bump_len, bump_len]; exact i1, fun i => by have := bump_bd (bump_bd i2 (pc ps j).1) (pc ps j).2 i; omega⟩
def EB (w : World) (b : Nat) (e : List Nat) : Prop := w.heap[b]? = some (.cells (e.map fun x : Nat => Value.int .i64 (x : Int)).toArray 37 (0, 0))
theorem EB.cell {w : World} {b : Nat} {e : List Nat} (h : EB w b e) {i : Nat} (hi : i < e.length) : w.cell? ⟨b, i, none⟩ = some (.int .i64 (e[i]?.getD 0 : Nat)) := by
  rw [cell_of_row w b i _ 37 (0, 0) h]; simp [hi]
theorem EB.bump {w : World} {b : Nat} {e : List Nat} (h : EB w b e) (a : Nat) : EB (w.setCell ⟨b, a, none⟩ (.int .i64 ((e[a]?.getD 0 : Nat) + 1))) b (bump e a) := by
  unfold EB Go.Proofs.Ytgnchgkiijncbaa.bump
  rw [wset h]
  simp [List.map_set]
theorem odds_bd (e : List Nat) (s0 j : Nat) (h : s0 ≤ 9) (hj : j ≤ 10) : (oddsN e s0 j).1 ≤ 9 ∧ (oddsN e s0 j).2 ≤ j := by
  induction j with
  | zero => exact ⟨h, Nat.le_refl _⟩
  | succ j ih =>
    obtain ⟨i1, i2⟩ := ih (by omega)
    rw [oddsN_succ]
    split
    · simp only; omega
    · omega
theorem list10 (e : List Nat) (h : e.length = 10) : ∃ a b c d f g i j k l, e = [a, b, c, d, f, g, i, j, k, l] := by
  match e, h with
  | [a, b, c, d, f, g, i, j, k, l], _ => exact ⟨a, b, c, d, f, g, i, j, k, l, rfl⟩
theorem index10 (a b c d f g i j k l t : Nat) (ht : t < 10) : ∀ w, (Instr.index 37 (.agg #[.int .i64 (a : Int), .int .i64 (b : Int), .int .i64 (c : Int), .int .i64 (d : Int), .int .i64 (f : Int), .int .i64 (g : Int), .int .i64 (i : Int), .int .i64 (j : Int), .int .i64 (k : Int), .int .i64 (l : Int)]) (.int .i64 (t : Int))).run Try.prog w = .ok (.int .i64 (([a, b, c, d, f, g, i, j, k, l][t]?.getD 0 : Nat) : Int)) w := by
  rcases (show t = 0 ∨ t = 1 ∨ t = 2 ∨ t = 3 ∨ t = 4 ∨ t = 5 ∨ t = 6 ∨ t = 7 ∨ t = 8 ∨ t = 9 from by omega) with rfl | rfl | rfl | rfl | rfl | rfl | rfl | rfl | rfl | rfl <;> exact fun w => by kernel_rfl

set_option maxHeartbeats 8000000 in
set_option maxRecDepth 100000 in
theorem row_any (p : Option Addr) (n c B : Nat) (ps : List Piece) (w : World) (hn : n ≤ 60) (hB : B ≤ w.heap.size) (hx : PIn B w p n ps) (hps : ∀ q ∈ ps, q.1 ≤ 9 ∧ q.2 ≤ 9) :
    Calls Try.prog 7 #[.slice p n c] w fun e w' => ∃ q c', e = .returned (.tuple #[.slice q (rowS ps).1 c', .int .i64 (rowS ps).2]) ∧ Below w.heap.size w w' := by
  have HC := Lib.hid (contains_none p n c B ps w hn hx hps)
  have hpl := hx.1
  have hps2 : ∀ i, i < n → (pc ps i).1 ≤ 9 ∧ (pc ps i).2 ≤ 9 := fun i hi => hps _ (by unfold pc; simp [show i < ps.length by omega])
  have hrow : Hid (rowS ps = if ps = [] then (0, 0)
    else if 2 < (oddsN (endsN ps ps.length) (pc ps 0).1 10).2 then (0, 10)
    else if (walked ps).2.length < ps.length then (0, 10)
    else ((walked ps).2.length, 0)) := rfl
  rcases Nat.eq_zero_or_pos n with h0 | h0
  · subst h0
    have he : ps = [] := List.eq_nil_of_length_eq_zero hpl
    have hr : rowS ps = (0, 0) := by rw [hrow.out, if_pos he]
    replace he := Lib.hid he; replace hr := Lib.hid hr; replace hx := Lib.hid hx; replace hps := Lib.hid hps; replace hps2 := Lib.hid hps2; replace hpl := Lib.hid hpl
    go_enter Try.func7, Try.ntmps7
    go_wp2_with fail
    refine HC.out.mono ?_
    rintro e W1 ⟨rfl, hB1⟩
    replace hB1 := Lib.hid hB1
    go_wp2_with fail
    go_ret2
    exact ⟨none, 0, by rw [hr.out]; rfl, hB1.out⟩
  · have hne : ps ≠ [] := by intro e; rw [e] at hpl; simp at hpl; omega
    rw [if_neg hne] at hrow
    obtain ⟨g, rfl, hgB, hg, _⟩ := hx.at h0
    have zn : ((n : Int) == 0) = false := by simp; omega
    have z60 : decide ((60 : Int) < (n : Int)) = false := by simp; omega
    replace hx := Lib.hid hx; replace hps := Lib.hid hps; replace hps2 := Lib.hid hps2; replace hpl := Lib.hid hpl; replace hne := Lib.hid hne
    go_enter Try.func7, Try.ntmps7
    go_wp2_with fail
    refine HC.out.mono ?_
    rintro e W1 ⟨rfl, hB1⟩
    have hx1 := Lib.hid ((hx.out.mono hB).below hB1)
    have hsz1 := hB1.size
    replace hB1 := Lib.hid hB1
    have hE0 : Hid (EB (W1.alloc (.cells #[.int .i64 0, .int .i64 0, .int .i64 0, .int .i64 0, .int .i64 0, .int .i64 0, .int .i64 0, .int .i64 0, .int .i64 0, .int .i64 0] 37)) W1.heap.size (endsN ps 0)) := (heap_alloc_new W1 _).trans rfl
    have hBe : Hid (Below W1.heap.size W1 (W1.alloc (.cells #[.int .i64 0, .int .i64 0, .int .i64 0, .int .i64 0, .int .i64 0, .int .i64 0, .int .i64 0, .int .i64 0, .int .i64 0, .int .i64 0] 37))) := (Below.refl _ _).alloc (Nat.le_refl _) _
    go_wp2_with fail
    go_loopg [25] n (fun gk jv W' => ∃ j : Nat, j ≤ n ∧ gk = n - j ∧ jv = .int .i64 j ∧ EB W' W1.heap.size (endsN ps j) ∧ Below W1.heap.size W1 W')
    case atStart => exact ⟨0, by omega, by omega, rfl, hE0.out, hBe.out⟩
    case round =>
      obtain ⟨j, hj, hgk, rfl, hE, hBw⟩ := hrel
      obtain ⟨W2, rfl⟩ : ∃ W2 : World, W2 = wr := ⟨_, rfl⟩
      replace hgk := Lib.hid hgk
      obtain ⟨el, eb⟩ := ends_bd ps j (by have := hpl.out; omega)
      by_cases hlt : j < n
      · obtain ⟨g', hg', _, hg2, hc⟩ := (hx1.out.below (hBw.mono hsz1)).at h0
        injection hg' with hg'
        injection hg' with hg'
        subst hg'
        obtain ⟨c1, c2⟩ := hc j hlt
        obtain ⟨b1, b2⟩ := hps2.out j hlt
        have hsu := Lib.hid (endsN_succ ps j (by have := hpl.out; omega))
        generalize (pc ps j).1 = a at *
        generalize (pc ps j).2 = b at *
        generalize endsN ps j = e at *
        have d1 := hE.cell (i := a) (by omega)
        have d2 := hE.cell (i := b) (by omega)
        have ea := eb a
        have eb2 := eb b
        have hE1 := hE.bump a
        have hE2 := hE1.bump b
        have d3 := hE1.cell (i := b) (by rw [bump_len]; omega)
        have eb3 := bump_bd eb a b
        have f1 := wfree hE a
        have f2 := wfree hE b
        have hlt1 : W1.heap.size < W2.heap.size := lt_of_heap hE
        generalize e[a]?.getD 0 = va at *
        generalize (bump e a)[b]?.getD 0 = vb at *
        have hBs := hBw.setCell (p := ⟨W1.heap.size, a, none⟩) (Nat.le_refl _) (.int .i64 ((va : Int) + 1))
        have hBs2 := hBs.setCell (p := ⟨W1.heap.size, b, none⟩) (Nat.le_refl _) (.int .i64 ((vb : Int) + 1))
        replace hE := Lib.hid hE; replace hE1 := Lib.hid hE1; replace hE2 := Lib.hid hE2; replace hBw := Lib.hid hBw; replace hBs := Lib.hid hBs; replace hBs2 := Lib.hid hBs2; replace eb := Lib.hid eb
        clear hc d2 eb2
        go_wp2_with fail
        have hE3 := (Below.heap_alloc _ (.cells #[.int .i64 (a : Int), .int .i64 (b : Int)] 30) W1.heap.size (lt_of_heap hE2.out)).trans hE2.out
        have hBs3 := hBs2.out.alloc hBs2.out.size (.cells #[.int .i64 (a : Int), .int .i64 (b : Int)] 30)
        have hgk := hgk.out
        go_roundg (n - (j + 1))
        case measure => omega
        case rel => exact ⟨j + 1, by omega, rfl, by go_num, by rw [hsu.out]; exact hE3, hBs3⟩
      · have hje : j = n := by omega
        subst hje
        obtain ⟨g', hg', _, hg2, hc⟩ := (hx1.out.below (hBw.mono hsz1)).at h0
        injection hg' with hg'
        injection hg' with hg'
        subst hg'
        obtain ⟨c1, _⟩ := hc 0 h0
        rw [Nat.zero_mul] at c1
        obtain ⟨b1, _⟩ := hps2.out 0 h0
        rw [hpl.out] at hrow
        have hwk : Hid (walked ps = walkS ps ps.length (oddsN (endsN ps j) (pc ps 0).1 10).1 (List.replicate ps.length false, [])) := by show _ = _; unfold walked; rw [hpl.out]
        obtain ⟨e0, e1, e2, e3, e4, e5, e6, e7, e8, e9, hee⟩ := list10 (endsN ps j) el
        generalize endsN ps j = e at *
        subst hee
        have k0 : W2.cell? ⟨W1.heap.size, 0, none⟩ = some (.int .i64 (e0 : Int)) := wcell (cs := [_, _, _, _, _, _, _, _, _, _]) hE 0
        have k1 : W2.cell? ⟨W1.heap.size, 1, none⟩ = some (.int .i64 (e1 : Int)) := wcell (cs := [_, _, _, _, _, _, _, _, _, _]) hE 1
        have k2 : W2.cell? ⟨W1.heap.size, 2, none⟩ = some (.int .i64 (e2 : Int)) := wcell (cs := [_, _, _, _, _, _, _, _, _, _]) hE 2
        have k3 : W2.cell? ⟨W1.heap.size, 3, none⟩ = some (.int .i64 (e3 : Int)) := wcell (cs := [_, _, _, _, _, _, _, _, _, _]) hE 3
        have k4 : W2.cell? ⟨W1.heap.size, 4, none⟩ = some (.int .i64 (e4 : Int)) := wcell (cs := [_, _, _, _, _, _, _, _, _, _]) hE 4
        have k5 : W2.cell? ⟨W1.heap.size, 5, none⟩ = some (.int .i64 (e5 : Int)) := wcell (cs := [_, _, _, _, _, _, _, _, _, _]) hE 5
        have k6 : W2.cell? ⟨W1.heap.size, 6, none⟩ = some (.int .i64 (e6 : Int)) := wcell (cs := [_, _, _, _, _, _, _, _, _, _]) hE 6
        have k7 : W2.cell? ⟨W1.heap.size, 7, none⟩ = some (.int .i64 (e7 : Int)) := wcell (cs := [_, _, _, _, _, _, _, _, _, _]) hE 7
        have k8 : W2.cell? ⟨W1.heap.size, 8, none⟩ = some (.int .i64 (e8 : Int)) := wcell (cs := [_, _, _, _, _, _, _, _, _, _]) hE 8
        have k9 : W2.cell? ⟨W1.heap.size, 9, none⟩ = some (.int .i64 (e9 : Int)) := wcell (cs := [_, _, _, _, _, _, _, _, _, _]) hE 9
        generalize hp0 : (pc ps 0).1 = s0 at *
        have hidx := Lib.hid (index10 e0 e1 e2 e3 e4 e5 e6 e7 e8 e9)
        have hx2 := Lib.hid (hx1.out.below (hBw.mono hsz1))
        have hBw2 := Lib.hid (hB1.out.trans (hBw.mono hsz1))
        have hsz2 : w.heap.size ≤ W2.heap.size := Nat.le_trans hsz1 hBw.size
        replace hE := Lib.hid hE; replace hBw := Lib.hid hBw; replace eb := Lib.hid eb; replace el := Lib.hid el; replace hp0 := Lib.hid hp0
        clear hc
        go_wp2_with fail
        clear k0 k1 k2 k3 k4 k5 k6 k7 k8 k9 c1
        go_loopg [7, 8, 47] 10 (fun gk sv ov iv W' => ∃ i : Nat, i ≤ 10 ∧ gk = 10 - i ∧ iv = .int .i64 i ∧ sv = .int .i64 (oddsN [e0, e1, e2, e3, e4, e5, e6, e7, e8, e9] s0 i).1 ∧ ov = .int .i64 (oddsN [e0, e1, e2, e3, e4, e5, e6, e7, e8, e9] s0 i).2 ∧ W2 = W')
        case atStart => exact ⟨0, by omega, by omega, rfl, rfl, rfl, rfl⟩
        case round =>
          obtain ⟨i, hi, hgk2, rfl, rfl, rfl, rfl⟩ := hrel
          replace hgk2 := Lib.hid hgk2
          obtain ⟨o1, o2⟩ := odds_bd [e0, e1, e2, e3, e4, e5, e6, e7, e8, e9] s0 i b1 hi
          by_cases hlti : i < 10
          · have hrun := hidx.out i hlti
            have hsu := oddsN_succ [e0, e1, e2, e3, e4, e5, e6, e7, e8, e9] s0 i
            have hev := eb.out i
            generalize [e0, e1, e2, e3, e4, e5, e6, e7, e8, e9][i]?.getD 0 = v at *
            have hand := and_one v (by omega)
            generalize oddsN [e0, e1, e2, e3, e4, e5, e6, e7, e8, e9] s0 i = o at *
            obtain ⟨oa, ob⟩ := o
            simp only at o1 o2 hsu
            have gi : decide ((i : Int) < 10) = true := by simp; omega
            by_cases hv : v % 2 = 1
            · rw [if_pos hv] at hsu
              rw [hv] at hand
              replace hsu := Lib.hid hsu; replace hv := Lib.hid hv
              go_wp2_with fail
              have hgk2 := hgk2.out
              go_roundg (10 - (i + 1))
              case measure => omega
              case rel => exact ⟨i + 1, by omega, rfl, by go_num, by rw [hsu.out], by rw [hsu.out]; go_num, rfl⟩
            · have hv0 : v % 2 = 0 := by omega
              rw [if_neg hv] at hsu
              rw [hv0] at hand
              replace hsu := Lib.hid hsu; replace hv := Lib.hid hv; replace hv0 := Lib.hid hv0
              go_wp2_with fail
              have hgk2 := hgk2.out
              go_roundg (10 - (i + 1))
              case measure => omega
              case rel => exact ⟨i + 1, by omega, rfl, by go_num, by rw [hsu.out], by rw [hsu.out], rfl⟩
          · have hie : i = 10 := by omega
            subst hie
            generalize oddsN [e0, e1, e2, e3, e4, e5, e6, e7, e8, e9] s0 10 = o at *
            obtain ⟨oa, ob⟩ := o
            simp only at o1 o2 hrow hwk
            have hmk := run_mkB j (by omega)
            have hSt : St ((W2.alloc (.cells (Array.replicate j (.bool false)) 4)).alloc (.cells #[.slice (some ⟨g, 0, none⟩) j c, .slice (some ⟨W2.heap.size, 0, none⟩) j j, .slice none 0 0] 40)) W2.heap.size (W2.heap.size + 1) w.heap.size (some ⟨g, 0, none⟩) j c ps none 0 (List.replicate j false, []) := by
              obtain ⟨a1, a2⟩ := heap2 W2 (.cells (Array.replicate j (.bool false)) 4) (.cells #[.slice (some ⟨g, 0, none⟩) j c, .slice (some ⟨W2.heap.size, 0, none⟩) j j, .slice none 0 0] 40)
              exact ⟨a2, a1.trans (by simp), by simp, OwnP.nil _ _, hx2.out.keep (by simp; omega) (fun k hk hk2 => (below2 W2 _ _).block k hk2), hsz2, by omega⟩
            have hBw3 := hBw2.out.trans ((below2 W2 (.cells (Array.replicate j (.bool false)) 4) (.cells #[.slice (some ⟨g, 0, none⟩) j c, .slice (some ⟨W2.heap.size, 0, none⟩) j j, .slice none 0 0] 40)).mono hsz2)
            have hun : unused (List.replicate j false) = j := by unfold unused; rw [List.count_replicate_self]
            have HW := Lib.hid (fun W h => walk_any W2.heap.size (W2.heap.size + 1) w.heap.size j c (some ⟨g, 0, none⟩) ps hn hps2.out hpl.out ps.length oa (List.replicate j false, []) none 0 W (by rw [hpl.out]; exact Nat.le_of_eq hun) o1 (by simp only [List.length_nil]; omega) h oa rfl)
            have hgd := Lib.hid (walkS_good ps ps.length oa (List.replicate j false, []) (by rw [hpl.out]; simp))
            rw [hpl.out] at hwk
            replace hSt := Lib.hid hSt; replace hBw3 := Lib.hid hBw3; replace hun := Lib.hid hun
            by_cases hodd : 2 < ob
            · have hr : rowS ps = (0, 10) := by rw [hrow.out, if_pos hodd]
              replace hr := Lib.hid hr
              go_wp2_with fail
              go_ret2
              exact ⟨⟨none, 0, by rw [hr.out]; rfl⟩, hBw3.out⟩
            · rw [if_neg hodd] at hrow
              go_wp2_with fail
              refine (HW.out _ hSt.out).mono ?_
              rintro e W5 ⟨rfl, q5, cq5, hS5, hK5⟩
              rw [hpl.out] at hS5 hgd
              have hgd2 := hgd.out.2.2
              rw [← hwk.out] at hS5 hgd2
              have hTl : (walked ps).2.length ≤ 60 := by
                have := hun.out
                simp only [List.length_nil] at hgd2
                omega
              have hs5 := hK5.size
              have hBw5 : Below w.heap.size w W5 := by
                refine ⟨hK5.os.trans hBw3.out.os, hK5.tape.trans hBw3.out.tape, hK5.output.trans hBw3.out.output, Nat.le_trans hBw3.out.size hs5, fun k hk => (hK5.block k (Nat.lt_of_lt_of_le hk hBw3.out.size) (by omega) (by omega) (by simp)).trans (hBw3.out.block k hk)⟩
              have m0 : W5.cell? ⟨W2.heap.size + 1, 2, none⟩ = some (.slice q5 (walked ps).2.length cq5) := wcell (cs := [_, _, _]) hS5.b0 2
              have hwb5 := hS5.lt
              generalize hTT : walked ps = T at *
              replace hTT := Lib.hid hTT; replace hgd2 := Lib.hid hgd2
              by_cases hsh : T.2.length < j
              · have hr : rowS ps = (0, 10) := by rw [hrow.out, if_pos hsh]
                replace hr := Lib.hid hr; replace hS5 := Lib.hid hS5; replace hK5 := Lib.hid hK5; replace hBw5 := Lib.hid hBw5
                go_wp2_with fail
                go_ret2
                exact ⟨none, 0, by rw [hr.out]; rfl, hBw5.out⟩
              · have hr : rowS ps = (T.2.length, 0) := by rw [hrow.out, if_neg hsh]
                have HR := Lib.hid (reverse_any (W2.heap.size + 1 + 1) T.2.length cq5 q5 T.2 W5 (by omega) hS5.own)
                replace hr := Lib.hid hr; replace hS5 := Lib.hid hS5; replace hK5 := Lib.hid hK5; replace hBw5 := Lib.hid hBw5
                go_wp2_with fail
                refine HR.out.mono ?_
                rintro e W6 ⟨rfl, hB6⟩
                have m1 : W6.cell? ⟨W2.heap.size + 1, 2, none⟩ = some (.slice q5 T.2.length cq5) := (hB6.cell (p := ⟨W2.heap.size + 1, 2, none⟩) (by simp)).trans m0
                have hBw6 := Lib.hid (hBw5.out.trans (hB6.mono (by omega)))
                clear m0 hB6
                go_wp2_with fail
                go_ret2
                exact ⟨q5, cq5, by rw [hr.out]; rfl, hBw6.out⟩
end Go.Proofs.Ytgnchgkiijncbaa
