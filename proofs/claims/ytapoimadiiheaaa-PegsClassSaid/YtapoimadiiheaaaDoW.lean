/- What pegs.Do computes at a row of jumps that can be made one behind another; conditions: a board of 1 to 10 by 1 to 10 places. -/
import Derived.Test.YtapoimadiiheaaaDoI
import Derived.Test.YtapoimadiiheaaaDoP
import Derived.Test.YtapoimadiiheaaaRnQ
namespace Go.Proofs.Ytapoimadiiheaaa
open Go.RowKit

/-- '.slice p n _' reads as the moves of jumps. -/
def MvIn (w : World) (p : Option Addr) (n : Nat) (row : List Jm) : Prop :=
  row.length = n ∧ ∀ i, i < n → ∃ g j, p = some ⟨g, 0, none⟩ ∧ g < w.heap.size ∧ row[i]? = some j ∧ w.cell? ⟨g, 3 * i, none⟩ = some (.int .i64 (j.1 : Int)) ∧ w.cell? ⟨g, 3 * i + 1, none⟩ = some (.int .i64 (j.2.2 : Int)) ∧ w.cell? ⟨g, 3 * i + 2, none⟩ = some (.int .i64 0)
theorem MvIn.below {w w' : World} {p : Option Addr} {n : Nat} {row : List Jm} (h : MvIn w p n row) (hb : Below w.heap.size w w') : MvIn w' p n row :=
  ⟨h.1, fun i hi => by
    obtain ⟨g, j, h1, h3, h4, c1, c2, c3⟩ := h.2 i hi
    exact ⟨g, j, h1, Nat.lt_of_lt_of_le h3 hb.size, h4, (hb.cell (p := ⟨g, 3 * i, none⟩) h3).trans c1, (hb.cell (p := ⟨g, 3 * i + 1, none⟩) h3).trans c2, (hb.cell (p := ⟨g, 3 * i + 2, none⟩) h3).trans c3⟩⟩
/-- the state of the loop. -/
structure DoS (w X : World) (a b n gb rb B : Nat) (p : Option Addr) (c : Nat) (qa : Option Addr) (m BJ : Nat) (J : List Jm) (s : List Nat) : Prop where
  g : X.heap[gb]? = some (.cells #[.int .i64 (a : Int), .int .i64 (b : Int), .slice p n c] 24 (0, 0))
  r : X.heap[rb]? = some (.cells #[.int .i64 0, .int .i64 0, .slice none 0 0] 24 (0, 0))
  own : Own 3 B X p n c (asI s)
  all : JIn BJ X qa m J
  low : Below w.heap.size w X
theorem DoS.bw {w X Y : World} {a b n gb rb B : Nat} {p : Option Addr} {c : Nat} {qa : Option Addr} {m BJ : Nat} {J : List Jm} {s : List Nat} (h : DoS w X a b n gb rb B p c qa m BJ J s) (hb : Bw X Y) : DoS w Y a b n gb rb B p c qa m BJ J s :=
  ⟨(Below.block hb _ (lt_of_heap h.g)).trans h.g, (Below.block hb _ (lt_of_heap h.r)).trans h.r, h.own.below hb (Nat.le_refl _), h.all.below hb, h.low.trans (Below.mono hb h.low.size)⟩
theorem DoS.turn {w X Y : World} {a b n gb rb B : Nat} {p : Option Addr} {c : Nat} {qa : Option Addr} {m BJ : Nat} {J : List Jm} {s s' : List Nat} (h : DoS w X a b n gb rb B p c qa m BJ J s) (hgB : gb < B) (hrB : rb < B) (hwB : w.heap.size ≤ B) (hpJ : ∀ x, p = some x → x.block < BJ)
    (ho : Own 3 B Y p n c (asI s')) (hg : X.grownBy Y (p.map (·.block))) : DoS w Y a b n gb rb B p c qa m BJ J s' := by
  have far : ∀ k, k < B → some k ≠ p.map (·.block) := fun k hk e => by
    cases p with
    | none => cases e
    | some x => simp at e; have := (h.own.block x rfl).1; omega
  refine ⟨(hg.block _ (lt_of_heap h.g) (far _ hgB)).trans h.g, (hg.block _ (lt_of_heap h.r) (far _ hrB)).trans h.r, ho, ?_, h.low.grown hg h.low.size ?_⟩
  · refine h.all.keep hg.size fun x _ hB hlt => hg.block _ hlt fun e => ?_
    cases p with
    | none => cases e
    | some y => simp at e; have := hpJ y rfl; omega
  · intro x hx
    cases p with
    | none => cases hx
    | some y => simp at hx; subst hx; have := (h.own.block y rfl).1; omega
/-- what Do hands back where all jumps can be made. -/
def DoRes (w w' : World) (a b n nl : Nat) (t : List Nat) (e : Ending) : Prop := ∃ p' c', e = .returned (.tuple #[.agg #[.int .i64 (a : Int), .int .i64 (b : Int), .slice p' n c'], .int .i64 (nl : Int), .int .i64 0]) ∧ IntsIn w' p' n (asI t) ∧ Below w.heap.size w w' ∧ ∀ x, p' = some x → w.heap.size ≤ x.block
set_option maxHeartbeats 4000000 in
theorem do_path (a b n c nl cl : Nat) (q pl : Option Addr) (s t : List Nat) (J : List Jm) (row : List Jm) (w : World) (ha1 : 1 ≤ a) (ha : a ≤ 10) (hb1 : 1 ≤ b) (hb : b ≤ 10) (hn : n = a * b) (hx : IntsIn w q n (asI s)) (hs2 : ∀ j, st s j ≤ 2) (hMv : MvIn w pl nl row) (hp : Pth J s row t) (hJ : ∀ j ∈ J, inJ a b s j) :
    Calls Try.prog 8 #[.agg #[.int .i64 (a : Int), .int .i64 (b : Int), .slice q n c], .slice pl nl cl] w fun e w' => DoRes w w' a b n nl t e := by
  have hn100 : n ≤ 100 := by rw [hn]; exact Nat.mul_le_mul ha hb
  have hsl : s.length = n := by have := hx.len; rwa [asI_len] at this
  have hm : mayG a b (asI s) = true := mayG_of ha1 ha hb1 hb (by rw [hsl, hn]) hs2
  have hn0 : 0 < n := by rw [hn]; exact Nat.mul_pos ha1 hb1
  obtain ⟨ht, hstep⟩ := pth_all hp
  have hnl : nl ≤ 1000000000 := by
    have h1 := hp.cnt (fun j hj => inJ_wf (by rw [hsl, hn]) (hJ j hj))
    have h2 : cnt1 s ≤ s.length := List.countP_le_length
    have h3 := hMv.1
    omega
  obtain ⟨f0, f1⟩ := heap2 w (.cells #[.int .i64 (a : Int), .int .i64 (b : Int), .slice q n c] 24) (.cells #[.int .i64 0, .int .i64 0, .slice none 0 0] 24)
  have hB0 := below2 w (.cells #[.int .i64 (a : Int), .int .i64 (b : Int), .slice q n c] 24) (.cells #[.int .i64 0, .int .i64 0, .slice none 0 0] 24)
  have hs0 : ((w.alloc (.cells #[.int .i64 (a : Int), .int .i64 (b : Int), .slice q n c] 24)).alloc (.cells #[.int .i64 0, .int .i64 0, .slice none 0 0] 24)).heap.size = w.heap.size + 2 := by simp
  have hw0 := Lib.hid hx
  clear hx
  replace hn := Lib.hid hn; replace hB0 := Lib.hid hB0; replace ht := Lib.hid ht; replace hstep := Lib.hid hstep; replace hp := Lib.hid hp; replace hMv := Lib.hid hMv
  go_enter Try.func8, Try.ntmps8
  go_upto_region 1 with fail
  generalize (w.alloc (.cells #[.int .i64 (a : Int), .int .i64 (b : Int), .slice q n c] 24)).alloc (.cells #[.int .i64 0, .int .i64 0, .slice none 0 0] 24) = W0 at *
  have HX : Hid (∀ X : World, Bw W0 X → IntsIn X q n (asI s)) := fun X hX => hw0.out.below (hB0.out.trans (Below.mono hX (by omega)))
  have HM := may_any q n c a b (asI s) W0 (by omega) (by omega) (by omega) (by omega) (by omega) (HX.out W0 (Bw.refl W0))
  rw [hm] at HM
  replace HM := Lib.hid HM
  have G : Hid (∀ X : World, Bw W0 X → X.heap[w.heap.size]? = some (.cells #[.int .i64 (a : Int), .int .i64 (b : Int), .slice q n c] 24 (0, 0)) ∧ X.heap[w.heap.size + 1]? = some (.cells #[.int .i64 0, .int .i64 0, .slice none 0 0] 24 (0, 0))) := fun X hX => ⟨(Below.block hX _ (by omega)).trans f0, (Below.block hX _ (by omega)).trans f1⟩
  have d0 : W0.cell? ⟨w.heap.size, 0, none⟩ = some (.int .i64 (a : Int)) := wcell (cs := [_, _, _]) f0 0
  have d1 : W0.cell? ⟨w.heap.size, 1, none⟩ = some (.int .i64 (b : Int)) := wcell (cs := [_, _, _]) f0 1
  have d2 : W0.cell? ⟨w.heap.size, 2, none⟩ = some (.slice q n c) := wcell (cs := [_, _, _]) f0 2
  replace f0 := Lib.hid f0; replace f1 := Lib.hid f1
  go_upto_region 3 with (go_at_call 11; refine HM.out.mono ?_; rintro e w1 ⟨rfl, hB1⟩; replace hB1 := Lib.hid hB1)
  have hb1' : Hid (Bw W0 w1) := hB1.out
  have hs01 : W0.heap.size ≤ w1.heap.size := Below.size hb1'.out
  clear d0 d1 d2 HM
  have d2 : w1.cell? ⟨w.heap.size, 2, none⟩ = some (.slice q n c) := wcell (cs := [_, _, _]) (G.out w1 hb1'.out).1 2
  have HC := Lib.hid (clone_any q n c (asI s) w1 (by omega) (HX.out w1 hb1'.out))
  go_upto_region 4 with (go_at_call 22; refine HC.out.mono ?_; rintro e w2 ⟨p', c', rfl, hO2, hB2⟩; have hb2 : Bw W0 w2 := Bw.trans hb1'.out hB2; have fz : w2.frozen? ⟨w.heap.size, 2, none⟩ = false := wfree (G.out w2 hb2).1 2; have d2' : w2.cell? ⟨w.heap.size, 2, none⟩ = some (.slice q n c) := wcell (cs := [_, _, _]) (G.out w2 hb2).1 2; replace hO2 := Lib.hid hO2; replace hB2 := Lib.hid hB2; replace hb2 := Lib.hid hb2)
  obtain ⟨g', rfl, hgB, hgl, _⟩ := OwnC.where (k := 1) hO2.out hn0
  have e2 := (G.out w2 hb2.out)
  have hs12 : w1.heap.size ≤ w2.heap.size := Below.size hB2.out
  have hss : (w2.setCell ⟨w.heap.size, 2, none⟩ (.slice (some ⟨g', 0, none⟩) n c')).heap.size = w2.heap.size := by simp [World.setCell]
  have g3 : (w2.setCell ⟨w.heap.size, 2, none⟩ (.slice (some ⟨g', 0, none⟩) n c')).heap[w.heap.size]? = some (.cells #[.int .i64 (a : Int), .int .i64 (b : Int), .slice (some ⟨g', 0, none⟩) n c'] 24 (0, 0)) := by
    simp [World.setCell, Array.getElem?_modify, e2.1]
  have r3 : (w2.setCell ⟨w.heap.size, 2, none⟩ (.slice (some ⟨g', 0, none⟩) n c')).heap[w.heap.size + 1]? = some (.cells #[.int .i64 0, .int .i64 0, .slice none 0 0] 24 (0, 0)) := (Below.heap_setCell w2 ⟨w.heap.size, 2, none⟩ _ _ (by simp)).trans e2.2
  have o3 : Own 3 w1.heap.size (w2.setCell ⟨w.heap.size, 2, none⟩ (.slice (some ⟨g', 0, none⟩) n c')) (some ⟨g', 0, none⟩) n c' (asI s) := hO2.out.keep fun x hx => by cases hx; exact Below.heap_setCell w2 ⟨w.heap.size, 2, none⟩ _ _ (by simp only; omega)
  have l3 : Below w.heap.size w (w2.setCell ⟨w.heap.size, 2, none⟩ (.slice (some ⟨g', 0, none⟩) n c')) := (hB0.out.trans (Below.mono hb2.out (by omega))).setCell (p := ⟨w.heap.size, 2, none⟩) (by simp) _
  generalize w2.setCell ⟨w.heap.size, 2, none⟩ (.slice (some ⟨g', 0, none⟩) n c') = W3 at *
  have HJ := Lib.hid (jumps_any a b n c' (some ⟨g', 0, none⟩) s W3 ha1 ha hb hn.out o3.in)
  clear d2 d2' fz HC
  have d0 : W3.cell? ⟨w.heap.size, 0, none⟩ = some (.int .i64 (a : Int)) := wcell (cs := [_, _, _]) g3 0
  have d1 : W3.cell? ⟨w.heap.size, 1, none⟩ = some (.int .i64 (b : Int)) := wcell (cs := [_, _, _]) g3 1
  have d2 : W3.cell? ⟨w.heap.size, 2, none⟩ = some (.slice (some ⟨g', 0, none⟩) n c') := wcell (cs := [_, _, _]) g3 2
  replace g3 := Lib.hid g3; replace r3 := Lib.hid r3; replace o3 := Lib.hid o3; replace l3 := Lib.hid l3; replace e2 := Lib.hid e2
  go_upto_region 5 with (go_at_call 23; refine HJ.out.mono ?_; rintro e w4 ⟨qa, m, cm, J', rfl, hm4, hJin, hperm, hB4⟩; replace hJin := Lib.hid hJin; replace hperm := Lib.hid hperm; replace hB4 := Lib.hid hB4)
  clear d0 d1 d2 HJ
  have hD4 : Hid (DoS w w4 a b n w.heap.size (w.heap.size + 1) w1.heap.size (some ⟨g', 0, none⟩) c' qa m (W3.heap.size + 1) J' (doAll s (row.take 0))) :=
    ⟨(Below.block hB4.out _ (lt_of_heap g3.out)).trans g3.out, (Below.block hB4.out _ (lt_of_heap r3.out)).trans r3.out, o3.out.below hB4.out (Nat.le_refl _), hJin.out, l3.out.trans (Below.mono hB4.out (by omega))⟩
  have hJ' : Hid (∀ j, j ∈ J' ↔ inJ a b s j) := fun j => by rw [hperm.out.mem_iff, hn.out]; exact mem_allJ ha1
  have hpJ : Hid (∀ x : Addr, some (⟨g', 0, none⟩ : Addr) = some x → x.block < W3.heap.size + 1) := fun x hx => by cases hx; simp only; omega
  clear hJin hperm hB4 g3 r3 o3 l3 e2 hO2 hB2 hb2 hB1 hb1' f0 f1
  go_wp2_with fail
  go_loopg [23] nl (fun gk iv W' => ∃ i : Nat, i ≤ nl ∧ gk = nl - i ∧ iv = .int .i64 i ∧ DoS w W' a b n w.heap.size (w.heap.size + 1) w1.heap.size (some ⟨g', 0, none⟩) c' qa m (W3.heap.size + 1) J' (doAll s (row.take i)))
  case atStart => exact ⟨0, Nat.zero_le _, rfl, rfl, hD4.out⟩
  case round =>
    obtain ⟨i, hil, hgk, rfl, hD⟩ := hrel
    obtain ⟨W5, rfl⟩ : ∃ W5 : World, W5 = wr := ⟨_, rfl⟩
    replace hgk := Lib.hid hgk
    clear hD4
    by_cases hlt : i < nl
    · obtain ⟨gm, j, rfl, hgm, hji, k0, k1, k2⟩ := (hMv.out.below hD.low).2 i hlt
      have k0' : W5.cell? ⟨gm, i * 3, none⟩ = some (.int .i64 (j.1 : Int)) := by rw [Nat.mul_comm]; exact k0
      have k1' : W5.cell? ⟨gm, i * 3 + 1, none⟩ = some (.int .i64 (j.2.2 : Int)) := by rw [Nat.mul_comm]; exact k1
      have k2' : W5.cell? ⟨gm, i * 3 + 2, none⟩ = some (.int .i64 0) := by rw [Nat.mul_comm]; exact k2
      have hst := hstep.out i j hji
      have hnx := doAll_take (s := s) hji
      have hjJ : j ∈ J' := (hJ'.out j).2 (hJ j hst.1)
      have hwf : Hid (∀ j ∈ J', wfJ n j) := fun x hx => by
        have := inJ_wf (by rw [hsl, hn.out]) ((hJ'.out x).1 hx)
        rw [hsl] at this; exact this
      have hwj := Lib.hid (hwf.out j hjJ)
      have hsu : Hid ((doAll s (row.take i)).length = n) := by show _ = _; rw [doAll_len]; exact hsl
      have e9 := heap_alloc_new W5 (.cells #[.int .i64 (j.1 : Int), .int .i64 (j.2.2 : Int), .int .i64 0] 32)
      have hD6 := hD.bw ((Bw.refl W5).alloc (.cells #[.int .i64 (j.1 : Int), .int .i64 (j.2.2 : Int), .int .i64 0] 32))
      have hmk : mtch j.1 j.2.2 (doAll s (row.take i)) j = true := by unfold mtch; rw [decide_eq_true ⟨rfl, rfl⟩, Bool.true_and]; exact hst.2
      have HI := Lib.hid (idx24 j.1 j.2.2 a b n c' W5.heap.size w.heap.size m cm (W3.heap.size + 1) (some ⟨g', 0, none⟩) qa (doAll s (row.take i)) J' (W5.alloc (.cells #[.int .i64 (j.1 : Int), .int .i64 (j.2.2 : Int), .int .i64 0] 32)) hn100 hm4 e9 hD6.g hD6.own.in hD6.all hwf.out ⟨j, hjJ, hmk⟩)
      have huniq : Hid (∀ j' : Jm, j' ∈ J' → mtch j.1 j.2.2 (doAll s (row.take i)) j' = true → j' = j) := fun j' hj' hm' => by
        unfold mtch at hm'
        rw [Bool.and_eq_true, decide_eq_true_iff] at hm'
        exact inJ_one ((hJ'.out j').1 hj') (hJ j hst.1) hm'.1.1 hm'.1.2
      have hcan := Lib.hid hst.2
      replace hst := Lib.hid hst; replace hnx := Lib.hid hnx; replace e9 := Lib.hid e9; replace hD6 := Lib.hid hD6; replace hD := Lib.hid hD; replace hmk := Lib.hid hmk; replace hjJ := Lib.hid hjJ; replace hji := Lib.hid hji
      obtain ⟨jf, jo, jt⟩ := j
      simp only at k0 k1 k2 k0' k1' k2' HI huniq hD6
      go_upto_region 11 with (go_at_call 24; (with_reducible refine HI.out.mono ?_); rintro e w7 ⟨⟨k, j', rfl, hkm, hkj, hmt⟩, hb7⟩; have hje := huniq.out j' (List.mem_of_getElem? hkj) hmt; subst hje; have hk0 : ¬ (k : Int) < 0 := (by omega); replace hb7 := Lib.hid hb7; replace hkj := Lib.hid hkj; replace hmt := Lib.hid hmt)
      have hD7 := hD6.out.bw hb7.out
      obtain ⟨ga, j2, rfl, _, hga, hkj2, n0, n1, n2⟩ := hD7.all.2 k hkm
      have hj2 := hkj.out.symm.trans hkj2
      cases hj2
      simp only at n0 n1 n2
      have n0' : w7.cell? ⟨ga, k * 3, none⟩ = some (.int .i64 (jf : Int)) := by rw [Nat.mul_comm]; exact n0
      have n1' : w7.cell? ⟨ga, k * 3 + 1, none⟩ = some (.int .i64 (jo : Int)) := by rw [Nat.mul_comm]; exact n1
      have n2' : w7.cell? ⟨ga, k * 3 + 2, none⟩ = some (.int .i64 (jt : Int)) := by rw [Nat.mul_comm]; exact n2
      have d2 : w7.cell? ⟨w.heap.size, 2, none⟩ = some (.slice (some ⟨g', 0, none⟩) n c') := wcell (cs := [_, _, _]) hD7.g 2
      have hle := can_le hcan.out
      have htd : Hid (trnS (doAll s (row.take i)) (jf, jo, jt) = doAll s (row.take (i + 1))) := by
        show _ = _
        rw [hnx.out]; exact trn_do (by rw [hsu.out]; exact hwj.out) hcan.out
      have HT : Hid (Calls Try.prog 27 #[.agg #[.int .i64 (jf : Int), .int .i64 (jo : Int), .int .i64 (jt : Int)], .slice (some ⟨g', 0, none⟩) n c'] w7.drew fun e X => e = .returned (.tuple #[]) ∧ DoS w X a b n w.heap.size (w.heap.size + 1) w1.heap.size (some ⟨g', 0, none⟩) c' (some ⟨ga, 0, none⟩) m (W3.heap.size + 1) J' (doAll s (row.take (i + 1)))) :=
        (turn_any (jf, jo, jt) n c' w1.heap.size (some ⟨g', 0, none⟩) (doAll s (row.take i)) w7.drew (by omega) hD7.own.drew hwj.out hle.1 hle.2.1 hle.2.2).mono fun e X ⟨h1, h2, h3⟩ =>
          ⟨h1, hD7.turn (by omega) (by omega) (by omega) hpJ.out (by rw [← htd.out]; exact h2) ⟨h3.os, h3.tape, h3.output, h3.size, h3.block⟩⟩
      have q1 : (0 : Int) ≤ (k : Int) := by omega
      have q2 : (k : Int) < (m : Int) := by omega
      replace hle := Lib.hid hle; replace hD7 := Lib.hid hD7; replace hkj2 := Lib.hid hkj2
      clear k0 k1 k2 k0' k1' k2' n0 n1 n2
      go_region_with (go_at_call 27; (with_reducible refine HT.out.mono ?_); rintro e w9 ⟨rfl, hD9⟩; replace hD9 := Lib.hid hD9)
      all_goals
        go_wp2_with fail
        have hgk := hgk.out
        go_roundg (nl - (i + 1))
        case measure => omega
        case rel => exact ⟨i + 1, hlt, rfl, by go_num, hD9.out⟩
    · have hie : i = nl := by omega
      subst hie
      have hii : ¬ (i : Int) < (i : Int) := by omega
      have htk : row.take i = row := List.take_of_length_le (by rw [hMv.out.1]; exact Nat.le_refl _)
      rw [htk, ← ht.out] at hD
      have d0 : W5.cell? ⟨w.heap.size, 0, none⟩ = some (.int .i64 (a : Int)) := wcell (cs := [_, _, _]) hD.g 0
      have d1 : W5.cell? ⟨w.heap.size, 1, none⟩ = some (.int .i64 (b : Int)) := wcell (cs := [_, _, _]) hD.g 1
      have d2 : W5.cell? ⟨w.heap.size, 2, none⟩ = some (.slice (some ⟨g', 0, none⟩) n c') := wcell (cs := [_, _, _]) hD.g 2
      have z0 : W5.cell? ⟨w.heap.size + 1, 0, none⟩ = some (.int .i64 0) := wcell (cs := [_, _, _]) hD.r 0
      have z1 : W5.cell? ⟨w.heap.size + 1, 1, none⟩ = some (.int .i64 0) := wcell (cs := [_, _, _]) hD.r 1
      have z2 : W5.cell? ⟨w.heap.size + 1, 2, none⟩ = some (.slice none 0 0) := wcell (cs := [_, _, _]) hD.r 2
      have y0 : W5.frozen? ⟨w.heap.size + 1, 0, none⟩ = false := wfree hD.r 0
      have y1 : W5.frozen? ⟨w.heap.size + 1, 1, none⟩ = false := wfree hD.r 1
      have y2 : W5.frozen? ⟨w.heap.size + 1, 2, none⟩ = false := wfree hD.r 2
      replace hD := Lib.hid hD
      go_wp2_with fail
      have hX : (((W5.setCell ⟨w.heap.size + 1, 0, none⟩ (.int .i64 (a : Int))).setCell ⟨w.heap.size + 1, 1, none⟩ (.int .i64 (b : Int))).setCell ⟨w.heap.size + 1, 2, none⟩ (.slice (some ⟨g', 0, none⟩) n c')).heap[w.heap.size + 1]? = some (.cells #[.int .i64 (a : Int), .int .i64 (b : Int), .slice (some ⟨g', 0, none⟩) n c'] 24 (0, 0)) := by
        simp [World.setCell, Array.getElem?_modify, hD.out.r]
      have hI : IntsIn (((W5.setCell ⟨w.heap.size + 1, 0, none⟩ (.int .i64 (a : Int))).setCell ⟨w.heap.size + 1, 1, none⟩ (.int .i64 (b : Int))).setCell ⟨w.heap.size + 1, 2, none⟩ (.slice (some ⟨g', 0, none⟩) n c')) (some ⟨g', 0, none⟩) n (asI t) :=
        (Own.keep hD.out.own fun x hx => by
          cases hx
          have hne : g' ≠ w.heap.size + 1 := by omega
          exact (Below.heap_setCell _ ⟨w.heap.size + 1, 2, none⟩ _ _ hne).trans ((Below.heap_setCell _ ⟨w.heap.size + 1, 1, none⟩ _ _ hne).trans (Below.heap_setCell _ ⟨w.heap.size + 1, 0, none⟩ _ _ hne))).in
      have hL : Below w.heap.size w (((W5.setCell ⟨w.heap.size + 1, 0, none⟩ (.int .i64 (a : Int))).setCell ⟨w.heap.size + 1, 1, none⟩ (.int .i64 (b : Int))).setCell ⟨w.heap.size + 1, 2, none⟩ (.slice (some ⟨g', 0, none⟩) n c')) :=
        ((hD.out.low.setCell (p := ⟨w.heap.size + 1, 0, none⟩) (by simp) _).setCell (p := ⟨w.heap.size + 1, 1, none⟩) (by simp) _).setCell (p := ⟨w.heap.size + 1, 2, none⟩) (by simp) _
      generalize ((W5.setCell ⟨w.heap.size + 1, 0, none⟩ (.int .i64 (a : Int))).setCell ⟨w.heap.size + 1, 1, none⟩ (.int .i64 (b : Int))).setCell ⟨w.heap.size + 1, 2, none⟩ (.slice (some ⟨g', 0, none⟩) n c') = X at *
      have x0 : X.cell? ⟨w.heap.size + 1, 0, none⟩ = some (.int .i64 (a : Int)) := wcell (cs := [_, _, _]) hX 0
      have x1 : X.cell? ⟨w.heap.size + 1, 1, none⟩ = some (.int .i64 (b : Int)) := wcell (cs := [_, _, _]) hX 1
      have x2 : X.cell? ⟨w.heap.size + 1, 2, none⟩ = some (.slice (some ⟨g', 0, none⟩) n c') := wcell (cs := [_, _, _]) hX 2
      refine bodyPost_ret (v := .tuple #[.agg #[.int .i64 (a : Int), .int .i64 (b : Int), .slice (some ⟨g', 0, none⟩) n c'], .int .i64 (i : Int), .int .i64 0]) (by simp [results, Try.results8, go_sem, x0, x1, x2]) rfl ⟨_, _, rfl, hI, hL, fun x hx => by cases hx; simp only; omega⟩
end Go.Proofs.Ytapoimadiiheaaa
