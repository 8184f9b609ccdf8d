/- What the closure of pegs.Do and slices.IndexFunc at it compute; conditions: a board of at most 100 places. -/
import Derived.Test.YtapoimadiiheaaaMov
import Derived.Test.YtapoimadiiheaaaNewS
import Derived.Deep.AppendLies
import Derived.Deep.RegionHeld3
namespace Go.Proofs.Ytapoimadiiheaaa
open Go.RowKit

set_option maxHeartbeats 4000000 in
theorem clo25_yes (jf jo jt a b n c b9 gb : Nat) (q : Option Addr) (s : List Nat) (W : World) (hn : n ≤ 100) (h9 : W.heap[b9]? = some (.cells #[.int .i64 (jf : Int), .int .i64 (jt : Int), .int .i64 0] 32 (0, 0))) (hg : W.heap[gb]? = some (.cells #[.int .i64 (a : Int), .int .i64 (b : Int), .slice q n c] 24 (0, 0)))
    (hx : IntsIn W q n (asI s)) (hw : wfJ n (jf, jo, jt)) :
    Calls Try.prog 25 #[.agg #[.int .i64 (jf : Int), .int .i64 (jo : Int), .int .i64 (jt : Int)], .pointer (some ⟨b9, 0, none⟩), .pointer (some ⟨gb, 0, none⟩)] W fun e W' => e = .returned (.bool (canJ s (jf, jo, jt))) ∧ Bw W W' := by
  have e0 := heap_alloc_new W (.cells #[.int .i64 (jf : Int), .int .i64 (jo : Int), .int .i64 (jt : Int)] 54)
  have hb0 : Bw W (W.alloc (.cells #[.int .i64 (jf : Int), .int .i64 (jo : Int), .int .i64 (jt : Int)] 54)) := (Bw.refl W).alloc _
  have g0 := (Below.block hb0 _ (lt_of_heap h9)).trans h9
  have g1 := (Below.block hb0 _ (lt_of_heap hg)).trans hg
  have hx0 := hx.below hb0
  replace hb0 := Lib.hid hb0; replace hx := Lib.hid hx; replace h9 := Lib.hid h9; replace hg := Lib.hid hg
  go_enter Try.func25, Try.ntmps25
  go_upto_region 1 with fail
  generalize W.alloc (.cells #[.int .i64 (jf : Int), .int .i64 (jo : Int), .int .i64 (jt : Int)] 54) = W0 at *
  have a0 : W0.cell? ⟨W.heap.size, 0, none⟩ = some (.int .i64 (jf : Int)) := wcell (cs := [_, _, _]) e0 0
  have a1 : W0.cell? ⟨W.heap.size, 1, none⟩ = some (.int .i64 (jo : Int)) := wcell (cs := [_, _, _]) e0 1
  have a2 : W0.cell? ⟨W.heap.size, 2, none⟩ = some (.int .i64 (jt : Int)) := wcell (cs := [_, _, _]) e0 2
  have m0 : W0.cell? ⟨b9, 0, none⟩ = some (.int .i64 (jf : Int)) := wcell (cs := [_, _, _]) g0 0
  have m1 : W0.cell? ⟨b9, 1, none⟩ = some (.int .i64 (jt : Int)) := wcell (cs := [_, _, _]) g0 1
  have m2 : W0.cell? ⟨b9, 2, none⟩ = some (.int .i64 0) := wcell (cs := [_, _, _]) g0 2
  have d2 : W0.cell? ⟨gb, 2, none⟩ = some (.slice q n c) := wcell (cs := [_, _, _]) g1 2
  have HM : Hid (∀ X : World, Bw W0 X → Calls Try.prog 21 #[.agg #[.int .i64 (jf : Int), .int .i64 (jo : Int), .int .i64 (jt : Int)]] X fun e X' => e = .returned (.agg #[.int .i64 (jf : Int), .int .i64 (jt : Int), .int .i64 0]) ∧ Bw W0 X') := fun X hX => (move_any jf jo jt X).mono fun e X' h => ⟨h.1, hX.trans h.2⟩
  have HC : Hid (∀ X : World, Bw W0 X → Calls Try.prog 26 #[.agg #[.int .i64 (jf : Int), .int .i64 (jo : Int), .int .i64 (jt : Int)], .slice q n c] X fun e X' => e = .returned (.bool (canJ s (jf, jo, jt))) ∧ Bw W0 X') := fun X hX => (can_any (jf, jo, jt) n c q s X (by omega) (hx0.below hX) hw).mono fun e X' h => ⟨h.1, hX.trans h.2⟩
  have K : Hid (∀ X : World, Bw W0 X → X.heap[W.heap.size]? = some (.cells #[.int .i64 (jf : Int), .int .i64 (jo : Int), .int .i64 (jt : Int)] 54 (0, 0)) ∧ X.heap[b9]? = some (.cells #[.int .i64 (jf : Int), .int .i64 (jt : Int), .int .i64 0] 32 (0, 0)) ∧ X.heap[gb]? = some (.cells #[.int .i64 (a : Int), .int .i64 (b : Int), .slice q n c] 24 (0, 0))) := fun X hX =>
    ⟨(Below.block hX _ (lt_of_heap e0)).trans e0, (Below.block hX _ (lt_of_heap g0)).trans g0, (Below.block hX _ (lt_of_heap g1)).trans g1⟩
  replace e0 := Lib.hid e0; replace g0 := Lib.hid g0; replace g1 := Lib.hid g1; replace hx0 := Lib.hid hx0; replace hw := Lib.hid hw
  obtain ⟨bc, hbc⟩ : ∃ bc, bc = canJ s (jf, jo, jt) := ⟨_, rfl⟩
  rw [← hbc] at HC
  replace hbc := Lib.hid hbc
  have hr0 : Bw W0 W0.drew := (Bw.refl W0).drew
  go_cut [4] (fun v X => v = .bool bc ∧ Bw W0 X)
  case first =>
    go_region_held3 (fun X => X.cell? ⟨W.heap.size, 0, none⟩ = some (.int .i64 (jf : Int)) ∧ X.cell? ⟨W.heap.size, 1, none⟩ = some (.int .i64 (jo : Int)) ∧ X.cell? ⟨W.heap.size, 2, none⟩ = some (.int .i64 (jt : Int)) ∧ X.cell? ⟨b9, 0, none⟩ = some (.int .i64 (jf : Int)) ∧ X.cell? ⟨b9, 1, none⟩ = some (.int .i64 (jt : Int)) ∧ X.cell? ⟨b9, 2, none⟩ = some (.int .i64 0) ∧ X.cell? ⟨gb, 2, none⟩ = some (.slice q n c)) (first | with_reducible exact ⟨a0, a1, a2, m0, m1, m2, d2⟩ | with_reducible exact ⟨a0', a1', a2', m0', m1', m2', d2'⟩ | go_keep)
      (first
      | (go_at_call 21; (with_reducible refine (HM.out _ ?_).mono ?_); (with_reducible (first | exact hr0 | exact Bw.refl _ | exact hb6 | exact Bw.drew hb6)); rintro e w6 ⟨rfl, hb6⟩; have a0' : w6.cell? ⟨W.heap.size, 0, none⟩ = some (.int .i64 (jf : Int)) := wcell (cs := [_, _, _]) (K.out _ hb6).1 0; have a1' : w6.cell? ⟨W.heap.size, 1, none⟩ = some (.int .i64 (jo : Int)) := wcell (cs := [_, _, _]) (K.out _ hb6).1 1; have a2' : w6.cell? ⟨W.heap.size, 2, none⟩ = some (.int .i64 (jt : Int)) := wcell (cs := [_, _, _]) (K.out _ hb6).1 2; have m0' : w6.cell? ⟨b9, 0, none⟩ = some (.int .i64 (jf : Int)) := wcell (cs := [_, _, _]) (K.out _ hb6).2.1 0; have m1' : w6.cell? ⟨b9, 1, none⟩ = some (.int .i64 (jt : Int)) := wcell (cs := [_, _, _]) (K.out _ hb6).2.1 1; have m2' : w6.cell? ⟨b9, 2, none⟩ = some (.int .i64 0) := wcell (cs := [_, _, _]) (K.out _ hb6).2.1 2; have d2' : w6.cell? ⟨gb, 2, none⟩ = some (.slice q n c) := wcell (cs := [_, _, _]) (K.out _ hb6).2.2 2)
      | (go_at_call 26; (with_reducible refine (HC.out _ ?_).mono ?_); (with_reducible (first | exact hr0 | exact Bw.refl _ | exact hb6 | exact Bw.drew hb6)); rintro e w7 ⟨rfl, hb7⟩; have a0' : w7.cell? ⟨W.heap.size, 0, none⟩ = some (.int .i64 (jf : Int)) := wcell (cs := [_, _, _]) (K.out _ hb7).1 0; have a1' : w7.cell? ⟨W.heap.size, 1, none⟩ = some (.int .i64 (jo : Int)) := wcell (cs := [_, _, _]) (K.out _ hb7).1 1; have a2' : w7.cell? ⟨W.heap.size, 2, none⟩ = some (.int .i64 (jt : Int)) := wcell (cs := [_, _, _]) (K.out _ hb7).1 2; have m0' : w7.cell? ⟨b9, 0, none⟩ = some (.int .i64 (jf : Int)) := wcell (cs := [_, _, _]) (K.out _ hb7).2.1 0; have m1' : w7.cell? ⟨b9, 1, none⟩ = some (.int .i64 (jt : Int)) := wcell (cs := [_, _, _]) (K.out _ hb7).2.1 1; have m2' : w7.cell? ⟨b9, 2, none⟩ = some (.int .i64 0) := wcell (cs := [_, _, _]) (K.out _ hb7).2.1 2; have d2' : w7.cell? ⟨gb, 2, none⟩ = some (.slice q n c) := wcell (cs := [_, _, _]) (K.out _ hb7).2.2 2))
    all_goals
      go_wp2_with fail
      go_meet
      exact ⟨rfl, hb7⟩
  case rest =>
    obtain ⟨rfl, hb9⟩ := hcut
    replace hb9 := Lib.hid hb9
    go_wp2_with fail
    go_ret
    exact ⟨ret_bool hbc.out, hb0.out.trans hb9.out⟩
set_option maxHeartbeats 4000000 in
theorem clo25_noA (jf jo jt mt a b n c b9 gb : Nat) (q : Option Addr) (W : World) (h9 : W.heap[b9]? = some (.cells #[.int .i64 (jf : Int), .int .i64 (mt : Int), .int .i64 0] 32 (0, 0))) (hg : W.heap[gb]? = some (.cells #[.int .i64 (a : Int), .int .i64 (b : Int), .slice q n c] 24 (0, 0)))
    (hne : ¬ jt = mt) :
    Calls Try.prog 25 #[.agg #[.int .i64 (jf : Int), .int .i64 (jo : Int), .int .i64 (jt : Int)], .pointer (some ⟨b9, 0, none⟩), .pointer (some ⟨gb, 0, none⟩)] W fun e W' => e = .returned (.bool false) ∧ Bw W W' := by
  have e0 := heap_alloc_new W (.cells #[.int .i64 (jf : Int), .int .i64 (jo : Int), .int .i64 (jt : Int)] 54)
  have hb0 : Bw W (W.alloc (.cells #[.int .i64 (jf : Int), .int .i64 (jo : Int), .int .i64 (jt : Int)] 54)) := (Bw.refl W).alloc _
  have g0 := (Below.block hb0 _ (lt_of_heap h9)).trans h9
  have g1 := (Below.block hb0 _ (lt_of_heap hg)).trans hg
  replace hb0 := Lib.hid hb0; replace h9 := Lib.hid h9; replace hg := Lib.hid hg
  have htb : ((jt : Int) == (mt : Int)) = false := by simp; omega
  replace hne := Lib.hid hne
  go_enter Try.func25, Try.ntmps25
  go_upto_region 1 with fail
  generalize W.alloc (.cells #[.int .i64 (jf : Int), .int .i64 (jo : Int), .int .i64 (jt : Int)] 54) = W0 at *
  have a0 : W0.cell? ⟨W.heap.size, 0, none⟩ = some (.int .i64 (jf : Int)) := wcell (cs := [_, _, _]) e0 0
  have a1 : W0.cell? ⟨W.heap.size, 1, none⟩ = some (.int .i64 (jo : Int)) := wcell (cs := [_, _, _]) e0 1
  have a2 : W0.cell? ⟨W.heap.size, 2, none⟩ = some (.int .i64 (jt : Int)) := wcell (cs := [_, _, _]) e0 2
  have m0 : W0.cell? ⟨b9, 0, none⟩ = some (.int .i64 (jf : Int)) := wcell (cs := [_, _, _]) g0 0
  have m1 : W0.cell? ⟨b9, 1, none⟩ = some (.int .i64 (mt : Int)) := wcell (cs := [_, _, _]) g0 1
  have m2 : W0.cell? ⟨b9, 2, none⟩ = some (.int .i64 0) := wcell (cs := [_, _, _]) g0 2
  have d2 : W0.cell? ⟨gb, 2, none⟩ = some (.slice q n c) := wcell (cs := [_, _, _]) g1 2
  have HM : Hid (∀ X : World, Bw W0 X → Calls Try.prog 21 #[.agg #[.int .i64 (jf : Int), .int .i64 (jo : Int), .int .i64 (jt : Int)]] X fun e X' => e = .returned (.agg #[.int .i64 (jf : Int), .int .i64 (jt : Int), .int .i64 0]) ∧ Bw W0 X') := fun X hX => (move_any jf jo jt X).mono fun e X' h => ⟨h.1, hX.trans h.2⟩
  have K : Hid (∀ X : World, Bw W0 X → X.heap[W.heap.size]? = some (.cells #[.int .i64 (jf : Int), .int .i64 (jo : Int), .int .i64 (jt : Int)] 54 (0, 0)) ∧ X.heap[b9]? = some (.cells #[.int .i64 (jf : Int), .int .i64 (mt : Int), .int .i64 0] 32 (0, 0)) ∧ X.heap[gb]? = some (.cells #[.int .i64 (a : Int), .int .i64 (b : Int), .slice q n c] 24 (0, 0))) := fun X hX =>
    ⟨(Below.block hX _ (lt_of_heap e0)).trans e0, (Below.block hX _ (lt_of_heap g0)).trans g0, (Below.block hX _ (lt_of_heap g1)).trans g1⟩
  replace e0 := Lib.hid e0; replace g0 := Lib.hid g0; replace g1 := Lib.hid g1; skip
  have hr0 : Bw W0 W0.drew := (Bw.refl W0).drew
  go_cut [4] (fun v X => v = .bool false ∧ Bw W0 X)
  case first =>
    refine wp_region_held_drew (S := (fun X => X.cell? ⟨W.heap.size, 0, none⟩ = some (.int .i64 (jf : Int)) ∧ X.cell? ⟨W.heap.size, 1, none⟩ = some (.int .i64 (jo : Int)) ∧ X.cell? ⟨W.heap.size, 2, none⟩ = some (.int .i64 (jt : Int)) ∧ X.cell? ⟨b9, 0, none⟩ = some (.int .i64 (jf : Int)) ∧ X.cell? ⟨b9, 1, none⟩ = some (.int .i64 (mt : Int)) ∧ X.cell? ⟨b9, 2, none⟩ = some (.int .i64 0) ∧ X.cell? ⟨gb, 2, none⟩ = some (.slice q n c))) (by kernel_rfl) ?_ (fun hHeld => ?_)
    · exact ⟨a0, a1, a2, m0, m1, m2, d2⟩
    refine wpAnyH_take (i := 0) (v := ?v0) rfl (by kernel_rfl) (by kernel_rfl) (by kernel_rfl) (fun _ _ _ h => h) (Or.inl ⟨by rfl, ?h0⟩) (by assumption) ?_
    case h0 => first | (intro w hSw; (try dsimp only at hSw); go_simp; done) | (intro w hSw; (try dsimp only at hSw); go_simp; with_reducible rfl)
    refine wpAnyH_take (i := 2) (v := ?v1) rfl (by kernel_rfl) (by kernel_rfl) (by kernel_rfl) (fun _ _ _ h => h) (Or.inl ⟨by rfl, ?h1⟩) (by assumption) ?_
    case h1 => first | (intro w hSw; (try dsimp only at hSw); go_simp; done) | (intro w hSw; (try dsimp only at hSw); go_simp; with_reducible rfl)
    refine wpAnyH_ready (rs := [1]) (by kernel_rfl) (by simp) ?_
    refine AllReadyH.cons rfl (fun K1 hK => ?_) AllReadyH.nil
    go_simp
    go_at_call 21
    (with_reducible refine (HM.out _ ?_).mono ?_)
    (with_reducible (first | exact hr0 | exact Bw.refl _ | exact hb6 | exact Bw.drew hb6))
    rintro e w6 ⟨rfl, hb6⟩
    have a0' : w6.cell? ⟨W.heap.size, 0, none⟩ = some (.int .i64 (jf : Int)) := wcell (cs := [_, _, _]) (K.out _ hb6).1 0
    have a1' : w6.cell? ⟨W.heap.size, 1, none⟩ = some (.int .i64 (jo : Int)) := wcell (cs := [_, _, _]) (K.out _ hb6).1 1
    have a2' : w6.cell? ⟨W.heap.size, 2, none⟩ = some (.int .i64 (jt : Int)) := wcell (cs := [_, _, _]) (K.out _ hb6).1 2
    have m0' : w6.cell? ⟨b9, 0, none⟩ = some (.int .i64 (jf : Int)) := wcell (cs := [_, _, _]) (K.out _ hb6).2.1 0
    have m1' : w6.cell? ⟨b9, 1, none⟩ = some (.int .i64 (mt : Int)) := wcell (cs := [_, _, _]) (K.out _ hb6).2.1 1
    have m2' : w6.cell? ⟨b9, 2, none⟩ = some (.int .i64 0) := wcell (cs := [_, _, _]) (K.out _ hb6).2.1 2
    have d2' : w6.cell? ⟨gb, 2, none⟩ = some (.slice q n c) := wcell (cs := [_, _, _]) (K.out _ hb6).2.2 2
    refine hK.out _ _ ?_ (fun hHeld => ?_)
    · exact ⟨a0', a1', a2', m0', m1', m2', d2'⟩
    clear hK K1
    refine wpAnyH_take (i := 3) (v := ?v2) rfl (by kernel_rfl) (by kernel_rfl) (by kernel_rfl) (fun _ _ _ h => h) (Or.inl ⟨by rfl, ?h2⟩) (by assumption) ?_
    case h2 => first | (intro w hSw; (try dsimp only at hSw); go_simp; done) | (intro w hSw; (try dsimp only at hSw); go_simp; with_reducible rfl)
    refine wpAnyH_take (i := 4) (v := ?v3) rfl (by kernel_rfl) (by kernel_rfl) (by kernel_rfl) (fun _ _ _ h => h) (Or.inl ⟨by rfl, ?h3⟩) (by assumption) ?_
    case h3 => first | (intro w hSw; (try dsimp only at hSw); go_simp; done) | (intro w hSw; (try dsimp only at hSw); go_simp; with_reducible rfl)
    refine wpAnyH_take (i := 5) (v := undef) rfl (by kernel_rfl) (by kernel_rfl) (by kernel_rfl) (fun _ _ _ h => h) (Or.inr ⟨by rfl, rfl⟩) (by assumption) ?_
    refine wpAnyH_take (i := 6) (v := undef) rfl (by kernel_rfl) (by kernel_rfl) (by kernel_rfl) (fun _ _ _ h => h) (Or.inr ⟨by rfl, rfl⟩) (by assumption) ?_
    refine wpAnyH_take (i := 7) (v := undef) rfl (by kernel_rfl) (by kernel_rfl) (by kernel_rfl) (fun _ _ _ h => h) (Or.inr ⟨by rfl, rfl⟩) (by assumption) ?_
    refine wpAnyH_ready (rs := [8]) (by kernel_rfl) (by simp) ?_
    refine AllReadyH.cons rfl (fun K1 hK => ?_) AllReadyH.nil
    refine (if_neg (fun h => Bool.false_ne_true h)).mpr ?_
    refine hK.out _ _ ?_ (fun hHeld => ?_)
    · exact ⟨a0', a1', a2', m0', m1', m2', d2'⟩
    clear hK K1
    refine wpAnyH_take (i := 9) (v := ?v7) rfl (by kernel_rfl) (by kernel_rfl) (by kernel_rfl) (fun _ _ _ h => h) (Or.inl ⟨by rfl, ?h7⟩) (by assumption) ?_
    case h7 => first | (intro w hSw; (try dsimp only at hSw); go_simp; done) | (intro w hSw; (try dsimp only at hSw); go_simp; with_reducible rfl)
    refine wpAnyH_take (i := 10) (v := ?v8) rfl (by kernel_rfl) (by kernel_rfl) (by kernel_rfl) (fun _ _ _ h => h) (Or.inl ⟨by rfl, ?h8⟩) (by assumption) ?_
    case h8 => first | (intro w hSw; (try dsimp only at hSw); go_simp; done) | (intro w hSw; (try dsimp only at hSw); go_simp; with_reducible rfl)
    refine wpAnyH_done (by kernel_rfl) ?_ _
    go_wp2_with fail
    go_meet
    exact ⟨rfl, hb6⟩
  case rest =>
    obtain ⟨rfl, hb9⟩ := hcut
    replace hb9 := Lib.hid hb9
    go_wp2_with fail
    go_ret
    exact ⟨rfl, hb0.out.trans hb9.out⟩
set_option maxHeartbeats 4000000 in
theorem clo25_noB (jf jo jt mf mt a b n c b9 gb : Nat) (q : Option Addr) (W : World) (h9 : W.heap[b9]? = some (.cells #[.int .i64 (mf : Int), .int .i64 (mt : Int), .int .i64 0] 32 (0, 0))) (hg : W.heap[gb]? = some (.cells #[.int .i64 (a : Int), .int .i64 (b : Int), .slice q n c] 24 (0, 0)))
    (hne : ¬ jf = mf) :
    Calls Try.prog 25 #[.agg #[.int .i64 (jf : Int), .int .i64 (jo : Int), .int .i64 (jt : Int)], .pointer (some ⟨b9, 0, none⟩), .pointer (some ⟨gb, 0, none⟩)] W fun e W' => e = .returned (.bool false) ∧ Bw W W' := by
  have e0 := heap_alloc_new W (.cells #[.int .i64 (jf : Int), .int .i64 (jo : Int), .int .i64 (jt : Int)] 54)
  have hb0 : Bw W (W.alloc (.cells #[.int .i64 (jf : Int), .int .i64 (jo : Int), .int .i64 (jt : Int)] 54)) := (Bw.refl W).alloc _
  have g0 := (Below.block hb0 _ (lt_of_heap h9)).trans h9
  have g1 := (Below.block hb0 _ (lt_of_heap hg)).trans hg
  replace hb0 := Lib.hid hb0; replace h9 := Lib.hid h9; replace hg := Lib.hid hg
  have hfb : ((jf : Int) == (mf : Int)) = false := by simp; omega
  replace hne := Lib.hid hne
  go_enter Try.func25, Try.ntmps25
  go_upto_region 1 with fail
  generalize W.alloc (.cells #[.int .i64 (jf : Int), .int .i64 (jo : Int), .int .i64 (jt : Int)] 54) = W0 at *
  have a0 : W0.cell? ⟨W.heap.size, 0, none⟩ = some (.int .i64 (jf : Int)) := wcell (cs := [_, _, _]) e0 0
  have a1 : W0.cell? ⟨W.heap.size, 1, none⟩ = some (.int .i64 (jo : Int)) := wcell (cs := [_, _, _]) e0 1
  have a2 : W0.cell? ⟨W.heap.size, 2, none⟩ = some (.int .i64 (jt : Int)) := wcell (cs := [_, _, _]) e0 2
  have m0 : W0.cell? ⟨b9, 0, none⟩ = some (.int .i64 (mf : Int)) := wcell (cs := [_, _, _]) g0 0
  have m1 : W0.cell? ⟨b9, 1, none⟩ = some (.int .i64 (mt : Int)) := wcell (cs := [_, _, _]) g0 1
  have m2 : W0.cell? ⟨b9, 2, none⟩ = some (.int .i64 0) := wcell (cs := [_, _, _]) g0 2
  have d2 : W0.cell? ⟨gb, 2, none⟩ = some (.slice q n c) := wcell (cs := [_, _, _]) g1 2
  have HM : Hid (∀ X : World, Bw W0 X → Calls Try.prog 21 #[.agg #[.int .i64 (jf : Int), .int .i64 (jo : Int), .int .i64 (jt : Int)]] X fun e X' => e = .returned (.agg #[.int .i64 (jf : Int), .int .i64 (jt : Int), .int .i64 0]) ∧ Bw W0 X') := fun X hX => (move_any jf jo jt X).mono fun e X' h => ⟨h.1, hX.trans h.2⟩
  have K : Hid (∀ X : World, Bw W0 X → X.heap[W.heap.size]? = some (.cells #[.int .i64 (jf : Int), .int .i64 (jo : Int), .int .i64 (jt : Int)] 54 (0, 0)) ∧ X.heap[b9]? = some (.cells #[.int .i64 (mf : Int), .int .i64 (mt : Int), .int .i64 0] 32 (0, 0)) ∧ X.heap[gb]? = some (.cells #[.int .i64 (a : Int), .int .i64 (b : Int), .slice q n c] 24 (0, 0))) := fun X hX =>
    ⟨(Below.block hX _ (lt_of_heap e0)).trans e0, (Below.block hX _ (lt_of_heap g0)).trans g0, (Below.block hX _ (lt_of_heap g1)).trans g1⟩
  replace e0 := Lib.hid e0; replace g0 := Lib.hid g0; replace g1 := Lib.hid g1; skip
  have hr0 : Bw W0 W0.drew := (Bw.refl W0).drew
  go_cut [4] (fun v X => v = .bool false ∧ Bw W0 X)
  case first =>
    refine wp_region_held_drew (S := (fun X => X.cell? ⟨W.heap.size, 0, none⟩ = some (.int .i64 (jf : Int)) ∧ X.cell? ⟨W.heap.size, 1, none⟩ = some (.int .i64 (jo : Int)) ∧ X.cell? ⟨W.heap.size, 2, none⟩ = some (.int .i64 (jt : Int)) ∧ X.cell? ⟨b9, 0, none⟩ = some (.int .i64 (mf : Int)) ∧ X.cell? ⟨b9, 1, none⟩ = some (.int .i64 (mt : Int)) ∧ X.cell? ⟨b9, 2, none⟩ = some (.int .i64 0) ∧ X.cell? ⟨gb, 2, none⟩ = some (.slice q n c))) (by kernel_rfl) ?_ (fun hHeld => ?_)
    · exact ⟨a0, a1, a2, m0, m1, m2, d2⟩
    refine wpAnyH_take (i := 0) (v := ?v9) rfl (by kernel_rfl) (by kernel_rfl) (by kernel_rfl) (fun _ _ _ h => h) (Or.inl ⟨by rfl, ?h9⟩) (by assumption) ?_
    case h9 => first | (intro w hSw; (try dsimp only at hSw); go_simp; done) | (intro w hSw; (try dsimp only at hSw); go_simp; with_reducible rfl)
    refine wpAnyH_take (i := 2) (v := ?v10) rfl (by kernel_rfl) (by kernel_rfl) (by kernel_rfl) (fun _ _ _ h => h) (Or.inl ⟨by rfl, ?h10⟩) (by assumption) ?_
    case h10 => first | (intro w hSw; (try dsimp only at hSw); go_simp; done) | (intro w hSw; (try dsimp only at hSw); go_simp; with_reducible rfl)
    refine wpAnyH_ready (rs := [1]) (by kernel_rfl) (by simp) ?_
    refine AllReadyH.cons rfl (fun K1 hK => ?_) AllReadyH.nil
    go_simp
    go_at_call 21
    (with_reducible refine (HM.out _ ?_).mono ?_)
    (with_reducible (first | exact hr0 | exact Bw.refl _ | exact hb6 | exact Bw.drew hb6))
    rintro e w6 ⟨rfl, hb6⟩
    have a0' : w6.cell? ⟨W.heap.size, 0, none⟩ = some (.int .i64 (jf : Int)) := wcell (cs := [_, _, _]) (K.out _ hb6).1 0
    have a1' : w6.cell? ⟨W.heap.size, 1, none⟩ = some (.int .i64 (jo : Int)) := wcell (cs := [_, _, _]) (K.out _ hb6).1 1
    have a2' : w6.cell? ⟨W.heap.size, 2, none⟩ = some (.int .i64 (jt : Int)) := wcell (cs := [_, _, _]) (K.out _ hb6).1 2
    have m0' : w6.cell? ⟨b9, 0, none⟩ = some (.int .i64 (mf : Int)) := wcell (cs := [_, _, _]) (K.out _ hb6).2.1 0
    have m1' : w6.cell? ⟨b9, 1, none⟩ = some (.int .i64 (mt : Int)) := wcell (cs := [_, _, _]) (K.out _ hb6).2.1 1
    have m2' : w6.cell? ⟨b9, 2, none⟩ = some (.int .i64 0) := wcell (cs := [_, _, _]) (K.out _ hb6).2.1 2
    have d2' : w6.cell? ⟨gb, 2, none⟩ = some (.slice q n c) := wcell (cs := [_, _, _]) (K.out _ hb6).2.2 2
    refine hK.out _ _ ?_ (fun hHeld => ?_)
    · exact ⟨a0', a1', a2', m0', m1', m2', d2'⟩
    clear hK K1
    refine wpAnyH_take (i := 3) (v := ?v11) rfl (by kernel_rfl) (by kernel_rfl) (by kernel_rfl) (fun _ _ _ h => h) (Or.inl ⟨by rfl, ?h11⟩) (by assumption) ?_
    case h11 => first | (intro w hSw; (try dsimp only at hSw); go_simp; done) | (intro w hSw; (try dsimp only at hSw); go_simp; with_reducible rfl)
    refine wpAnyH_take (i := 4) (v := ?v12) rfl (by kernel_rfl) (by kernel_rfl) (by kernel_rfl) (fun _ _ _ h => h) (Or.inl ⟨by rfl, ?h12⟩) (by assumption) ?_
    case h12 => first | (intro w hSw; (try dsimp only at hSw); go_simp; done) | (intro w hSw; (try dsimp only at hSw); go_simp; with_reducible rfl)
    refine wpAnyH_take (i := 5) (v := undef) rfl (by kernel_rfl) (by kernel_rfl) (by kernel_rfl) (fun _ _ _ h => h) (Or.inr ⟨by rfl, rfl⟩) (by assumption) ?_
    refine wpAnyH_take (i := 6) (v := undef) rfl (by kernel_rfl) (by kernel_rfl) (by kernel_rfl) (fun _ _ _ h => h) (Or.inr ⟨by rfl, rfl⟩) (by assumption) ?_
    refine wpAnyH_take (i := 7) (v := undef) rfl (by kernel_rfl) (by kernel_rfl) (by kernel_rfl) (fun _ _ _ h => h) (Or.inr ⟨by rfl, rfl⟩) (by assumption) ?_
    refine wpAnyH_ready (rs := [8]) (by kernel_rfl) (by simp) ?_
    refine AllReadyH.cons rfl (fun K1 hK => ?_) AllReadyH.nil
    refine (if_neg (fun h => Bool.false_ne_true h)).mpr ?_
    refine hK.out _ _ ?_ (fun hHeld => ?_)
    · exact ⟨a0', a1', a2', m0', m1', m2', d2'⟩
    clear hK K1
    refine wpAnyH_take (i := 9) (v := ?v16) rfl (by kernel_rfl) (by kernel_rfl) (by kernel_rfl) (fun _ _ _ h => h) (Or.inl ⟨by rfl, ?h16⟩) (by assumption) ?_
    case h16 => first | (intro w hSw; (try dsimp only at hSw); go_simp; done) | (intro w hSw; (try dsimp only at hSw); go_simp; with_reducible rfl)
    refine wpAnyH_take (i := 10) (v := ?v17) rfl (by kernel_rfl) (by kernel_rfl) (by kernel_rfl) (fun _ _ _ h => h) (Or.inl ⟨by rfl, ?h17⟩) (by assumption) ?_
    case h17 => first | (intro w hSw; (try dsimp only at hSw); go_simp; done) | (intro w hSw; (try dsimp only at hSw); go_simp; with_reducible rfl)
    refine wpAnyH_done (by kernel_rfl) ?_ _
    go_wp2_with fail
    go_meet
    exact ⟨rfl, hb6⟩
  case rest =>
    obtain ⟨rfl, hb9⟩ := hcut
    replace hb9 := Lib.hid hb9
    go_wp2_with fail
    go_ret
    exact ⟨rfl, hb0.out.trans hb9.out⟩
end Go.Proofs.Ytapoimadiiheaaa
