/- What newPicture makes, whole; conditions: one to six rows and columns, clues of at most twenty numbers, each one to twenty. -/
import Derived.Test.YtkklcfaghnfleaaNNp
namespace Go.Proofs.Ytkklcfaghnfleaa
open Go.RowKit

theorem rep_own {w' : World} {B g m : Nat} {v : Int} (hg : B ≤ g) (hm : m ≤ 20) (h : w'.heap[g]? = some (.cells (repL v m m).toArray 3)) : Own 3 B w' (some ⟨g, 0, none⟩) m m (List.replicate m v) := by
  have e : repL v m m = (List.replicate m v).map (Value.int .i64) := by
    unfold repL; simp
  rw [e] at h
  refine ⟨by simp, .inr ⟨g, m, _, rfl, hg, h, Nat.le_refl _, by unfold maxLen; omega, ?_, ?_⟩⟩
  · simp
  · simp
theorem rowL_open (m y : Nat) : rowL m open0 y = List.replicate m (-1) := by
  unfold rowL open0
  apply List.ext_getElem
  · simp
  · intro i h1 h2; simp
theorem open_vld (n m : Nat) : Vld n m open0 := fun _ _ _ _ => .inl rfl
set_option maxRecDepth 20000 in
set_option maxHeartbeats 4000000 in
theorem newPicture_any {w : World} {rb ro rc n qb qo cc m : Nat} {R C : Nat → List Nat} (hcr : Clu w.heap.size w (some ⟨rb, ro, none⟩) n R) (hcc : Clu w.heap.size w (some ⟨qb, qo, none⟩) m C) (hn : 1 ≤ n ∧ n ≤ 6) (hm : 1 ≤ m ∧ m ≤ 6)
    (hR : ∀ y, y < n → ∀ k ∈ R y, 1 ≤ k ∧ k ≤ 20) (hC : ∀ x, x < m → ∀ k ∈ C x, 1 ≤ k ∧ k ≤ 20) :
    Calls Try.prog 20 #[.slice (some ⟨rb, ro, none⟩) n rc, .slice (some ⟨qb, qo, none⟩) m cc] w fun e W' => ∃ pb cb kc g kp, e = .returned (.tuple #[.pointer (some ⟨pb, 0, none⟩), .int .i64 0]) ∧ Pc w.heap.size W' pb n m (some ⟨rb, ro, none⟩) rc (some ⟨qb, qo, none⟩) cc cb kc g kp open0 ∧ Below w.heap.size w W' := by
  obtain ⟨hn1, hn2⟩ := hn
  obtain ⟨hm1, hm2⟩ := hm
  have hb1 := (Below.refl w.heap.size w).alloc (Nat.le_refl _) (.cells #[.slice (some ⟨rb, ro, none⟩) n rc, .slice (some ⟨qb, qo, none⟩) m cc] 35)
  have hb2 := hb1.alloc hb1.size (.cells #[.slice (some ⟨rb, ro, none⟩) n rc, .slice (some ⟨qb, qo, none⟩) m cc] 35)
  have e1 := heap_alloc_new (w.alloc (.cells #[.slice (some ⟨rb, ro, none⟩) n rc, .slice (some ⟨qb, qo, none⟩) m cc] 35)) (.cells #[.slice (some ⟨rb, ro, none⟩) n rc, .slice (some ⟨qb, qo, none⟩) m cc] 35)
  have hs1 : (w.alloc (.cells #[.slice (some ⟨rb, ro, none⟩) n rc, .slice (some ⟨qb, qo, none⟩) m cc] 35)).heap.size = w.heap.size + 1 := by simp
  rw [hs1] at e1
  have HC2 := Lib.hid (concat2_any (b0 := w.heap.size + 1) (rc := rc) (cc := cc) (hcr.below hb2) (hcc.below hb2) ⟨hn1, by omega⟩ ⟨hm1, by omega⟩ hb2.size hR hC (wcell (cs := [_, _]) e1 0) (wcell (cs := [_, _]) e1 1))
  replace hb1 := Lib.hid hb1; replace hb2 := Lib.hid hb2; replace e1 := Lib.hid e1; replace hs1 := Lib.hid hs1
  clear hcr hcc hR hC
  go_enter Try.func20, Try.ntmps20
  go_wp2_with fail
  refine wp_loop_rounds 3 ?_
  rw [rounds_succ]
  go_wp2_with fail
  rw [rounds_succ]
  go_wp2_with fail
  rw [rounds_succ]
  go_wp2_with fail
  generalize (w.alloc (.cells #[.slice (some ⟨rb, ro, none⟩) n rc, .slice (some ⟨qb, qo, none⟩) m cc] 35)).alloc (.cells #[.slice (some ⟨rb, ro, none⟩) n rc, .slice (some ⟨qb, qo, none⟩) m cc] 35) = W2 at *
  refine HC2.out.mono ?_
  rintro e W3 ⟨g0, c0, vs, rfl, hO3, hb3, hcl⟩
  have hcl3 : Hid (∀ u ∈ vs, IsClue W3 u) := fun u hu => (hcl u hu).below hb3
  have hb03 := Lib.hid (hb2.out.trans (hb3.mono hb2.out.size))
  have hvl : vs.length = n + m := by have := hO3.len; omega
  have hvc : Hid (∀ j, j < n + m → W3.cell? ⟨g0, j, none⟩ = vs[j]?) := fun j hj => hO3.cell (by omega)
  have hgl : g0 < W3.heap.size := (hO3.block _ rfl).2
  replace hvl := Lib.hid hvl
  clear HC2 hb2 hb3 hcl hO3 hb1 hs1 e1
  go_wp2_with fail
  go_loopg [33] (n + m) (fun gk jv W' => ∃ j : Nat, gk = n + m - j ∧ j ≤ n + m ∧ jv = .int .i64 (j : Nat) ∧ W3 = W')
  case atStart => exact ⟨0, by omega, by omega, rfl, rfl⟩
  case round =>
    obtain ⟨j, hgk, hj, rfl, rfl⟩ := hrel
    replace hgk := Lib.hid hgk
    rcases Nat.lt_or_ge j (n + m) with hlt | hge
    · have hjl : j < vs.length := by rw [hvl.out]; exact hlt
      have a1 := hvc.out j hlt
      rw [List.getElem?_eq_getElem hjl] at a1
      obtain ⟨p, k, cl, l, hv, hk20, hxl, hl⟩ := hcl3.out _ (List.getElem_mem hjl)
      rw [hv] at a1
      have hll : l.length = k := by have := hxl.len; rwa [asI_len] at this
      have HF := Lib.hid (contains_none2 p k cl (asI l) W3 (by omega) hxl fun i hi W => clue_ok _ (asI_rng hl i (by omega)).1 (asI_rng hl i (by omega)).2 W)
      have hjz : (j : Int) < (n : Int) + (m : Int) := by omega
      clear hv hxl hll hl
      go_wp2_with fail
      refine HF.out.mono ?_
      rintro e W4 ⟨rfl, rfl⟩
      clear HF a1
      go_wp2_with fail
      have hgk := hgk.out
      go_roundg (n + m - (j + 1))
      case measure => omega
      case rel => exact ⟨j + 1, rfl, by omega, by go_num, rfl⟩
    · obtain rfl : j = n + m := by omega
      clear hvc hcl3 hvl hgk hge hj hgl
      have e4 := heap_alloc_new W3 (.cells #[.slice (some ⟨rb, ro, none⟩) n rc, .slice (some ⟨qb, qo, none⟩) m cc, .slice none 0 0] 54)
      have hb4 : Hid (Below w.heap.size w (W3.alloc (.cells #[.slice (some ⟨rb, ro, none⟩) n rc, .slice (some ⟨qb, qo, none⟩) m cc, .slice none 0 0] 54))) := hb03.out.alloc hb03.out.size _
      have p0 : Hid (Pp w.heap.size (W3.alloc (.cells #[.slice (some ⟨rb, ro, none⟩) n rc, .slice (some ⟨qb, qo, none⟩) m cc, .slice none 0 0] 54)) W3.heap.size n m (some ⟨rb, ro, none⟩) rc (some ⟨qb, qo, none⟩) cc 0 none 0 (fun _ => 0) (fun _ => 0) open0) :=
        ⟨e4, OwnC.nil _ _ _ _, fun y hy => absurd hy (Nat.not_lt_zero _), fun y hy => absurd hy (Nat.not_lt_zero _), (fun a ha => by cases ha), hb03.out.size⟩
      clear e4
      go_wp2_with fail
      generalize W3.alloc (.cells #[.slice (some ⟨rb, ro, none⟩) n rc, .slice (some ⟨qb, qo, none⟩) m cc, .slice none 0 0] 54) = W5 at *
      generalize W3.heap.size = pb2 at *
      clear hb03
      go_loopg [46] n (fun gk jv W' => ∃ (j : Nat) (q : Option Addr) (k : Nat) (g2 kp2 : Nat → Nat), gk = n - j ∧ j ≤ n ∧ jv = .int .i64 (j : Nat) ∧ Hid (Pp w.heap.size W' pb2 n m (some ⟨rb, ro, none⟩) rc (some ⟨qb, qo, none⟩) cc j q k g2 kp2 open0) ∧ Hid (Below w.heap.size w W'))
      case atStart => exact ⟨0, none, 0, _, _, by omega, by omega, rfl, p0, hb4⟩
      case round =>
        obtain ⟨j, q, k, g2, kp2, hgk, hj, rfl, hp, hb⟩ := hrel
        obtain ⟨W1, rfl⟩ : ∃ W1 : World, W1 = wr := ⟨_, rfl⟩
        replace hgk := Lib.hid hgk
        clear p0 hb4
        rcases Nat.lt_or_ge j n with hlt | hge
        · have d2 : W1.cell? ⟨pb2, 2, none⟩ = some (.slice q j k) := wcell (cs := [_, _, _]) hp.out.hd 2
          have f2 : W1.frozen? ⟨pb2, 2, none⟩ = false := wfree hp.out.hd 2
          have hlp := lt_of_heap hp.out.hd
          have hpB := hp.out.pB
          have hpq : Hid (some pb2 ≠ q.map (·.block)) := fun e => by
            cases q with
            | none => cases e
            | some a => simp at e; exact hp.out.pc a rfl e.symm
          have hx0 := ((Below.refl W1.heap.size W1).alloc (Nat.le_refl _) (.cells #[.int .i64 (-1)] 3)).drew
          have hx1 := heap_alloc_new W1 (.cells #[.int .i64 (-1)] 3)
          have hxd : (W1.alloc (.cells #[.int .i64 (-1)] 3)).cell? ⟨pb2, 2, none⟩ = some (.slice q j k) := wcell (cs := [_, _, _]) ((((Below.refl W1.heap.size W1).alloc (Nat.le_refl _) (.cells #[.int .i64 (-1)] 3)).block pb2 hlp).trans hp.out.hd) 2
          have HX : Hid (Calls Try.prog 31 #[.slice (some ⟨W1.heap.size, 0, none⟩) 1 1, .int .i64 m] (W1.alloc (.cells #[.int .i64 (-1)] 3)).drew fun e X' => ∃ g6 c6, e = .returned (.slice (some ⟨g6, 0, none⟩) m c6) ∧ Own 3 W1.heap.size X' (some ⟨g6, 0, none⟩) m c6 (rowL m open0 j) ∧ Below W1.heap.size W1 X') := (repeat1_any W1.heap.size 1 (-1) m (W1.alloc (.cells #[.int .i64 (-1)] 3)).drew hm1 (by omega) (wcell (cs := [_]) hx1 0)).mono fun e X' ⟨h1, h2, h3⟩ => ⟨_, m, h1, by rw [rowL_open]; exact rep_own (by show _ ≤ (W1.alloc _).heap.size; simp) (by omega) h2, hx0.trans (h3.mono (by show _ ≤ (W1.alloc _).heap.size; simp))⟩
          have hi9 : j < 1099511627776 := by omega
          replace hx0 := Lib.hid hx0; replace hx1 := Lib.hid hx1
          go_upto_region 16 with fail
          go_region_law (first
            | (refine step_appendS _ (by rfl) _ _ (by rfl) w.heap.size q j k (rowsV m j g2 kp2) (by rfl) (hcs6.out _ hb7) (.slice (some ⟨g6, 0, none⟩) m c6) (by rfl) w6.heap.size (by rfl) (heap_alloc_new w6 _) hi9 hz7 ?_; intro p9 c9 w9 hM9 hg9 hor9; have m0 : w9.cell? ⟨pb2, 2, none⟩ = some (.slice q j k) := wcell (cs := [_, _, _]) ((hg9.block pb2 hl7 hpq.out).trans hd7) 2; have m1 : w9.frozen? ⟨pb2, 2, none⟩ = false := wfree ((hg9.block pb2 hl7 hpq.out).trans hd7) 2; replace hM9 := Lib.hid hM9; replace hg9 := Lib.hid hg9; replace hor9 := Lib.hid hor9)
            | (go_simp; go_at_call 31; (with_reducible refine HX.out.mono ?_); rintro e w6 ⟨g6, c6, rfl, hO6, hb6⟩; have hb7 := hb6.alloc hb6.size (.cells #[.slice (some ⟨g6, 0, none⟩) m c6] 22); have hcs6 : Hid (∀ X : World, Below W1.heap.size W1 X → OwnC 22 1 w.heap.size X q j k (rowsV m j g2 kp2)) := (fun X hX => hp.out.cs.below hX (Nat.le_refl _)); have hd6 := (hb6.block pb2 hlp).trans hp.out.hd; have hd7 := (hb7.block pb2 hlp).trans hp.out.hd; have hz7 := Nat.le_trans hpB (Nat.le_trans (Nat.le_of_lt hlp) hb7.size); have hl7 := Nat.lt_of_lt_of_le hlp hb7.size; have d6 : w6.cell? ⟨pb2, 2, none⟩ = some (.slice q j k) := wcell (cs := [_, _, _]) hd6 2; have d7 : (w6.alloc (.cells #[.slice (some ⟨g6, 0, none⟩) m c6] 22)).cell? ⟨pb2, 2, none⟩ = some (.slice q j k) := wcell (cs := [_, _, _]) hd7 2))
          all_goals
            have hfin := Lib.hid (hp.out.app hb6 hO6 hM9.out hg9.out hor9.out)
            have hbf : Hid (Below w.heap.size w (w9.setCell ⟨pb2, 2, none⟩ (.slice p9 (j + 1) c9))) := hb.out.trans hfin.out.2
            go_wp2_with fail
            have hgk := hgk.out
            go_roundg (n - (j + 1))
            case measure => omega
            case rel => exact ⟨j + 1, p9, c9, _, _, rfl, by omega, by go_num, hfin.out.1, hbf.out⟩
        · obtain rfl : j = n := by omega
          obtain ⟨cb2, hPc⟩ := hp.out.done (by omega)
          replace hPc := Lib.hid hPc
          go_wp2_with fail
          go_ret2
          exact ⟨pb2, cb2, k, g2, kp2, rfl, hPc.out, hb.out⟩
end Go.Proofs.Ytkklcfaghnfleaa
