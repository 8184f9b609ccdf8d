/- What means.of computes: the mean of the state it is asked for, whatever right means the map holds already; conditions: at most three men. -/
import Derived.Test.YtgbollodgeemlaaGBst
namespace Go.Proofs.Ytgbollodgeemlaa
open Go.RowKit Go.Maps

theorem gthrow_bd {l : List Nat} (hl : gst l) {x y : Nat} (h1 : 1 ≤ x) (h2 : x ≤ 6) (h3 : 1 ≤ y) (h4 : y ≤ 6) : 0 ≤ gthrow l x y ∧ gthrow l x y ≤ 1099511627776 := by
  have hb : ∀ ps : List Nat, (∀ p ∈ ps, p = x ∨ p = y) → 0 ≤ gbest ps l ∧ gbest ps l ≤ 1099511627776 := fun ps h => gbest_bd ps l hl fun p hp => by rcases h p hp with rfl | rfl <;> omega
  unfold gthrow
  split
  · exact hb _ (by intro p hp; simp at hp; exact .inl hp)
  · have ha := hb [x, y] (by intro p hp; simpa using hp)
    have hc := hb [y, x] (by intro p hp; simp at hp; omega)
    omega
theorem grow_bd {l : List Nat} (hl : gst l) {x : Nat} (h1 : 1 ≤ x) (h2 : x ≤ 6) : ∀ j, j ≤ 6 → 0 ≤ grow l x j ∧ grow l x j ≤ j * 1099511627776 := by
  intro j
  induction j with
  | zero => intro _; simp [grow]
  | succ j ih =>
    intro hj
    have := ih (by omega)
    have ht := gthrow_bd hl h1 h2 (show 1 ≤ j + 1 by omega) hj
    rw [grow]
    omega
theorem gsum_bd {l : List Nat} (hl : gst l) : ∀ i, i ≤ 6 → 0 ≤ gsum l i ∧ gsum l i ≤ i * 6597069766656 := by
  intro i
  induction i with
  | zero => intro _; simp [gsum]
  | succ i ih =>
    intro hi
    have := ih (by omega)
    have ht := grow_bd hl (show 1 ≤ i + 1 by omega) hi 6 (Nat.le_refl _)
    rw [gsum]
    omega
theorem zero3 (w : World) : (zeroValue 3).run Try.prog w = .ok (.int .i64 0) w := by kernel_rfl
theorem under44 : Try.prog.underlying 44 = some (.map 40 3) := by kernel_rfl
theorem under3 : Try.prog.underlying 3 = some (.int .i64) := by kernel_rfl

set_option maxRecDepth 20000 in
set_option maxHeartbeats 8000000 in
theorem of_any : ∀ (t a b c d e f mb : Nat) (w : World), a + b + c + d + e + f ≤ 3 → gpips [a, b, c, d, e, f] < t → MapOk w mb → Calls Try.prog 14 #[.map (some mb), H6 a b c d e f] w fun r w' => r = .returned (.int .i64 (gmean [a, b, c, d, e, f] : Int)) ∧ MapOk w' mb ∧ w.grownBy w' (some mb) := by
  intro t
  induction t with
  | zero => intro a b c d e f mb w _ h; omega
  | succ t ih =>
    intro a b c d e f mb w h3 hp hM
    have HBst := Lib.hid (best_of t ih)
    have hg0 := Lib.hid (World.grownBy_alloc w (.cells #[.int .i64 (a : Int), .int .i64 (b : Int), .int .i64 (c : Int), .int .i64 (d : Int), .int .i64 (e : Int), .int .i64 (f : Int)] 40) (some mb))
    have e0 := Lib.hid (heap_alloc_new w (.cells #[.int .i64 (a : Int), .int .i64 (b : Int), .int .i64 (c : Int), .int .i64 (d : Int), .int .i64 (e : Int), .int .i64 (f : Int)] 40))
    have hM0 := Lib.hid (hM.alloc (.cells #[.int .i64 (a : Int), .int .i64 (b : Int), .int .i64 (c : Int), .int .i64 (d : Int), .int .i64 (e : Int), .int .i64 (f : Int)] 40))
    have hsz0 : w.heap.size < (w.alloc (.cells #[.int .i64 (a : Int), .int .i64 (b : Int), .int .i64 (c : Int), .int .i64 (d : Int), .int .i64 (e : Int), .int .i64 (f : Int)] 40)).heap.size := by simp
    have hmw := hM.lt
    have HE := Lib.hid (empty_any a b c d e f (w.alloc (.cells #[.int .i64 (a : Int), .int .i64 (b : Int), .int .i64 (c : Int), .int .i64 (d : Int), .int .i64 (e : Int), .int .i64 (f : Int)] 40)) h3)
    have hst := Lib.hid (gst6 h3)
    have hky := Lib.hid (hkey hst.out)
    cases hem : gempty [a, b, c, d, e, f] with
    | true =>
      have hgo : Hid (gmean [a, b, c, d, e, f] = 0) := gmean_empty hst.out hem
      rw [hem] at HE
      clear hM hp ih hem HBst
      go_enter Try.func14, Try.ntmps14
      go_wp2_with fail
      refine HE.out.mono ?_
      rintro r w1 ⟨rfl, hB⟩
      have hM1 := Lib.hid (hM0.out.below hB)
      have hg1 := Lib.hid (hg0.out.trans (grown_below hB (some mb)))
      clear hB
      go_wp2_with fail
      go_ret
      exact ⟨by rw [hgo.out]; rfl, hM1.out, hg1.out⟩
    | false =>
      have hlw := Lib.hid (gmean_law hst.out hem)
      have hml := Lib.hid (gmean_le hst.out)
      rw [hem] at HE
      have hpt : Hid (gpips [a, b, c, d, e, f] ≤ t) := by show _ ≤ _; omega
      have hne : Hid (gempty [a, b, c, d, e, f] = false) := hem
      clear hM hp ih hem
      go_enter Try.func14, Try.ntmps14
      go_wp2_with fail
      generalize (w.alloc (.cells #[.int .i64 (a : Int), .int .i64 (b : Int), .int .i64 (c : Int), .int .i64 (d : Int), .int .i64 (e : Int), .int .i64 (f : Int)] 40)) = W at *
      refine HE.out.mono ?_
      rintro r w1 ⟨rfl, hB⟩
      have e1 := (hB.block _ hsz0).trans e0.out
      have x1 : w1.cell? ⟨w.heap.size, 0, none⟩ = some (.int .i64 (a : Int)) := wcell (cs := [_, _, _, _, _, _]) e1 0
      have x2 : w1.cell? ⟨w.heap.size, 1, none⟩ = some (.int .i64 (b : Int)) := wcell (cs := [_, _, _, _, _, _]) e1 1
      have x3 : w1.cell? ⟨w.heap.size, 2, none⟩ = some (.int .i64 (c : Int)) := wcell (cs := [_, _, _, _, _, _]) e1 2
      have x4 : w1.cell? ⟨w.heap.size, 3, none⟩ = some (.int .i64 (d : Int)) := wcell (cs := [_, _, _, _, _, _]) e1 3
      have x5 : w1.cell? ⟨w.heap.size, 4, none⟩ = some (.int .i64 (e : Int)) := wcell (cs := [_, _, _, _, _, _]) e1 4
      have x6 : w1.cell? ⟨w.heap.size, 5, none⟩ = some (.int .i64 (f : Int)) := wcell (cs := [_, _, _, _, _, _]) e1 5
      have hM1 := hM0.out.below hB
      have hg1 := Lib.hid (hg0.out.trans (grown_below hB (some mb)))
      have hs1 : w.heap.size < w1.heap.size := Nat.lt_of_lt_of_le hsz0 hB.size
      obtain ⟨ks, D, hK⟩ := hM1
      have hown := Lib.hid hK.1
      have hhas := hK.2.2.2.1 _ hst.out
      have hatk := Lib.hid (hK.2.2.2.2 [a, b, c, d, e, f])
      have hM1 : Hid (MapOk w1 mb) := ⟨ks, D, hK⟩
      replace e1 := Lib.hid e1
      clear hB HE hK hM0 hg0 e0
      by_cases hmem : [a, b, c, d, e, f] ∈ ks
      · have hhas' : Maps.has D (gkey [a, b, c, d, e, f]) = true := by rw [hhas]; simpa using hmem
        clear hhas HBst
        go_wp2_with (at_lookup; refine wpList_lookup_own_ok_int _ rfl _ _ 44 rfl 40 3 .i64 hlaw under44 under3 (zero3 _) mb _ D rfl hown.out _ _ rfl hky.out ?_; intro v hat hwc)
        have hv : v = (gmean [a, b, c, d, e, f] : Int) := by
          have := hatk.out hmem (.lit (.int .i64 0))
          rw [this] at hat
          injection hat with hat
          injection hat with _ hat
          exact hat.symm
        go_ret
        exact ⟨by rw [← hv]; rfl, hM1.out, hg1.out⟩
      · have hhas' : Maps.has D (gkey [a, b, c, d, e, f]) = false := by rw [hhas]; simpa using hmem
        clear hhas hatk
        go_wp2_with (at_lookup; refine wpList_lookup_own_ok_int _ rfl _ _ 44 rfl 40 3 .i64 hlaw under44 under3 (zero3 _) mb _ D rfl hown.out _ _ rfl hky.out ?_; intro v hat hwc)
        clear hown x1 x2 x3 x4 x5 x6 hhas' hat hwc hmem
        obtain ⟨l, hl⟩ : ∃ l, l = [a, b, c, d, e, f] := ⟨_, rfl⟩
        have hky6 : Hid (keyOf Try.prog 40 (H6 a b c d e f) = some (gkey l)) := by show _ = _; rw [hl]; exact hky.out
        have hst' := hst
        rw [← hl] at hst'
        have hBs : Hid (∀ (ps : List Nat) (n : Nat) (q : Option Addr) (W : World), (∀ p ∈ ps, 1 ≤ p ∧ p ≤ 6) → n = ps.length → 0 < n → n ≤ 4 → MapOk W mb → IntsIn W q n (asI ps) → Calls Try.prog 25 #[.map (some mb), H6 a b c d e f, .slice q n n] W fun r w' => r = .returned (.int .i64 (gbest ps l)) ∧ MapOk w' mb ∧ W.grownBy w' (some mb)) := fun ps n q W h1 h2 h3' h4 hM hx => by
          rw [hl]
          exact HBst.out ps a b c d e f mb n q W h1 h2 h4 h3 (.inr ⟨hpt.out, by intro e; rw [e] at h2; simp at h2; omega, hne.out⟩) hM hx
        replace hl := Lib.hid hl
        clear HBst
        go_loopg [7, 8] 6 (fun gk v7 v8 W' => ∃ i : Nat, i ≤ 6 ∧ gk = 6 - i ∧ v7 = .int .i64 (gsum l i) ∧ v8 = .int .i64 ((i : Int) + 1) ∧ MapOk W' mb ∧ w1.grownBy W' (some mb))
        case atStart => exact ⟨0, by omega, by omega, rfl, rfl, hM1.out, ⟨rfl, rfl, rfl, Nat.le_refl _, fun _ _ _ => rfl⟩⟩
        case round =>
          obtain ⟨i, hi, hgk, rfl, rfl, hMr, hgr⟩ := hrel
          obtain ⟨W1, rfl⟩ : ∃ W1 : World, W1 = wr := ⟨_, rfl⟩
          replace hgk := Lib.hid hgk; replace hMr := Lib.hid hMr; replace hgr := Lib.hid hgr
          have hsb := gsum_bd hst'.out i hi
          by_cases hlt : i < 6
          · have hle : (i : Int) + 1 ≤ 6 := by omega
            have hgs : Hid (gsum l (i + 1) = gsum l i + grow l (i + 1) 6) := rfl
            have hrb := Lib.hid (fun j hj => grow_bd hst'.out (x := i + 1) (by omega) (by omega) j hj)
            have hthb := Lib.hid (fun j hj => gthrow_bd hst'.out (x := i + 1) (y := j + 1) (by omega) (by omega) (by omega) hj)
            have hgrw : Hid (∀ j, grow l (i + 1) (j + 1) = grow l (i + 1) j + gthrow l (i + 1) (j + 1)) := fun j => rfl
            generalize hSd : gsum l i = S at *
            replace hSd := Lib.hid hSd
            go_wp2_with fail
            go_loopg [7, 9] 6 (fun gk v7 v9 W' => ∃ j : Nat, j ≤ 6 ∧ gk = 6 - j ∧ v7 = .int .i64 (S + grow l (i + 1) j) ∧ v9 = .int .i64 ((j : Int) + 1) ∧ MapOk W' mb ∧ w1.grownBy W' (some mb))
            case atStart => exact ⟨0, by omega, by omega, by simp [grow], rfl, hMr.out, hgr.out⟩
            case round =>
              clear hMr hgr
              obtain ⟨j, hj, hgk2, rfl, rfl, hMr, hgr⟩ := hrel
              obtain ⟨W2, rfl⟩ : ∃ W2 : World, W2 = wr := ⟨_, rfl⟩
              replace hgk2 := Lib.hid hgk2
              have hjb := hrb.out j hj
              by_cases hjlt : j < 6
              · have hle2 : (j : Int) + 1 ≤ 6 := by omega
                have er := (hgr.block _ hs1 (by intro e; injection e with e; omega)).trans e1.out
                have hgrj := Lib.hid (hgrw.out j)
                have htb := hthb.out j hjlt
                replace hMr := Lib.hid hMr; replace hgr := Lib.hid hgr; replace er := Lib.hid er
                by_cases hij : i = j
                · have hth : Hid (gthrow l (i + 1) (j + 1) = gbest [i + 1, i + 1, i + 1, i + 1] l) := by show _ = _; unfold gthrow; rw [if_pos (by omega)]
                  have hB4 : Hid (∀ (sz : Nat) (W : World), MapOk W mb → IntsIn W (some ⟨sz, 0, none⟩) 4 (asI [i + 1, i + 1, i + 1, i + 1]) → Calls Try.prog 25 #[.map (some mb), H6 a b c d e f, .slice (some ⟨sz, 0, none⟩) 4 4] W fun r w' => r = .returned (.int .i64 (gbest [i + 1, i + 1, i + 1, i + 1] l)) ∧ MapOk w' mb ∧ W.grownBy w' (some mb)) := fun sz W hM hx =>
                    hBs.out [i + 1, i + 1, i + 1, i + 1] 4 _ W (by intro p hp; simp at hp; omega) rfl (by omega) (by omega) hM hx
                  rw [hth.out] at htb hgrj
                  generalize hG : grow l (i + 1) j = G at *
                  generalize hNd : gbest [i + 1, i + 1, i + 1, i + 1] l = N4 at *
                  have hdd : ((i : Int) + 1 == (j : Int) + 1) = true := by simp; omega
                  have hdn : ((i : Int) + 1 != (j : Int) + 1) = false := by simp; omega
                  clear hij
                  have hs2 : w.heap.size < W2.heap.size := Nat.lt_of_lt_of_le hs1 hgr.out.size
                  have er3 : ((W2.alloc (.cells #[.int .i64 ((i : Int) + 1), .int .i64 ((j : Int) + 1)] 3)).alloc (.cells #[.int .i64 ((i : Int) + 1), .int .i64 ((i : Int) + 1), .int .i64 ((i : Int) + 1), .int .i64 ((i : Int) + 1)] 3)).heap[w.heap.size]? = some (.cells #[.int .i64 (a : Int), .int .i64 (b : Int), .int .i64 (c : Int), .int .i64 (d : Int), .int .i64 (e : Int), .int .i64 (f : Int)] 40) := by
                    rw [Below.heap_alloc _ _ _ (by simp; omega), Below.heap_alloc _ _ _ hs2]; exact er.out
                  have hM3 := (hMr.out.alloc (.cells #[.int .i64 ((i : Int) + 1), .int .i64 ((j : Int) + 1)] 3)).alloc (.cells #[.int .i64 ((i : Int) + 1), .int .i64 ((i : Int) + 1), .int .i64 ((i : Int) + 1), .int .i64 ((i : Int) + 1)] 3)
                  have hx3 : IntsIn ((W2.alloc (.cells #[.int .i64 ((i : Int) + 1), .int .i64 ((j : Int) + 1)] 3)).alloc (.cells #[.int .i64 ((i : Int) + 1), .int .i64 ((i : Int) + 1), .int .i64 ((i : Int) + 1), .int .i64 ((i : Int) + 1)] 3)) (some ⟨W2.heap.size + 1, 0, none⟩) 4 (asI [i + 1, i + 1, i + 1, i + 1]) := IntsIn.new _ _ _ _ _ _ (by simp) (by simp [asI]) rfl
                  have hg3 := hgr.out.trans ((World.grownBy_alloc W2 (.cells #[.int .i64 ((i : Int) + 1), .int .i64 ((j : Int) + 1)] 3) (some mb)).trans (World.grownBy_alloc _ (.cells #[.int .i64 ((i : Int) + 1), .int .i64 ((i : Int) + 1), .int .i64 ((i : Int) + 1), .int .i64 ((i : Int) + 1)] 3) (some mb)))
                  go_upto_region 16 with fail
                  generalize ((W2.alloc (.cells #[.int .i64 ((i : Int) + 1), .int .i64 ((j : Int) + 1)] 3)).alloc (.cells #[.int .i64 ((i : Int) + 1), .int .i64 ((i : Int) + 1), .int .i64 ((i : Int) + 1), .int .i64 ((i : Int) + 1)] 3)) = W3 at *
                  have x1 : W3.cell? ⟨w.heap.size, 0, none⟩ = some (.int .i64 (a : Int)) := wcell (cs := [_, _, _, _, _, _]) er3 0
                  have x2 : W3.cell? ⟨w.heap.size, 1, none⟩ = some (.int .i64 (b : Int)) := wcell (cs := [_, _, _, _, _, _]) er3 1
                  have x3 : W3.cell? ⟨w.heap.size, 2, none⟩ = some (.int .i64 (c : Int)) := wcell (cs := [_, _, _, _, _, _]) er3 2
                  have x4 : W3.cell? ⟨w.heap.size, 3, none⟩ = some (.int .i64 (d : Int)) := wcell (cs := [_, _, _, _, _, _]) er3 3
                  have x5 : W3.cell? ⟨w.heap.size, 4, none⟩ = some (.int .i64 (e : Int)) := wcell (cs := [_, _, _, _, _, _]) er3 4
                  have x6 : W3.cell? ⟨w.heap.size, 5, none⟩ = some (.int .i64 (f : Int)) := wcell (cs := [_, _, _, _, _, _]) er3 5
                  have HC := Lib.hid (hB4.out _ W3 hM3 hx3)
                  replace hg3 := Lib.hid hg3; replace er3 := Lib.hid er3
                  clear hx3 hM3
                  go_wp2_with fail
                  refine HC.out.mono ?_
                  rintro r w4 ⟨rfl, hM4, hg4⟩
                  have hg5 := Lib.hid (hg3.out.trans hg4)
                  replace hM4 := Lib.hid hM4
                  clear hg4 HC x1 x2 x3 x4 x5 x6
                  go_wp2_with fail
                  have hgk2 := hgk2.out
                  go_roundg (6 - (j + 1))
                  case measure => omega
                  case rel => exact ⟨j + 1, by omega, rfl, by rw [hgrj.out]; go_num, by go_num, hM4.out, hg5.out⟩
                · have hth : Hid (gthrow l (i + 1) (j + 1) = min (gbest [i + 1, j + 1] l) (gbest [j + 1, i + 1] l)) := by show _ = _; unfold gthrow; rw [if_neg (by omega)]
                  have hbA := gbest_bd [i + 1, j + 1] l hst'.out (by intro p hp; simp at hp; omega)
                  have hbC := gbest_bd [j + 1, i + 1] l hst'.out (by intro p hp; simp at hp; omega)
                  have hBA : Hid (∀ (sz : Nat) (W : World), MapOk W mb → IntsIn W (some ⟨sz, 0, none⟩) 2 (asI [i + 1, j + 1]) → Calls Try.prog 25 #[.map (some mb), H6 a b c d e f, .slice (some ⟨sz, 0, none⟩) 2 2] W fun r w' => r = .returned (.int .i64 (gbest [i + 1, j + 1] l)) ∧ MapOk w' mb ∧ W.grownBy w' (some mb)) := fun sz W hM hx =>
                    hBs.out [i + 1, j + 1] 2 _ W (by intro p hp; simp at hp; omega) rfl (by omega) (by omega) hM hx
                  have hBC : Hid (∀ (sz : Nat) (W : World), MapOk W mb → IntsIn W (some ⟨sz, 0, none⟩) 2 (asI [j + 1, i + 1]) → Calls Try.prog 25 #[.map (some mb), H6 a b c d e f, .slice (some ⟨sz, 0, none⟩) 2 2] W fun r w' => r = .returned (.int .i64 (gbest [j + 1, i + 1] l)) ∧ MapOk w' mb ∧ W.grownBy w' (some mb)) := fun sz W hM hx =>
                    hBs.out [j + 1, i + 1] 2 _ W (by intro p hp; simp at hp; omega) rfl (by omega) (by omega) hM hx
                  rw [hth.out] at htb hgrj
                  generalize hG : grow l (i + 1) j = G at *
                  generalize hNA : gbest [i + 1, j + 1] l = NA at *
                  generalize hNC : gbest [j + 1, i + 1] l = NC at *
                  have hdd : ((i : Int) + 1 == (j : Int) + 1) = false := by simp; omega
                  have hdn : ((i : Int) + 1 != (j : Int) + 1) = true := by simp; omega
                  clear hij
                  have hs2 : w.heap.size < W2.heap.size := Nat.lt_of_lt_of_le hs1 hgr.out.size
                  have er3 : (W2.alloc (.cells #[.int .i64 ((i : Int) + 1), .int .i64 ((j : Int) + 1)] 3)).heap[w.heap.size]? = some (.cells #[.int .i64 (a : Int), .int .i64 (b : Int), .int .i64 (c : Int), .int .i64 (d : Int), .int .i64 (e : Int), .int .i64 (f : Int)] 40) := by
                    rw [Below.heap_alloc _ _ _ hs2]; exact er.out
                  have hM3 := hMr.out.alloc (.cells #[.int .i64 ((i : Int) + 1), .int .i64 ((j : Int) + 1)] 3)
                  have hx3 : IntsIn (W2.alloc (.cells #[.int .i64 ((i : Int) + 1), .int .i64 ((j : Int) + 1)] 3)) (some ⟨W2.heap.size, 0, none⟩) 2 (asI [i + 1, j + 1]) := IntsIn.new _ _ _ _ _ _ (by simp) (by simp [asI]) rfl
                  have hg3 := hgr.out.trans (World.grownBy_alloc W2 (.cells #[.int .i64 ((i : Int) + 1), .int .i64 ((j : Int) + 1)] 3) (some mb))
                  have hs3 : w.heap.size < (W2.alloc (.cells #[.int .i64 ((i : Int) + 1), .int .i64 ((j : Int) + 1)] 3)).heap.size := by simp; omega
                  go_upto_region 16 with fail
                  generalize (W2.alloc (.cells #[.int .i64 ((i : Int) + 1), .int .i64 ((j : Int) + 1)] 3)) = W3 at *
                  have x1 : W3.cell? ⟨w.heap.size, 0, none⟩ = some (.int .i64 (a : Int)) := wcell (cs := [_, _, _, _, _, _]) er3 0
                  have x2 : W3.cell? ⟨w.heap.size, 1, none⟩ = some (.int .i64 (b : Int)) := wcell (cs := [_, _, _, _, _, _]) er3 1
                  have x3 : W3.cell? ⟨w.heap.size, 2, none⟩ = some (.int .i64 (c : Int)) := wcell (cs := [_, _, _, _, _, _]) er3 2
                  have x4 : W3.cell? ⟨w.heap.size, 3, none⟩ = some (.int .i64 (d : Int)) := wcell (cs := [_, _, _, _, _, _]) er3 3
                  have x5 : W3.cell? ⟨w.heap.size, 4, none⟩ = some (.int .i64 (e : Int)) := wcell (cs := [_, _, _, _, _, _]) er3 4
                  have x6 : W3.cell? ⟨w.heap.size, 5, none⟩ = some (.int .i64 (f : Int)) := wcell (cs := [_, _, _, _, _, _]) er3 5
                  have HC := Lib.hid (hBA.out _ W3 hM3 hx3)
                  replace hg3 := Lib.hid hg3
                  clear hx3 hM3
                  go_wp2_with fail
                  refine HC.out.mono ?_
                  rintro r w4 ⟨rfl, hM4, hg4⟩
                  have hg5 := Lib.hid (hg3.out.trans hg4)
                  have er4 := (hg4.block _ hs3 (by intro e; injection e with e; omega)).trans er3
                  have hs4 : w.heap.size < w4.heap.size := Nat.lt_of_lt_of_le hs3 hg4.size
                  clear hg4 HC x1 x2 x3 x4 x5 x6
                  have x1 : w4.cell? ⟨w.heap.size, 0, none⟩ = some (.int .i64 (a : Int)) := wcell (cs := [_, _, _, _, _, _]) er4 0
                  have x2 : w4.cell? ⟨w.heap.size, 1, none⟩ = some (.int .i64 (b : Int)) := wcell (cs := [_, _, _, _, _, _]) er4 1
                  have x3 : w4.cell? ⟨w.heap.size, 2, none⟩ = some (.int .i64 (c : Int)) := wcell (cs := [_, _, _, _, _, _]) er4 2
                  have x4 : w4.cell? ⟨w.heap.size, 3, none⟩ = some (.int .i64 (d : Int)) := wcell (cs := [_, _, _, _, _, _]) er4 3
                  have x5 : w4.cell? ⟨w.heap.size, 4, none⟩ = some (.int .i64 (e : Int)) := wcell (cs := [_, _, _, _, _, _]) er4 4
                  have x6 : w4.cell? ⟨w.heap.size, 5, none⟩ = some (.int .i64 (f : Int)) := wcell (cs := [_, _, _, _, _, _]) er4 5
                  have HC := Lib.hid (hBC.out _ _ (hM4.alloc (.cells #[.int .i64 ((j : Int) + 1), .int .i64 ((i : Int) + 1)] 3)) (IntsIn.new w4 _ _ _ _ _ rfl (by simp [asI]) rfl))
                  have hg6 := Lib.hid (hg5.out.trans (World.grownBy_alloc w4 (.cells #[.int .i64 ((j : Int) + 1), .int .i64 ((i : Int) + 1)] 3) (some mb)))
                  replace er4 := Lib.hid er4; replace er3 := Lib.hid er3
                  go_wp2_with fail
                  refine HC.out.mono ?_
                  rintro r w5 ⟨rfl, hM5, hg7⟩
                  have hg8 := Lib.hid (hg6.out.trans hg7)
                  replace hM5 := Lib.hid hM5
                  clear hg7 HC x1 x2 x3 x4 x5 x6
                  go_wp2_with fail
                  have hgk2 := hgk2.out
                  go_roundg (6 - (j + 1))
                  case measure => omega
                  case rel => exact ⟨j + 1, by omega, rfl, by rw [hgrj.out]; go_num, by go_num, hM5.out, hg8.out⟩
              · obtain rfl : j = 6 := by omega
                have hle2 : ¬ ((6 : Int) + 1 ≤ 6) := by omega
                replace hMr := Lib.hid hMr; replace hgr := Lib.hid hgr
                rw [← hgs.out]
                go_wp2_with fail
                have hgk := hgk.out
                go_roundg (6 - (i + 1))
                case measure => omega
                case rel => exact ⟨i + 1, by omega, rfl, rfl, by go_num, hMr.out, hgr.out⟩
          · obtain rfl : i = 6 := by omega
            have hle2 : ¬ ((6 : Int) + 1 ≤ 6) := by omega
            have er := (hgr.out.block _ hs1 (by intro e; injection e with e; omega)).trans e1.out
            have x1 : W1.cell? ⟨w.heap.size, 0, none⟩ = some (.int .i64 (a : Int)) := wcell (cs := [_, _, _, _, _, _]) er 0
            have x2 : W1.cell? ⟨w.heap.size, 1, none⟩ = some (.int .i64 (b : Int)) := wcell (cs := [_, _, _, _, _, _]) er 1
            have x3 : W1.cell? ⟨w.heap.size, 2, none⟩ = some (.int .i64 (c : Int)) := wcell (cs := [_, _, _, _, _, _]) er 2
            have x4 : W1.cell? ⟨w.heap.size, 3, none⟩ = some (.int .i64 (d : Int)) := wcell (cs := [_, _, _, _, _, _]) er 3
            have x5 : W1.cell? ⟨w.heap.size, 4, none⟩ = some (.int .i64 (e : Int)) := wcell (cs := [_, _, _, _, _, _]) er 4
            have x6 : W1.cell? ⟨w.heap.size, 5, none⟩ = some (.int .i64 (f : Int)) := wcell (cs := [_, _, _, _, _, _]) er 5
            have hs2 : w.heap.size < W1.heap.size := Nat.lt_of_lt_of_le hs1 hgr.out.size
            rw [← hl.out] at hlw hml
            have hlw' := hlw.out
            have hml' := hml.out
            generalize gsum l 6 = S6 at *
            obtain ⟨ks2, D2, hK2⟩ := hMr.out
            have hown2 := Lib.hid hK2.1
            have hkl := known_len hK2.2.1 hK2.2.2.1
            replace hK2 := Lib.hid hK2
            have hdv : (78364164096 : Int) + S6 / 36 = (gmean l : Int) := hlw'.symm
            have hdv0 : 0 ≤ S6 / 36 := by omega
            clear hlw'
            have hwf : (Lit.int .i64 (gmean l : Int)).wf = true := WalkArith.wf_i64 (by omega)
            replace er := Lib.hid er
            go_wp2_with (first
              | (at_mapUpdate; refine wpList_mapUpdate_own _ rfl _ _ _ 44 rfl 40 3 hlaw under44 _ mb _ D2 rfl hown2.out (by unfold maxLen; omega) _ _ _ rfl rfl hky6.out _ [] (plainElem_int under3 hwf) ?_; intro w5 hown5 hg5; have er5 := (hg5.block _ hs2 (by intro e; injection e with e; omega)).trans er.out; have y1 : w5.cell? ⟨w.heap.size, 0, none⟩ = some (.int .i64 (a : Int)) := wcell (cs := [_, _, _, _, _, _]) er5 0; have y2 : w5.cell? ⟨w.heap.size, 1, none⟩ = some (.int .i64 (b : Int)) := wcell (cs := [_, _, _, _, _, _]) er5 1; have y3 : w5.cell? ⟨w.heap.size, 2, none⟩ = some (.int .i64 (c : Int)) := wcell (cs := [_, _, _, _, _, _]) er5 2; have y4 : w5.cell? ⟨w.heap.size, 3, none⟩ = some (.int .i64 (d : Int)) := wcell (cs := [_, _, _, _, _, _]) er5 3; have y5 : w5.cell? ⟨w.heap.size, 4, none⟩ = some (.int .i64 (e : Int)) := wcell (cs := [_, _, _, _, _, _]) er5 4; have y6 : w5.cell? ⟨w.heap.size, 5, none⟩ = some (.int .i64 (f : Int)) := wcell (cs := [_, _, _, _, _, _]) er5 5; obtain ⟨ks5, hK5, hm5⟩ := hK2.out.put hst'.out hown5; have hown6 := Lib.hid hK5.1; have hat5 := Lib.hid (hK5.2.2.2.2 _ hm5 (.lit (.int .i64 0))); have hM5 : Hid (MapOk w5 mb) := ⟨_, _, hK5⟩; replace hg5 := Lib.hid hg5; replace er5 := Lib.hid er5; clear x1 x2 x3 x4 x5 x6 hK5 hm5 hown5)
              | (at_lookup; refine wpList_lookup_own_int _ rfl _ _ 44 rfl 40 3 .i64 hlaw under44 under3 (zero3 _) mb _ _ rfl hown6.out _ _ rfl hky6.out ?_; intro v2 hat2 hwc2))
            have hg6 := Lib.hid (hg1.out.trans (hgr.out.trans hg5.out))
            have hv : v2 = (gmean l : Int) := by
              rw [hat5.out] at hat2
              injection hat2 with hat2
              injection hat2 with _ hat2
              exact hat2.symm
            go_ret
            exact ⟨by rw [← hl.out, ← hv]; rfl, hM5.out, hg6.out⟩
end Go.Proofs.Ytgbollodgeemlaa
