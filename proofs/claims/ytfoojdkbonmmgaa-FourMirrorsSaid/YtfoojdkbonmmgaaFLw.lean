/- The law FourMirrors: its walk; no conditions but the arguments' kinds. -/
import Derived.Test.YtfoojdkbonmmgaaFRl
import Derived.Test.YtfoojdkbonmmgaaCountF
import Derived.BigQuiet
namespace Go.Proofs.Ytfoojdkbonmmgaa
open Go.RowKit

theorem forty9 : ∀ w : World, Calls Try.prog 6 #[.int .i64 7, .int .i64 6, .int .i64 4, .int .i64 2] w fun e w' => e = .returned (.tuple #[.int .i64 49, .int .i64 0]) ∧ Below w.heap.size w w' := fun w => by
  have h := countF 7 6 4 2 w (by omega) (by omega) (by omega) (by omega) (by omega) (by omega) (by omega) 49 (by show 49 = _; decide +kernel)
  exact h
theorem wb_ex (a b k : Nat) : ∃ wb, WbOk a b k wb := by
  refine ⟨fun cs at_ => @decide (Row4 (cf a b cs) (st cs at_ : Nat) (at_ % a : Nat) (at_ / a : Nat) k) (Classical.propDecidable _), fun cs x y hx hy => ?_⟩
  show @decide (Row4 (cf a b cs) (st cs (y * a + x) : Nat) ((y * a + x) % a : Nat) ((y * a + x) / a : Nat) k) (Classical.propDecidable _) = true ↔ _
  rw [(parts_eq (a := a) (y := y) hx).1, (parts_eq (a := a) (y := y) hx).2]
  exact @decide_eq_true_iff _ (Classical.propDecidable _)
set_option maxRecDepth 20000 in
set_option maxHeartbeats 4000000 in
/-- where the board may not be, or its signs float, or nobody moves. -/
theorem mirN_law (q : Option Addr) (n c : Nat) (W H : Int) (xs : List Int) (w : World) (ki di : Int) (hn : n ≤ 9223372036854775807) (hW1 : -9223372036854775808 ≤ W) (hW2 : W ≤ 9223372036854775807) (hH1 : -9223372036854775808 ≤ H) (hH2 : H ≤ 9223372036854775807) (hx : IntsIn w q n xs) (hno : mayG W H xs = false)
    (hki : -9223372036854775808 ≤ ki ∧ ki ≤ 9223372036854775807) (hdi : -9223372036854775808 ≤ di ∧ di ≤ 9223372036854775807) :
    Calls Try.prog 4 #[.agg #[.int .i64 W, .int .i64 H, .slice q n c], .int .i64 ki, .int .i64 di] w fun e w' => e = .returned (.bool true) ∧ Below w.heap.size w w' := by
  have e0 := heap_alloc_new w (.cells #[.int .i64 W, .int .i64 H, .slice q n c] 29)
  have hb0 := (Below.refl w.heap.size w).alloc (Nat.le_refl _) (.cells #[.int .i64 W, .int .i64 H, .slice q n c] 29)
  have hs0 : (w.alloc (.cells #[.int .i64 W, .int .i64 H, .slice q n c] 29)).heap.size = w.heap.size + 1 := by simp
  have HN := Lib.hid (fun W' (h : Below w.heap.size w W') k d => bestN_any q n c W H xs W' k d hn hW1 hW2 hH1 hH2 (hx.below h) hno)
  have PK := Lib.hid (fun W => picked_any ki 5 W hki.1 hki.2 (by omega) (by omega) 5 rfl)
  have PD := Lib.hid (fun W => picked_any di 3 W hdi.1 hdi.2 (by omega) (by omega) 3 rfl)
  have lk := pick_lt ki 5 (by omega)
  have ld := pick_lt di 3 (by omega)
  generalize pick ki 5 = kk at *
  generalize pick di 3 = dd at *
  have HF := Lib.hid (forty9 (w.alloc (.cells #[.int .i64 W, .int .i64 H, .slice q n c] 29)))
  obtain ⟨R, hR⟩ : ∃ R, R = w.heap.size := ⟨_, rfl⟩
  rw [← hR] at e0 hb0 hs0
  replace e0 := Lib.hid e0; replace hb0 := Lib.hid hb0; replace hs0 := Lib.hid hs0; replace hR := Lib.hid hR
  clear hx hki hdi
  go_enter Try.func4, Try.ntmps4
  go_upto_region 1 with fail
  rw [← hR.out]
  generalize w.alloc (.cells #[.int .i64 W, .int .i64 H, .slice q n c] 29) = W1 at *
  go_wp2_with fail
  refine HF.out.mono ?_
  rintro e W2 ⟨rfl, hb2⟩
  rw [hs0.out] at hb2
  have e2 := (hb2.block R (by omega)).trans e0.out
  have hb02 := Lib.hid (hb0.out.trans (hb2.mono (by omega)))
  have d0 := wcell (cs := [_, _, _]) e2 0
  have d1 := wcell (cs := [_, _, _]) e2 1
  have d2 := wcell (cs := [_, _, _]) e2 2
  have HN2 := Lib.hid (HN.out W2 (by rw [← hR.out]; exact hb02.out))
  replace e2 := Lib.hid e2
  clear HF hb2 HN
  go_wp2_with fail
  refine (PK.out _).mono ?_
  rintro e w' ⟨rfl, rfl⟩
  go_wp2_with fail
  refine (PD.out _).mono ?_
  rintro e w' ⟨rfl, rfl⟩
  clear PK PD
  go_wp2_with fail
  refine (HN2.out _ _).mono ?_
  rintro e W3 ⟨rfl, hb3⟩
  have hfin : Hid (Below w.heap.size w W3) := by
    have := hb02.out
    rw [hR.out] at this
    exact this.trans (hb3.mono this.size)
  clear HN2 hb3 d0 d1 d2
  go_wp2_with fail
  go_ret
  exact ⟨rfl, hfin.out⟩
theorem mov_ld {s : List Nat} {n : Nat} (h : movS s n ≠ 0) : (1 : Int) + ldS s n = (movS s n : Nat) ∧ (movS s n = 1 ∨ movS s n = 2) := by
  unfold movS at h ⊢
  split
  · rename_i h0; rw [h0]; exact ⟨rfl, .inl rfl⟩
  · split
    · rename_i h1; rw [h1]; exact ⟨rfl, .inr rfl⟩
    · rename_i h0 h1; rw [if_neg h0, if_neg h1] at h; exact absurd rfl h
theorem TL_mem {wb : List Nat → Nat → Bool} {s : List Nat} {who n j : Nat} (h : j < (TL wb s who n).length) : st (TL wb s who n) j < n ∧ st (TL wb s who n) j ∈ TL wb s who n := by
  have hm : st (TL wb s who n) j ∈ TL wb s who n := by unfold st; rw [List.getElem?_eq_getElem h]; exact List.getElem_mem h
  refine ⟨?_, hm⟩
  have := (List.mem_filter.1 hm).1
  exact List.mem_range.1 this
def FlJ (T s : List Nat) (a n i : Nat) : Prop := ∃ j, j < i ∧ (n ≤ st T j + a ∨ st s (st T j + a) ≠ 0)
theorem FlJ.next {T s : List Nat} {a n i : Nat} (h : ¬ (n ≤ st T i + a ∨ st s (st T i + a) ≠ 0)) : FlJ T s a n (i + 1) ↔ FlJ T s a n i := by
  constructor
  · rintro ⟨j, h1, h2⟩
    rcases Nat.lt_or_ge j i with h3 | h3
    · exact ⟨j, h3, h2⟩
    · obtain rfl : j = i := by omega
      exact absurd h2 h
  · rintro ⟨j, h1, h2⟩; exact ⟨j, by omega, h2⟩
theorem FlJ.all {wb : List Nat → Nat → Bool} {s : List Nat} {who a n : Nat} : FlJ (TL wb s who n) s a n (TL wb s who n).length ↔ Falls wb a n s who := by
  constructor
  · rintro ⟨j, h1, h2⟩; exact ⟨_, (TL_mem h1).2, h2⟩
  · rintro ⟨t, ht, h2⟩
    obtain ⟨j, hj, rfl⟩ := List.getElem_of_mem ht
    exact ⟨j, hj, by unfold st at h2 ⊢; rw [List.getElem?_eq_getElem hj]; exact h2⟩
set_option maxRecDepth 20000 in
set_option maxHeartbeats 8000000 in
theorem mir_law (q : Option Addr) (n c a b : Nat) (s : List Nat) (w : World) (ki di : Int) (ha1 : 1 ≤ a) (ha : a ≤ 10) (hb1 : 1 ≤ b) (hb : b ≤ 10) (hn : n = a * b) (hx : IntsIn w q n (asI s)) (hs : ∀ j, st s j ≤ 2)
    (hki : -9223372036854775808 ≤ ki ∧ ki ≤ 9223372036854775807) (hdi : -9223372036854775808 ≤ di ∧ di ≤ 9223372036854775807) :
    Calls Try.prog 4 #[.agg #[.int .i64 (a : Int), .int .i64 (b : Int), .slice q n c], .int .i64 ki, .int .i64 di] w fun e w' => e = .returned (.bool true) ∧ Below w.heap.size w w' := by
  have e0 := heap_alloc_new w (.cells #[.int .i64 (a : Int), .int .i64 (b : Int), .slice q n c] 29)
  have hb0 := (Below.refl w.heap.size w).alloc (Nat.le_refl _) (.cells #[.int .i64 (a : Int), .int .i64 (b : Int), .slice q n c] 29)
  have hs0 : (w.alloc (.cells #[.int .i64 (a : Int), .int .i64 (b : Int), .slice q n c] 29)).heap.size = w.heap.size + 1 := by simp
  have PK := Lib.hid (fun W => picked_any ki 5 W hki.1 hki.2 (by omega) (by omega) 5 rfl)
  have PD := Lib.hid (fun W => picked_any di 3 W hdi.1 hdi.2 (by omega) (by omega) 3 rfl)
  have lk := pick_lt ki 5 (by omega)
  have ld := pick_lt di 3 (by omega)
  generalize pick ki 5 = kk at *
  generalize pick di 3 = dd at *
  obtain ⟨k, hk⟩ : ∃ k, k = kk + 1 := ⟨_, rfl⟩
  obtain ⟨deep, hdp⟩ : ∃ d, d = dd + 1 := ⟨_, rfl⟩
  have hki1 : (1 : Int) + (kk : Int) = (k : Int) := by omega
  have hdi1 : (1 : Int) + (dd : Int) = (deep : Int) := by omega
  have hk5 : 1 ≤ k ∧ k ≤ 5 := by omega
  have hd3 : deep ≤ 3 := by omega
  obtain ⟨hk51, hk52⟩ := hk5
  obtain ⟨wb, hwb⟩ := wb_ex a b k
  have hn100 : n ≤ 100 := by rw [hn]; exact Nat.mul_le_mul ha hb
  have hn1 : 1 ≤ n := by rw [hn]; exact Nat.mul_le_mul ha1 hb1
  have hsl : s.length = n := by have := hx.len; simpa [asI] using this
  have hMr := mr_mirN hn hsl
  have hs' : ∀ j, st (mirN s a n) j ≤ 2 := fun j => by
    by_cases hj : j < n
    · have hj' := hj
      rw [hn] at hj'
      obtain ⟨p1, p2, p3⟩ := parts hj'
      rw [← p3, hMr.at' _ _ p1 p2]; exact hs _
    · unfold st; rw [List.getElem?_eq_none (by rw [hMr.l']; omega)]; exact Nat.zero_le _
  have HBs := Lib.hid (fun W' (h : Below w.heap.size w W') => best_any wb q n c a b k deep s W' ha1 ha hb1 hb hn (hx.below h) hs hk51 (by omega) (by omega) hwb)
  have HBm := Lib.hid (fun W' p c' (h : IntsIn W' p n (asI (mirN s a n))) => best_any wb p n c' a b k deep (mirN s a n) W' ha1 ha hb1 hb hn h hs' hk51 (by omega) (by omega) hwb)
  have HMi := Lib.hid (fun W' (h : Below w.heap.size w W') => mirrored_any q n c a b s W' ha1 ha hb hn (hx.below h))
  have HTh := Lib.hid (fun W' who (h : Below w.heap.size w W') hw hst => threats_any wb q n c a b k who s W' ha1 ha hb1 hb hn (hx.below h) hs hk51 (by omega) hw hst hwb)
  have HRw := Lib.hid (fun W' (h : Below w.heap.size w W') => rWon_any q n c a b k s W' ha1 ha hb1 hb hn (hx.below h) hs hk51 (by omega))
  have HX := Lib.hid (fun W' (h : Below w.heap.size w W') => hx.below h)
  have HF := Lib.hid (forty9 (w.alloc (.cells #[.int .i64 (a : Int), .int .i64 (b : Int), .slice q n c] 29)))
  obtain ⟨R, hR⟩ : ∃ R, R = w.heap.size := ⟨_, rfl⟩
  rw [← hR] at e0 hb0 hs0
  replace e0 := Lib.hid e0; replace hb0 := Lib.hid hb0; replace hs0 := Lib.hid hs0; replace hR := Lib.hid hR
  replace hk := Lib.hid hk; replace hdp := Lib.hid hdp; replace hwb := Lib.hid hwb; replace hn := Lib.hid hn; replace hsl := Lib.hid hsl; replace hMr := Lib.hid hMr; replace hs := Lib.hid hs; replace hs' := Lib.hid hs'
  clear hx hki hdi
  go_enter Try.func4, Try.ntmps4
  go_upto_region 1 with fail
  rw [← hR.out]
  generalize w.alloc (.cells #[.int .i64 (a : Int), .int .i64 (b : Int), .slice q n c] 29) = W1 at *
  go_wp2_with fail
  refine HF.out.mono ?_
  rintro e W2 ⟨rfl, hb2⟩
  rw [hs0.out] at hb2
  have e2 := (hb2.block R (by omega)).trans e0.out
  have hb02 := hb0.out.trans (hb2.mono (by omega))
  have hz2 : R + 1 ≤ W2.heap.size := by have := hb2.size; have := hs0.out; omega
  have HD := Lib.hid (fun W (h : Below (R + 1) W2 W) => (h.block R (by omega)).trans e2)
  have HW := Lib.hid (fun W (h : Below (R + 1) W2 W) => (by have := hb02.trans (h.mono (by omega)); rw [hR.out] at this; exact this : Below w.heap.size w W))
  have HZ := Lib.hid (fun W (h : Below (R + 1) W2 W) => (Nat.le_trans hz2 h.size : R + 1 ≤ W.heap.size))
  have b2 := Below.refl (R + 1) W2
  have d0 := wcell (cs := [_, _, _]) e2 0
  have d1 := wcell (cs := [_, _, _]) e2 1
  have d2 := wcell (cs := [_, _, _]) e2 2
  have HB2 := Lib.hid (HBs.out W2 (HW.out W2 b2))
  replace e2 := Lib.hid e2; replace b2 := Lib.hid b2
  clear HF hb2 HBs hb02
  go_wp2_with fail
  refine (PK.out _).mono ?_
  rintro e w' ⟨rfl, rfl⟩
  go_wp2_with fail
  refine (PD.out _).mono ?_
  rintro e w' ⟨rfl, rfl⟩
  clear PK PD
  go_wp2_with fail
  refine HB2.out.mono ?_
  rintro e W3 ⟨hb3, hr⟩
  have b3 := b2.out.trans (hb3.mono hz2)
  clear HB2 hb3 d0 d1 d2
  rcases hr with ⟨_, rfl⟩ | ⟨_, _, rfl⟩ | ⟨hst, hmv, v, cc, rfl, hbv⟩
  · have hfin := Lib.hid (HW.out W3 b3)
    replace b3 := Lib.hid b3
    go_wp2_with fail
    go_ret
    exact ⟨rfl, hfin.out⟩
  · have hfin := Lib.hid (HW.out W3 b3)
    replace b3 := Lib.hid b3
    go_wp2_with fail
    go_ret
    exact ⟨rfl, hfin.out⟩
  · have e3 := HD.out W3 b3
    have d0 := wcell (cs := [_, _, _]) e3 0
    have d1 := wcell (cs := [_, _, _]) e3 1
    have d2 := wcell (cs := [_, _, _]) e3 2
    have HM3 := Lib.hid (HMi.out W3 (HW.out W3 b3))
    replace e3 := Lib.hid e3; replace b3 := Lib.hid b3; replace hst := Lib.hid hst; replace hmv := Lib.hid hmv; replace hbv := Lib.hid hbv
    clear HMi
    go_wp2_with fail
    refine HM3.out.mono ?_
    rintro e W4 ⟨p, c4, rfl, hin4, hb4⟩
    have b4 := b3.out.trans (hb4.mono (HZ.out W3 b3.out))
    have HB4 := Lib.hid (HBm.out W4 p c4 hin4)
    replace b4 := Lib.hid b4
    clear HM3 hb4 hin4 HBm d0 d1 d2
    go_wp2_with fail
    refine HB4.out.mono ?_
    rintro e W5 ⟨hb5, hr5⟩
    have b5 := b4.out.trans (hb5.mono (HZ.out W4 b4.out))
    clear HB4 hb5
    rcases hr5 with ⟨hns, _⟩ | ⟨_, hm0, _⟩ | ⟨_, _, v', cc', rfl, hbv'⟩
    · exact absurd (hMr.out.stk hst.out) hns
    · exact absurd (by rw [← hMr.out.mov]; exact hm0) hmv.out
    · rw [hMr.out.mov] at hbv'
      obtain rfl : v = v' := hMr.out.bv hwb.out hbv.out hbv'
      have e5 := HD.out W5 b5
      have d0 := wcell (cs := [_, _, _]) e5 0
      have d1 := wcell (cs := [_, _, _]) e5 1
      have d2 := wcell (cs := [_, _, _]) e5 2
      obtain ⟨qb, qo, rfl, hqb, hqc⟩ := (HX.out W5 (HW.out W5 b5)).at hn1
      have hqi : Hid (∀ i, i < n → W5.cell? ⟨qb, qo + i, none⟩ = some (.int .i64 (st s i : Nat))) := fun i hi => by have := hqc i hi; rwa [asI_at] at this
      obtain ⟨hml, hm12⟩ := mov_ld hmv.out
      obtain ⟨who, hwho⟩ : ∃ who, who = movS s n := ⟨_, rfl⟩
      rw [← hwho] at hml hm12 hbv
      replace hwho := Lib.hid hwho; replace hm12 := Lib.hid hm12; replace hml := Lib.hid hml
      replace b5 := Lib.hid b5; replace e5 := Lib.hid e5
      clear hbv' hqc hqb
      go_wp2_with fail
      go_loopg [16, 17] n (fun gk lv jv W' => ∃ j : Nat, gk = n - j ∧ j ≤ n ∧ jv = .int .i64 (j : Nat) ∧ lv = .int .i64 (ldS s j) ∧ W5 = W')
      case atStart => exact ⟨0, by omega, by omega, rfl, rfl, rfl⟩
      case round =>
        obtain ⟨j, hgk, hj, rfl, rfl, rfl⟩ := hrel
        replace hgk := Lib.hid hgk
        rcases Nat.lt_or_ge j n with hlt | hge
        · have cj := hqi.out j hlt
          have hl : Hid (ldS s (j + 1) = ldS s j + (if st s j = 1 then 1 else if st s j = 2 then -1 else 0)) := rfl
          obtain ⟨hbd1, hbd2⟩ := ldS_bd s j
          have hs2 := hs.out j
          generalize hsv : st s j = sv at *
          replace hsv := Lib.hid hsv
          rcases (show sv = 1 ∨ sv = 2 ∨ sv = 0 by omega) with rfl | rfl | rfl
          · have hl2 : Hid (ldS s (j + 1) = ldS s j + 1) := hl.out
            go_wp2_with fail
            have hgk := hgk.out
            go_roundg (n - (j + 1))
            case measure => omega
            case rel => exact ⟨j + 1, rfl, by omega, by go_num, by rw [hl2.out], rfl⟩
          · have hl2 : Hid (ldS s (j + 1) = ldS s j - 1) := by show _ = _; rw [hl.out, if_neg (by omega), if_pos rfl]; omega
            go_wp2_with fail
            have hgk := hgk.out
            go_roundg (n - (j + 1))
            case measure => omega
            case rel => exact ⟨j + 1, rfl, by omega, by go_num, by rw [hl2.out], rfl⟩
          · have hl2 : Hid (ldS s (j + 1) = ldS s j) := by show _ = _; rw [hl.out, if_neg (by omega), if_neg (by omega)]; omega
            go_wp2_with fail
            have hgk := hgk.out
            go_roundg (n - (j + 1))
            case measure => omega
            case rel => exact ⟨j + 1, rfl, by omega, by go_num, by rw [hl2.out], rfl⟩
        · obtain rfl : j = n := by omega
          clear hge hgk hj
          have hml' := hml.out
          have hld2 : -1 ≤ ldS s j ∧ ldS s j ≤ 1 := by rcases hm12.out with e | e <;> rw [e] at hml' <;> omega
          have HT := Lib.hid (HTh.out W5 who (HW.out W5 b5.out) hm12.out hst.out)
          generalize ldS s j = lead at *
          obtain ⟨hl1, hl2⟩ := hld2
          clear HTh
          go_wp2_with fail
          refine HT.out.mono ?_
          rintro e W6 ⟨hb6, tq, tc, rfl, hti⟩
          have b6 := b5.out.trans (hb6.mono (HZ.out W5 b5.out))
          have e6 := HD.out W6 b6
          clear HT d0 d1 d2 hb6 e5
          have d0 := wcell (cs := [_, _, _]) e6 0
          have d1 := wcell (cs := [_, _, _]) e6 1
          have d2 := wcell (cs := [_, _, _]) e6 2
          have HR6 := Lib.hid (HRw.out W6 (HW.out W6 b6))
          replace b6 := Lib.hid b6; replace e6 := Lib.hid e6; replace hti := Lib.hid hti
          clear HRw
          go_wp2_with fail
          refine HR6.out.mono ?_
          rintro e W7 ⟨⟨wv, rfl⟩, hb7⟩
          have b7 := b6.out.trans (hb7.mono (HZ.out W6 b6.out))
          have hti7 := Lib.hid (hti.out.below hb7)
          have e7 := HD.out W7 b7
          have hfin := Lib.hid (HW.out W7 b7)
          have HX7 := HX.out W7 (HW.out W7 b7)
          clear HR6 d0 d1 d2 hb7 e6 hqi
          have d0 := wcell (cs := [_, _, _]) e7 0
          have d2 := wcell (cs := [_, _, _]) e7 2
          have hov : Hid (Theirs wb s who j ∨ Mine wb s who j → won s (LY a b k b) ≠ 0) := fun h => over_won (who := who) hn.out hk51 hwb.out (by have := hm12.out; omega) h
          obtain ⟨won7, hwn⟩ : ∃ won7, won7 = won s (LY a b k b) := ⟨_, rfl⟩
          rw [← hwn] at hov ⊢
          replace hwn := Lib.hid hwn; replace e7 := Lib.hid e7; replace b7 := Lib.hid b7
          by_cases hw0 : won7 = 0
          · subst hw0
            have hnt : Hid (¬ Theirs wb s who j) := fun h => hov.out (.inl h) rfl
            have hnm : Hid (¬ Mine wb s who j) := fun h => hov.out (.inr h) rfl
            have hvm : Hid (v = mm wb a b deep 0 s who) := by
              rcases hbv.out with ⟨h1, _⟩ | ⟨_, h1, _⟩ | ⟨_, _, h1⟩
              · exact absurd h1 hnt.out
              · exact absurd h1 hnm.out
              · exact h1
            have hfi : Hid (Falls wb a j s who ↔ v = 99) := by
              have := falls_iff (f := deep - 1) (who := who) (wb := wb) hn.out hst.out (by omega)
              rw [show deep - 1 + 1 = deep by have := hdp.out; omega, ← hvm.out] at this
              exact this
            obtain ⟨qb', qo', eq', _, hqc7⟩ := HX7.at hn1
            cases eq'
            have hqi7 : Hid (∀ i, i < j → W7.cell? ⟨qb, qo + i, none⟩ = some (.int .i64 (st s i : Nat))) := fun i hi => by have := hqc7 i hi; rwa [asI_at] at this
            obtain ⟨T, hT⟩ : ∃ T, T = TL wb s who j := ⟨_, rfl⟩
            have hTm : Hid (∀ i, i < T.length → st T i < j) := fun i hi => by rw [hT] at hi ⊢; exact (TL_mem hi).1
            have hTa : Hid (FlJ T s a j T.length ↔ Falls wb a j s who) := by rw [hT]; exact FlJ.all
            have hTl : T.length ≤ 100 := by rw [hT]; exact Nat.le_trans (TL_len _ _ _ _) hn100
            rw [← hT] at hti7
            obtain ⟨tl, htl⟩ : ∃ tl, tl = T.length := ⟨_, rfl⟩
            have htls : (TL wb s who j).length = tl := by rw [← hT]; exact htl.symm
            rw [htls]
            rw [← htl] at hti7 hTm hTa hTl
            replace hT := Lib.hid hT; replace htl := Lib.hid htl; replace htls := Lib.hid htls
            clear HX7 hqc7 hov hti
            go_wp2_with fail
            go_loopg [22, 23] tl (fun gk fv iv W' => ∃ (fb : Bool) (i r : Nat), gk = tl - i ∧ i ≤ tl ∧ fv = .bool fb ∧ iv = .int .i64 (i : Nat) ∧ Hid (Tel fb (FlJ T s a j i)) ∧ W' = W7.drewN r)
            case atStart => exact ⟨false, 0, 0, by omega, by omega, rfl, rfl, ⟨(fun h => by cases h), fun ⟨i, hi, _⟩ => absurd hi (Nat.not_lt_zero _)⟩, rfl⟩
            case round =>
              obtain ⟨fb, i, r, hgk, hi, rfl, rfl, hFb, rfl⟩ := hrel
              replace hgk := Lib.hid hgk
              rcases Nat.lt_or_ge i tl with hlt | hge
              · obtain ⟨tb, to_, rfl, _, htc⟩ := hti7.out.at (by omega)
                have ct := htc i hlt
                rw [asI_at] at ct
                have htn := hTm.out i hlt
                have hnx : Hid (¬ (j ≤ st T i + a ∨ st s (st T i + a) ≠ 0) → (FlJ T s a j (i + 1) ↔ FlJ T s a j i)) := FlJ.next
                have hys : Hid ((j ≤ st T i + a ∨ st s (st T i + a) ≠ 0) → FlJ T s a j (i + 1)) := fun h => ⟨i, by omega, h⟩
                have hup : Hid (FlJ T s a j i → FlJ T s a j (i + 1)) := fun ⟨j', h1, h2⟩ => ⟨j', by omega, h2⟩
                have hcel := hqi7.out
                generalize st T i = tt at *
                clear htc
                cases fb with
                | true =>
                  have hF2 : Hid (Tel true (FlJ T s a j (i + 1))) := ⟨fun _ => hup.out (hFb.out.1 rfl), fun _ => rfl⟩
                  clear hcel
                  go_wp2_with fail
                  go_quiet (fail)
                  go_wp2_with fail
                  have hgk := hgk.out
                  go_roundg (tl - (i + 1))
                  case measure => omega
                  case rel => exact ⟨true, i + 1, r + nq, rfl, by omega, rfl, by go_num, hF2, rfl⟩
                | false =>
                  rcases Nat.lt_or_ge (tt + a) j with hja | hja
                  · have cs := hcel (tt + a) hja
                    obtain ⟨S, hS⟩ : ∃ S, S = tt + a := ⟨_, rfl⟩
                    have hSi : (tt : Int) + (a : Int) = (S : Int) := by omega
                    rw [← hS] at cs hja hnx hys
                    have hSd : decide ((j : Int) ≤ (S : Int)) = false := decide_eq_false (by omega)
                    have hSn : ¬ (j : Int) ≤ (S : Int) := by omega
                    have hSj : (S : Int) < (j : Int) := by omega
                    have hS0 : (0 : Int) ≤ (S : Int) := by omega
                    have hSw : IntKind.i64.wrap (S : Int) = (S : Int) := IntWalk.i64_in _ (by omega)
                    replace hS := Lib.hid hS
                    clear hcel
                    by_cases hz : st s S = 0
                    · have hneg : ¬ (j ≤ S ∨ st s S ≠ 0) := by
                        rintro (h | h)
                        · omega
                        · exact h hz
                      have hF2 : Hid (Tel false (FlJ T s a j (i + 1))) := hFb.out.no (hnx.out hneg)
                      clear hneg
                      rw [hz] at cs
                      go_wp2_with fail
                      go_quiet (fail)
                      go_wp2_with fail
                      have hgk := hgk.out
                      go_roundg (tl - (i + 1))
                      case measure => omega
                      case rel => exact ⟨false, i + 1, r + nq, rfl, by omega, (by first | rfl | (rw [decide_eq_false (show ¬ j ≤ S by omega)]) | (simp; omega)), by go_num, hF2, rfl⟩
                    · have hF2 : Hid (Tel true (FlJ T s a j (i + 1))) := ⟨fun _ => hys.out (.inr hz), fun _ => rfl⟩
                      generalize st s S = bv at *
                      have hbi : ¬ (bv : Int) = 0 := by omega
                      have hbd : decide ((bv : Int) = 0) = false := decide_eq_false hbi
                      have hbb : ((bv : Int) != 0) = true := by simp; omega
                      go_wp2_with fail
                      go_quiet (fail)
                      go_wp2_with fail
                      have hgk := hgk.out
                      go_roundg (tl - (i + 1))
                      case measure => omega
                      case rel => exact ⟨true, i + 1, r + nq, rfl, by omega, rfl, by go_num, hF2, rfl⟩
                  · have hF2 : Hid (Tel true (FlJ T s a j (i + 1))) := ⟨fun _ => hys.out (.inl hja), fun _ => rfl⟩
                    have hSd : decide ((j : Int) ≤ (tt : Int) + (a : Int)) = true := decide_eq_true (by omega)
                    clear hcel
                    go_wp2_with fail
                    go_quiet (fail)
                    go_wp2_with fail
                    have hgk := hgk.out
                    go_roundg (tl - (i + 1))
                    case measure => omega
                    case rel => exact ⟨true, i + 1, r + nq, rfl, by omega, rfl, by go_num, hF2, rfl⟩
              · obtain rfl : i = tl := by omega
                have hend : Tel fb (v = 99) := Iff.trans hFb.out (Iff.trans hTa.out hfi.out)
                clear d0 d2
                cases fb with
                | true =>
                  obtain rfl : v = 99 := hend.1 rfl
                  go_wp2_with fail
                  go_ret
                  exact ⟨rfl, below_drewN hfin.out r⟩
                | false =>
                  have hv99 : ¬ v = 99 := fun h => by have := hend.2 h; cases this
                  have hvb : (v == 99) = false := by simp [hv99]
                  have hvd : decide (v = 99) = false := decide_eq_false hv99
                  replace hend := Lib.hid hend
                  go_wp2_with fail
                  go_ret
                  exact ⟨rfl, below_drewN hfin.out r⟩
          · have hwp : (0 : Int) < (won7 : Int) := by omega
            have hwd : decide ((0 : Int) < (won7 : Int)) = true := decide_eq_true hwp
            clear hov HX7
            go_wp2_with fail
            go_ret
            exact ⟨rfl, hfin.out⟩
end Go.Proofs.Ytfoojdkbonmmgaa
