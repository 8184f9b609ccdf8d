/- Who moves, and what Best answers; conditions: the board's dimensions, k of 1 to 10, the depth at most 6. -/
import Derived.Test.YtfoojdkbonmmgaaFOp
import Derived.Test.YtfoojdkbonmmgaaFall
namespace Go.Proofs.Ytfoojdkbonmmgaa
open Go.RowKit

def ldS (s : List Nat) : Nat → Int
  | 0 => 0
  | j + 1 => ldS s j + (if st s j = 1 then 1 else if st s j = 2 then -1 else 0)
theorem ldS_bd (s : List Nat) : ∀ j : Nat, -(j : Int) ≤ ldS s j ∧ ldS s j ≤ j
  | 0 => ⟨by simp [ldS], by simp [ldS]⟩
  | j + 1 => by
    have := ldS_bd s j
    unfold ldS
    split
    · omega
    · split <;> omega
def movS (s : List Nat) (n : Nat) : Nat := if ldS s n = 0 then 1 else if ldS s n = 1 then 2 else 0
theorem sgn3 (c : Nat) (hc : c ≤ 2) : ∀ w, (Instr.index 58 (.agg #[.int .i64 0, .int .i64 1, .int .i64 (-1)]) (.int .i64 c)).run Try.prog w = .ok (.int .i64 (if c = 1 then 1 else if c = 2 then -1 else 0)) w := by
  rcases (show c = 0 ∨ c = 1 ∨ c = 2 by omega) with rfl | rfl | rfl
  · exact fun w => by kernel_rfl
  · exact fun w => by kernel_rfl
  · exact fun w => by kernel_rfl
set_option maxHeartbeats 1000000 in
theorem mover_any (wl g gc W H k n : Nat) (cs : List Nat) (w : World) (mv : Int) (hn : n ≤ 100) (h2 : ∀ j, st cs j ≤ 2)
    (hwl : w.heap[wl]? = some (.cells #[.int .i64 W, .int .i64 H, .slice (some ⟨g, 0, none⟩) n gc, .int .i64 k, .int .i64 mv] 41 (0, 0))) (hg : IntsIn w (some ⟨g, 0, none⟩) n (asI cs)) :
    Calls Try.prog 16 #[.pointer (some ⟨wl, 0, none⟩)] w fun e w' => e = .returned (.int .i64 (movS cs n : Nat)) ∧ w = w' := by
  obtain ⟨c0, c1, c2, c3⟩ := wcells hwl
  have HG := Lib.hid (fun i (hi : i < n) => (by
    obtain ⟨b, o, e, _, hc⟩ := hg.at (by omega)
    cases e
    have := hc i hi
    rw [Nat.zero_add, asI_at] at this
    exact this : w.cell? ⟨g, i, none⟩ = some (.int .i64 (st cs i : Nat))))
  replace hwl := Lib.hid hwl; replace h2 := Lib.hid h2
  clear hg
  go_enter Try.func16, Try.ntmps16
  go_wp2_with fail
  go_loopg [3, 12] n (fun gk lv jv W' => ∃ j : Nat, gk = n - j ∧ j ≤ n ∧ jv = .int .i64 (j : Nat) ∧ lv = .int .i64 (ldS cs j) ∧ w = W')
  case atStart => exact ⟨0, by omega, by omega, rfl, rfl, rfl⟩
  case round =>
    obtain ⟨j, hgk, hj, rfl, rfl, rfl⟩ := hrel
    replace hgk := Lib.hid hgk
    have hbd := ldS_bd cs j
    obtain ⟨hbd1, hbd2⟩ := hbd
    rcases Nat.lt_or_ge j n with hlt | hge
    · have cj := HG.out j hlt
      have hs := sgn3 (st cs j) (h2.out j)
      have hl : Hid (ldS cs (j + 1) = ldS cs j + (if st cs j = 1 then 1 else if st cs j = 2 then -1 else 0)) := rfl
      have hd3 : -1 ≤ (if st cs j = 1 then (1 : Int) else if st cs j = 2 then -1 else 0) ∧ (if st cs j = 1 then (1 : Int) else if st cs j = 2 then -1 else 0) ≤ 1 := by
        by_cases e1 : st cs j = 1
        · rw [if_pos e1]; omega
        · rw [if_neg e1]
          by_cases e2 : st cs j = 2
          · rw [if_pos e2]; omega
          · rw [if_neg e2]; omega
      generalize (if st cs j = 1 then (1 : Int) else if st cs j = 2 then -1 else 0) = d at *
      generalize st cs j = c at *
      obtain ⟨hd31, hd32⟩ := hd3
      go_wp2_with fail
      have hgk := hgk.out
      go_roundg (n - (j + 1))
      case measure => omega
      case rel => exact ⟨j + 1, rfl, by omega, by go_num, by first | rfl | (rw [hl.out]), rfl⟩
    · obtain rfl : j = n := by omega
      by_cases h0 : ldS cs j = 0
      · have hm : movS cs j = 1 := if_pos h0
        rw [h0]
        replace h0 := Lib.hid h0; replace hm := Lib.hid hm
        go_wp2_with fail
        go_ret
        exact ⟨by rw [hm.out]; rfl, rfl⟩
      · by_cases h1 : ldS cs j = 1
        · have hm : movS cs j = 2 := by unfold movS; rw [if_neg h0, if_pos h1]
          rw [h1]
          replace h0 := Lib.hid h0; replace h1 := Lib.hid h1; replace hm := Lib.hid hm
          go_wp2_with fail
          go_ret
          exact ⟨by rw [hm.out]; rfl, rfl⟩
        · have hm : Hid (movS cs j = 0) := by show _ = _; unfold movS; rw [if_neg h0, if_neg h1]
          rcases Int.lt_or_le (ldS cs j) 0 with hneg | hpos
          · have hd : decide (ldS cs j < 0) = true := decide_eq_true hneg
            go_wp2_with fail
            go_ret
            exact ⟨by rw [hm.out]; rfl, rfl⟩
          · have hd : decide (ldS cs j < 0) = false := decide_eq_false (by omega)
            have hd1 : (1 : Int) < ldS cs j := by omega
            have hd2 : decide ((1 : Int) < ldS cs j) = true := decide_eq_true hd1
            go_wp2_with fail
            go_ret
            exact ⟨by rw [hm.out]; rfl, rfl⟩
def Mine (wb : List Nat → Nat → Bool) (s : List Nat) (who j : Nat) : Prop := ∃ i, i < j ∧ st s i = who ∧ wb s i = true
def Theirs (wb : List Nat → Nat → Bool) (s : List Nat) (who j : Nat) : Prop := ∃ i, i < j ∧ 0 < st s i ∧ st s i ≠ who ∧ wb s i = true
def Tel (b : Bool) (P : Prop) : Prop := b = true ↔ P
theorem Tel.no {b : Bool} {P Q : Prop} (h : Tel b P) (hq : Q ↔ P) : Tel b Q := Iff.trans h hq.symm
theorem Mine.next {wb : List Nat → Nat → Bool} {s : List Nat} {who j : Nat} (h : ¬ (st s j = who ∧ wb s j = true)) : Mine wb s who (j + 1) ↔ Mine wb s who j := by
  constructor
  · rintro ⟨i, h1, h2⟩
    rcases Nat.lt_or_ge i j with h4 | h4
    · exact ⟨i, h4, h2⟩
    · obtain rfl : i = j := by omega
      exact absurd h2 h
  · rintro ⟨i, h1, h2⟩
    exact ⟨i, by omega, h2⟩
theorem Theirs.next {wb : List Nat → Nat → Bool} {s : List Nat} {who j : Nat} (h : ¬ (0 < st s j ∧ st s j ≠ who ∧ wb s j = true)) : Theirs wb s who (j + 1) ↔ Theirs wb s who j := by
  constructor
  · rintro ⟨i, h1, h2⟩
    rcases Nat.lt_or_ge i j with h4 | h4
    · exact ⟨i, h4, h2⟩
    · obtain rfl : i = j := by omega
      exact absurd h2 h
  · rintro ⟨i, h1, h2⟩
    exact ⟨i, by omega, h2⟩
/-- the value that Best tells. -/
def BV (wb : List Nat → Nat → Bool) (a b n deep : Nat) (s : List Nat) (who : Nat) (v : Int) : Prop :=
  (Theirs wb s who n ∧ v = -100) ∨ (¬ Theirs wb s who n ∧ Mine wb s who n ∧ v = 100) ∨ (¬ Theirs wb s who n ∧ ¬ Mine wb s who n ∧ v = mm wb a b deep 0 s who)
theorem AB.whole {v r : Int} (h : AB v (-1000) 1000 r) (h1 : -100 ≤ r) (h2 : r ≤ 100) : r = v := h.2.2 (by omega) (by omega)
/-- what Best leaves. -/
def BestEnd (wb : List Nat → Nat → Bool) (w : World) (a b n deep : Nat) (s : List Nat) (e : Ending) (W' : World) : Prop :=
  Below w.heap.size w W' ∧ ((¬ Stk a n s ∧ e = .returned (.tuple #[.int .i64 0, .int .i64 0, .int .i64 12])) ∨ (Stk a n s ∧ movS s n = 0 ∧ e = .returned (.tuple #[.int .i64 0, .int .i64 0, .int .i64 7])) ∨
    (Stk a n s ∧ movS s n ≠ 0 ∧ ∃ v c : Int, e = .returned (.tuple #[.int .i64 v, .int .i64 c, .int .i64 0]) ∧ BV wb a b n deep s (movS s n) v))
theorem bestN_any (q : Option Addr) (n c : Nat) (W H : Int) (xs : List Int) (w : World) (k d : Int) (hn : n ≤ 9223372036854775807) (hW1 : -9223372036854775808 ≤ W) (hW2 : W ≤ 9223372036854775807) (hH1 : -9223372036854775808 ≤ H) (hH2 : H ≤ 9223372036854775807) (hx : IntsIn w q n xs) (hno : mayG W H xs = false) :
    Calls Try.prog 7 #[.agg #[.int .i64 W, .int .i64 H, .slice q n c], .int .i64 k, .int .i64 d] w fun e w' => e = .returned (.tuple #[.int .i64 0, .int .i64 0, .int .i64 12]) ∧ Below w.heap.size w w' := by
  have e0 := heap_alloc_new w (.cells #[.int .i64 W, .int .i64 H, .slice q n c] 29)
  have hb0 := (Below.refl w.heap.size w).alloc (Nat.le_refl _) (.cells #[.int .i64 W, .int .i64 H, .slice q n c] 29)
  have HM := Lib.hid (openedN_any q n c W H xs _ hn hW1 hW2 hH1 hH2 (hx.below hb0) hno)
  have d0 := wcell (cs := [_, _, _]) e0 0
  have d1 := wcell (cs := [_, _, _]) e0 1
  have d2 := wcell (cs := [_, _, _]) e0 2
  replace hb0 := Lib.hid hb0; replace e0 := Lib.hid e0
  clear hx
  go_enter Try.func7, Try.ntmps7
  go_wp2_with fail
  refine HM.out.mono ?_
  rintro e W2 ⟨rfl, hb⟩
  have hbf := Lib.hid (hb0.out.trans (hb.mono hb0.out.size))
  clear HM hb d0 d1 d2
  go_wp2_with fail
  refine bodyPost_ret (v := .tuple #[.int .i64 0, .int .i64 0, .int .i64 12]) (by simp [results, Try.results7, go_sem]) rfl ?_
  exact ⟨rfl, hbf.out⟩
set_option maxRecDepth 20000 in
set_option maxHeartbeats 4000000 in
theorem best_any (wb : List Nat → Nat → Bool) (q : Option Addr) (n c a b k deep : Nat) (s : List Nat) (w : World) (ha1 : 1 ≤ a) (ha : a ≤ 10) (hb1 : 1 ≤ b) (hb : b ≤ 10) (hn : n = a * b) (hx : IntsIn w q n (asI s)) (hs : ∀ j, st s j ≤ 2) (hk1 : 1 ≤ k) (hk : k ≤ 10) (hd : deep ≤ 6)
    (hwb : ∀ cs x y, x < a → y < b → (wb cs (y * a + x) = true ↔ Row4 (cf a b cs) (st cs (y * a + x) : Nat) x y k)) :
    Calls Try.prog 7 #[.agg #[.int .i64 (a : Int), .int .i64 (b : Int), .slice q n c], .int .i64 k, .int .i64 deep] w (BestEnd wb w a b n deep s) := by
  have hn100 : n ≤ 100 := by rw [hn]; exact Nat.mul_le_mul ha hb
  have hsl : s.length = n := by have := hx.len; simpa [asI] using this
  have e0 := heap_alloc_new w (.cells #[.int .i64 (a : Int), .int .i64 (b : Int), .slice q n c] 29)
  have hb0 := (Below.refl w.heap.size w).alloc (Nat.le_refl _) (.cells #[.int .i64 (a : Int), .int .i64 (b : Int), .slice q n c] 29)
  have HM := Lib.hid (opened_any q n c a b s _ ha1 ha hb1 hb hn (hx.below hb0) hs)
  have d0 := wcell (cs := [_, _, _]) e0 0
  have d1 := wcell (cs := [_, _, _]) e0 1
  have d2 := wcell (cs := [_, _, _]) e0 2
  replace hn := Lib.hid hn; replace hs := Lib.hid hs; replace hsl := Lib.hid hsl; replace hwb := Lib.hid hwb
  replace hb0 := Lib.hid hb0; replace e0 := Lib.hid e0
  clear hx
  go_enter Try.func7, Try.ntmps7
  go_wp2_with fail
  generalize w.alloc (.cells #[.int .i64 (a : Int), .int .i64 (b : Int), .slice q n c] 29) = W1 at *
  refine HM.out.mono ?_
  rintro e W2 ⟨hbo, hr⟩
  have hb2 := Lib.hid (hb0.out.trans (hbo.mono hb0.out.size))
  rcases hr with ⟨hns, rfl⟩ | ⟨hst, wl, g, gc, mv, rfl, hmv, hwl, hO, hne, hwb1⟩
  · replace hns := Lib.hid hns
    clear HM hbo d0 d1 d2
    go_wp2_with fail
    refine bodyPost_ret (v := .tuple #[.int .i64 0, .int .i64 0, .int .i64 12]) (by simp [results, Try.results7, go_sem]) rfl ?_
    exact ⟨hb2.out, .inl ⟨hns.out, rfl⟩⟩
  · have hwB : w.heap.size ≤ wl := Nat.le_trans hb0.out.size hwb1
    have c3 := wcell (cs := [_, _, _, _, _]) hwl 3
    have f3 := wfree hwl 3
    have hwl3 : (W2.setCell ⟨wl, 3, none⟩ (.int .i64 (k : Int))).heap[wl]? = some (.cells #[.int .i64 (a : Int), .int .i64 (b : Int), .slice (some ⟨g, 0, none⟩) n gc, .int .i64 (k : Int), .int .i64 (mv : Nat)] 41 (0, 0)) := by rw [wset hwl]; rfl
    have hO3 : Own 3 W1.heap.size (W2.setCell ⟨wl, 3, none⟩ (.int .i64 (k : Int))) (some ⟨g, 0, none⟩) n gc (asI s) := hO.keep fun x hx => by cases hx; exact wset_ne _ _ hne.symm
    have hb3 := Lib.hid (hb2.out.setCell (p := ⟨wl, 3, none⟩) hwB (.int .i64 (k : Int)))
    have HMv := Lib.hid (mover_any wl g gc a b k n s _ mv hn100 hs.out hwl3 hO3.in)
    have HF := Lib.hid (fun W => far_any k W hk1 hk)
    replace hst := Lib.hid hst
    have hmvb : movS s n ≤ 2 := by unfold movS; split <;> (try split) <;> omega
    clear HM hbo d0 d1 d2 hO hwl
    go_wp2_with fail
    generalize W2.setCell ⟨wl, 3, none⟩ (.int .i64 (k : Int)) = W3 at *
    refine HMv.out.mono ?_
    rintro e w' ⟨rfl, rfl⟩
    clear HMv c3 f3
    obtain ⟨who, hwho⟩ : ∃ who, who = movS s n := ⟨_, rfl⟩
    rw [← hwho] at hmvb ⊢
    replace hwho := Lib.hid hwho
    go_wp2_with fail
    refine (HF.out _).mono ?_
    rintro e w' ⟨rfl, rfl⟩
    clear HF
    by_cases hw0 : who = 0
    · subst hw0
      go_wp2_with fail
      refine bodyPost_ret (v := .tuple #[.int .i64 0, .int .i64 0, .int .i64 7]) (by simp [results, Try.results7, go_sem]) rfl ?_
      exact ⟨hb3.out, .inr (.inl ⟨hst.out, hwho.out.symm, rfl⟩)⟩
    · have hwi : ¬ (who : Int) = 0 := by omega
      have hwd : decide ((who : Int) = 0) = false := decide_eq_false hwi
      have hwbb : ((who : Int) == 0) = false := by simp; omega
      obtain ⟨c0, c1, c2, c3⟩ := wcells hwl3
      have hO3' := Lib.hid hO3
      have hwl3' := Lib.hid hwl3
      clear hO3 hwl3
      go_wp2_with fail
      go_loopg [12, 13, 52] n (fun gk miv thv jv W' => ∃ (mi th : Bool) (j : Nat), gk = n - j ∧ j ≤ n ∧ jv = .int .i64 (j : Nat) ∧ miv = .bool mi ∧ thv = .bool th ∧ Hid (Tel mi (Mine wb s who j)) ∧ Hid (Tel th (Theirs wb s who j)) ∧ Hid (Below W3.heap.size W3 W'))
      case atStart => exact ⟨false, false, 0, by omega, by omega, rfl, rfl, rfl, ⟨(fun h => by cases h), fun ⟨i, hi, _⟩ => absurd hi (Nat.not_lt_zero _)⟩, ⟨(fun h => by cases h), fun ⟨i, hi, _⟩ => absurd hi (Nat.not_lt_zero _)⟩, Below.refl _ _⟩
      case round =>
        clear c0 c1 c2 c3
        obtain ⟨mi, th, j, hgk, hj, rfl, rfl, rfl, hMi, hTh, hB⟩ := hrel
        obtain ⟨W4, rfl⟩ : ∃ W4 : World, W4 = wr := ⟨_, rfl⟩
        replace hgk := Lib.hid hgk
        have hO4 := hO3'.out.below hB.out (Nat.le_refl _)
        have hwl4 := (hB.out.block wl (lt_of_heap hwl3'.out)).trans hwl3'.out
        rcases Nat.lt_or_ge j n with hlt | hge
        · have cj := hO4.cell hlt
          rw [asI_at] at cj
          obtain ⟨hy', hx'⟩ : j / a < b ∧ j % a < a := ⟨Nat.div_lt_of_lt_mul (by rw [← hn.out]; exact hlt), Nat.mod_lt _ (by omega)⟩
          have hjat : Hid (j = j / a * a + j % a) := by show _ = _; rw [Nat.mul_comm]; exact (Nat.div_add_mod j a).symm
          have HWn := Lib.hid (wonG_any wl g gc a b k j (j % a) (j / a) n s W4 ha1 ha hb hx' hy' hjat hn mv hwl4 hO4.in (st s j) rfl)
          have hws := hwb.out s (j % a) (j / a) hx' hy'
          rw [← hjat.out] at hws
          replace hws := Lib.hid hws
          obtain ⟨cv, hcv⟩ : ∃ cv, cv = st s j := ⟨_, rfl⟩
          rw [← hcv] at cj
          clear hx' hy'
          by_cases hc0 : cv = 0
          · subst hc0
            have hM2 : Hid (Tel mi (Mine wb s who (j + 1))) := hMi.out.no (Mine.next fun h => by omega)
            have hT2 : Hid (Tel th (Theirs wb s who (j + 1))) := hTh.out.no (Theirs.next fun h => by omega)
            replace hcv := Lib.hid hcv
            clear HWn hO4 hwl4
            go_wp2_with fail
            have hgk := hgk.out
            go_roundg (n - (j + 1))
            case measure => omega
            case rel => exact ⟨mi, th, j + 1, rfl, by omega, by go_num, rfl, rfl, hM2, hT2, hB⟩
          · have hcp : (0 : Int) < (cv : Int) := by omega
            have hcd : decide ((0 : Int) < (cv : Int)) = true := decide_eq_true hcp
            have hcv' := Lib.hid hcv
            clear hcv hO4 hwl4
            go_wp2_with fail
            refine HWn.out.mono ?_
            rintro e W5 ⟨⟨bw, rfl, hbw⟩, hb5⟩
            have hB5 := Lib.hid (hB.out.trans (hb5.mono hB.out.size))
            have hwbb : wb s j = bw := by rw [Bool.eq_iff_iff]; exact hws.out.trans hbw.symm
            clear HWn hb5 hbw hws cj
            cases bw with
            | false =>
              have hM2 : Hid (Tel mi (Mine wb s who (j + 1))) := hMi.out.no (Mine.next fun h => by rw [hwbb] at h; exact absurd h.2 (by simp))
              have hT2 : Hid (Tel th (Theirs wb s who (j + 1))) := hTh.out.no (Theirs.next fun h => by rw [hwbb] at h; exact absurd h.2.2 (by simp))
              replace hwbb := Lib.hid hwbb
              go_wp2_with fail
              have hgk := hgk.out
              go_roundg (n - (j + 1))
              case measure => omega
              case rel => exact ⟨mi, th, j + 1, rfl, by omega, by go_num, rfl, rfl, hM2, hT2, hB5⟩
            | true =>
              by_cases hcw : cv = who
              · have hM2 : Hid (Tel true (Mine wb s who (j + 1))) := ⟨fun _ => ⟨j, by omega, by rw [← hcv'.out]; exact hcw, hwbb⟩, fun _ => rfl⟩
                have hT2 : Hid (Tel th (Theirs wb s who (j + 1))) := hTh.out.no (Theirs.next fun h => h.2.1 (by rw [← hcv'.out]; exact hcw))
                replace hwbb := Lib.hid hwbb
                have hcwd : decide ((cv : Int) = (who : Int)) = true := decide_eq_true (by omega)
                have hcwb : ((cv : Int) == (who : Int)) = true := by simp; omega
                have hcwn : ((cv : Int) != (who : Int)) = false := by simp; omega
                replace hcw := Lib.hid hcw
                cases mi <;> cases th
                all_goals
                  clear hMi hTh
                  go_wp2_with fail
                  have hgk := hgk.out
                  go_roundg (n - (j + 1))
                  case measure => omega
                  case rel => exact ⟨true, _, j + 1, rfl, by omega, by go_num, by first | rfl | (simp only [hcwb, hcwd]), by first | rfl | (simp only [hcwn]), hM2, hT2, hB5⟩
              · have hT2 : Hid (Tel true (Theirs wb s who (j + 1))) := ⟨fun _ => ⟨j, by omega, by rw [← hcv'.out]; omega, by rw [← hcv'.out]; exact hcw, hwbb⟩, fun _ => rfl⟩
                have hM2 : Hid (Tel mi (Mine wb s who (j + 1))) := hMi.out.no (Mine.next fun h => hcw (by rw [hcv'.out]; exact h.1))
                replace hwbb := Lib.hid hwbb
                have hcwd : decide ((cv : Int) = (who : Int)) = false := decide_eq_false (by omega)
                have hcwb : ((cv : Int) == (who : Int)) = false := by simp; omega
                have hcwn : ((cv : Int) != (who : Int)) = true := by simp; omega
                replace hcw := Lib.hid hcw
                cases mi <;> cases th
                all_goals
                  clear hMi hTh
                  go_wp2_with fail
                  have hgk := hgk.out
                  go_roundg (n - (j + 1))
                  case measure => omega
                  case rel => exact ⟨_, true, j + 1, rfl, by omega, by go_num, by first | rfl | (simp only [hcwb, hcwd]), by first | rfl | (simp only [hcwn]), hM2, hT2, hB5⟩
        · obtain rfl : j = n := by omega
          have hBf := Lib.hid (hb3.out.trans (hB.out.mono hb3.out.size))
          cases th with
          | true =>
            have hT := Lib.hid (hTh.out.1 rfl)
            go_wp2_with fail
            refine bodyPost_ret (v := .tuple #[.int .i64 (-100), .int .i64 (-1), .int .i64 0]) (by simp [results, Try.results7, go_sem]) rfl ?_
            exact ⟨hBf.out, .inr (.inr ⟨hst.out, by rw [← hwho.out]; exact hw0, _, _, rfl, .inl ⟨by rw [← hwho.out]; exact hT.out, rfl⟩⟩)⟩
          | false =>
            have hT : Hid (¬ Theirs wb s who j) := fun h => by have := hTh.out.2 h; cases this
            cases mi with
            | true =>
              have hM := Lib.hid (hMi.out.1 rfl)
              go_wp2_with fail
              refine bodyPost_ret (v := .tuple #[.int .i64 100, .int .i64 (-1), .int .i64 0]) (by simp [results, Try.results7, go_sem]) rfl ?_
              exact ⟨hBf.out, .inr (.inr ⟨hst.out, by rw [← hwho.out]; exact hw0, _, _, rfl, .inr (.inl ⟨by rw [← hwho.out]; exact hT.out, by rw [← hwho.out]; exact hM.out, rfl⟩)⟩)⟩
            | false =>
              have hM : Hid (¬ Mine wb s who j) := fun h => by have := hMi.out.2 h; cases this
              have HS := Lib.hid (seek_any (B := W1.heap.size) wb ha1 ha hb hn.out mv hne (show deep ≤ 10 by omega) hwb.out deep 0 s who (-1000) 1000 W4 (by omega) hsl.out (by omega) (by omega) (by omega) (by omega) hwl4 hO4)
              have hz4 : W3.heap.size ≤ W4.heap.size := hB.out.size
              have hz3 := Lib.hid hb3.out.size
              have hgB : Hid (w.heap.size ≤ g) := by
                have := (hO3'.out.block _ rfl).1
                exact Nat.le_trans hb0.out.size this
              clear hO4 hwl4
              go_wp2_with fail
              refine HS.out.mono ?_
              rintro e W5 ⟨⟨r, wh, rfl, hab, hr1, hr2⟩, -, hgr⟩
              have hfin := Lib.hid (hBf.out.grown hgr hBf.out.size (fun x hx => by simp at hx; subst hx; exact hgB.out))
              have hrv := Lib.hid (hab.whole hr1 hr2)
              clear HS hab hgr
              go_wp2_with fail
              refine bodyPost_ret (v := .tuple #[.int .i64 r, .int .i64 wh, .int .i64 0]) (by simp [results, Try.results7, go_sem]) rfl ?_
              exact ⟨hfin.out, .inr (.inr ⟨hst.out, by rw [← hwho.out]; exact hw0, _, _, rfl, .inr (.inr ⟨by rw [← hwho.out]; exact hT.out, by rw [← hwho.out]; exact hM.out, by rw [← hwho.out]; exact hrv.out⟩)⟩)⟩
end Go.Proofs.Ytfoojdkbonmmgaa
