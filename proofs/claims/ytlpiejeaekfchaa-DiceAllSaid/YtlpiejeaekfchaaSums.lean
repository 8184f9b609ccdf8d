/- What dice.check and dice.Sums compute for lists of 1 to 10 dice of 1 to 20 sides whose product is at most 20^10; conditions: the slice reads as such a list. -/
import Derived.Test.YtlpiejeaekfchaaMem
import Derived.Test.YtlpiejeaekfchaaAllPlain
import Derived.Test.YtlpiejeaekfchaaRows
namespace Go.Proofs.Ytlpiejeaekfchaa
open Go.RowKit

theorem int22 : IntT Try.prog 22 3 := ⟨Try.underlying22, by kernel_rfl⟩

set_option maxHeartbeats 400000 in
theorem check1_any (x : Int) (w : World) (h1 : 1 ≤ x) (h2 : x ≤ 20) : Calls Try.prog 14 #[.int .i64 x] w fun e w' => e = .returned (.bool false) ∧ w = w' := by
  go_enter Try.func14, Try.ntmps14
  go_wp2
  go_ret
  exact ⟨ret_bool (by simp; omega), rfl⟩

set_option maxHeartbeats 400000 in
theorem index_none (p : Option Addr) (n c : Nat) (xs : List Int) (w : World) (hn : n ≤ 1000000) (hx : IntsIn w p n xs) (h : ∀ j, j < n → 1 ≤ xs[j]?.getD 0 ∧ xs[j]?.getD 0 ≤ 20) :
    Calls Try.prog 15 #[.slice p n c, .func (.func 14) #[] #[]] w fun e w' => e = .returned (.int .i64 (-1)) ∧ w = w' := by
  go_enter Try.func15, Try.ntmps15
  go_wp2
  go_loopg [8] n (fun k i W => ∃ j : Nat, j ≤ n ∧ k = n - j ∧ i = .int .i64 j ∧ w = W)
  case atStart => exact ⟨0, by omega, by omega, rfl, rfl⟩
  case round =>
    obtain ⟨j, hj, hk, rfl, rfl⟩ := hrel
    by_cases hlt : j < n
    · obtain ⟨b, o, rfl, hb, hc⟩ := hx.at (by omega)
      have hcj := hc j hlt
      obtain ⟨g1, g2⟩ := h j hlt
      replace hk := Lib.hid hk
      clear hx hc h
      go_wp2_with (go_at_call 14; refine (check1_any _ _ g1 g2).mono ?_; rintro e w' ⟨rfl, rfl⟩)
      have hk := hk.out
      go_roundg (n - (j + 1))
      case measure => omega
      case rel => exact ⟨j + 1, by omega, rfl, by go_num, rfl⟩
    · replace hk := Lib.hid hk
      clear hx h
      go_wp2
      go_ret
      exact ⟨rfl, rfl⟩

set_option maxHeartbeats 400000 in
theorem check_ok (p : Option Addr) (n c : Nat) (xs : List Int) (w : World) (h1 : 1 ≤ n) (hn : n ≤ 10) (hx : IntsIn w p n xs) (h : ∀ j, j < n → 1 ≤ xs[j]?.getD 0 ∧ xs[j]?.getD 0 ≤ 20) :
    Calls Try.prog 10 #[.slice p n c] w fun e w' => e = .returned (.int .i64 0) ∧ w = w' := by
  have H := Lib.hid (index_none p n c xs w (by omega) hx h)
  clear hx h
  go_enter Try.func10, Try.ntmps10
  go_wp2_with (first | (go_at_call 15; refine H.out.mono ?_; rintro e w' ⟨rfl, rfl⟩) | go_in)
  go_ret
  exact ⟨rfl, rfl⟩

theorem prod_pos (ds : List Nat) (h : ∀ s ∈ ds, 1 ≤ s) : 1 ≤ prod ds := by
  induction ds with
  | nil => simp [prod]
  | cons s ds ih =>
    have h1 := ih fun t ht => h t (List.mem_cons_of_mem _ ht)
    have h2 := h s (List.mem_cons_self ..)
    simp only [prod]
    have : (1 : Int) * 1 ≤ (s : Int) * prod ds := Int.mul_le_mul (by omega) h1 (by omega) (by omega)
    omega
theorem prod_append (a b : List Nat) : prod (a ++ b) = prod a * prod b := by
  induction a with
  | nil => simp [prod]
  | cons s a ih => simp only [List.cons_append, prod, ih, Int.mul_assoc]
theorem prod_take_le (ds : List Nat) (h : ∀ s ∈ ds, 1 ≤ s) (k : Nat) : prod (ds.take k) ≤ prod ds := by
  have e : prod ds = prod (ds.take k) * prod (ds.drop k) := by rw [← prod_append, List.take_append_drop]
  have h1 := prod_pos (ds.take k) fun s hs => h s (List.mem_of_mem_take hs)
  have h2 := prod_pos (ds.drop k) fun s hs => h s (List.mem_of_mem_drop hs)
  have : prod (ds.take k) * 1 ≤ prod (ds.take k) * prod (ds.drop k) := Int.mul_le_mul (by omega) h2 (by omega) (by omega)
  omega
theorem sumsL_len (ds : List Nat) (h : ∀ s ∈ ds, 1 ≤ s ∧ s ≤ 20) : ∀ l : List Int, 1 ≤ l.length → 1 ≤ (sumsL ds l).length ∧ (sumsL ds l).length ≤ l.length + 20 * ds.length := by
  induction ds with
  | nil => intro l hl; simp [sumsL]; exact hl
  | cons s ds ih =>
    intro l hl
    have h1 := h s (List.mem_cons_self ..)
    have hc := conv_len l s
    have := ih (fun t ht => h t (List.mem_cons_of_mem _ ht)) (convL l s) (by omega)
    simp only [sumsL, List.length_cons]; omega
/-- what is known of the sums of the first j dice. -/
theorem sums_facts (ds : List Nat) (h : ∀ s ∈ ds, 1 ≤ s ∧ s ≤ 20) (hn : ds.length ≤ 10) (hp : prod ds ≤ 10240000000000) (j : Nat) :
    Even (sumsL (ds.take j) [1]) ∧ lsum (sumsL (ds.take j) [1]) ≤ 10240000000000 ∧ 1 ≤ (sumsL (ds.take j) [1]).length ∧ (sumsL (ds.take j) [1]).length ≤ 201 := by
  have h' : ∀ s ∈ ds.take j, 1 ≤ s ∧ s ≤ 20 := fun s hs => h s (List.mem_of_mem_take hs)
  have a := sums_even (ds.take j) (fun s hs => (h' s hs).1) [1] even_one
  have b := sums_sum (ds.take j) (fun s hs => (h' s hs).1) [1]
  have c := sumsL_len (ds.take j) h' [1] (by simp)
  have d := prod_take_le ds (fun s hs => (h s hs).1) j
  simp [lsum] at b
  have e : (ds.take j).length ≤ 10 := by simp; omega
  simp at c
  exact ⟨a, by omega, by omega, by omega⟩

set_option maxHeartbeats 1000000 in
theorem sums_ok (p : Option Addr) (n c : Nat) (xs : List Int) (ds : List Nat) (w : World) (hds : Hid (xs = ds.map (fun s : Nat => (s : Int)))) (h1 : 1 ≤ n) (hn : n ≤ 10) (hx : IntsIn w p n xs) (h : ∀ s ∈ ds, 1 ≤ s ∧ s ≤ 20)
    (hp : prod ds ≤ 10240000000000) :
    Calls Try.prog 7 #[.slice p n c] w fun e w' => ∃ p' m c', e = .returned (.tuple #[.slice p' m c', .int .i64 0]) ∧ IntsIn w' p' m (sumsL ds [1]) ∧ Below w.heap.size w w' := by
  have hlen : ds.length = n := by have := hx.len; rw [hds.out] at this; simpa using this
  have hval : ∀ j, j < n → ∃ s : Nat, ds[j]? = some s ∧ xs[j]?.getD 0 = s ∧ 1 ≤ s ∧ s ≤ 20 := fun j hj => by
    have hj' : j < ds.length := by omega
    refine ⟨ds[j], by simp [hj'], ?_, h _ (List.getElem_mem hj')⟩
    rw [hds.out]; simp [hj']
  have H := Lib.hid (check_ok p n c xs w h1 hn hx fun j hj => by obtain ⟨s, _, e, a, b⟩ := hval j hj; omega)
  have hF := fun j => Lib.hid (sums_facts ds h (by omega) hp j)
  replace hval := Lib.hid hval
  replace hlen := Lib.hid hlen
  obtain ⟨b, o, rfl, hb, hc⟩ := hx.at (by omega)
  have HX := Lib.hid hx
  clear h hp hx hc hb
  go_enter Try.func7, Try.ntmps7
  go_wp2_with (go_at_call 10; refine H.out.mono ?_; rintro e w' ⟨rfl, rfl⟩)
  go_loopg [5, 20] n (fun k l i W => ∃ j m : Nat, ∃ q : Option Addr, j ≤ n ∧ k = n - j ∧ i = .int .i64 j ∧ l = .slice q m m ∧ IntsIn W q m (sumsL (ds.take j) [1]) ∧ Below w.heap.size w W)
  case atStart => exact ⟨0, 1, _, by omega, by omega, rfl, rfl, IntsIn.new _ _ _ _ _ _ rfl rfl rfl, (Below.refl _ _).alloc (Nat.le_refl _) _⟩
  case round =>
    obtain ⟨j, m, q, hj, hk, rfl, rfl, hq, hB⟩ := hrel
    replace hk := Lib.hid hk
    by_cases hlt : j < n
    · obtain ⟨s, es, ex, s1, s2⟩ := hval.out j hlt
      obtain ⟨hE, hS, hm1, hm2⟩ := (hF j).out
      generalize hL : sumsL (ds.take j) [1] = L at *
      have hml := hq.len
      have hcj : wr.cell? ⟨b, o + j, none⟩ = some (.int .i64 s) := by
        obtain ⟨b', o', e, _, hc⟩ := (HX.out.below hB).at (by omega)
        cases e
        rw [hc j hlt, ex]
      obtain ⟨bq, oq, rfl, hbq, hcq⟩ := hq.at (by omega)
      replace hL := Lib.hid hL; replace hE := Lib.hid hE; replace hS := Lib.hid hS; replace es := Lib.hid es; replace hml := Lib.hid hml; replace hq := Lib.hid hq
      obtain ⟨W0, rfl⟩ : ∃ W0 : World, W0 = wr := ⟨_, rfl⟩
      obtain ⟨g, hg⟩ : ∃ g, g = W0.heap.size := ⟨_, rfl⟩
      rw [← hg] at hbq
      have HB := Lib.hid hB; replace hg := Lib.hid hg
      rw [hml.out] at hm1 hm2
      clear hB hF ex
      go_wp2_with (at_make; refine wp_make int22 _ g hg rfl _ _ rfl _ _ _ _ (m + s - 1) rfl rfl (by omega) (by omega) (by omega) ?_; intro W1 hN hB1 hz1)
      replace hN := Lib.hid hN; replace hB1 := Lib.hid hB1
      go_loopg [32] m (fun k i W => ∃ a : Nat, a ≤ m ∧ k = m - a ∧ i = .int .i64 a ∧ Nums W g 3 (tab (m + s - 1) (cv L s a 0)) ∧ Below g W0 W)
      case atStart => exact ⟨0, by omega, by omega, rfl, by rw [show cv L s 0 0 = fun _ => 0 from funext (cv_zero L s), ← tab_zero]; exact hN.out, hB1.out⟩
      case round =>
        obtain ⟨a, ha, hka, rfl, hNa, hBa⟩ := hrel
        replace hka := Lib.hid hka
        by_cases hat : a < m
        · have hca : wr.cell? ⟨bq, oq + a, none⟩ = some (.int .i64 (L[a]?.getD 0)) := by
            rw [← hcq a hat]; exact hBa.cell (p := ⟨bq, oq + a, none⟩) hbq
          have hbd := fun t j' => cvs_bounds hE.out s a t j' (by have := hml.out; omega)
          have hbl := hE.out.1 a (by have := hml.out; omega)
          have hLs : L[a]?.getD 0 ≤ 10240000000000 := by
            have := (hbd 1 a).2; have h0 := (hbd 0 a).1
            rw [cv_step] at this; simp at this; have := hS.out; omega
          replace hNa := Lib.hid hNa; replace hBa := Lib.hid hBa; replace hbd := Lib.hid hbd
          obtain ⟨W2, rfl⟩ : ∃ W2 : World, W2 = wr := ⟨_, rfl⟩
          go_wp2
          go_loopg [38] s (fun k i W => ∃ t : Nat, t ≤ s ∧ k = s - t ∧ i = .int .i64 t ∧ Nums W g 3 (tab (m + s - 1) (cv L s a t)) ∧ Below g W0 W)
          case atStart => exact ⟨0, by omega, by omega, rfl, hNa.out, hBa.out⟩
          case round =>
            obtain ⟨t, ht, hkt, rfl, hNt, hBt⟩ := hrel
            replace hkt := Lib.hid hkt
            by_cases htt : t < s
            · have hct := hNt.cell (i := a + t) (by rw [tab_len]; omega)
              rw [tab_at _ _ _ (by omega)] at hct
              have hft := hNt.free (a + t)
              obtain ⟨d1, d2⟩ := hbd.out t (a + t)
              have d3 : cv L s a t (a + t) ≤ 10240000000000 := by have := hS.out; omega
              replace hNt := Lib.hid hNt; replace hBt := Lib.hid hBt
              go_wp2
              have hkt := hkt.out
              go_roundg (s - (t + 1))
              case measure => omega
              case rel =>
                refine ⟨t + 1, by omega, rfl, by go_num, ?_, hBt.out.setCell (by simp) _⟩
                have := hNt.out.set (a + t) (cv L s a t (a + t) + L[a]?.getD 0)
                rwa [tab_set _ _ (cv L s a (t + 1)) _ _ (fun j _ => cv_step L s a t j)] at this
            · have hts : t = s := by omega
              subst hts
              replace hNt := Lib.hid hNt; replace hBt := Lib.hid hBt
              go_wp2
              have hka := hka.out
              go_roundg (m - (a + 1))
              case measure => omega
              case rel => exact ⟨a + 1, by omega, rfl, by go_num, by rw [← show cv L t a t = cv L t (a + 1) 0 from funext (cv_next L t a)]; exact hNt.out, hBt.out⟩
        · have ham : a = m := by omega
          replace ham := Lib.hid ham
          replace hNa := Lib.hid hNa; replace hBa := Lib.hid hBa
          go_wp2
          have hk := hk.out
          go_roundg (n - (j + 1))
          case measure => omega
          case rel =>
            refine ⟨j + 1, m + s - 1, some ⟨g, 0, none⟩, by omega, rfl, by go_num, rfl, ?_, HB.out.trans (hBa.out.mono (by have := HB.out.size; have := hg.out; omega))⟩
            have e : sumsL (ds.take (j + 1)) [1] = tab (m + s - 1) (cv L s m 0) := by
              rw [List.take_add_one, es.out, Option.toList_some, sumsL_snoc, hL.out]
              unfold convL
              rw [← hml.out]
              exact tab_congr fun i _ => (cv_all L s i).symm
            have hh := hNa.out.in (tab_len _ _)
            rw [ham.out] at hh
            rw [e]; exact hh
    · have hjn : j = n := by omega
      replace hq := Lib.hid hq
      replace hB := Lib.hid hB
      replace hjn := Lib.hid hjn
      go_wp2
      go_ret2
      refine ⟨q, m, m, rfl, ?_, hB.out⟩
      have := hq.out
      rwa [List.take_of_length_le (by have := hlen.out; have := hjn.out; omega)] at this
end Go.Proofs.Ytlpiejeaekfchaa
