/- What deck.order and deck.Number compute of orders; conditions: 1 to 12 things (Number), at most 1000 (order). -/
import Derived.Test.YtkakggagaplaiaaNthW
namespace Go.Proofs.Ytkakggagaplaiaa
open Go.RowKit

theorem IntsIn.cells {w : World} {p : Option Addr} {n : Nat} {xs : List Int} (h : IntsIn w p n xs) (hn : 0 < n) : ∃ b o, p = some ⟨b, o, none⟩ ∧ b < w.heap.size ∧ ∀ j, j < xs.length → w.cell? ⟨b, o + j, none⟩ = some (.int .i64 (xs.getD j 0)) := by
  obtain ⟨b, o, e, hb, hc⟩ := h.at hn
  exact ⟨b, o, e, hb, fun j hj => by rw [hc j (by rw [← h.len]; exact hj), List.getD_eq_getElem?_getD]⟩
theorem equal_any (p q : Option Addr) (n c d : Nat) (xs ys : List Int) (w : World) (hn : n ≤ 1000000) (hx : IntsIn w p n xs) (hy : IntsIn w q n ys) :
    Calls Try.prog 61 #[.slice p n c, .slice q n d] w fun e w' => e = .returned (.bool (decide (xs = ys))) ∧ Below w.heap.size w w' := by
  rcases Nat.eq_zero_or_pos n with h0 | h0
  · subst h0
    have h1 : xs = [] := List.eq_nil_of_length_eq_zero hx.len
    have h2 : ys = [] := List.eq_nil_of_length_eq_zero hy.len
    subst h1 h2
    refine (Sh.slices_Equal_int_empty p q c 0 d w (by omega)).mono fun e w' ⟨h1, h2⟩ => ⟨by rw [h1]; simp, by rw [h2]; exact Below.refl _ _⟩
  · obtain ⟨b, o, rfl, _, hc⟩ := hx.cells h0
    obtain ⟨b2, o2, rfl, _, hc2⟩ := hy.cells h0
    have l1 := hx.len
    have l2 := hy.len
    refine (Sh.slices_Equal_int b o n c b2 o2 n d xs ys w (by omega) (by omega) (by omega) (by omega) hc hc2).mono fun e w' ⟨h1, q, h2⟩ => ⟨?_, ?_⟩
    · rw [h1, List.take_of_length_le (by omega), List.take_of_length_le (by omega)]
      by_cases h : xs = ys
      · rw [decide_eq_true h, h]; simp
      · rw [decide_eq_false h]
        have : (xs == ys) = false := by simpa using h
        rw [this]
    · rw [h2]; exact below_drewN (Below.refl _ _) q
set_option maxHeartbeats 1000000 in
theorem order_any (p : Option Addr) (n c : Nat) (l : List Nat) (w : World) (hn : n ≤ 1000) (hx : IntsIn w p n (asI l)) (hl : IsOrd n l) :
    Calls Try.prog 41 #[.slice p n c] w fun e w' => e = .returned (.bool true) ∧ Below w.heap.size w w' := by
  have HV := Lib.hid (values_any p n c w)
  have HS := Lib.hid (sortedV_any p n c (asI l) (by omega) w hx)
  rw [srt_ord hl] at HS
  clear hx
  go_enter Try.func41, Try.ntmps41
  go_wp2_with fail
  refine HV.out.mono ?_
  rintro e w' ⟨rfl, rfl⟩
  go_wp2_with fail
  refine HS.out.mono ?_
  rintro e w1 ⟨q, c1, rfl, hO, hB⟩
  have HI := Lib.hid (iota_any n w1 hn)
  replace hO := Lib.hid hO; replace hB := Lib.hid hB
  clear HS HV
  go_wp2_with fail
  refine HI.out.mono ?_
  rintro e w2 ⟨g, rfl, hO2, hB2⟩
  have HE := Lib.hid (equal_any q (some ⟨g, 0, none⟩) n c1 n _ _ w2 (by omega) (hO.out.below hB2 (Nat.le_refl _)).in hO2.in)
  have hB3 := Lib.hid (hB.out.trans (hB2.mono hB.out.size))
  rw [decide_eq_true rfl] at HE
  clear hO hO2 hB hB2 HI
  go_wp2_with fail
  refine HE.out.mono ?_
  rintro e w3 ⟨rfl, hB4⟩
  have hB5 := Lib.hid (hB3.out.trans (hB4.mono hB3.out.size))
  clear hB4 hB3 HE
  go_wp2_with fail
  go_ret
  exact ⟨rfl, hB5.out⟩
end Go.Proofs.Ytkakggagaplaiaa
