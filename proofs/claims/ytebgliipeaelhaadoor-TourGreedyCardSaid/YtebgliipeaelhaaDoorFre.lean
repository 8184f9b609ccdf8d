/- What the closures of tour.Greedy and slices.MinFunc compute: the places that are free next, and some of them; conditions: the boxes lie as Greedy lays them. -/
import Derived.Test.YtebgliipeaelhaaDoorDel
import Derived.Deep.RegionHeld3
namespace Go.Proofs.YtebgliipeaelhaaDoor
open Go.RowKit

def sAt (sn : List Bool) (q : Nat) : Bool := sn[q]?.getD false
/-- the boxes of tour.Greedy: the field, what is seen, the closure. -/
structure Gs (w : World) (fb sb wb rb g a b : Nat) (sn : List Bool) : Prop where
  f0 : w.heap[fb]? = some (.cells #[.slice (some ⟨g, 0, none⟩) (a * b) (a * b)] 35 (0, 0))
  s0 : w.heap[sb]? = some (.cells #[.slice (some ⟨rb, 0, none⟩) (a * b) (a * b)] 42 (0, 0))
  r0 : w.heap[rb]? = some (.cells (sn.map Value.bool).toArray 4 (0, 0))
  w0 : w.heap[wb]? = some (.cells #[.func (.func 15) #[] #[.pointer (some ⟨fb, 0, none⟩), .pointer (some ⟨sb, 0, none⟩)]] 46 (0, 0))
  fld : ∃ w0, FieldIn w0 g a b ∧ w0.heap.size ≤ fb ∧ Below w0.heap.size w0 w
  len : sn.length = a * b
  o1 : fb < rb
  o2 : rb < sb
  o3 : sb < wb
section
variable {w w' : World} {fb sb wb rb g a b : Nat} {sn : List Bool}
theorem Gs.field (h : Gs w fb sb wb rb g a b sn) : FieldIn w g a b := by
  obtain ⟨w0, h1, _, h2⟩ := h.fld
  exact h1.below h2
theorem Gs.keep {B : Nat} (h : Gs w fb sb wb rb g a b sn) (hb : Below B w w') (hB : wb < B) : Gs w' fb sb wb rb g a b sn := by
  obtain ⟨w0, h1, h2, h3⟩ := h.fld
  have o1 := h.o1; have o2 := h.o2; have o3 := h.o3
  exact ⟨(hb.block _ (by omega)).trans h.f0, (hb.block _ (by omega)).trans h.s0, (hb.block _ (by omega)).trans h.r0, (hb.block _ hB).trans h.w0, ⟨w0, h1, h2, h3.trans (hb.mono (by omega))⟩, h.len, o1, o2, o3⟩
theorem Gs.below (h : Gs w fb sb wb rb g a b sn) (hb : Below w.heap.size w w') : Gs w' fb sb wb rb g a b sn := h.keep hb (lt_of_heap h.w0)
theorem Gs.see (h : Gs w fb sb wb rb g a b sn) (p : Nat) : Gs (w.setCell ⟨rb, p, none⟩ (.bool true)) fb sb wb rb g a b (sn.set p true) ∧ Below rb w (w.setCell ⟨rb, p, none⟩ (.bool true)) := by
  obtain ⟨w0, h1, h2, h3⟩ := h.fld
  have o1 := h.o1; have o2 := h.o2; have o3 := h.o3
  have hb : Below rb w (w.setCell ⟨rb, p, none⟩ (.bool true)) := (Below.refl rb w).setCell (p := ⟨rb, p, none⟩) (Nat.le_refl _) _
  refine ⟨⟨(hb.block _ o1).trans h.f0, (wset_ne _ _ (by show sb ≠ rb; omega)).trans h.s0, ?_, (wset_ne _ _ (by show wb ≠ rb; omega)).trans h.w0, ⟨w0, h1, h2, h3.trans (hb.mono (by omega))⟩, by rw [List.length_set]; exact h.len, o1, o2, o3⟩, hb⟩
  rw [wset h.r0 p, List.map_set]; simp
end
theorem seen_any (fb sb wb rb g a b : Nat) (sn : List Bool) (w : World) (q : Nat) (hq : q < a * b) (h : Gs w fb sb wb rb g a b sn) : Calls Tryd.prog 18 #[.int .i64 (q : Int), .pointer (some ⟨sb, 0, none⟩)] w fun r w' => r = .returned (.bool (sAt sn q)) ∧ w = w' := by
  have d1 := cell_of_one h.s0
  have d2 : w.cell? ⟨rb, q, none⟩ = some (.bool (sAt sn q)) := by
    rw [wcell h.r0 q, List.getElem?_map]
    unfold sAt
    rw [List.getElem?_eq_getElem (by rw [h.len]; exact hq)]; rfl
  generalize sAt sn q = x at *
  obtain ⟨N, hN⟩ : ∃ N, N = a * b := ⟨_, rfl⟩
  rw [← hN] at hq d1
  clear h hN
  go_enter Tryd.func18, Tryd.ntmps18
  go_wp2
  go_ret
  exact ⟨rfl, rfl⟩
def freeL (a b : Nat) (sn : List Bool) (p : Nat) : List Nat := (nb a b p).filter fun q => !sAt sn q

set_option maxHeartbeats 1000000 in
theorem free_any (fb sb wb rb g a b : Nat) (sn : List Bool) (w : World) (p : Nat) (hp : p < a * b) (h : Gs w fb sb wb rb g a b sn) :
    Calls Tryd.prog 15 #[.int .i64 (p : Int), .pointer (some ⟨fb, 0, none⟩), .pointer (some ⟨sb, 0, none⟩)] w fun r w' => ∃ q c, r = .returned (.slice q (freeL a b sn p).length c) ∧ IntsIn w' q (freeL a b sn p).length (asI (freeL a b sn p)) ∧ Below w.heap.size w w' := by
  obtain ⟨rp, c, f1, f2, f3⟩ := h.field.2 p hp
  have d1 := cell_of_one h.f0
  have hn8 := nb_len a b p
  have hfr : Hid (freeL a b sn p = kept (sAt sn) (nb a b p) (nb a b p).length) := by show _ = _; unfold kept freeL; rw [List.take_length]
  have HC := Lib.hid (clone_any rp (nb a b p).length c (asI (nb a b p)) w (by omega) f2)
  have hN : Hid (∀ j, j < (nb a b p).length → st (nb a b p) j < a * b) := fun j hj => by
    unfold st; rw [List.getElem?_eq_getElem hj]; exact nb_lt 8 (List.getElem_mem hj)
  obtain ⟨N, hNe⟩ : ∃ N, N = a * b := ⟨_, rfl⟩
  rw [← hNe] at hp d1 hN
  replace h := Lib.hid h; replace f2 := Lib.hid f2; replace f3 := Lib.hid f3; replace hNe := Lib.hid hNe
  generalize hqs : nb a b p = qs at *
  replace hqs := Lib.hid hqs
  generalize hn : qs.length = n at *
  replace hn := Lib.hid hn
  go_enter Tryd.func15, Tryd.ntmps15
  go_wp2_with fail
  refine HC.out.mono ?_
  rintro r w1 ⟨p1, c1, rfl, hO, hB⟩
  have HD := Lib.hid (delF_any w.heap.size sb N (sAt sn) p1 n c1 qs w1 (by omega) hO hN.out (fun W' hb q hq => seen_any fb sb wb rb g a b sn W' q (by rw [← hNe.out]; exact hq) (h.out.below (hB.trans hb))))
  replace hB := Lib.hid hB
  clear hO HC
  go_wp2_with fail
  refine HD.out.mono ?_
  rintro r w2 ⟨c2, rfl, hx, hB2⟩
  have hB3 := Lib.hid (hB.out.trans hB2)
  replace hx := Lib.hid hx
  clear HD hB2
  go_wp2_with fail
  go_ret
  rw [hfr.out]
  exact ⟨_, _, rfl, hx.out, hB3.out⟩
theorem freeL_len (a b : Nat) (sn : List Bool) (p : Nat) : (freeL a b sn p).length ≤ 8 := Nat.le_trans (List.length_filter_le _ _) (nb_len a b p)

set_option maxHeartbeats 4000000 in
theorem cmp_any (fb sb wb rb g a b : Nat) (sn : List Bool) (w : World) (x y : Nat) (hx : x < a * b) (hy : y < a * b) (h : Gs w fb sb wb rb g a b sn) :
    Calls Tryd.prog 20 #[.int .i64 (x : Int), .int .i64 (y : Int), .pointer (some ⟨wb, 0, none⟩)] w fun r w' => ∃ v : Int, r = .returned (.int .i64 v) ∧ Below w.heap.size w w' := by
  have d1 := cell_of_one h.w0
  have hbx : wb < w.heap.size := lt_of_heap h.w0
  have l1 := freeL_len a b sn x
  have l2 := freeL_len a b sn y
  have H1 : Hid (∀ W', Below w.heap.size w W' → Calls Tryd.prog 15 #[.int .i64 (x : Int), .pointer (some ⟨fb, 0, none⟩), .pointer (some ⟨sb, 0, none⟩)] W' fun r w' => ∃ q c, r = .returned (.slice q (freeL a b sn x).length c) ∧ Below w.heap.size w w' ∧ w'.cell? ⟨wb, 0, none⟩ = some (.func (.func 15) #[] #[.pointer (some ⟨fb, 0, none⟩), .pointer (some ⟨sb, 0, none⟩)])) := fun W' hb =>
    (free_any fb sb wb rb g a b sn W' x hx (h.below hb)).mono fun r w' ⟨q, c, h1, _, h3⟩ => ⟨q, c, h1, hb.trans (h3.mono hb.size), (cell_of_one ((h.below hb).below h3).w0)⟩
  have H2 : Hid (∀ W', Below w.heap.size w W' → Calls Tryd.prog 15 #[.int .i64 (y : Int), .pointer (some ⟨fb, 0, none⟩), .pointer (some ⟨sb, 0, none⟩)] W' fun r w' => ∃ q c, r = .returned (.slice q (freeL a b sn y).length c) ∧ Below w.heap.size w w' ∧ w'.cell? ⟨wb, 0, none⟩ = some (.func (.func 15) #[] #[.pointer (some ⟨fb, 0, none⟩), .pointer (some ⟨sb, 0, none⟩)])) := fun W' hb =>
    (free_any fb sb wb rb g a b sn W' y hy (h.below hb)).mono fun r w' ⟨q, c, h1, _, h3⟩ => ⟨q, c, h1, hb.trans (h3.mono hb.size), (cell_of_one ((h.below hb).below h3).w0)⟩
  generalize (freeL a b sn x).length = k1 at *
  generalize (freeL a b sn y).length = k2 at *
  have hB0 : Hid (Below w.heap.size w w) := Below.refl _ _
  clear h
  go_enter Tryd.func20, Tryd.ntmps20
  go_wp2_with fail
  have w8 : ∀ k : Nat, k ≤ 8 → IntKind.i64.wrap (k : Int) = k := fun k hk => IntWalk.i64_in _ (by omega)
  go_region_held3 (fun w' => w'.cell? ⟨wb, 0, none⟩ = some (.func (.func 15) #[] #[.pointer (some ⟨fb, 0, none⟩), .pointer (some ⟨sb, 0, none⟩)])) (first | exact d3 | exact d2 | exact d1 | go_keep)
    (first
      | (go_at_call 15; refine (H1.out _ ?_).mono ?_; (first | exact Below.refl _ _ | exact below_drewN (Below.refl _ _) 1); rintro e w1 ⟨p1, c1, rfl, hB1, d2⟩; replace hB1 := Lib.hid hB1)
      | (go_at_call 15; refine (H2.out _ ?_).mono ?_; (exact hB1.out); rintro e w2 ⟨p2, c2, rfl, hB2, d3⟩; replace hB2 := Lib.hid hB2))
  go_wp2_with fail
  go_ret
  exact ⟨_, rfl, hB2.out⟩

set_option maxHeartbeats 1000000 in
theorem minF_any (wb : Nat) (p : Option Addr) (n c : Nat) (xs : List Nat) (w : World) (N : Nat) (hn0 : 0 < n) (hn : n ≤ 1000) (hx : IntsIn w p n (asI xs)) (hN : ∀ j, j < n → st xs j < N)
    (HC : ∀ W', Below w.heap.size w W' → ∀ x y, x < N → y < N → Calls Tryd.prog 20 #[.int .i64 (x : Int), .int .i64 (y : Int), .pointer (some ⟨wb, 0, none⟩)] W' fun r w' => ∃ v : Int, r = .returned (.int .i64 v) ∧ Below w.heap.size w w') :
    Calls Tryd.prog 19 #[.slice p n c, .func (.func 20) #[] #[.pointer (some ⟨wb, 0, none⟩)]] w fun r w' => ∃ j, j < n ∧ r = .returned (.int .i64 (st xs j : Nat)) ∧ Below w.heap.size w w' := by
  obtain ⟨b, o, rfl, hb, hc⟩ := hx.at hn0
  have hc0 := hc 0 hn0
  rw [asI_at, Nat.add_zero] at hc0
  replace HC := Lib.hid HC; replace hN := Lib.hid hN; replace hx := Lib.hid hx
  clear hc
  go_enter Tryd.func19, Tryd.ntmps19
  go_wp2_with fail
  go_loopg [5, 6] (n - 1) (fun gk mv iv W' => ∃ i j : Nat, 1 ≤ i ∧ i ≤ n ∧ j < n ∧ gk = n - i ∧ mv = .int .i64 (st xs j : Nat) ∧ iv = .int .i64 i ∧ Below w.heap.size w W')
  case atStart => exact ⟨1, 0, by omega, by omega, hn0, by omega, rfl, rfl, Below.refl _ _⟩
  case round =>
    obtain ⟨i, j, hi1, hi2, hj, hgk, rfl, rfl, hB⟩ := hrel
    obtain ⟨W1, rfl⟩ : ∃ W1 : World, W1 = wr := ⟨_, rfl⟩
    clear hc0
    replace hgk := Lib.hid hgk
    by_cases hlt : i < n
    · obtain ⟨b', o', e, _, hcc⟩ := (hx.out.below hB).at hn0
      cases e
      have hci := hcc i hlt
      rw [asI_at] at hci
      have HO := Lib.hid (HC.out W1 hB (st xs i) (st xs j) (hN.out i hlt) (hN.out j hj))
      obtain ⟨x, hxe⟩ : ∃ x, x = st xs i := ⟨_, rfl⟩
      obtain ⟨y, hye⟩ : ∃ y, y = st xs j := ⟨_, rfl⟩
      rw [← hxe] at hci HO; rw [← hye] at HO ⊢
      replace hB := Lib.hid hB; replace hxe := Lib.hid hxe; replace hye := Lib.hid hye
      clear hcc
      go_wp2_with fail
      refine HO.out.mono ?_
      rintro e w2 ⟨v, rfl, hB2⟩
      have hci2 : w2.cell? ⟨b, o + i, none⟩ = some (.int .i64 (x : Nat)) := by
        obtain ⟨b', o', e, _, hcc⟩ := (hx.out.below hB2).at hn0
        cases e
        have := hcc i hlt
        rw [asI_at, ← hxe.out] at this
        exact this
      replace hB2 := Lib.hid hB2
      clear hci HO
      by_cases hv : v < 0
      · go_wp2_with fail
        have hgk := hgk.out
        go_roundg (n - (i + 1))
        case measure => omega
        case rel => exact ⟨i + 1, i, by omega, by omega, hlt, rfl, by rw [hxe.out], by go_num, hB2.out⟩
      · go_wp2_with fail
        have hgk := hgk.out
        go_roundg (n - (i + 1))
        case measure => omega
        case rel => exact ⟨i + 1, j, by omega, by omega, hj, rfl, by rw [hye.out], by go_num, hB2.out⟩
    · obtain rfl : i = n := by omega
      replace hB := Lib.hid hB
      go_wp2_with fail
      go_ret
      exact ⟨j, hj, rfl, hB.out⟩
end Go.Proofs.YtebgliipeaelhaaDoor
