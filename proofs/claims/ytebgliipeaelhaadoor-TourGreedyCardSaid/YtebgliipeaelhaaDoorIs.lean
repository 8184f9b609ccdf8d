/- What tour.Is tells of a way: 1, or 2 or 3 if it is of all places; conditions: a board of 1 to 8 by 1 to 8, the table of leaps as the program lays it. -/
import Derived.Test.YtebgliipeaelhaaDoorGry
namespace Go.Proofs.YtebgliipeaelhaaDoor
open Go.RowKit

theorem st_of {l : List Nat} {i : Nat} (h : i < l.length) : st l i ∈ l := by unfold st; rw [List.getElem?_eq_getElem h]; exact List.getElem_mem h
theorem Way.fresh {a b x : Nat} {l : List Nat} (h : Way a b x l) {i : Nat} (hi : i < l.length) : st l i ∉ l.take i := by
  intro hm
  obtain ⟨j, hj, e⟩ := List.mem_iff_getElem.1 hm
  rw [List.length_take] at hj
  rw [List.getElem_take] at e
  unfold st at e
  rw [List.getElem?_eq_getElem hi] at e
  simp only [Option.getD_some] at e
  exact List.pairwise_iff_getElem.1 h.nd j i (by omega) hi (by omega) e

set_option maxRecDepth 100000 in
set_option maxHeartbeats 4000000 in
theorem Is_any (a b x : Nat) (l : List Nat) (q : Option Addr) (c : Nat) (w : World) (ha1 : 1 ≤ a) (ha : a ≤ 8) (hb1 : 1 ≤ b) (hb : b ≤ 8) (hL : Lps w) (hx : IntsIn w q l.length (asI l)) (hW : Way a b x l) (h0 : 0 < l.length) (hN0 : l.length ≤ a * b) :
    Calls Tryd.prog 10 #[.int .i64 a, .int .i64 b, .slice q l.length c] w fun r w' => ∃ k : Nat, r = .returned (.tuple #[.int .i64 (k : Nat), .int .i64 0]) ∧ 1 ≤ k ∧ (2 ≤ k ↔ l.length = a * b) ∧ Below w.heap.size w w' := by
  have H := newField_any a b w ha1 ha hb1 hb hL
  obtain ⟨lb, lo, rfl, hlb, hlc⟩ := hx.at h0
  have hn64 : a * b ≤ 64 := Nat.mul_le_mul ha hb
  obtain ⟨N, hN⟩ : ∃ N, N = a * b := ⟨_, rfl⟩
  rw [← hN] at H hn64 hN0 ⊢
  have hlN : Hid (∀ i, i < l.length → st l i < N) := fun i hi => by rw [hN]; exact hW.lt _ (st_of hi)
  obtain ⟨n, hn⟩ : ∃ n, n = l.length := ⟨_, rfl⟩
  rw [← hn] at h0 hN0 hlc hx hlN ⊢
  replace hN := Lib.hid hN; replace hn := Lib.hid hn; replace hx := Lib.hid hx; replace hW := Lib.hid hW
  clear hL ha1 hb1 ha hb hlc
  go_enter Tryd.func10, Tryd.ntmps10
  go_wp2_with fail
  refine H.mono ?_
  rintro r W1 ⟨g, rfl, hg, hF, hB⟩
  have hmk := run_mkb N (by omega) W1
  have e3 : Hid ((W1.alloc (.cells (Array.replicate N (.bool false)) 4)).heap[W1.heap.size]? = some (.cells ((List.replicate N false).map Value.bool).toArray 4 (0, 0))) := by
    show _ = _
    rw [heap_alloc_new]; simp
  have hB2 : Hid (Below W1.heap.size W1 (W1.alloc (.cells (Array.replicate N (.bool false)) 4))) := (Below.refl _ _).alloc (Nat.le_refl _) _
  have hlen : Hid (w.heap.size ≤ W1.heap.size) := hB.size
  have z1 : ¬ (n : Int) = 0 := by omega
  have z2 : ((n : Int) == 0) = false := by simp; omega
  have z4 : decide (N < n) = false := by simp; omega
  have z3 : decide ((n : Int) > (N : Int)) = false := by simp; omega
  have hxW : Hid (IntsIn W1 (some ⟨lb, lo, none⟩) n (asI l)) := hx.out.below hB
  replace hF := Lib.hid hF; replace hB := Lib.hid hB
  clear H hx hlb
  go_wp2_with fail
  clear hmk
  obtain ⟨rb, hrb⟩ : ∃ rb, rb = W1.heap.size := ⟨_, rfl⟩
  rw [← hrb] at e3 hB2 hlen ⊢
  generalize W1.alloc (.cells (Array.replicate N (.bool false)) 4) = W2 at *
  have hKeep : Hid (∀ W', Below rb W1 W' → FieldIn W' g a b ∧ IntsIn W' (some ⟨lb, lo, none⟩) n (asI l) ∧ Below w.heap.size w W') := fun W' h => by
    rw [hrb] at h
    exact ⟨hF.out.below h, hxW.out.below h, hB.out.trans (h.mono (by rw [← hrb]; exact hlen.out))⟩
  replace hrb := Lib.hid hrb
  go_loopg [37] n (fun gk iv W' => ∃ (i : Nat) (sn : List Bool), i ≤ n ∧ gk = n - i ∧ iv = .int .i64 i ∧ W'.heap[rb]? = some (.cells (sn.map Value.bool).toArray 4 (0, 0)) ∧ sn.length = N ∧ (∀ r, sAt sn r = true ↔ r ∈ l.take i) ∧ Below rb W1 W')
  case atStart => exact ⟨0, List.replicate N false, by omega, rfl, rfl, e3.out, by simp, fun r => by rw [sAt_rep]; simp, hB2.out⟩
  case round =>
    obtain ⟨i, sn, hi, hgk, rfl, hr, hsl, hse, hB4⟩ := hrel
    obtain ⟨W4, rfl⟩ : ∃ W4 : World, W4 = wr := ⟨_, rfl⟩
    clear e3 hB2
    replace hgk := Lib.hid hgk
    obtain ⟨hF4, hx4, hB5⟩ := hKeep.out W4 hB4
    by_cases hlt : i < n
    · obtain ⟨b', o', e, _, hcc⟩ := hx4.at h0
      cases e
      have hil : i < l.length := by rw [← hn.out]; exact hlt
      have hq := hcc i hlt
      rw [asI_at] at hq
      have hfr := hW.out.fresh hil
      have hpN := hlN.out i hlt
      have hch : Hid (∀ j, i = j + 1 → st l i ∈ nb a b (st l j)) := fun j hj => by
        have := hW.out.ch j (by omega)
        rw [← hj] at this; exact this
      have htk : Hid (l.take (i + 1) = l.take i ++ [st l i]) := by
        show _ = _
        rw [List.take_add_one]; unfold st; rw [List.getElem?_eq_getElem hil]; rfl
      obtain ⟨p, hp⟩ : ∃ p, p = st l i := ⟨_, rfl⟩
      rw [← hp] at hq hfr hpN hch htk
      replace hp := Lib.hid hp
      have hps : sAt sn p = false := by
        cases h : sAt sn p with
        | false => rfl
        | true => exact absurd ((hse p).1 h) hfr
      have hpl : p < sn.length := by rw [hsl]; exact hpN
      have d1 : W4.cell? ⟨rb, p, none⟩ = some (.bool false) := by
        rw [wcell hr p, List.getElem?_map, List.getElem?_eq_getElem hpl]
        unfold sAt at hps
        rw [List.getElem?_eq_getElem hpl] at hps
        simp at hps; rw [hps]; rfl
      have d2 : W4.frozen? ⟨rb, p, none⟩ = false := wfree hr p
      have HH := Lib.hid (has_any (some ⟨g, 0, none⟩) N N p W4 hpN)
      have hr2 : Hid ((W4.setCell ⟨rb, p, none⟩ (.bool true)).heap[rb]? = some (.cells ((sn.set p true).map Value.bool).toArray 4 (0, 0))) := by
        show _ = _
        rw [wset hr p, List.map_set]; simp
      have hB6 : Hid (Below rb W1 (W4.setCell ⟨rb, p, none⟩ (.bool true))) := hB4.setCell (p := ⟨rb, p, none⟩) (Nat.le_refl _) _
      have hse2 : Hid (∀ r, sAt (sn.set p true) r = true ↔ r ∈ l.take (i + 1)) := fun r => by
        rw [htk.out, sAt_set _ _ _ hpl, List.mem_append, List.mem_singleton, ← hse r]
        by_cases e : r = p <;> simp [e]
      have hsl2 : Hid ((sn.set p true).length = N) := by show _ = _; rw [List.length_set]; exact hsl
      clear hr hsl hse hB4 hfr hps hpl htk hB5
      rcases i with _ | j
      · rw [Nat.add_zero] at hq
        replace hx4 := Lib.hid hx4; replace hF4 := Lib.hid hF4
        clear hcc hch
        go_wp2_with fail
        refine HH.out.mono ?_
        rintro r w' ⟨rfl, rfl⟩
        go_wp2_with fail
        have hgk := hgk.out
        go_roundg (n - (0 + 1))
        case measure => omega
        case rel => exact ⟨0 + 1, _, by omega, rfl, by go_num, hr2.out, hsl2.out, hse2.out, hB6.out⟩
      · have hq1 := hcc j (by omega)
        rw [asI_at] at hq1
        have hy := hlN.out j (by omega)
        have hcj := hch.out j rfl
        obtain ⟨y, hye⟩ : ∃ y, y = st l j := ⟨_, rfl⟩
        rw [← hye] at hq1 hy hcj
        replace hye := Lib.hid hye
        obtain ⟨rp, cp, f1, f2, f3⟩ := hF4.2 y (by rw [← hN.out]; exact hy)
        have hn8 := nb_len a b y
        have HC := contains_any rp (nb a b y).length cp (asI (nb a b y)) p W4 (by omega) f2
        rw [hasV_asI, decide_eq_true hcj] at HC
        generalize (nb a b y).length = m8 at *
        replace HC := Lib.hid HC; replace hcj := Lib.hid hcj
        replace hx4 := Lib.hid hx4; replace hF4 := Lib.hid hF4; replace f2 := Lib.hid f2; replace f3 := Lib.hid f3
        have hj1 : ((j + 1 : Nat) : Int) - 1 = (j : Int) := by omega
        have hj2 : decide (((j + 1 : Nat) : Int) > 0) = true := decide_eq_true (by omega)
        clear hcc hch
        go_wp2_with fail
        refine HH.out.mono ?_
        rintro r w' ⟨rfl, rfl⟩
        go_wp2_with fail
        refine HC.out.mono ?_
        rintro r w' ⟨rfl, rfl⟩
        go_wp2_with fail
        have hgk := hgk.out
        go_roundg (n - (j + 1 + 1))
        case measure => omega
        case rel => exact ⟨j + 1 + 1, _, by omega, rfl, by go_num, hr2.out, hsl2.out, hse2.out, hB6.out⟩
    · obtain rfl : i = n := by omega
      replace hx4 := Lib.hid hx4; replace hF4 := Lib.hid hF4; replace hB5 := Lib.hid hB5
      clear hr hsl hse hB4
      by_cases hlN2 : i < N
      · have z5 : decide ((i : Int) < (N : Int)) = true := decide_eq_true (by omega)
        go_wp2_with fail
        go_ret2
        exact ⟨1, rfl, Nat.le_refl _, by constructor <;> intro h <;> omega, hB5.out⟩
      · have hiN : i = N := by omega
        have z5 : decide ((i : Int) < (N : Int)) = false := decide_eq_false (by omega)
        by_cases h1 : i = 1
        · have z6 : decide ((i : Int) > 1) = false := decide_eq_false (by omega)
          replace hiN := Lib.hid hiN
          go_wp2_with fail
          go_quiet (fail)
          have hB7 : Hid (Below w.heap.size w (W4.drewN nq)) := below_drewN hB5.out nq
          go_wp2_with fail
          go_ret2
          exact ⟨2, rfl, by omega, by have := hiN.out; omega, hB7.out⟩
        · obtain ⟨j, hj⟩ : ∃ j, i = j + 1 := ⟨i - 1, by omega⟩
          have z6 : decide ((i : Int) > 1) = true := decide_eq_true (by omega)
          obtain ⟨b', o', e, _, hcc⟩ := hx4.out.at h0
          cases e
          have hq0 := hcc 0 (by omega)
          have hqj := hcc j (by omega)
          rw [asI_at, Nat.add_zero] at hq0
          rw [asI_at] at hqj
          have hy := hlN.out j (by omega)
          obtain ⟨y, hye⟩ : ∃ y, y = st l j := ⟨_, rfl⟩
          obtain ⟨z, hze⟩ : ∃ z, z = st l 0 := ⟨_, rfl⟩
          rw [← hye] at hqj hy; rw [← hze] at hq0
          replace hye := Lib.hid hye; replace hze := Lib.hid hze
          obtain ⟨rp, cp, f1, f2, f3⟩ := hF4.out.2 y (by rw [← hN.out]; exact hy)
          have hn8 := nb_len a b y
          have HC := Lib.hid (fun k => contains_any rp (nb a b y).length cp (asI (nb a b y)) z (W4.drewN k) (by omega) ⟨f2.1, f2.2⟩)
          generalize (nb a b y).length = m8 at *
          generalize hasV (asI (nb a b y)) (z : Int) = bz at *
          replace f2 := Lib.hid f2; replace f3 := Lib.hid f3
          have hj1 : (i : Int) - 1 = (j : Int) := by omega
          replace hj := Lib.hid hj
          replace hiN := Lib.hid hiN
          clear hcc
          go_wp2_with fail
          go_quiet ((go_at_call 14; ((with_reducible refine (HC.out _).mono ?_); exact fun _ _ h => ⟨h.1, _, h.2.symm⟩)))
          have hB7 : Hid (Below w.heap.size w (W4.drewN nq)) := below_drewN hB5.out nq
          cases bz with
          | true =>
            go_wp2_with fail
            go_ret2
            exact ⟨3, rfl, by omega, by have := hiN.out; omega, hB7.out⟩
          | false =>
            go_wp2_with fail
            go_ret2
            exact ⟨2, rfl, by omega, by have := hiN.out; omega, hB7.out⟩
end Go.Proofs.YtebgliipeaelhaaDoor
