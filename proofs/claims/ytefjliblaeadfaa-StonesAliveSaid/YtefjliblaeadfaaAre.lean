/- What stones.Areas computes: three numbers that are all places together; conditions: a board of 1 to 10 by 1 to 10 places, signs 0 to 2. -/
import Derived.Test.YtefjliblaeadfaaFre
import Derived.Test.YtefjliblaeadfaaSp23
namespace Go.Proofs.Ytefjliblaeadfaa
open Go.RowKit

set_option maxHeartbeats 400000 in
theorem empty_any (v : Int) (x : Nat) (w : World) (hx : Hid (v = x)) : Calls Try.prog 23 #[.int .i64 v] w fun e w' => e = .returned (.bool (x == 0)) ∧ w = w' := by
  go_enter Try.func23, Try.ntmps23
  go_wp2_with fail
  go_ret
  exact ⟨ret_bool (by rw [hx.out, Bool.eq_iff_iff]; simp), rfl⟩
theorem or_small : ∀ x, x ≤ 3 → ∀ y, y ≤ 3 → ∃ z : Nat, z ≤ 3 ∧ bits BinOp.or IntKind.i64 ((x : Nat) : Int) ((y : Nat) : Int) = ((z : Nat) : Int) := by
  intro x hx y hy
  have h : ((List.range 4).all fun x => (List.range 4).all fun y => decide (0 ≤ bits BinOp.or IntKind.i64 ((x : Nat) : Int) ((y : Nat) : Int)) && decide (bits BinOp.or IntKind.i64 ((x : Nat) : Int) ((y : Nat) : Int) ≤ 3)) = true := by decide +kernel
  have h2 := List.all_eq_true.1 (List.all_eq_true.1 h x (List.mem_range.2 (by omega))) y (List.mem_range.2 (by omega))
  simp only [Bool.and_eq_true, decide_eq_true_eq] at h2
  exact ⟨(bits BinOp.or IntKind.i64 ((x : Nat) : Int) ((y : Nat) : Int)).toNat, by omega, by omega⟩
/-- where areas are counted in memory. -/
structure ArM (w W : World) (B M : Nat) (a b n c : Nat) (q : Option Addr) (d : List Bool) (m0 m1 m2 m3 : Nat) : Prop where
  bx : W.heap[B]? = some (.cells #[.int .i64 (a : Int), .int .i64 (b : Int), .slice q n c] 24 (0, 0))
  mm : W.heap[M]? = some (.cells #[.int .i64 (m0 : Int), .int .i64 (m1 : Int), .int .i64 (m2 : Int), .int .i64 (m3 : Int)] 51 (0, 0))
  dn : Bls W (M + 1) d
  bl : Below B w W
  lt : B < M
section
variable {w W W' : World} {B M a b n c m0 m1 m2 m3 : Nat} {q : Option Addr} {d : List Bool}
theorem ArM.below (h : ArM w W B M a b n c q d m0 m1 m2 m3) (hb : Below W.heap.size W W') (hB : B ≤ W.heap.size) : ArM w W' B M a b n c q d m0 m1 m2 m3 :=
  ⟨(hb.block _ (lt_of_heap h.bx)).trans h.bx, (hb.block _ (lt_of_heap h.mm)).trans h.mm, (hb.block _ (lt_of_heap h.dn)).trans h.dn, h.bl.trans (hb.mono hB), h.lt⟩
theorem ArM.mark (h : ArM w W B M a b n c q d m0 m1 m2 m3) (t : Nat) : ArM w (W.setCell ⟨M + 1, t, none⟩ (.bool true)) B M a b n c q (d.set t true) m0 m1 m2 m3 := by
  have hl := h.lt
  exact ⟨(Below.heap_setCell W _ _ _ (by simp; omega)).trans h.bx, (Below.heap_setCell W _ _ _ (by simp)).trans h.mm, h.dn.set t, h.bl.setCell (p := ⟨M + 1, t, none⟩) (by simp; omega) _, hl⟩
theorem ArM.more (h : ArM w W B M a b n c q d m0 m1 m2 m3) (i v n0 n1 n2 : Nat) (hi : [n0, n1, n2, m3] = [m0, m1, m2, m3].set i v) (x : Int) (hx : Hid (x = v)) : ArM w (W.setCell ⟨M, i, none⟩ (.int .i64 x)) B M a b n c q d n0 n1 n2 m3 := by
  have hx := hx.out
  subst hx
  have hl := h.lt
  refine ⟨(Below.heap_setCell W _ _ _ (by simp; omega)).trans h.bx, ?_, (Below.heap_setCell W _ _ _ (by simp)).trans h.dn, h.bl.setCell (p := ⟨M, i, none⟩) (by simp; omega) _, hl⟩
  rw [wset h.mm i]
  have e : (#[Value.int .i64 (m0 : Int), .int .i64 (m1 : Int), .int .i64 (m2 : Int), .int .i64 (m3 : Int)] : Array Value).setIfInBounds i (.int .i64 (v : Int)) = ((([m0, m1, m2, m3].set i v).map fun x : Nat => Value.int .i64 (x : Int)).toArray) := by
    rw [List.map_set]; simp
  rw [e, ← hi]; rfl
end

set_option maxHeartbeats 8000000 in
set_option maxRecDepth 100000 in
theorem areas_any (a b n c : Nat) (q : Option Addr) (s : List Nat) (w : World) (ha1 : 1 ≤ a) (ha : a ≤ 10) (hb1 : 1 ≤ b) (hb : b ≤ 10) (hnab : Hid (n = a * b)) (hn : n ≤ 100) (hx : IntsIn w q n (asI s)) (hs : ∀ j, st s j ≤ 2) :
    Calls Try.prog 14 #[.agg #[.int .i64 (a : Int), .int .i64 (b : Int), .slice q n c]] w fun e w' => ∃ x y z : Nat, e = .returned (.tuple #[.int .i64 (x : Int), .int .i64 (y : Int), .int .i64 (z : Int), .int .i64 0]) ∧ x + y + z = n ∧ Below w.heap.size w w' := by
  have hsl : s.length = n := by have := hx.len; rwa [asI_len] at this
  have hmay := mayOk ha1 ha hb1 hb hnab.out hsl hs
  have e0 := heap_alloc_new w (.cells #[.int .i64 (a : Int), .int .i64 (b : Int), .slice q n c] 24)
  have hB0 := (Below.refl w.heap.size w).alloc (Nat.le_refl _) (.cells #[.int .i64 (a : Int), .int .i64 (b : Int), .slice q n c] 24)
  have HM := Lib.hid (may_any q n c a b (asI s) (w.alloc (.cells #[.int .i64 (a : Int), .int .i64 (b : Int), .slice q n c] 24)) (by omega) (by omega) (by omega) (by omega) (by omega) (hx.below hB0))
  rw [hmay] at HM
  have HS : Hid (∀ p W', p < n → Below w.heap.size w W' → Calls Try.prog 22 #[.agg #[.int .i64 (a : Int), .int .i64 (b : Int), .slice q n c], .int .i64 (p : Int), .func (.func 23) #[] #[]] W' fun e w' => ∃ (l1 l2 : List Nat) (q1 : Option Addr) (c1 : Nat) (q2 : Option Addr) (c2 : Nat), e = .returned (.tuple #[.slice q1 l1.length c1, .slice q2 l2.length c2]) ∧ l1.Perm (spread (fun v => v == 0) s a p).inn ∧ l2.Perm (spread (fun v => v == 0) s a p).bd ∧ IntsIn w' q1 l1.length (asI l1) ∧ IntsIn w' q2 l2.length (asI l2) ∧ Below W'.heap.size W' w' ∧ (∀ y, q1 = some y → W'.heap.size ≤ y.block) ∧ (∀ y, q2 = some y → W'.heap.size ≤ y.block)) :=
    fun p W' hp h => spread23 (fun v => v == 0) a b n c p q s W' ha1 ha hnab hn hp (hx.below h) hs (fun v _ W2 _ => (empty_any _ v W2 rfl).mono fun e w' h => ⟨h.1, h.2⟩)
  replace hB0 := Lib.hid hB0; replace hmay := Lib.hid hmay; replace hx := Lib.hid hx; replace hs := Lib.hid hs; replace e0 := Lib.hid e0; replace hsl := Lib.hid hsl
  go_enter Try.func14, Try.ntmps14
  go_wp2_with fail
  refine HM.out.mono ?_
  rintro e w1 ⟨rfl, hB1⟩
  have hbl1 : Hid (Below w.heap.size w w1) := hB0.out.trans (hB1.mono hB0.out.size)
  have e01 := (hB1.block w.heap.size (lt_of_heap e0.out)).trans e0.out
  have hz1 := lt_of_heap e01
  have hmk := run_mkb n (by omega) (w1.alloc (.cells #[.int .i64 0, .int .i64 0, .int .i64 0, .int .i64 0] 51))
  rw [World.size_alloc] at hmk
  have d2 : w1.cell? ⟨w.heap.size, 2, none⟩ = some (.slice q n c) := wcell (cs := [_, _, _]) e01 2
  have d0 : w1.cell? ⟨w.heap.size, 0, none⟩ = some (.int .i64 (a : Int)) := wcell (cs := [_, _, _]) e01 0
  have d1 : w1.cell? ⟨w.heap.size, 1, none⟩ = some (.int .i64 (b : Int)) := wcell (cs := [_, _, _]) e01 1
  have hM : Hid (ArM w ((w1.alloc (.cells #[.int .i64 0, .int .i64 0, .int .i64 0, .int .i64 0] 51)).alloc (.cells (Array.replicate n (.bool false)) 4)) w.heap.size w1.heap.size a b n c q (List.replicate (a * b) false) 0 0 0 0) := by
    obtain ⟨k0, k1⟩ := heap2 w1 (.cells #[.int .i64 0, .int .i64 0, .int .i64 0, .int .i64 0] 51) (.cells (Array.replicate n (.bool false)) 4)
    exact ⟨((below2 w1 _ _).block _ hz1).trans e01, k0, k1.trans (by rw [← hnab.out]; simp), hbl1.out.trans ((below2 w1 _ _).mono hbl1.out.size), hz1⟩
  have hI0 : Hid (ArI a b s 0 (0 + 0 + 0) (List.replicate (a * b) false)) := ArI.zero
  replace e01 := Lib.hid e01
  clear HM hB1
  go_wp2_with fail
  clear hmk d0 d1 d2
  go_loopg [27] n (fun gk iv W' => ∃ (k : Nat) (d : List Bool) (m0 m1 m2 m3 : Nat), k ≤ n ∧ gk = n - k ∧ iv = .int .i64 k ∧ ArM w W' w.heap.size w1.heap.size a b n c q d m0 m1 m2 m3 ∧ ArI a b s k (m0 + m1 + m2) d)
  case atStart => exact ⟨0, _, 0, 0, 0, 0, Nat.zero_le _, rfl, rfl, hM.out, hI0.out⟩
  case round =>
    obtain ⟨k, d, m0, m1, m2, m3, hk, hgk, rfl, hMk, hIk⟩ := hrel
    obtain ⟨W2, rfl⟩ : ∃ W2 : World, W2 = wr := ⟨_, rfl⟩
    replace hgk := Lib.hid hgk
    clear hM hI0
    have hdl : d.length = n := by rw [hnab.out]; exact hIk.dl
    have hcb : m0 + m1 + m2 ≤ 200 := by
      have h1 := hIk.cnt
      have h2 : (s.take k).countP (· != 0) ≤ (s.take k).length := List.countP_le_length
      have h3 : (s.take k).length ≤ k := List.length_take_le _ _
      have h4 : d.countP id ≤ d.length := List.countP_le_length
      omega
    by_cases hlt : k < n
    · obtain ⟨bq, oq, rfl, _, hcq⟩ := (hx.out.below hMk.bl).at (by omega)
      have dk := hcq k hlt
      rw [asI_at] at dk
      have hsk := hs.out k
      have hkl : k < s.length := by rw [hsl.out]; exact hlt
      have dx0 : W2.cell? ⟨w.heap.size, 0, none⟩ = some (.int .i64 (a : Int)) := wcell (cs := [_, _, _]) hMk.bx 0
      have dx1 : W2.cell? ⟨w.heap.size, 1, none⟩ = some (.int .i64 (b : Int)) := wcell (cs := [_, _, _]) hMk.bx 1
      have dx2 : W2.cell? ⟨w.heap.size, 2, none⟩ = some (.slice (some ⟨bq, oq, none⟩) n c) := wcell (cs := [_, _, _]) hMk.bx 2
      have dm1 : W2.cell? ⟨w1.heap.size, 1, none⟩ = some (.int .i64 (m1 : Int)) := wcell (cs := [_, _, _, _]) hMk.mm 1
      have dm2 : W2.cell? ⟨w1.heap.size, 2, none⟩ = some (.int .i64 (m2 : Int)) := wcell (cs := [_, _, _, _]) hMk.mm 2
      have fm1 := wfree hMk.mm 1
      have fm2 := wfree hMk.mm 2
      clear hcq
      by_cases h0 : st s k = 0
      · have dd := hMk.dn.cell (i := k) (by rw [hdl]; exact hlt)
        rw [h0] at dk
        cases hbd : bAt d k with
        | true =>
          rw [hbd] at dd
          have hI2 := Lib.hid (hIk.skip hkl h0 hbd)
          replace hMk := Lib.hid hMk; replace hIk := Lib.hid hIk; replace h0 := Lib.hid h0; replace hbd := Lib.hid hbd
          go_wp2_with fail
          have hgk := hgk.out
          go_roundg (n - (k + 1))
          case measure => omega
          case rel => exact ⟨k + 1, d, m0, m1, m2, m3, hlt, rfl, by go_num, hMk.out, hI2.out⟩
        | false =>
          rw [hbd] at dd
          have HS1 := Lib.hid (HS.out k W2 hlt hMk.bl)
          have hBW := hMk.bl.size
          have hIr : Hid (∀ l : List Nat, l.Perm (spread (fun v => v == 0) s a k).inn → ArI a b s (k + 1) (m0 + m1 + m2 + l.length) (markL d l)) := fun l hl => hIk.region (by rw [hsl.out, hnab.out]) hkl h0 hbd hl
          have hsp := spread_ok (so := fun v => v == 0) (a := a) (b := b) (by rw [hsl.out, hnab.out]) hkl
          have hspl := hsp.len
          have hslt : Hid (∀ t, t ∈ (spread (fun v => v == 0) s a k).inn ∨ t ∈ (spread (fun v => v == 0) s a k).bd → t < n) := fun t ht => by rw [← hsl.out]; exact hsp.lt t ht
          rw [hsl.out] at hspl
          generalize spread (fun v => v == 0) s a k = Z at *
          replace hsp := Lib.hid hsp
          replace hMk := Lib.hid hMk; replace hIk := Lib.hid hIk; replace h0 := Lib.hid h0; replace hbd := Lib.hid hbd
          go_wp2_with fail
          refine HS1.out.mono ?_
          rintro e w5 ⟨l1, l2, q1, c1, q2, c2, rfl, hp1, hp2, hi1, hi2, hB5, hq1, hq2⟩
          have hM5 := hMk.out.below hB5 hBW
          have hl1 : l1.length ≤ n := by rw [hp1.length_eq]; omega
          have hl2 : l2.length ≤ n := by rw [hp2.length_eq]; omega
          have hl1m : Hid (∀ j, j < l1.length → st l1 j < n) := fun j hj => hslt.out _ (.inl (hp1.mem_iff.1 (by unfold st; rw [List.getElem?_eq_getElem hj]; exact List.getElem_mem hj)))
          have hl2m : Hid (∀ j, j < l2.length → st l2 j < n) := fun j hj => hslt.out _ (.inr (hp2.mem_iff.1 (by unfold st; rw [List.getElem?_eq_getElem hj]; exact List.getElem_mem hj)))
          have hq1M : Hid (∀ y, q1 = some y → y.block ≠ w1.heap.size + 1) := fun y hy => by have := hq1 y hy; have := lt_of_heap hMk.out.dn; omega
          replace hIr : Hid (ArI a b s (k + 1) (m0 + m1 + m2 + l1.length) (markL d l1)) := hIr.out l1 hp1
          replace hM5 := Lib.hid hM5; replace hi1 := Lib.hid hi1; replace hi2 := Lib.hid hi2; replace hslt := Lib.hid hslt
          clear HS1 hB5 hq1 hq2 hp1 hp2 dk dd dx0 dx1 dx2 dm1 dm2 fm1 fm2 hspl
          go_wp2_with fail
          go_loopg [12, 51] l2.length (fun gk v jv W' => ∃ (j x : Nat), j ≤ l2.length ∧ gk = l2.length - j ∧ jv = .int .i64 j ∧ v = .int .i64 (x : Int) ∧ x ≤ 3 ∧ w5 = W')
          case atStart => exact ⟨0, 0, Nat.zero_le _, rfl, rfl, rfl, by omega, rfl⟩
          case round =>
            obtain ⟨j, x, hj, hgk2, rfl, rfl, hx3, rfl⟩ := hrel
            replace hgk2 := Lib.hid hgk2
            by_cases hjl : j < l2.length
            · obtain ⟨b2, o2, rfl, _, hc2⟩ := hi2.out.at (by omega)
              have e2 := hc2 j hjl
              rw [asI_at] at e2
              have htn := hl2m.out j hjl
              generalize st l2 j = t at *
              obtain ⟨bq', oq', e, _, hcq⟩ := (hx.out.below hM5.out.bl).at (by omega)
              cases e
              have et := hcq t htn
              rw [asI_at] at et
              have hst := hs.out t
              obtain ⟨z, hz3, hor⟩ := or_small x hx3 (st s t) (by omega)
              generalize st s t = y at *
              have dx2 : w5.cell? ⟨w.heap.size, 2, none⟩ = some (.slice (some ⟨bq, oq, none⟩) n c) := wcell (cs := [_, _, _]) hM5.out.bx 2
              clear hc2 hcq
              go_wp2_with fail
              have hgk2 := hgk2.out
              go_roundg (l2.length - (j + 1))
              case measure => omega
              case rel => exact ⟨j + 1, z, hjl, rfl, by go_num, rfl, hz3, rfl⟩
            · have hje : ¬ (j : Int) < (l2.length : Int) := by omega
              go_wp2_with fail
              go_loopg [65] l1.length (fun gk jv W' => ∃ (i : Nat), i ≤ l1.length ∧ gk = l1.length - i ∧ jv = .int .i64 i ∧ ArM w W' w.heap.size w1.heap.size a b n c (some ⟨bq, oq, none⟩) (markL d (l1.take i)) m0 m1 m2 m3 ∧ IntsIn W' q1 l1.length (asI l1))
              case atStart => exact ⟨0, Nat.zero_le _, rfl, rfl, hM5.out, hi1.out⟩
              case round =>
                obtain ⟨i, hi, hgk3, rfl, hM6, hi16⟩ := hrel
                obtain ⟨W6, rfl⟩ : ∃ W6 : World, W6 = wr := ⟨_, rfl⟩
                replace hgk3 := Lib.hid hgk3
                clear hM5 hi1
                by_cases hil : i < l1.length
                · obtain ⟨b1, o1, rfl, _, hc1⟩ := hi16.at (by omega)
                  have e1 := hc1 i hil
                  rw [asI_at] at e1
                  have htn := hl1m.out i hil
                  have htk : Hid (l1.take (i + 1) = l1.take i ++ [st l1 i]) := by
                    show _ = _
                    rw [List.take_succ_eq_append_getElem hil]; unfold st; rw [List.getElem?_eq_getElem hil]; rfl
                  generalize st l1 i = t at *
                  have dt := hM6.dn.cell (i := t) (by rw [markL_len, hdl]; exact htn)
                  have ft := wfree hM6.dn t
                  have hM7 := Lib.hid (hM6.mark t)
                  have hi7 : Hid (IntsIn (W6.setCell ⟨w1.heap.size + 1, t, none⟩ (.bool true)) (some ⟨b1, o1, none⟩) l1.length (asI l1)) := hi16.keep (by simp [World.setCell]) fun b' o' e => Below.heap_setCell W6 _ _ _ (hq1M.out _ e)
                  clear hc1 hM6 hi16
                  go_wp2_with fail
                  have hgk3 := hgk3.out
                  go_roundg (l1.length - (i + 1))
                  case measure => omega
                  case rel => exact ⟨i + 1, hil, rfl, by go_num, by rw [htk.out, markL_snoc]; exact hM7.out, hi7.out⟩
                · have hie : i = l1.length := by omega
                  subst hie
                  rw [List.take_length] at hM6
                  have hill : ¬ (l1.length : Int) < (l1.length : Int) := by omega
                  rcases (show x = 0 ∨ x = 3 ∨ x = 1 ∨ x = 2 from by omega) with rfl | rfl | rfl | rfl
                  · have hM7 := Lib.hid (hM6.more 0 (m0 + l1.length) (m0 + l1.length) m1 m2 rfl ((m0 : Int) + (l1.length : Int)) (by show _ = _; push_cast; rfl))
                    have hI3 : Hid (ArI a b s (k + 1) ((m0 + l1.length) + m1 + m2) (markL d l1)) := by show ArI _ _ _ _ _ _; rw [show (m0 + l1.length) + m1 + m2 = m0 + m1 + m2 + l1.length by omega]; exact hIr.out
                    have dm : W6.cell? ⟨w1.heap.size, 0, none⟩ = some (.int .i64 (m0 : Int)) := wcell (cs := [_, _, _, _]) hM6.mm 0
                    have fm := wfree hM6.mm 0
                    clear hM6 hi16
                    go_wp2_with fail
                    have hgk := hgk.out
                    go_roundg (n - (k + 1))
                    case measure => omega
                    case rel => exact ⟨k + 1, markL d l1, (m0 + l1.length), m1, m2, m3, hlt, rfl, by go_num, hM7.out, hI3.out⟩
                  · have hM7 := Lib.hid (hM6.more 0 (m0 + l1.length) (m0 + l1.length) m1 m2 rfl ((m0 : Int) + (l1.length : Int)) (by show _ = _; push_cast; rfl))
                    have hI3 : Hid (ArI a b s (k + 1) ((m0 + l1.length) + m1 + m2) (markL d l1)) := by show ArI _ _ _ _ _ _; rw [show (m0 + l1.length) + m1 + m2 = m0 + m1 + m2 + l1.length by omega]; exact hIr.out
                    have dm : W6.cell? ⟨w1.heap.size, 0, none⟩ = some (.int .i64 (m0 : Int)) := wcell (cs := [_, _, _, _]) hM6.mm 0
                    have fm := wfree hM6.mm 0
                    clear hM6 hi16
                    go_wp2_with fail
                    have hgk := hgk.out
                    go_roundg (n - (k + 1))
                    case measure => omega
                    case rel => exact ⟨k + 1, markL d l1, (m0 + l1.length), m1, m2, m3, hlt, rfl, by go_num, hM7.out, hI3.out⟩
                  · have hM7 := Lib.hid (hM6.more 1 (m1 + l1.length) m0 (m1 + l1.length) m2 rfl ((m1 : Int) + (l1.length : Int)) (by show _ = _; push_cast; rfl))
                    have hI3 : Hid (ArI a b s (k + 1) (m0 + (m1 + l1.length) + m2) (markL d l1)) := by show ArI _ _ _ _ _ _; rw [show m0 + (m1 + l1.length) + m2 = m0 + m1 + m2 + l1.length by omega]; exact hIr.out
                    have dm : W6.cell? ⟨w1.heap.size, 1, none⟩ = some (.int .i64 (m1 : Int)) := wcell (cs := [_, _, _, _]) hM6.mm 1
                    have fm := wfree hM6.mm 1
                    clear hM6 hi16
                    go_wp2_with fail
                    have hgk := hgk.out
                    go_roundg (n - (k + 1))
                    case measure => omega
                    case rel => exact ⟨k + 1, markL d l1, m0, (m1 + l1.length), m2, m3, hlt, rfl, by go_num, hM7.out, hI3.out⟩
                  · have hM7 := Lib.hid (hM6.more 2 (m2 + l1.length) m0 m1 (m2 + l1.length) rfl ((m2 : Int) + (l1.length : Int)) (by show _ = _; push_cast; rfl))
                    have hI3 : Hid (ArI a b s (k + 1) (m0 + m1 + (m2 + l1.length)) (markL d l1)) := by show ArI _ _ _ _ _ _; rw [show m0 + m1 + (m2 + l1.length) = m0 + m1 + m2 + l1.length by omega]; exact hIr.out
                    have dm : W6.cell? ⟨w1.heap.size, 2, none⟩ = some (.int .i64 (m2 : Int)) := wcell (cs := [_, _, _, _]) hM6.mm 2
                    have fm := wfree hM6.mm 2
                    clear hM6 hi16
                    go_wp2_with fail
                    have hgk := hgk.out
                    go_roundg (n - (k + 1))
                    case measure => omega
                    case rel => exact ⟨k + 1, markL d l1, m0, m1, (m2 + l1.length), m3, hlt, rfl, by go_num, hM7.out, hI3.out⟩
      · have hI2 := hIk.stone hkl h0
        rcases (show st s k = 1 ∨ st s k = 2 from by omega) with h1 | h1
        · rw [h1] at dk
          have hM2 := Lib.hid (hMk.more 1 (m1 + 1) m0 (m1 + 1) m2 rfl ((m1 : Int) + 1) (by show _ = _; push_cast; rfl))
          have hI3 : Hid (ArI a b s (k + 1) (m0 + (m1 + 1) + m2) d) := by show ArI _ _ _ _ _ _; rw [show m0 + (m1 + 1) + m2 = m0 + m1 + m2 + 1 by omega]; exact hI2
          replace hMk := Lib.hid hMk; replace hIk := Lib.hid hIk; replace h0 := Lib.hid h0; replace h1 := Lib.hid h1
          clear hI2 hsk
          go_wp2_with fail
          have hgk := hgk.out
          go_roundg (n - (k + 1))
          case measure => omega
          case rel => exact ⟨k + 1, d, m0, m1 + 1, m2, m3, hlt, rfl, by go_num, hM2.out, hI3.out⟩
        · rw [h1] at dk
          have hM2 := Lib.hid (hMk.more 2 (m2 + 1) m0 m1 (m2 + 1) rfl ((m2 : Int) + 1) (by show _ = _; push_cast; rfl))
          have hI3 : Hid (ArI a b s (k + 1) (m0 + m1 + (m2 + 1)) d) := hI2
          replace hMk := Lib.hid hMk; replace hIk := Lib.hid hIk; replace h0 := Lib.hid h0; replace h1 := Lib.hid h1
          clear hI2 hsk
          go_wp2_with fail
          have hgk := hgk.out
          go_roundg (n - (k + 1))
          case measure => omega
          case rel => exact ⟨k + 1, d, m0, m1, m2 + 1, m3, hlt, rfl, by go_num, hM2.out, hI3.out⟩
    · have hke : k = n := by omega
      subst hke
      have hall : Hid (m1 + m2 + m0 = k) := by
        show _ = _
        rw [← hsl.out] at hIk
        have := hIk.all (by rw [hsl.out, hnab.out])
        rw [hsl.out] at this; omega
      have hkk : ¬ (k : Int) < (k : Int) := by omega
      have dm0 : W2.cell? ⟨w1.heap.size, 0, none⟩ = some (.int .i64 (m0 : Int)) := wcell (cs := [_, _, _, _]) hMk.mm 0
      have dm1 : W2.cell? ⟨w1.heap.size, 1, none⟩ = some (.int .i64 (m1 : Int)) := wcell (cs := [_, _, _, _]) hMk.mm 1
      have dm2 : W2.cell? ⟨w1.heap.size, 2, none⟩ = some (.int .i64 (m2 : Int)) := wcell (cs := [_, _, _, _]) hMk.mm 2
      have hbl := Lib.hid hMk.bl
      replace hMk := Lib.hid hMk; replace hIk := Lib.hid hIk
      go_wp2_with fail
      go_quiet (fail)
      have hbl3 : Hid (Below w.heap.size w (W2.drewN nq)) := below_drewN hbl.out nq
      go_wp2_with fail
      refine bodyPost_ret (v := .tuple #[.int .i64 (m1 : Int), .int .i64 (m2 : Int), .int .i64 (m0 : Int), .int .i64 0]) (by simp [results, Try.results14, go_sem]) rfl ⟨m1, m2, m0, rfl, hall.out, hbl3.out⟩
end Go.Proofs.Ytefjliblaeadfaa
