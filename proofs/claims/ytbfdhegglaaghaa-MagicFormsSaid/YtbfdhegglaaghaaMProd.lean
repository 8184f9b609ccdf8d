/- What magic.Product computes at squares of n and m rows, n times m up to twelve, of numbers from 1 to their squares' sizes; conditions: the slices read as such squares. -/
import Derived.Test.YtbfdhegglaaghaaMMin
import Derived.Test.YtbfdhegglaaghaaStepA
namespace Go.Proofs.Ytbfdhegglaaghaa
open Go.RowKit

theorem el33 : ElT Try.prog 33 23 (.slice none 0 0) 1 24 := ⟨Try.underlying33, by kernel_rfl, rfl, by omega, by omega⟩

set_option maxHeartbeats 8000000 in
set_option maxRecDepth 100000 in
theorem product_any (n m nn mm c1 c2 : Nat) (p q : Option Addr) (a b : List Nat) (w : World) (hn1 : 1 ≤ n) (hn : n ≤ 12) (hm1 : 1 ≤ m) (hm : m ≤ 12) (hnm : n * m ≤ 12) (hnn : Hid (nn = n * n)) (hmm : Hid (mm = m * m)) (hx : IntsIn w p nn (asI a)) (hy : IntsIn w q mm (asI b))
    (ha : ∀ i, i < nn → 1 ≤ st a i ∧ st a i ≤ nn) (hb : ∀ i, i < mm → 1 ≤ st b i ∧ st b i ≤ mm) :
    Calls Try.prog 7 #[.slice p nn c1, .slice q mm c2] w fun e w' => ∃ r c, e = .returned (.tuple #[.slice r (n * m * (n * m)) c, .int .i64 0]) ∧ IntsIn w' r (n * m * (n * m)) (asI (prodY a n b m (n * m))) ∧ Below w.heap.size w w' := by
  have hnn144 : nn ≤ 12 * 12 := by rw [hnn.out]; exact Nat.mul_le_mul hn hn
  have hmm144 : mm ≤ 12 * 12 := by rw [hmm.out]; exact Nat.mul_le_mul hm hm
  have hnnp : 1 ≤ nn := by rw [hnn.out]; exact Nat.mul_pos hn1 hn1
  have hmmp : 1 ≤ mm := by rw [hmm.out]; exact Nat.mul_pos hm1 hm1
  obtain ⟨N, hN⟩ : ∃ N, n * m = N := ⟨_, rfl⟩
  have hNI : (n : Int) * m = (N : Int) := by rw [← hN]; simp
  have hN12 : N ≤ 12 := by omega
  have hS1 := Lib.hid (fun W => side_any n nn c1 p W hn1 hn hnn)
  have hS2 := Lib.hid (fun W => side_any m mm c2 q W hm1 hm hmm)
  have hB0 : Hid (Below w.heap.size w (w.alloc (.cells #[.slice p nn c1, .slice q mm c2] 23))) := (Below.refl _ _).alloc (Nat.le_refl _) _
  have hxa := hx.alloc (.cells #[.slice p nn c1, .slice q mm c2] 23)
  have hya := hy.alloc (.cells #[.slice p nn c1, .slice q mm c2] 23)
  have a0 := heap_alloc_new w (.cells #[.slice p nn c1, .slice q mm c2] 23)
  have mina := Lib.hid (fun W h => min_any nn c1 nn p a W hnnp (by omega) h (fun i hi => ⟨(ha i hi).1, by have := (ha i hi).2; omega, by have := (ha i hi).2; omega⟩))
  have maxa := Lib.hid (fun W h => max_any nn c1 nn p a W hnnp (by omega) h (fun i hi => ⟨(ha i hi).1, by have := (ha i hi).2; omega, by have := (ha i hi).2; omega⟩))
  have minb := Lib.hid (fun W h => min_any mm c2 mm q b W hmmp (by omega) h (fun i hi => ⟨(hb i hi).1, by have := (hb i hi).2; omega, by have := (hb i hi).2; omega⟩))
  have maxb := Lib.hid (fun W h => max_any mm c2 mm q b W hmmp (by omega) h (fun i hi => ⟨(hb i hi).1, by have := (hb i hi).2; omega, by have := (hb i hi).2; omega⟩))
  replace hxa := Lib.hid hxa; replace hya := Lib.hid hya; replace ha := Lib.hid ha; replace hb := Lib.hid hb
  have zn : ((n : Int) == 0) = false := by simp; omega
  have zm : ((m : Int) == 0) = false := by simp; omega
  rw [hN] at hnm ⊢
  replace hN := Lib.hid hN
  clear hx hy
  go_enter Try.func7, Try.ntmps7
  go_wp2_with fail
  refine (hS1.out _).mono ?_
  rintro e w' ⟨rfl, rfl⟩
  go_wp2_with fail
  refine (hS2.out _).mono ?_
  rintro e w' ⟨rfl, rfl⟩
  go_wp2_with fail
  generalize w.alloc (.cells #[.slice p nn c1, .slice q mm c2] 23) = W at *
  have c0 : W.cell? ⟨w.heap.size, 0, none⟩ = some (.slice p nn c1) := wcell (cs := [_, _]) a0 0
  have c1' : W.cell? ⟨w.heap.size, 1, none⟩ = some (.slice q mm c2) := wcell (cs := [_, _]) a0 1
  replace a0 := Lib.hid a0
  refine wp_loop_rounds 3 ?_
  rw [rounds_succ]
  go_wp2_with fail
  refine (mina.out _ hxa.out).mono ?_
  rintro e w' ⟨⟨q1, hq1, rfl⟩, rfl⟩
  go_wp2_with fail
  refine (maxa.out _ hxa.out).mono ?_
  rintro e w' ⟨⟨q2, hq2, rfl⟩, rfl⟩
  go_wp2_with fail
  rw [rounds_succ]
  go_wp2_with fail
  refine (minb.out _ hya.out).mono ?_
  rintro e w' ⟨⟨q3, hq3, rfl⟩, rfl⟩
  go_wp2_with fail
  refine (maxb.out _ hya.out).mono ?_
  rintro e w' ⟨⟨q4, hq4, rfl⟩, rfl⟩
  go_wp2_with fail
  rw [rounds_succ]
  go_wp2_with fail
  clear c0 c1' mina maxa minb maxb hS1 hS2
  go_loopg [10, 51] N (fun gk sv yv W' => ∃ y L c : Nat, ∃ r : Option Addr, y ≤ N ∧ gk = N - y ∧ yv = .int .i64 y ∧ sv = .slice r L c ∧ L = y * N ∧ Own 3 W.heap.size W' r L c (asI (prodY a n b m y)) ∧ Below W.heap.size W W')
  case atStart => exact ⟨0, 0, 0, none, by omega, by omega, rfl, rfl, by omega, Own.nil _ _ _, Below.refl _ _⟩
  case round =>
    obtain ⟨y, L, c, r, hy, hgk, rfl, rfl, hL, hO, hB⟩ := hrel
    obtain ⟨W1, rfl⟩ : ∃ W1 : World, W1 = wr := ⟨_, rfl⟩
    replace hgk := Lib.hid hgk; replace hL := Lib.hid hL; replace hO := Lib.hid hO; replace hB := Lib.hid hB
    by_cases hlt : y < N
    · go_wp2_with fail
      go_loopg [10, 57] N (fun gk sv xv W' => ∃ x L c : Nat, ∃ r : Option Addr, x ≤ N ∧ gk = N - x ∧ xv = .int .i64 x ∧ sv = .slice r L c ∧ L = y * N + x ∧ Own 3 W.heap.size W' r L c (asI (prodY a n b m y ++ prodX a n b m y x)) ∧ Below W.heap.size W W')
      case atStart => exact ⟨0, L, c, r, by omega, by omega, rfl, rfl, by have := hL.out; omega, by simpa [prodX] using hO.out, hB.out⟩
      case round =>
        clear hO hB hL W1
        obtain ⟨x, L, c, r, hx, hgk2, rfl, rfl, hL, hO, hB⟩ := hrel
        obtain ⟨W1, rfl⟩ : ∃ W1 : World, W1 = wr := ⟨_, rfl⟩
        have hLb : L ≤ 200 := by
          have : y * N ≤ 12 * 12 := Nat.mul_le_mul (by omega) (by omega)
          omega
        replace hgk2 := Lib.hid hgk2; replace hL := Lib.hid hL
        by_cases hltx : x < N
        · obtain ⟨yq, hyq⟩ : ∃ k, y / m = k := ⟨_, rfl⟩
          obtain ⟨ym, hym⟩ : ∃ k, y % m = k := ⟨_, rfl⟩
          obtain ⟨xq, hxq⟩ : ∃ k, x / m = k := ⟨_, rfl⟩
          obtain ⟨xm, hxm⟩ : ∃ k, x % m = k := ⟨_, rfl⟩
          have b1 : yq < n := by rw [← hyq]; exact Nat.div_lt_of_lt_mul (by rw [Nat.mul_comm, hN.out]; exact hlt)
          have b2 : xq < n := by rw [← hxq]; exact Nat.div_lt_of_lt_mul (by rw [Nat.mul_comm, hN.out]; exact hltx)
          have b3 : ym < m := by rw [← hym]; exact Nat.mod_lt _ (by omega)
          have b4 : xm < m := by rw [← hxm]; exact Nat.mod_lt _ (by omega)
          have t1 : (y : Int).tdiv m = yq := by rw [Int.tdiv_eq_ediv_of_nonneg (by omega), ← hyq]; rfl
          have t2 : (y : Int).tmod m = ym := by rw [Int.tmod_eq_emod_of_nonneg (by omega), ← hym]; rfl
          have t3 : (x : Int).tdiv m = xq := by rw [Int.tdiv_eq_ediv_of_nonneg (by omega), ← hxq]; rfl
          have t4 : (x : Int).tmod m = xm := by rw [Int.tmod_eq_emod_of_nonneg (by omega), ← hxm]; rfl
          have t5 : (y : Int) / m = yq := by rw [← hyq]; rfl
          have t6 : (y : Int) % m = ym := by rw [← hym]; rfl
          have t7 : (x : Int) / m = xq := by rw [← hxq]; rfl
          have t8 : (x : Int) % m = xm := by rw [← hxm]; rfl
          obtain ⟨A1, hA1⟩ : ∃ k, yq * n = k := ⟨_, rfl⟩
          obtain ⟨A2, hA2⟩ : ∃ k, ym * m = k := ⟨_, rfl⟩
          have p1 : (yq : Int) * n = (A1 : Int) := by rw [← hA1]; simp
          have p2 : (ym : Int) * m = (A2 : Int) := by rw [← hA2]; simp
          have i1 : A1 + xq < nn := by rw [hnn.out, ← hA1]; exact place_lt b1 b2
          have i2 : A2 + xm < mm := by rw [hmm.out, ← hA2]; exact place_lt b3 b4
          obtain ⟨g1, o1, rfl, hg1W, hc1⟩ := hxa.out.at (by omega)
          obtain ⟨g2, o2, rfl, hg2W, hc2⟩ := hya.out.at (by omega)
          have hg1 := Nat.lt_of_lt_of_le hg1W hB.size
          have hg2 := Nat.lt_of_lt_of_le hg2W hB.size
          have d1 := (hB.cell (p := ⟨g1, o1 + (A1 + xq), none⟩) hg1W).trans (hc1 (A1 + xq) i1)
          have d2 := (hB.cell (p := ⟨g2, o2 + (A2 + xm), none⟩) hg2W).trans (hc2 (A2 + xm) i2)
          rw [asI_at] at d1 d2
          obtain ⟨v1, v2⟩ := ha.out (A1 + xq) i1
          obtain ⟨v3, v4⟩ := hb.out (A2 + xm) i2
          have hat : Hid (prodAt a n b m y x = (st a (A1 + xq) - 1) * m * m + st b (A2 + xm)) := by
            show _ = _; unfold prodAt; rw [hyq, hxq, hym, hxm, hA1, hA2]
          generalize st a (A1 + xq) = va at *
          generalize st b (A2 + xm) = vb at *
          obtain ⟨C1, hC1⟩ : ∃ k, (va - 1) * m = k := ⟨_, rfl⟩
          obtain ⟨C2, hC2⟩ : ∃ k, C1 * m = k := ⟨_, rfl⟩
          have p3 : ((va : Int) - 1) * m = (C1 : Int) := by rw [← hC1]; rw [show (va : Int) - 1 = ((va - 1 : Nat) : Int) by omega]; simp
          have p4 : (C1 : Int) * m = (C2 : Int) := by rw [← hC2]; simp
          have q5 : C1 ≤ 144 * 12 := by rw [← hC1]; exact Nat.mul_le_mul (by omega) hm
          have q6 : C2 ≤ 144 * 12 * 12 := by rw [← hC2]; exact Nat.mul_le_mul q5 hm
          rw [hC1, hC2] at hat
          have w1 : IntKind.i64.wrap (yq : Int) = yq := IntWalk.i64_in _ (by omega)
          have w2 : IntKind.i64.wrap (A1 : Int) = A1 := IntWalk.i64_in _ (by omega)
          have w3 : IntKind.i64.wrap (xq : Int) = xq := IntWalk.i64_in _ (by omega)
          have w4 : IntKind.i64.wrap ((A1 : Int) + xq) = (A1 : Int) + xq := IntWalk.i64_in _ (by omega)
          have w5 : IntKind.i64.wrap ((va : Int) - 1) = (va : Int) - 1 := IntWalk.i64_in _ (by omega)
          have w6 : IntKind.i64.wrap (C1 : Int) = C1 := IntWalk.i64_in _ (by omega)
          have w7 : IntKind.i64.wrap (C2 : Int) = C2 := IntWalk.i64_in _ (by omega)
          have w8 : IntKind.i64.wrap (ym : Int) = ym := IntWalk.i64_in _ (by omega)
          have w9 : IntKind.i64.wrap (A2 : Int) = A2 := IntWalk.i64_in _ (by omega)
          have w10 : IntKind.i64.wrap (xm : Int) = xm := IntWalk.i64_in _ (by omega)
          have w11 : IntKind.i64.wrap ((A2 : Int) + xm) = (A2 : Int) + xm := IntWalk.i64_in _ (by omega)
          have w12 : IntKind.i64.wrap ((C2 : Int) + vb) = (C2 : Int) + vb := IntWalk.i64_in _ (by omega)
          have x1 : (0 : Int) ≤ (A1 : Int) + xq := by omega
          have x2 : (A1 : Int) + xq < (nn : Int) := by omega
          have x3 : (0 : Int) ≤ (A2 : Int) + xm := by omega
          have x4 : (A2 : Int) + xm < (mm : Int) := by omega
          have x5 : ((A1 : Int) + xq).toNat = A1 + xq := by omega
          have x6 : ((A2 : Int) + xm).toNat = A2 + xm := by omega
          have zm0 : m ≠ 0 := by omega
          replace hyq := Lib.hid hyq; replace hym := Lib.hid hym; replace hxq := Lib.hid hxq; replace hxm := Lib.hid hxm; replace hA1 := Lib.hid hA1; replace hA2 := Lib.hid hA2; replace hC1 := Lib.hid hC1; replace hC2 := Lib.hid hC2
          replace hO := Lib.hid hO; replace hB := Lib.hid hB
          clear hc1 hc2
          go_wp2_with fail
          have hsz1 : g1 < (W1.alloc (.cells #[.int .i64 ((C2 : Int) + vb)] 3)).heap.size := by simp; omega
          have e1 : (W1.alloc (.cells #[.int .i64 ((C2 : Int) + vb)] 3)).cell? ⟨g1, o1 + (A1 + xq), none⟩ = some (.int .i64 va) := (((Below.refl _ _).alloc (Nat.le_refl _) _).cell (p := ⟨g1, o1 + (A1 + xq), none⟩) hg1).trans d1
          have e2 : (W1.alloc (.cells #[.int .i64 ((C2 : Int) + vb)] 3)).cell? ⟨g2, o2 + (A2 + xm), none⟩ = some (.int .i64 vb) := (((Below.refl _ _).alloc (Nat.le_refl _) _).cell (p := ⟨g2, o2 + (A2 + xm), none⟩) hg2).trans d2
          have hWs := hB.out.size
          have ne1 := hO.out.apart g1 hg1W
          have ne2 := hO.out.apart g2 hg2W
          go_region_held3 (fun w' => w'.cell? ⟨g1, o1 + (A1 + xq), none⟩ = some (.int .i64 va) ∧ w'.cell? ⟨g2, o2 + (A2 + xm), none⟩ = some (.int .i64 vb)) (first | exact ⟨s1, s2⟩ | exact ⟨e1, e2⟩ | go_keep)
            ((refine step_append1 int23 _ (by rfl) _ _ (by rfl) W.heap.size r L c _ (by rfl) ((hO.out.alloc _).drew) ((C2 : Int) + vb) W1.heap.size (by rfl) (by simp) (by omega) (by simp; omega) ?_; intro p2 c3 w2 hM hg3; have s1 := (World.cell?_of_block (a := ⟨g1, o1 + (A1 + xq), none⟩) (hg3.block g1 (by simp; omega) ne1)).trans e1; have s2 := (World.cell?_of_block (a := ⟨g2, o2 + (A2 + xm), none⟩) (hg3.block g2 (by simp; omega) ne2)).trans e2))
          have hfin : Hid (asI (prodY a n b m y ++ prodX a n b m y x) ++ [(C2 : Int) + vb] = asI (prodY a n b m y ++ prodX a n b m y (x + 1))) := by
            show _ = _
            rw [prodX_succ, ← List.append_assoc, asI_app _ [_], hat.out]; simp [asI]
          have hBx := ((hB.out.alloc hWs (.cells #[.int .i64 ((C2 : Int) + vb)] 3)).drew).grown hg3 (by simp; omega) (fun x hx => by
            cases r with
            | none => cases hx
            | some a => cases hx; exact (hO.out.block a rfl).1)
          replace hM := Lib.hid hM; replace hBx := Lib.hid hBx
          clear hg3 t1 t2 t3 t4 s1 s2 e1 e2
          go_wp2_with fail
          have hgk2 := hgk2.out
          go_roundg (N - (x + 1))
          case measure => omega
          case rel => exact ⟨x + 1, L + 1, c3, p2, by omega, rfl, by go_num, rfl, by have := hL.out; omega, by rw [← hfin.out]; exact hM.out, hBx.out⟩
        · have hje : x = N := by omega
          subst hje
          replace hO := Lib.hid hO; replace hB := Lib.hid hB
          go_wp2_with fail
          have hgk := hgk.out
          go_roundg (x - (y + 1))
          case measure => omega
          case rel => exact ⟨y + 1, L, c, r, by omega, rfl, by go_num, rfl, by rw [hL.out, Nat.add_mul, Nat.one_mul], by rw [prodY_succ, hN.out]; exact hO.out, hB.out⟩
    · have hje : y = N := by omega
      subst hje
      have hLL := hL.out
      subst hLL
      have hin := Lib.hid hO.out.in
      have hBf := Lib.hid (hB0.out.trans (hB.out.mono hB0.out.size))
      go_wp2_with fail
      go_ret2
      exact ⟨r, ⟨c, rfl⟩, hin.out, hBf.out⟩
end Go.Proofs.Ytbfdhegglaaghaa
