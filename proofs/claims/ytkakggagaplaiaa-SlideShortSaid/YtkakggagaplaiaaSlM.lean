/- What slide.far, slide.May, slide.parity and slide.Can compute of an order laid on a board; conditions: 2 or 3 by 2 or 3 places. -/
import Derived.Test.YtkakggagaplaiaaSlP
import Derived.Test.YtkakggagaplaiaaOrdW
import Derived.IntWalk
namespace Go.Proofs.Ytkakggagaplaiaa
open Go.RowKit

theorem far_any (x : Nat) (w : World) (h1 : 2 ≤ x) (h2 : x ≤ 5) : Calls Try.prog 44 #[.int .i64 x] w fun e w' => e = .returned (.bool false) ∧ w = w' := by
  have g1 : decide ((x : Int) < 2) = false := decide_eq_false (by omega)
  have g2 : decide ((5 : Int) < x) = false := decide_eq_false (by omega)
  go_enter Try.func44, Try.ntmps44
  go_wp2_with fail
  go_ret
  exact ⟨rfl, rfl⟩
theorem sorted_at (p : Option Addr) (n c : Nat) (l : List Nat) (w : World) (hn : n ≤ 1000) (hx : IntsIn w p n (asI l)) (hl : IsOrd n l) :
    Calls Try.prog 45 #[.func (.func 64) #[] #[.pointer (some ⟨w.heap.size, 0, none⟩)]] (w.alloc (.cells #[.slice p n c] 22)) fun e W' => ∃ q c', e = .returned (.slice q n c') ∧ IntsIn W' q n (asI (List.range n)) ∧ Below w.heap.size w W' := by
  refine (sortedV_any p n c (asI l) (by omega) w hx).mono ?_
  rintro e W' ⟨q, c', rfl, hO, hB⟩
  rw [srt_ord hl] at hO
  exact ⟨q, c', rfl, hO.in, hB⟩
set_option maxRecDepth 20000 in
set_option maxHeartbeats 4000000 in
theorem may_any (a b n c : Nat) (p : Option Addr) (l : List Nat) (w : World) (ha : 2 ≤ a) (ha3 : a ≤ 3) (hb : 2 ≤ b) (hb3 : b ≤ 3) (hn : Hid (n = a * b)) (hx : IntsIn w p n (asI l)) (hl : IsOrd n l) :
    Calls Try.prog 22 #[.agg #[.int .i64 a, .int .i64 b, .slice p n c]] w fun e w' => e = .returned (.bool true) ∧ Below w.heap.size w w' := by
  have hn9 : n ≤ 9 := by rw [hn.out]; have := Nat.mul_le_mul ha3 hb3; omega
  have hab : (a : Int) * (b : Int) = (n : Int) := by rw [hn.out]; push_cast; rfl
  have hw : IntKind.i64.wrap (n : Int) = n := IntWalk.i64_in _ (by omega)
  have HF := Lib.hid (fun x W h1 h2 => far_any x W h1 h2)
  go_enter Try.func22, Try.ntmps22
  go_upto_region 1 with fail
  have f0 := heap_alloc_new w (.cells #[.int .i64 a, .int .i64 b, .slice p n c] 39)
  have hB0 := (Below.refl w.heap.size w).alloc (Nat.le_refl _) (.cells #[.int .i64 a, .int .i64 b, .slice p n c] 39)
  have hx0 := hx.alloc (.cells #[.int .i64 a, .int .i64 b, .slice p n c] 39)
  generalize w.alloc (.cells #[.int .i64 a, .int .i64 b, .slice p n c] 39) = W0 at *
  have d0 : W0.cell? ⟨w.heap.size, 0, none⟩ = some (.int .i64 (a : Int)) := wcell (cs := [_, _, _]) f0 0
  have d1 : W0.cell? ⟨w.heap.size, 1, none⟩ = some (.int .i64 (b : Int)) := wcell (cs := [_, _, _]) f0 1
  have d2 : W0.cell? ⟨w.heap.size, 2, none⟩ = some (.slice p n c) := wcell (cs := [_, _, _]) f0 2
  have HS := Lib.hid (sorted_at p n c l W0 (by omega) hx0 hl)
  have HV := Lib.hid (values_any p n c W0)
  replace hB0 := Lib.hid hB0
  clear f0 hx0 hx
  go_wp2_with fail
  refine (HF.out a W0 ha (by omega)).mono ?_
  rintro e w' ⟨rfl, rfl⟩
  go_wp2_with fail
  refine (HF.out b W0 hb (by omega)).mono ?_
  rintro e w' ⟨rfl, rfl⟩
  go_wp2_with fail
  refine HV.out.mono ?_
  rintro e w' ⟨rfl, rfl⟩
  go_wp2_with fail
  refine HS.out.mono ?_
  rintro e w1 ⟨q, c1, rfl, hq, hB1⟩
  have hB2 := Lib.hid (hB0.out.trans (hB1.mono hB0.out.size))
  replace hq := Lib.hid hq
  clear HS HV HF hB0 hB1 d0 d1 d2
  go_wp2_with fail
  go_loopg [29] n (fun gk iv W' => ∃ j : Nat, j ≤ n ∧ gk = n - j ∧ iv = .int .i64 j ∧ w1 = W')
  case atStart => exact ⟨0, by omega, by omega, rfl, rfl⟩
  case round =>
    obtain ⟨j, hj, hgk, rfl, rfl⟩ := hrel
    replace hgk := Lib.hid hgk
    by_cases hlt : j < n
    · obtain ⟨b2, o, rfl, _, hc⟩ := hq.out.at (by omega)
      have c0 : w1.cell? ⟨b2, o + j, none⟩ = some (.int .i64 (j : Nat)) := by
        rw [hc j hlt, asI_at]; unfold st; simp [hlt]
      clear hc
      go_wp2_with fail
      have hgk := hgk.out
      go_roundg (n - (j + 1))
      case measure => omega
      case rel => exact ⟨j + 1, by omega, rfl, by go_num, rfl⟩
    · go_wp2_with fail
      go_ret
      exact ⟨rfl, hB2.out⟩
end Go.Proofs.Ytkakggagaplaiaa
