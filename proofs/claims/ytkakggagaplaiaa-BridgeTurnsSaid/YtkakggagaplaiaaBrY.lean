/- What slices.Concat makes of four hands; conditions: each of as many cards, one to thirteen. -/
import Derived.Test.YtkakggagaplaiaaBrX
namespace Go.Proofs.Ytkakggagaplaiaa
open Go.RowKit

/-- the first j hands, one behind the other. -/
def cat (L : Nat → List Nat) : Nat → List Nat
  | 0 => []
  | j + 1 => cat L j ++ L j
theorem cat_len {L : Nat → List Nat} {n : Nat} (h : ∀ i, i < 4 → (L i).length = n) : ∀ j, j ≤ 4 → (cat L j).length = j * n
  | 0, _ => by simp [cat]
  | j + 1, hj => by rw [cat, List.length_append, cat_len h j (by omega), h j (by omega), Nat.add_mul, Nat.one_mul]
/-- four hands as they lie. -/
structure H4 (w : World) (g o n : Nat) (pb po pc : Nat → Nat) (L : Nat → List Nat) : Prop where
  row : ∀ i, i < 4 → g < w.heap.size ∧ w.cell? ⟨g, o + i, none⟩ = some (.slice (some ⟨pb i, po i, none⟩) n (pc i))
  ints : ∀ i, i < 4 → IntsIn w (some ⟨pb i, po i, none⟩) n (asI (L i))
theorem H4.below {w w' : World} {g o n : Nat} {pb po pc : Nat → Nat} {L : Nat → List Nat} (h : H4 w g o n pb po pc L) (hb : Below w.heap.size w w') : H4 w' g o n pb po pc L :=
  ⟨fun i hi => ⟨Nat.lt_of_lt_of_le (h.row i hi).1 hb.size, (hb.cell (p := ⟨g, o + i, none⟩) (h.row i hi).1).trans (h.row i hi).2⟩, fun i hi => (h.ints i hi).below hb⟩
theorem H4.len {w : World} {g o n : Nat} {pb po pc : Nat → Nat} {L : Nat → List Nat} (h : H4 w g o n pb po pc L) : ∀ i, i < 4 → (L i).length = n := fun i hi => by have := (h.ints i hi).len; rwa [asI_len] at this
set_option maxHeartbeats 4000000 in
theorem concat_any (g o n c : Nat) (pb po pc : Nat → Nat) (L : Nat → List Nat) (w : World) (h1 : 1 ≤ n) (h2 : n ≤ 13) (hH : H4 w g o n pb po pc L) :
    Calls Try.prog 34 #[.slice (some ⟨g, o, none⟩) 4 c] w fun e w' => ∃ q c', e = .returned (.slice q (4 * n) c') ∧ Own 3 w.heap.size w' q (4 * n) c' (asI (cat L 4)) ∧ Below w.heap.size w w' := by
  have HG := Lib.hid (grow_any (4 * n) (by omega) (by omega) w)
  have hL := Lib.hid hH.len
  replace hH := Lib.hid hH
  go_enter Try.func34, Try.ntmps34
  go_wp2_with fail
  go_loopg [3, 11] 4 (fun gk sv iv W' => ∃ j : Nat, j ≤ 4 ∧ gk = 4 - j ∧ iv = .int .i64 j ∧ sv = .int .i64 ((j * n : Nat) : Int) ∧ w = W')
  case atStart => exact ⟨0, by omega, by omega, rfl, by simp, rfl⟩
  case round =>
    obtain ⟨j, hj, hgk, rfl, rfl, rfl⟩ := hrel
    replace hgk := Lib.hid hgk
    by_cases hlt : j < 4
    · have c0 := (hH.out.row j hlt).2
      obtain ⟨S, hS⟩ : ∃ S, S = j * n := ⟨_, rfl⟩
      have hSb : S ≤ 39 := by rw [hS]; exact Nat.le_trans (Nat.mul_le_mul (show j ≤ 3 by omega) h2) (by omega)
      have hS2 : Hid ((j + 1) * n = S + n) := by show _ = _; rw [Nat.add_mul, Nat.one_mul, hS]
      rw [← hS]
      replace hS := Lib.hid hS
      go_wp2_with fail
      have hgk := hgk.out
      go_roundg (4 - (j + 1))
      case measure => omega
      case rel => exact ⟨j + 1, by omega, rfl, by go_num, by rw [hS2.out]; go_num, rfl⟩
    · obtain rfl : j = 4 := by omega
      go_wp2_with fail
      refine HG.out.mono ?_
      rintro e w1 ⟨q, c1, rfl, hO, hB⟩
      replace hO := Lib.hid hO; replace hB := Lib.hid hB
      clear HG
      go_wp2_with fail
      go_loopg [6, 27] 4 (fun gk sv iv W' => ∃ (j : Nat) (q : Option Addr) (c1 : Nat), j ≤ 4 ∧ gk = 4 - j ∧ iv = .int .i64 j ∧ sv = .slice q (j * n) c1 ∧ Hid (Own 3 w.heap.size W' q (j * n) c1 (asI (cat L j))) ∧ Hid (Below w.heap.size w W'))
      case atStart => exact ⟨0, q, c1, by omega, by omega, rfl, by simp, by simpa [cat, asI] using hO, hB⟩
      case round =>
        clear hO hB
        obtain ⟨j, q, c1, hj, hgk, rfl, rfl, hO, hB⟩ := hrel
        obtain ⟨W1, rfl⟩ : ∃ W1 : World, W1 = wr := ⟨_, rfl⟩
        replace hgk := Lib.hid hgk
        by_cases hlt : j < 4
        · have hH1 := hH.out.below hB.out
          have c0 := (hH1.row j hlt).2
          have hin := Lib.hid (hH1.ints j hlt)
          have hqb := Lib.hid hO.out.rowb
          have hsz := Lib.hid hB.out.size
          have hjn : j * n ≤ 39 := Nat.le_trans (Nat.mul_le_mul (show j ≤ 3 by omega) h2) (by omega)
          have hcat : Hid (asI (cat L (j + 1)) = asI (cat L j) ++ asI (L j)) := by show _ = _; rw [cat, asI_app]
          go_wp2_with (at_builtin; refine wp_appendL intG _ rfl _ _ rfl w.heap.size q (j * n) c1 (asI (cat L j)) rfl hO.out ⟨pb j, po j, none⟩ n (pc j) (asI (L j)) rfl hin.out (by omega) hsz.out ?_; intro p' c' w2 hO2 hg2 _ hz2; replace hO2 := Lib.hid hO2; replace hg2 := Lib.hid hg2)
          have hgk := hgk.out
          go_roundg (4 - (j + 1))
          case measure => omega
          case rel => exact ⟨j + 1, p', c', by omega, rfl, by go_num, by rw [Nat.add_mul, Nat.one_mul], by rw [hcat.out, Nat.add_mul, Nat.one_mul]; exact hO2, hB.out.grown hg2.out hsz.out hqb.out⟩
        · obtain rfl : j = 4 := by omega
          go_wp2_with fail
          go_ret
          exact ⟨q, c1, rfl, hO.out, hB.out⟩
end Go.Proofs.Ytkakggagaplaiaa
