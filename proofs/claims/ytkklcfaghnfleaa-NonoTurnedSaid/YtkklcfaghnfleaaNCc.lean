/- What slices.Grow and slices.Concat make of a picture's rows; conditions: at most twenty rows and columns. -/
import Derived.Test.YtkklcfaghnfleaaNCp
import Derived.Lib.AppendZerosOnto
namespace Go.Proofs.Ytkklcfaghnfleaa
open Go.RowKit

set_option maxRecDepth 100000 in
set_option maxHeartbeats 2000000 in
theorem grow_any (n : Nat) (h1 : 1 ≤ n) (h2 : n ≤ 1000) (w : World) : Calls Try.prog 35 #[.slice none 0 0, .int .i64 n] w fun e w' => ∃ q c, e = .returned (.slice q 0 c) ∧ Own 3 w.heap.size w' q 0 c [] ∧ Below w.heap.size w w' := by
  obtain ⟨i0, hi, hz0, hz1, hz2⟩ := info_parts intG.info
  have hfit : Builtin.nextslicecap (0 + n) 0 * i0.bytes ≤ 281474976710656 := by
    rw [hz2]; exact growslice_fits (show 0 < 0 + n by omega) (by omega)
  have hfit2 : Builtin.nextslicecap n 0 * 8 ≤ 281474976710656 := by rw [hz2, Nat.zero_add] at hfit; exact hfit
  have hge := grownCap_ge w n 0 3
  have hcm : grownCap w n 0 3 ≤ maxLen := grownCap_le_maxLen w n 0 3 (by unfold maxLen; omega)
  have hb := (Below.refl w.heap.size w).alloc (Nat.le_refl _) (Obj.cells (Builtin.zeroCells #[.int .i64 0] n ++ Builtin.zeroCells #[.int .i64 0] (grownCap w n 0 3 - n)) 3)
  replace hge := Lib.hid hge; replace hcm := Lib.hid hcm; replace hb := Lib.hid hb
  clear hfit hi hz0 hz1 hz2
  have h3 : (n : Int) > 0 := by omega
  have h0 : ¬ ((n : Int) < 0) := by omega
  have ht3 : Try.t3.bytes = 8 := rfl
  have hn8 : ¬ (281474976710656 < (n : Int) * (Try.t3.bytes : Int)) := by rw [ht3]; omega
  have hc8 : ¬ (281474976710656 < Builtin.nextslicecap n 0 * Try.t3.bytes) := by rw [ht3]; omega
  go_enter Try.func35, Try.ntmps35
  go_wp2_with fail
  all_goals first | (exfalso; omega) | skip
  all_goals
    go_ret
    refine ⟨_, _, rfl, ⟨rfl, .inr ⟨w.heap.size, grownCap w n 0 3, _, rfl, Nat.le_refl _, heap_alloc_new w _, Nat.zero_le _, hcm.out, ?_, ?_⟩⟩, ⟨hb.out.os, hb.out.tape, hb.out.output, hb.out.size, hb.out.block⟩⟩
    · have := hge.out
      rw [Array.size_append, size_zeroCells, size_zeroCells]
      show n * 1 + (grownCap w n 0 3 - n) * 1 = grownCap w n 0 3 * 1
      omega
    · rfl
/-- the first j rows, one behind the other. -/
def catI (L : Nat → List Int) : Nat → List Int
  | 0 => []
  | j + 1 => catI L j ++ L j
/-- rows as they lie. -/
structure Hn (w : World) (g n m : Nat) (pb pc : Nat → Nat) (L : Nat → List Int) : Prop where
  row : ∀ i, i < n → g < w.heap.size ∧ w.cell? ⟨g, i, none⟩ = some (.slice (some ⟨pb i, 0, none⟩) m (pc i))
  ints : ∀ i, i < n → IntsIn w (some ⟨pb i, 0, none⟩) m (L i)
theorem Hn.below {w w' : World} {g n m : Nat} {pb pc : Nat → Nat} {L : Nat → List Int} (h : Hn w g n m pb pc L) (hb : Below w.heap.size w w') : Hn w' g n m pb pc L :=
  ⟨fun i hi => ⟨Nat.lt_of_lt_of_le (h.row i hi).1 hb.size, (hb.cell (p := ⟨g, i, none⟩) (h.row i hi).1).trans (h.row i hi).2⟩, fun i hi => (h.ints i hi).below hb⟩
set_option maxHeartbeats 4000000 in
theorem concat_any (g n m c : Nat) (pb pc : Nat → Nat) (L : Nat → List Int) (w : World) (hn : 1 ≤ n ∧ n ≤ 20) (hm : 1 ≤ m ∧ m ≤ 20) (hH : Hn w g n m pb pc L) :
    Calls Try.prog 23 #[.slice (some ⟨g, 0, none⟩) n c] w fun e w' => ∃ q c', e = .returned (.slice q (n * m) c') ∧ Own 3 w.heap.size w' q (n * m) c' (catI L n) ∧ Below w.heap.size w w' := by
  obtain ⟨hn1, hn2⟩ := hn
  obtain ⟨h1, h2⟩ := hm
  have hnm : n * m ≤ 400 := Nat.mul_le_mul hn2 h2
  have hnm1 : 1 ≤ n * m := Nat.mul_le_mul hn1 h1
  have HG := Lib.hid (grow_any (n * m) hnm1 (by omega) w)
  have hmono : Hid (∀ j, j < n → j * m + m ≤ n * m) := fun j hj => by
    have := Nat.mul_le_mul_right m (show j + 1 ≤ n from hj)
    rw [Nat.succ_mul] at this; exact this
  obtain ⟨N, hN⟩ : ∃ N, N = n * m := ⟨_, rfl⟩
  rw [← hN] at HG hnm hnm1 hmono ⊢
  replace hH := Lib.hid hH
  replace hN := Lib.hid hN
  go_enter Try.func23, Try.ntmps23
  go_wp2_with fail
  go_loopg [3, 11] n (fun gk sv iv W' => ∃ j : Nat, j ≤ n ∧ gk = n - j ∧ iv = .int .i64 j ∧ sv = .int .i64 ((j * m : Nat) : Int) ∧ w = W')
  case atStart => exact ⟨0, by omega, by omega, rfl, by simp, rfl⟩
  case round =>
    obtain ⟨j, hj, hgk, rfl, rfl, rfl⟩ := hrel
    replace hgk := Lib.hid hgk
    by_cases hlt : j < n
    · have c0 := (hH.out.row j hlt).2
      have hSb' := hmono.out j hlt
      obtain ⟨S, hS⟩ : ∃ S, S = j * m := ⟨_, rfl⟩
      rw [← hS] at hSb'
      have hSb : S + m ≤ 400 := by omega
      have hS2 : Hid ((j + 1) * m = S + m) := by show _ = _; rw [Nat.add_mul, Nat.one_mul, hS]
      rw [← hS]
      replace hS := Lib.hid hS
      clear hSb'
      go_wp2_with fail
      have hgk := hgk.out
      go_roundg (n - (j + 1))
      case measure => omega
      case rel => exact ⟨j + 1, by omega, rfl, by go_num, by rw [hS2.out]; go_num, rfl⟩
    · obtain rfl : j = n := by omega
      rw [← hN.out]
      go_wp2_with fail
      refine HG.out.mono ?_
      rintro e w1 ⟨q, c1, rfl, hO, hB⟩
      replace hO := Lib.hid hO; replace hB := Lib.hid hB
      clear HG
      go_wp2_with fail
      go_loopg [6, 27] j (fun gk sv iv W' => ∃ (i : Nat) (q : Option Addr) (c1 : Nat), i ≤ j ∧ gk = j - i ∧ iv = .int .i64 i ∧ sv = .slice q (i * m) c1 ∧ Hid (Own 3 w.heap.size W' q (i * m) c1 (catI L i)) ∧ Hid (Below w.heap.size w W'))
      case atStart => exact ⟨0, q, c1, by omega, by omega, rfl, by simp, by simpa [catI] using hO, hB⟩
      case round =>
        clear hO hB
        obtain ⟨i, q, c1, hj, hgk, rfl, rfl, hO, hB⟩ := hrel
        obtain ⟨W1, rfl⟩ : ∃ W1 : World, W1 = wr := ⟨_, rfl⟩
        replace hgk := Lib.hid hgk
        by_cases hlt : i < j
        · have hH1 := hH.out.below hB.out
          have c0 := (hH1.row i hlt).2
          have hin := Lib.hid (hH1.ints i hlt)
          have hqb : Hid (∀ x, q.map (·.block) = some x → w.heap.size ≤ x) := fun x hx => by
            cases q with
            | none => cases hx
            | some y => simp at hx; subst hx; exact (hO.out.block y rfl).1
          have hsz := Lib.hid hB.out.size
          have hjn : i * m + m ≤ 400 := Nat.le_trans (hmono.out i hlt) (by omega)
          have hcat : Hid (catI L (i + 1) = catI L i ++ L i) := rfl
          clear hH1
          go_wp2_with (at_builtin; refine wp_appendL intG _ rfl _ _ rfl w.heap.size q (i * m) c1 (catI L i) rfl hO.out ⟨pb i, 0, none⟩ m (pc i) (L i) rfl hin.out (by omega) hsz.out ?_; intro p' c' w2 hO2 hg2 _ hz2; replace hO2 := Lib.hid hO2; replace hg2 := Lib.hid hg2)
          have hgk := hgk.out
          go_roundg (j - (i + 1))
          case measure => omega
          case rel => exact ⟨i + 1, p', c', by omega, rfl, by go_num, by rw [Nat.add_mul, Nat.one_mul], by rw [hcat.out, Nat.add_mul, Nat.one_mul]; exact hO2, hB.out.grown hg2.out hsz.out hqb.out⟩
        · obtain rfl : i = j := by omega
          go_wp2_with fail
          go_ret
          rw [hN.out]
          exact ⟨q, c1, rfl, hO.out, hB.out⟩
theorem Pc.rows {B : Nat} {W : World} {pb n m : Nat} {rq : Option Addr} {rc : Nat} {cq : Option Addr} {cc cb kc : Nat} {g kp : Nat → Nat} {c : Pic} (h : Pc B W pb n m rq rc cq cc cb kc g kp c) : Hn W cb n m g kp (rowL m c) :=
  ⟨fun _ hi => ⟨h.lt.2.1, h.at hi⟩, fun _ hi => h.in hi⟩
def flatI (n m : Nat) (c : Pic) : List Int := (List.range (n * m)).map fun i => c (i / m) (i % m)
theorem catI_flat {m : Nat} (c : Pic) : ∀ n, catI (rowL m c) n = flatI n m c
  | 0 => by simp [catI, flatI]
  | n + 1 => by
    rw [catI, catI_flat c n]
    unfold flatI rowL
    rw [Nat.succ_mul, List.range_add, List.map_append, List.map_map]
    congr 1
    refine List.map_congr_left fun x hx => ?_
    have hx := List.mem_range.1 hx
    show c n x = c ((n * m + x) / m) ((n * m + x) % m)
    rw [(fx_at hx).1, (fx_at hx).2]
theorem flatI_full {n m : Nat} {c : Pic} (hf : Full n m c) : flatI n m c = asI (flat n m c) := by
  unfold flatI flat asI
  rw [List.map_map]
  refine List.map_congr_left fun i hi => ?_
  obtain ⟨h1, h2⟩ := fx_lt (List.mem_range.1 hi)
  rcases hf _ _ h1 h2 with e | e <;> simp [e]
end Go.Proofs.Ytkklcfaghnfleaa
