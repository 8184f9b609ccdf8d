/- What stones.Group and gameroomkeep.free compute at boards that may be; conditions: a board of 1 to 10 by 1 to 10 places, signs 0 to 2. -/
import Derived.Test.YtefjliblaeadfaaPutX
namespace Go.Proofs.Ytefjliblaeadfaa
open Go.RowKit

set_option maxHeartbeats 4000000 in
set_option maxRecDepth 100000 in
theorem Group_any (a b n c p : Nat) (q : Option Addr) (s : List Nat) (w : World) (ha1 : 1 ≤ a) (ha : a ≤ 10) (hb1 : 1 ≤ b) (hb : b ≤ 10) (hnab : Hid (n = a * b)) (hn : n ≤ 100) (hp : p < n) (hx : IntsIn w q n (asI s)) (hs : ∀ j, st s j ≤ 2) (h0 : st s p ≠ 0) :
    Calls Try.prog 21 #[.agg #[.int .i64 (a : Int), .int .i64 (b : Int), .slice q n c], .int .i64 (p : Int)] w fun e w' => ∃ (l1 l2 : List Nat) (q1 : Option Addr) (c1 : Nat) (q2 : Option Addr) (c2 : Nat), e = .returned (.tuple #[.slice q1 l1.length c1, .slice q2 l2.length c2, .int .i64 0]) ∧ l1.Perm (grpS s a p).1 ∧ l2.Perm (grpS s a p).2 ∧ Below w.heap.size w w' := by
  have hsl : s.length = n := by have := hx.len; rwa [asI_len] at this
  have hmay := mayOk ha1 ha hb1 hb hnab.out hsl hs
  have e0 := heap_alloc_new w (.cells #[.int .i64 (a : Int), .int .i64 (b : Int), .slice q n c] 24)
  have hB0 := (Below.refl w.heap.size w).alloc (Nat.le_refl _) (.cells #[.int .i64 (a : Int), .int .i64 (b : Int), .slice q n c] 24)
  have HM := Lib.hid (may_any q n c a b (asI s) (w.alloc (.cells #[.int .i64 (a : Int), .int .i64 (b : Int), .slice q n c] 24)) (by omega) (by omega) (by omega) (by omega) (by omega) (hx.below hB0))
  have HG : Hid (∀ W', Below w.heap.size w W' → _) := fun W' h => group_any a b n c p q s W' ha1 ha hnab hn hp (hx.below h) hs
  rw [hmay] at HM
  obtain ⟨bq, oq, rfl, hbq, hcq⟩ := hx.at (by omega)
  have dp := hcq p hp
  rw [asI_at] at dp
  have z0 : (((st s p : Nat) : Int) == 0) = false := by simp; exact h0
  replace hB0 := Lib.hid hB0; replace hsl := Lib.hid hsl; replace hmay := Lib.hid hmay; replace hx := Lib.hid hx; replace hs := Lib.hid hs; replace e0 := Lib.hid e0
  clear hcq
  go_enter Try.func21, Try.ntmps21
  go_wp2_with fail
  refine HM.out.mono ?_
  rintro e w1 ⟨rfl, hB1⟩
  have hbl1 : Hid (Below w.heap.size w w1) := hB0.out.trans (hB1.mono hB0.out.size)
  have e01 := (hB1.block w.heap.size (lt_of_heap e0.out)).trans e0.out
  have d0 : w1.cell? ⟨w.heap.size, 0, none⟩ = some (.int .i64 (a : Int)) := wcell (cs := [_, _, _]) e01 0
  have d1 : w1.cell? ⟨w.heap.size, 1, none⟩ = some (.int .i64 (b : Int)) := wcell (cs := [_, _, _]) e01 1
  have d2 : w1.cell? ⟨w.heap.size, 2, none⟩ = some (.slice (some ⟨bq, oq, none⟩) n c) := wcell (cs := [_, _, _]) e01 2
  have dp1 : w1.cell? ⟨bq, oq + p, none⟩ = some (.int .i64 ((st s p : Nat) : Int)) := (hbl1.out.cell (p := ⟨bq, oq + p, none⟩) hbq).trans dp
  have HG1 := Lib.hid (HG.out w1 hbl1.out)
  replace e01 := Lib.hid e01
  clear HM hB1 HG dp
  go_wp2_with fail
  refine HG1.out.mono ?_
  rintro e w2 ⟨l1, l2, q1, c1, q2, c2, rfl, hp1, hp2, hi1, hi2, hB2, _⟩
  have hbl2 : Hid (Below w.heap.size w w2) := hbl1.out.trans (hB2.mono hbl1.out.size)
  replace hp1 := Lib.hid hp1; replace hp2 := Lib.hid hp2
  clear hB2 hi1 hi2 HG1
  go_wp2_with fail
  go_ret3
  exact ⟨l1, l2, q1, c1, q2, c2, rfl, hp1.out, hp2.out, hbl2.out⟩

set_option maxHeartbeats 4000000 in
set_option maxRecDepth 100000 in
theorem free_any (a b n c : Nat) (q : Option Addr) (s : List Nat) (w : World) (ha1 : 1 ≤ a) (ha : a ≤ 10) (hb1 : 1 ≤ b) (hb : b ≤ 10) (hnab : Hid (n = a * b)) (hn : n ≤ 100) (hx : IntsIn w q n (asI s)) (hs : ∀ j, st s j ≤ 2) (hf : Free s a) :
    Calls Try.prog 13 #[.agg #[.int .i64 (a : Int), .int .i64 (b : Int), .slice q n c]] w fun e w' => e = .returned (.bool true) ∧ Below w.heap.size w w' := by
  have hsl : s.length = n := by have := hx.len; rwa [asI_len] at this
  have e0 := heap_alloc_new w (.cells #[.int .i64 (a : Int), .int .i64 (b : Int), .slice q n c] 24)
  have hB0 : Hid (Below w.heap.size w (w.alloc (.cells #[.int .i64 (a : Int), .int .i64 (b : Int), .slice q n c] 24))) := (Below.refl w.heap.size w).alloc (Nat.le_refl _) (.cells #[.int .i64 (a : Int), .int .i64 (b : Int), .slice q n c] 24)
  have hlib : Hid (∀ p, p < n → st s p ≠ 0 → (grpS s a p).2 ≠ []) := fun p hp h0 => (lib_iff (b := b) (by rw [hsl, hnab.out]) (by rw [hsl]; exact hp) h0).2 (hf p (by rw [hsl]; exact hp) h0)
  replace e0 := Lib.hid e0; replace hx := Lib.hid hx; replace hs := Lib.hid hs; replace hf := Lib.hid hf; replace hsl := Lib.hid hsl
  go_enter Try.func13, Try.ntmps13
  go_wp2_with fail
  go_loopg [3] n (fun gk iv W' => ∃ k : Nat, k ≤ n ∧ gk = n - k ∧ iv = .int .i64 k ∧ W'.heap[w.heap.size]? = some (.cells #[.int .i64 (a : Int), .int .i64 (b : Int), .slice q n c] 24 (0, 0)) ∧ Below w.heap.size w W')
  case atStart => exact ⟨0, Nat.zero_le _, rfl, rfl, e0.out, hB0.out⟩
  case round =>
    obtain ⟨k, hk, hgk, rfl, e1, hB1⟩ := hrel
    obtain ⟨W1, rfl⟩ : ∃ W1 : World, W1 = wr := ⟨_, rfl⟩
    replace hgk := Lib.hid hgk
    have d0 : W1.cell? ⟨w.heap.size, 0, none⟩ = some (.int .i64 (a : Int)) := wcell (cs := [_, _, _]) e1 0
    have d1 : W1.cell? ⟨w.heap.size, 1, none⟩ = some (.int .i64 (b : Int)) := wcell (cs := [_, _, _]) e1 1
    have d2 : W1.cell? ⟨w.heap.size, 2, none⟩ = some (.slice q n c) := wcell (cs := [_, _, _]) e1 2
    have hsz := lt_of_heap e1
    by_cases hlt : k < n
    · obtain ⟨bq, oq, rfl, _, hcq⟩ := (hx.out.below hB1).at (by omega)
      have dk := hcq k hlt
      rw [asI_at] at dk
      by_cases h0 : st s k = 0
      · have z0 : (((st s k : Nat) : Int) == 0) = true := by simp; exact h0
        rw [h0] at dk
        replace h0 := Lib.hid h0; replace hB1 := Lib.hid hB1; replace e1 := Lib.hid e1
        clear hcq z0
        go_wp2_with fail
        have hgk := hgk.out
        go_roundg (n - (k + 1))
        case measure => omega
        case rel => exact ⟨k + 1, hlt, rfl, by go_num, e1.out, hB1.out⟩
      · have z0 : (((st s k : Nat) : Int) == 0) = false := by simp; exact h0
        have HG := Lib.hid (Group_any a b n c k (some ⟨bq, oq, none⟩) s W1 ha1 ha hb1 hb hnab hn hlt (hx.out.below hB1) hs.out h0)
        have hne := Lib.hid (hlib.out k hlt h0)
        replace hB1 := Lib.hid hB1; replace e1 := Lib.hid e1
        clear hcq
        go_wp2_with fail
        refine HG.out.mono ?_
        rintro e w2 ⟨l1, l2, q1, c1, q2, c2, rfl, hp1, hp2, hB2⟩
        have hl2 : ¬ (l2.length : Int) = 0 := by
          intro e; apply hne.out
          have := hp2.length_eq
          exact List.eq_nil_of_length_eq_zero (by omega)
        have e2 := Lib.hid ((hB2.block w.heap.size hsz).trans e1.out)
        have hB3 : Hid (Below w.heap.size w w2) := hB1.out.trans (hB2.mono hB1.out.size)
        replace hp1 := Lib.hid hp1; replace hp2 := Lib.hid hp2
        clear HG hB2 d0 d1 d2 dk
        go_wp2_with fail
        have hgk := hgk.out
        go_roundg (n - (k + 1))
        case measure => omega
        case rel => exact ⟨k + 1, hlt, rfl, by go_num, e2.out, hB3.out⟩
    · have hke : ¬ (k : Int) < (n : Int) := by omega
      replace hB1 := Lib.hid hB1; replace e1 := Lib.hid e1
      go_wp2_with fail
      go_ret
      exact ⟨rfl, hB1.out⟩
end Go.Proofs.Ytefjliblaeadfaa
