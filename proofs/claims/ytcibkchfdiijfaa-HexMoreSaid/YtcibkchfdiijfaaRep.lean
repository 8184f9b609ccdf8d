/- What slices.Repeat computes for a list of one number; conditions: the count is from 1 to 100000. -/
import Derived.Test.YtcibkchfdiijfaaGen
import Derived.Test.YtcibkchfdiijfaaShelf
import Derived.Laws.CopyOwn
import Derived.Deep.RegionLaw
import Derived.IntWalk
namespace Go.Proofs.Ytcibkchfdiijfaa
open Go.RowKit

theorem repT : IntT Try.prog 22 3 := ⟨Try.underlying22, by kernel_rfl⟩
theorem mul1_any (n : Nat) (hn : n ≤ 100000) (w : World) : Calls Try.prog 29 #[.int .u64 1, .int .u64 (n : Int)] w fun e w' => e = .returned (.tuple #[.int .u64 0, .int .u64 (n : Int)]) ∧ w = w' := by
  have h := Sh.bits_Mul 1 n (by omega) (by omega) w
  refine h.mono fun e w' h => ⟨?_, h.2.symm⟩
  rw [h.1, Nat.one_mul, Nat.div_eq_of_lt (by omega), Nat.mod_eq_of_lt (by omega)]; rfl
def repL (v : Int) (k n : Nat) : List Value := List.replicate k (.int .i64 v) ++ List.replicate (n - k) (.int .i64 0)
theorem repL_len (v : Int) (k n : Nat) (h : k ≤ n) : (repL v k n).length = n := by unfold repL; simp; omega
theorem repL_zero (v : Int) (n : Nat) : repL v 0 n = List.replicate n (.int .i64 0) := by unfold repL; simp
theorem repL_get (v : Int) (k n j : Nat) (h : k ≤ n) : (repL v k n)[j]? = if j < k then some (.int .i64 v) else if j < n then some (.int .i64 0) else none := by
  unfold repL
  by_cases h1 : j < k
  · rw [List.getElem?_append_left (by simpa using h1), if_pos h1]; simp [h1]
  · rw [List.getElem?_append_right (by simp; omega), if_neg h1, List.getElem?_replicate]
    simp only [List.length_replicate]
    by_cases h2 : j < n
    · rw [if_pos h2, if_pos (by omega)]
    · rw [if_neg h2, if_neg (by omega)]
theorem repL_splice (v : Int) (k n m : Nat) (h : k + m ≤ n) : splice (repL v k n) k (List.replicate m (.int .i64 v)) = repL v (k + m) n := by
  apply List.ext_getElem?
  intro j
  rw [repL_get _ _ _ _ h]
  unfold splice
  have hl := repL_len v k n (by omega)
  have g2 := repL_get v k n
  have ht : ((repL v k n).take k).length = k := by rw [List.length_take, hl]; omega
  by_cases h1 : j < k
  · rw [List.getElem?_append_left (by rw [ht]; exact h1), List.getElem?_take_of_lt h1, g2 _ (by omega), if_pos h1, if_pos (by omega)]
  · rw [List.getElem?_append_right (by rw [ht]; omega), ht]
    by_cases h2 : j < k + m
    · rw [List.getElem?_append_left (by simp; omega), if_pos h2, List.getElem?_replicate, if_pos (by omega)]
    · rw [List.getElem?_append_right (by simp; omega), if_neg h2, List.getElem?_drop, g2 _ (by omega), if_neg (by simp; omega)]
      simp only [List.length_replicate]
      rw [show k + m + (j - k - m) = j by omega]

set_option maxHeartbeats 1000000 in
theorem repeat1_any (b cap : Nat) (v : Int) (n : Nat) (w : World) (h1 : 1 ≤ n) (hn : n ≤ 100000) (hx : w.cell? ⟨b, 0, none⟩ = some (.int .i64 v)) :
    Calls Try.prog 17 #[.slice (some ⟨b, 0, none⟩) 1 cap, .int .i64 n] w fun e w' => e = .returned (.slice (some ⟨w.heap.size, 0, none⟩) n n) ∧ w'.heap[w.heap.size]? = some (.cells (repL v n n).toArray 3) ∧ Below w.heap.size w w' := by
  have hbl := World.block_lt_of_cell? w ⟨b, 0, none⟩ hx
  have HM := Lib.hid (fun W => mul1_any n hn W)
  have hmk := fun W => run_mk repT .i64 .i64 (n : Int) (n : Int) n rfl rfl (by omega) W
  have hB0 := Lib.hid ((Below.refl w.heap.size w).alloc (Nat.le_refl _) (.cells ((List.replicate n 0).map (Value.int .i64)).toArray 3))
  have hg0 := heap_alloc_new w (.cells ((List.replicate n 0).map (Value.int .i64)).toArray 3)
  have hx0 := (Below.cell (p := ⟨b, 0, none⟩) hB0.out hbl).trans hx
  rw [List.map_replicate, ← repL_zero v n] at hg0 hB0 hx0
  rw [List.map_replicate, ← repL_zero v n] at hmk
  replace hx := Lib.hid hx
  have hd1 : decide ((n : Int) < 0) = false := by simp
  have hd2 : decide ((9223372036854775807 : Int) < (n : Int)) = false := by simp; omega
  go_enter Try.func17, Try.ntmps17
  go_wp2_with fail
  refine (HM.out _).mono ?_
  rintro e w' ⟨rfl, rfl⟩
  have hl := Lib.hid (repL_len v 0 n (by omega))
  have hs0 := Lib.hid (repL_splice v 0 n 1 (by omega))
  go_wp2_with (with_reducible refine wpList_copy_splice rfl (.tmp 31) (.tmp 32) 22 22 rfl 3 Try.underlying22 (by kernel_rfl) (some ⟨w.heap.size, 0, none⟩) (some ⟨b, 0, none⟩) n n 1 cap rfl rfl w.heap.size 0 (repL v 0 n) 3 hg0 [.int .i64 v] ?_ ?_ ?_ ?_ w.heap.size w hB0.out (Nat.le_refl _) ?_)
  · show 1 = min 1 n; omega
  · intro j u hj
    match j, hj with
    | 0, hj => simp at hj; subst hj; exact hx.out
  · rw [hl.out]; simp; omega
  · intro u hu; simp at hu; subst hu; rfl
  · intro w1 hg1 hB1
    have hg1' := hg1.out
    rw [show [Value.int .i64 v] = List.replicate 1 (Value.int .i64 v) from rfl, hs0.out, Nat.zero_add] at hg1'
    replace hg1' := Lib.hid hg1'
    replace hB1 := Lib.hid hB1
    clear hg1 hg0 hs0 hl hB0 hx0 hx hmk HM
    go_wp2_with fail
    go_loopg [8] (n - 1) (fun gk kv W' => ∃ k : Nat, 1 ≤ k ∧ k ≤ n ∧ gk = n - k ∧ kv = .int .i64 k ∧ W'.heap[w.heap.size]? = some (.cells (repL v k n).toArray 3) ∧ Below w.heap.size w W')
    case atStart => exact ⟨1, by omega, h1, rfl, rfl, hg1'.out, hB1.out⟩
    case round =>
      obtain ⟨k, hk1, hk2, hgk, rfl, hg, hB⟩ := hrel
      obtain ⟨W1, rfl⟩ : ∃ W1 : World, W1 = wr := ⟨_, rfl⟩
      replace hgk := Lib.hid hgk
      by_cases hlt : k < n
      · have hz1 : (k : Int) ≤ (n : Int) := by omega
        have hz2 : ¬ n = k := by omega
        obtain ⟨m, hm⟩ : ∃ m, min k (n - k) = m := ⟨_, rfl⟩
        have hm1 : Hid (m ≤ k ∧ k + m ≤ n ∧ 1 ≤ m) := by show _ ∧ _; omega
        have hs1 := Lib.hid (repL_splice v k n m (by omega))
        have hl := Lib.hid (repL_len v k n (by omega))
        have hget := Lib.hid (fun j hj => repL_get v k n j hj)
        replace hm := Lib.hid hm
        have hw1 : IntKind.i64.wrap ((k : Int) + (m : Int)) = ((k + m : Nat) : Int) := by rw [IntWalk.i64_in _ (by have := hm1.out; omega)]; push_cast; rfl
        have hlen : Hid ((List.replicate m (Value.int .i64 v)).length = Nat.min k (n - k)) := by show _ = _; rw [List.length_replicate, ← hm.out]
        have hsrc : Hid (∀ (j : Nat) (u : Value), (List.replicate m (Value.int .i64 v))[j]? = some u → W1.cell? ((⟨w.heap.size, 0, none⟩ : Addr).add j) = some u) := by
          intro j u hj
          have hjm : j < m := by have := (List.getElem?_eq_some_iff.1 hj).1; simpa using this
          rw [Addr.add_lit, Nat.zero_add, wcell hg, hget.out j (by omega), if_pos (by have := hm1.out; omega), ← hj]
          simp [hjm]
        have hfit : Hid (k + (List.replicate m (Value.int .i64 v)).length ≤ (repL v k n).length) := by show _ ≤ _; rw [hl.out, List.length_replicate]; have := hm1.out; omega
        have hone : Hid (∀ u ∈ List.replicate m (Value.int .i64 v), u.oneCell' = true) := fun u hu => by rw [List.eq_of_mem_replicate hu]; rfl
        clear hl hget
        go_wp2_with fail
        go_region_law (refine step_copy_splice (by rfl) _ _ _ _ (by rfl) 3 Try.underlying22 (by kernel_rfl) (some ⟨w.heap.size, k, none⟩) (some ⟨w.heap.size, 0, none⟩) (n - k) (n - k) k n ?_ ?_ w.heap.size k (repL v k n) 3 hg (List.replicate m (.int .i64 v)) hlen.out (fun _ => ⟨rfl, _, rfl, hsrc.out⟩) hfit.out hone.out w.heap.size w (below_drewN hB 1) (Nat.le_refl _) ?_; (go_simp); (go_simp); intro w4 hg4 hb4; rw [hs1.out] at hg4; replace hb4 := Lib.hid hb4)
        all_goals
          go_wp2_with fail
          obtain ⟨m1, m2, m3⟩ := hm1.out
          have hgk := hgk.out
          go_roundg (n - (k + m))
          case measure => omega
          case rel => exact ⟨k + m, by omega, m2, rfl, by first | exact congrArg (Value.int .i64) hw1 | (simp only [goInt, List.length_replicate]; go_num) | (simp), hg4.out, hb4.out⟩
      · obtain rfl : k = n := by omega
        replace hg := Lib.hid hg
        go_wp2_with fail
        go_ret
        exact ⟨rfl, hg.out, hB⟩
end Go.Proofs.Ytcibkchfdiijfaa
