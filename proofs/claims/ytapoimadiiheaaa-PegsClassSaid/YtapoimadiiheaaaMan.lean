/- What pegs.many, gameroomkeep.count and (pegs.jump).can compute; conditions: a board of at most 100 places. -/
import Derived.Test.YtapoimadiiheaaaPgJ
namespace Go.Proofs.Ytapoimadiiheaaa
open Go.RowKit

def cntV (s : List Nat) (v k : Nat) : Nat := (s.take k).countP (· == v)
theorem cntV_succ {s : List Nat} {v k : Nat} (hk : k < s.length) : cntV s v (k + 1) = cntV s v k + if st s k = v then 1 else 0 := by
  have e : s[k] = st s k := by unfold st; rw [List.getElem?_eq_getElem hk]; rfl
  unfold cntV
  rw [List.take_succ_eq_append_getElem hk, List.countP_append, e]
  by_cases h : st s k = v <;> simp [h]
theorem cntV_le (s : List Nat) (v k : Nat) : cntV s v k ≤ k := by
  unfold cntV
  exact Nat.le_trans List.countP_le_length (List.length_take_le _ _)
set_option maxHeartbeats 2000000 in
theorem many_any (A H : Int) (n c : Nat) (q : Option Addr) (s : List Nat) (v : Nat) (w : World) (hn : n ≤ 1000) (hx : IntsIn w q n (asI s)) :
    Calls Try.prog 19 #[.agg #[.int .i64 A, .int .i64 H, .slice q n c], .int .i64 (v : Int)] w fun e w' => e = .returned (.int .i64 ((s.countP (· == v) : Nat) : Int)) ∧ Below w.heap.size w w' := by
  have hsl : s.length = n := by have := hx.len; rwa [asI_len] at this
  have e0 := heap_alloc_new w (.cells #[.int .i64 A, .int .i64 H, .slice q n c] 24)
  have hB0 := Lib.hid ((Below.refl w.heap.size w).alloc (Nat.le_refl _) (.cells #[.int .i64 A, .int .i64 H, .slice q n c] 24))
  have d2 : (w.alloc (.cells #[.int .i64 A, .int .i64 H, .slice q n c] 24)).cell? ⟨w.heap.size, 2, none⟩ = some (.slice q n c) := wcell (cs := [_, _, _]) e0 2
  have hx0 := Lib.hid (hx.alloc (.cells #[.int .i64 A, .int .i64 H, .slice q n c] 24))
  have hall : Hid (cntV s v n = s.countP (· == v)) := by show _ = _; unfold cntV; rw [← hsl, List.take_length]
  replace hsl := Lib.hid hsl
  clear hx e0
  go_enter Try.func19, Try.ntmps19
  go_wp2_with fail
  go_loopg [5, 11] n (fun gk cv iv W' => ∃ k : Nat, k ≤ n ∧ gk = n - k ∧ iv = .int .i64 k ∧ cv = .int .i64 (cntV s v k : Nat) ∧ w.alloc (.cells #[.int .i64 A, .int .i64 H, .slice q n c] 24) = W')
  case atStart => exact ⟨0, Nat.zero_le _, rfl, rfl, by simp [cntV], rfl⟩
  case round =>
    obtain ⟨k, hk, hgk, rfl, rfl, rfl⟩ := hrel
    replace hgk := Lib.hid hgk
    have hle := cntV_le s v k
    by_cases hlt : k < n
    · obtain ⟨b, o, rfl, _, hc⟩ := hx0.out.at (by omega)
      have dk := hc k hlt
      rw [asI_at] at dk
      have hs2 : Hid (cntV s v (k + 1) = cntV s v k + if st s k = v then 1 else 0) := cntV_succ (by rw [hsl.out]; exact hlt)
      clear hc
      generalize cntV s v k = cn at *
      obtain ⟨x, hxe⟩ : ∃ x, x = st s k := ⟨_, rfl⟩
      rw [← hxe] at dk hs2
      replace hxe := Lib.hid hxe
      by_cases hxv : x = v
      · have hs3 : Hid (cntV s v (k + 1) = cn + 1) := by show _ = _; rw [hs2.out, if_pos hxv]
        subst hxv
        go_wp2_with fail
        have hgk := hgk.out
        go_roundg (n - (k + 1))
        case measure => omega
        case rel => exact ⟨k + 1, hlt, rfl, by go_num, by rw [hs3.out]; go_num, rfl⟩
      · have hs3 : Hid (cntV s v (k + 1) = cn) := by show _ = _; rw [hs2.out, if_neg hxv, Nat.add_zero]
        have hxi : ¬ (x : Int) = (v : Int) := by omega
        go_wp2_with fail
        have hgk := hgk.out
        go_roundg (n - (k + 1))
        case measure => omega
        case rel => exact ⟨k + 1, hlt, rfl, by go_num, by rw [hs3.out], rfl⟩
    · have hke : k = n := by omega
      subst hke
      have hkk : ¬ (k : Int) < (k : Int) := by omega
      go_wp2_with fail
      go_ret
      refine ⟨?_, hB0.out⟩
      show Ending.returned (.int .i64 ((cntV s v k : Nat) : Int)) = _
      rw [hall.out]
set_option maxHeartbeats 2000000 in
theorem can_any (j : Jm) (n c : Nat) (q : Option Addr) (s : List Nat) (w : World) (hn : n ≤ 1000) (hx : IntsIn w q n (asI s)) (hj : wfJ n j) :
    Calls Try.prog 26 #[.agg #[.int .i64 (j.1 : Int), .int .i64 (j.2.1 : Int), .int .i64 (j.2.2 : Int)], .slice q n c] w fun e w' => e = .returned (.bool (canJ s j)) ∧ Below w.heap.size w w' := by
  obtain ⟨f, o, t⟩ := j
  obtain ⟨h1, h2, h3, _⟩ := hj
  simp only at h1 h2 h3
  have hB0 := Lib.hid ((Below.refl w.heap.size w).alloc (Nat.le_refl _) (.cells #[.int .i64 (f : Int), .int .i64 (o : Int), .int .i64 (t : Int)] 54))
  obtain ⟨bq, oq, rfl, _, hc⟩ := (hx.alloc (.cells #[.int .i64 (f : Int), .int .i64 (o : Int), .int .i64 (t : Int)] 54)).at (by omega)
  have d1 := hc f h1
  have d2 := hc o h2
  have d3 := hc t h3
  rw [asI_at] at d1 d2 d3
  have hcan : Hid (canJ s (f, o, t) = (decide (st s f = 1) && decide (st s o = 1) && decide (st s t = 0))) := by
    show _ = _
    unfold canJ
    rw [Bool.eq_iff_iff]; simp
  have f1 : (0 : Int) ≤ (f : Int) := by omega
  have f2 : (f : Int) < (n : Int) := by omega
  have f3 : (0 : Int) ≤ (o : Int) := by omega
  have f4 : (o : Int) < (n : Int) := by omega
  have f5 : (0 : Int) ≤ (t : Int) := by omega
  have f6 : (t : Int) < (n : Int) := by omega
  clear hc hx
  generalize st s f = x at *
  generalize st s o = y at *
  generalize st s t = z at *
  rw [hcan.out]
  by_cases a1 : x = 1
  · subst a1
    by_cases a2 : y = 1
    · subst a2
      by_cases a3 : z = 0
      · subst a3
        go_enter Try.func26, Try.ntmps26
        go_wp2_with fail
        go_ret
        exact ⟨rfl, hB0.out⟩
      · have a3' : ¬ (z : Int) = 0 := by omega
        go_enter Try.func26, Try.ntmps26
        go_wp2_with fail
        go_ret
        exact ⟨ret_bool (by simp [a3]), hB0.out⟩
    · have a2' : ¬ (y : Int) = 1 := by omega
      go_enter Try.func26, Try.ntmps26
      go_wp2_with fail
      go_ret
      exact ⟨ret_bool (by simp), hB0.out⟩
  · have a1' : ¬ (x : Int) = 1 := by omega
    go_enter Try.func26, Try.ntmps26
    go_wp2_with fail
    go_ret
    exact ⟨ret_bool (by simp), hB0.out⟩
end Go.Proofs.Ytapoimadiiheaaa
