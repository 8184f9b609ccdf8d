/- What mancala's sum, own, other and over compute; conditions: the game's row reads as a list of numbers whose sum is at most 3000. -/
import Derived.Test.YtehcelajmhclmaaPick
import Derived.Test.YtehcelajmhclmaaGen
import Derived.Test.YtehcelajmhclmaaManSpec
import Derived.Lib.LazyBuf
namespace Go.Proofs.Ytehcelajmhclmaa
open Go.RowKit

def asI (s : List Nat) : List Int := s.map fun x : Nat => (x : Int)
theorem asI_at (s : List Nat) (j : Nat) : (asI s)[j]?.getD 0 = (st s j : Nat) := by
  unfold asI st
  by_cases h : j < s.length <;> simp [h]
theorem asI_len (s : List Nat) : (asI s).length = s.length := by simp [asI]
theorem asI_app (s t : List Nat) : asI (s ++ t) = asI s ++ asI t := by simp [asI]
theorem asI_set (s : List Nat) (i v : Nat) : asI (s.set i v) = (asI s).set i v := by simp [asI, List.map_set]
theorem asI_take (s : List Nat) (k : Nat) : asI (s.take k) = (asI s).take k := by simp [asI]
theorem asI_drop (s : List Nat) (k : Nat) : asI (s.drop k) = (asI s).drop k := by simp [asI]
theorem int22 : IntT Try.prog 22 3 := ⟨Try.underlying22, by kernel_rfl⟩
theorem sumN_le (l : List Nat) (j : Nat) : sumN l j ≤ l.sum := by
  unfold sumN
  have := List.take_append_drop j l
  have h2 : l.sum = (l.take j).sum + (l.drop j).sum := by rw [← List.sum_append, this]
  omega
theorem take_sum_le (l : List Nat) (j : Nat) : (l.take j).sum ≤ l.sum := sumN_le l j
theorem drop_sum_le (l : List Nat) (j : Nat) : (l.drop j).sum ≤ l.sum := by
  have := List.take_append_drop j l
  have h2 : l.sum = (l.take j).sum + (l.drop j).sum := by rw [← List.sum_append, this]
  omega

set_option maxHeartbeats 1000000 in
theorem sum_any (p : Option Addr) (n c : Nat) (l : List Nat) (w : World) (hn : n ≤ 1000) (hs : l.sum ≤ 100000) (hx : IntsIn w p n (asI l)) :
    Calls Try.prog 12 #[.slice p n c] w fun e w' => e = .returned (.int .i64 (l.sum : Nat)) ∧ w = w' := by
  have hl : l.length = n := by have := hx.len; rwa [asI_len] at this
  have hle := Lib.hid (fun j => sumN_le l j)
  have hfull : Hid (sumN l n = l.sum) := by show _ = _; unfold sumN; rw [List.take_of_length_le (by omega)]
  have hsuc := Lib.hid (fun j h => sumN_succ l j h)
  replace hx := Lib.hid hx; replace hl := Lib.hid hl
  generalize l.sum = S at *
  go_enter Try.func12, Try.ntmps12
  go_wp2_with fail
  go_loopg [3, 8] n (fun gk sv iv W' => ∃ j : Nat, j ≤ n ∧ gk = n - j ∧ iv = .int .i64 j ∧ sv = .int .i64 (sumN l j : Nat) ∧ w = W')
  case atStart => exact ⟨0, by omega, by omega, rfl, rfl, rfl⟩
  case round =>
    obtain ⟨j, hj, hgk, rfl, rfl, rfl⟩ := hrel
    replace hgk := Lib.hid hgk
    have h1 := hle.out j
    by_cases hlt : j < n
    · obtain ⟨b, o, rfl, hb, hc⟩ := hx.out.at (by omega)
      have hcj := hc j hlt
      rw [asI_at] at hcj
      have hsu := hsuc.out j (by have := hl.out; omega)
      have h2 := hle.out (j + 1)
      generalize sumN l j = A at *
      generalize hA2 : sumN l (j + 1) = A2 at *
      replace hA2 := Lib.hid hA2
      generalize st l j = v at *
      have h3 : A + v ≤ 100000 := by omega
      replace hsu := Lib.hid hsu
      clear hc
      go_wp2_with fail
      have hgk := hgk.out
      go_roundg (n - (j + 1))
      case measure => omega
      case rel => exact ⟨j + 1, by omega, rfl, by go_num, by rw [hA2.out, hsu.out]; go_num, rfl⟩
    · have hje : j = n := by omega
      subst hje
      rw [hfull.out]
      go_wp2_with fail
      go_ret
      exact ⟨rfl, rfl⟩

set_option maxHeartbeats 400000 in
theorem own_any (g n c P : Nat) (w : World) (h1 : P ≤ c) : Calls Try.prog 13 #[.agg #[.slice (some ⟨g, 0, none⟩) n c, .int .i64 P]] w fun e w' => e = .returned (.slice (some ⟨g, 0, none⟩) P c) ∧ Below w.heap.size w w' := by
  have hB : Hid (Below w.heap.size w (w.alloc (.cells #[.slice (some ⟨g, 0, none⟩) n c, .int .i64 P] 37))) := (Below.refl _ _).alloc (Nat.le_refl _) _
  go_enter Try.func13, Try.ntmps13
  go_wp2_with fail
  go_ret
  exact ⟨rfl, hB.out⟩

set_option maxHeartbeats 400000 in
theorem other_any (g n c P : Nat) (w : World) (h1 : 2 * P + 1 < c) (h2 : P ≤ 1000) : Calls Try.prog 14 #[.agg #[.slice (some ⟨g, 0, none⟩) n c, .int .i64 P]] w fun e w' => e = .returned (.slice (some ⟨g, P + 1, none⟩) P (c - (P + 1))) ∧ Below w.heap.size w w' := by
  have hB : Hid (Below w.heap.size w (w.alloc (.cells #[.slice (some ⟨g, 0, none⟩) n c, .int .i64 P] 37))) := (Below.refl _ _).alloc (Nat.le_refl _) _
  have e1 : Hid (2 * P + 1 - (P + 1) = P) := by show _ = _; omega
  go_enter Try.func14, Try.ntmps14
  go_wp2_with fail
  go_ret
  refine ⟨?_, hB.out⟩
  show Ending.returned (.slice (some ⟨g, P + 1, none⟩) (2 * P + 1 - (P + 1)) (c - (P + 1))) = _
  rw [e1.out]

theorem Own.part {E B g n c : Nat} {w : World} {xs : List Int} (h : Own E B w (some ⟨g, 0, none⟩) n c xs) (i j : Nat) (hij : i ≤ j) (hj : j ≤ n) : IntsIn w (some ⟨g, i, none⟩) (j - i) ((xs.take j).drop i) :=
  h.in.part i j hij hj _ (fun _ => by simp [Addr.add])

set_option maxHeartbeats 1000000 in
theorem over_any (g B n c P : Nat) (l : List Nat) (w : World) (hP : P ≤ 100) (hn : n = 2 * P + 2) (hO : Own 3 B w (some ⟨g, 0, none⟩) n c (asI l)) (hs : l.sum ≤ 3000) :
    Calls Try.prog 18 #[.agg #[.slice (some ⟨g, 0, none⟩) n c, .int .i64 P]] w fun e w' => e = .returned (.bool (overS l P)) ∧ Below w.heap.size w w' := by
  have hc : n ≤ c := by
    obtain ⟨_, _, _, _, h⟩ := hO.where (by omega); exact h
  have HO := Lib.hid (fun W => own_any g n c P W (by omega))
  have HT := Lib.hid (fun W => other_any g n c P W (by omega) (by omega))
  have HS1 := Lib.hid (fun W (h : Below w.heap.size w W) => sum_any (some ⟨g, 0, none⟩) P c (ownL l P) W (by omega) (Nat.le_trans (take_sum_le l P) (by omega)) (by
    have := (hO.part 0 P (by omega) (by omega)).below h
    simpa [ownL, asI_take] using this))
  have HS2 := Lib.hid (fun W (h : Below w.heap.size w W) => sum_any (some ⟨g, P + 1, none⟩) P (c - (P + 1)) (otherL l P) W (by omega) (Nat.le_trans (drop_sum_le _ _) (Nat.le_trans (take_sum_le l _) (by omega))) (by
    have := (hO.part (P + 1) (2 * P + 1) (by omega) (by omega)).below h
    rw [show 2 * P + 1 - (P + 1) = P by omega] at this
    simpa [otherL, asI_take, asI_drop] using this))
  have hov : Hid (overS l P = ((ownL l P).sum == 0 || (otherL l P).sum == 0)) := rfl
  have hB0 : Hid (Below w.heap.size w (w.alloc (.cells #[.slice (some ⟨g, 0, none⟩) n c, .int .i64 P] 37))) := (Below.refl _ _).alloc (Nat.le_refl _) _
  have a0 := heap_alloc_new w (.cells #[.slice (some ⟨g, 0, none⟩) n c, .int .i64 P] 37)
  have hsz : w.heap.size < (w.alloc (.cells #[.slice (some ⟨g, 0, none⟩) n c, .int .i64 P] 37)).heap.size := by simp
  generalize (ownL l P).sum = S1 at *
  generalize (otherL l P).sum = S2 at *
  clear hO
  replace hn := Lib.hid hn
  go_enter Try.func18, Try.ntmps18
  go_wp2_with fail
  generalize w.alloc (.cells #[.slice (some ⟨g, 0, none⟩) n c, .int .i64 P] 37) = W at *
  refine (HO.out _).mono ?_
  rintro e W1 ⟨rfl, hB1⟩
  have hq := Lib.hid (hB0.out.trans (hB1.mono (Nat.le_of_lt hsz)))
  have a1 := (hB1.block _ hsz).trans a0
  have hsz1 := Nat.lt_of_lt_of_le hsz hB1.size
  clear hB0 hB1 a0 hsz
  have c0 : W1.cell? ⟨w.heap.size, 0, none⟩ = some (.slice (some ⟨g, 0, none⟩) n c) := wcell (cs := [_, _]) a1 0
  have c1 : W1.cell? ⟨w.heap.size, 1, none⟩ = some (.int .i64 (P : Int)) := wcell (cs := [_, _]) a1 1
  go_wp2_with fail
  refine (HS1.out _ hq.out).mono ?_
  rintro e w' ⟨rfl, rfl⟩
  by_cases e1 : S1 = 0
  · have z1 : ((S1 : Int) == 0) = true := by simp [e1]
    have hr : overS l P = true := by rw [hov.out]; simp [e1]
    replace e1 := Lib.hid e1; replace hr := Lib.hid hr
    go_wp2_with fail
    go_ret
    exact ⟨by rw [hr.out]; rfl, hq.out⟩
  · have z1 : ((S1 : Int) == 0) = false := by simp; omega
    go_wp2_with fail
    refine (HT.out _).mono ?_
    rintro e W2 ⟨rfl, hB2⟩
    have hq2 := Lib.hid (hq.out.trans (hB2.mono hq.out.size))
    clear c0 c1 hB2
    go_wp2_with fail
    refine (HS2.out _ hq2.out).mono ?_
    rintro e w' ⟨rfl, rfl⟩
    by_cases e2 : S2 = 0
    · have z2 : ((S2 : Int) == 0) = true := by simp [e2]
      have hr : overS l P = true := by rw [hov.out]; simp [e2]
      replace e1 := Lib.hid e1; replace e2 := Lib.hid e2; replace hr := Lib.hid hr
      go_wp2_with fail
      go_ret
      exact ⟨by rw [hr.out]; rfl, hq2.out⟩
    · have z2 : ((S2 : Int) == 0) = false := by simp; omega
      have hr : overS l P = false := by rw [hov.out]; simp [e1, e2]
      replace e1 := Lib.hid e1; replace e2 := Lib.hid e2; replace hr := Lib.hid hr
      go_wp2_with fail
      go_ret
      exact ⟨by rw [hr.out]; rfl, hq2.out⟩
end Go.Proofs.Ytehcelajmhclmaa
