/- What slices.Index and slices.Clone compute at lists of ints; conditions: the slice reads as a list of ints. -/
import Derived.Test.YtkklcfaghnfleaaMem
import Derived.Test.YtkklcfaghnfleaaRows
import Derived.Lib.LazyBuf
namespace Go.Proofs.Ytkklcfaghnfleaa
open Go.RowKit

theorem int22 : IntT Try.prog 22 3 := ⟨Try.underlying22, by kernel_rfl⟩

/-- where v comes first; -1: nowhere. -/
def idx (xs : List Int) (v : Int) : Int := if xs.findIdx (· == v) < xs.length then xs.findIdx (· == v) else -1
theorem idx_at {xs : List Int} {v : Int} {j : Nat} (hj : j < xs.length) (h : xs[j]?.getD 0 = v) (hn : ∀ i, i < j → xs[i]?.getD 0 ≠ v) : idx xs v = j := by
  have e : xs.findIdx (· == v) = j := by
    rw [List.findIdx_eq hj]
    refine ⟨by simpa [hj] using h, fun i hi => ?_⟩
    have := hn i hi
    have hi' : i < xs.length := by omega
    simpa [hi'] using this
  unfold idx
  rw [e, if_pos hj]
theorem idx_none {xs : List Int} {v : Int} (hn : ∀ i, i < xs.length → xs[i]?.getD 0 ≠ v) : idx xs v = -1 := by
  have e : xs.findIdx (· == v) = xs.length := by
    rw [List.findIdx_eq_length]
    intro x hx
    obtain ⟨i, hi, rfl⟩ := List.mem_iff_getElem.1 hx
    have := hn i hi
    simpa [hi] using this
  unfold idx
  rw [e, if_neg (by omega)]
theorem idx_cases (xs : List Int) (v : Int) : (idx xs v = -1 ∧ ∀ i, i < xs.length → xs[i]?.getD 0 ≠ v) ∨ ∃ j : Nat, idx xs v = j ∧ j < xs.length ∧ xs[j]?.getD 0 = v ∧ ∀ i, i < j → xs[i]?.getD 0 ≠ v := by
  unfold idx
  by_cases h : xs.findIdx (· == v) < xs.length
  · right
    refine ⟨_, by rw [if_pos h], h, ?_, fun i hi => ?_⟩
    · have := List.findIdx_getElem (w := h); simpa [h] using this
    · have := List.not_of_lt_findIdx hi
      have hi' : i < xs.length := by omega
      simpa [hi'] using this
  · left
    refine ⟨by rw [if_neg h], fun i hi => ?_⟩
    have := List.not_of_lt_findIdx (p := (· == v)) (xs := xs) (i := i) (by omega)
    simpa [hi] using this

set_option maxHeartbeats 400000 in
theorem index_any (p : Option Addr) (n c : Nat) (xs : List Int) (v : Int) (w : World) (hn : n ≤ 9223372036854775807) (hx : IntsIn w p n xs) :
    Calls Try.prog 28 #[.slice p n c, .int .i64 v] w fun e w' => e = .returned (.int .i64 (idx xs v)) ∧ w = w' := by
  have hl := Lib.hid hx.len
  go_enter Try.func28, Try.ntmps28
  go_wp2
  go_loopg [8] n (fun k i W => ∃ j : Nat, j ≤ n ∧ k = n - j ∧ i = .int .i64 j ∧ (∀ t, t < j → xs[t]?.getD 0 ≠ v) ∧ w = W)
  case atStart => exact ⟨0, by omega, by omega, rfl, fun t ht => absurd ht (by omega), rfl⟩
  case round =>
    obtain ⟨j, hj, hk, rfl, hne, rfl⟩ := hrel
    by_cases hlt : j < n
    · obtain ⟨b, o, rfl, hb, hc⟩ := hx.at (by omega)
      have hcj := hc j hlt
      by_cases he : xs[j]?.getD 0 = v
      · have he' : (v == xs[j]?.getD 0) = true := by simp [he]
        have hr := Lib.hid (idx_at (by have := hl.out; omega) he hne)
        replace hk := Lib.hid hk
        clear hx hc hne he
        go_wp2
        go_ret
        exact ⟨ret_int hr.out.symm, rfl⟩
      · have he' : (v == xs[j]?.getD 0) = false := by simp; exact fun x => he x.symm
        replace hk := Lib.hid hk; replace hne := Lib.hid hne; replace he := Lib.hid he
        clear hx hc
        go_wp2
        have hk := hk.out
        go_roundg (n - (j + 1))
        case measure => omega
        case rel => exact ⟨j + 1, by omega, rfl, by go_num, fun t ht => by
          by_cases e : t = j
          · rw [e]; exact he.out
          · exact hne.out t (by omega), rfl⟩
    · have hr := Lib.hid (idx_none (xs := xs) (v := v) (fun i hi => hne i (by have := hl.out; omega)))
      replace hk := Lib.hid hk
      clear hx hne
      go_wp2
      go_ret
      exact ⟨ret_int hr.out.symm, rfl⟩

set_option maxHeartbeats 400000 in
theorem clone_any (p : Option Addr) (n c : Nat) (xs : List Int) (w : World) (hn : n < 1099511627776) (hx : IntsIn w p n xs) :
    Calls Try.prog 29 #[.slice p n c] w fun e w' => ∃ p' c', e = .returned (.slice p' n c') ∧ Own 3 w.heap.size w' p' n c' xs ∧ Below w.heap.size w w' := by
  have hl := hx.len
  have he := fun W : World => run_eql_slice_nil (P := Try.prog) W 22 3 p n c Try.underlying22
  cases p with
  | none =>
    have h0 : n = 0 := by
      rcases Nat.eq_zero_or_pos n with h | h
      · exact h
      · obtain ⟨b, o, e, _⟩ := hx.at h; cases e
    subst h0
    have hxs : Hid (xs = []) := List.eq_nil_of_length_eq_zero hl
    clear hx hl
    go_enter Try.func29, Try.ntmps29
    go_wp2
    go_ret
    exact ⟨none, 0, rfl, by rw [hxs.out]; exact Own.nil _ _ _, Below.refl _ _⟩
  | some ad =>
    have hin := Lib.hid (hx.alloc (.cells #[] 3))
    clear hx
    replace hl := Lib.hid hl
    go_enter Try.func29, Try.ntmps29
    go_wp2_with (at_builtin; refine wp_appendL int22 _ rfl _ _ rfl w.heap.size _ 0 0 [] rfl (Own.empty 3 w) ad n c xs rfl hin.out (by omega) (by simp) ?_; intro p' c' w2 hO hg _ hz)
    have hB : Below w.heap.size w w2 := ((Below.refl _ w).alloc (Nat.le_refl _) _).grown hg (by simp) (fun x hx => by cases hx; exact Nat.le_refl _)
    replace hO := Lib.hid hO; replace hB := Lib.hid hB
    clear hg hz
    go_wp2
    go_ret
    exact ⟨p', c', by simp, by simpa using hO.out, hB.out⟩
end Go.Proofs.Ytkklcfaghnfleaa
