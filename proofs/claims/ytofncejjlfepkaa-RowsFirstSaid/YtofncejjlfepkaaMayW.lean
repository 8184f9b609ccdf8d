/- What rows.May and slices.Clone compute at boards whose cells are 0 to 2; conditions: width and height are 1 to 10, and the cells are as many. -/
import Derived.Test.YtofncejjlfepkaaGrid
import Derived.Test.YtofncejjlfepkaaRowsSpec
import Derived.Lib.LazyBuf
namespace Go.Proofs.Ytofncejjlfepkaa
open Go.RowKit

def asI (s : List Nat) : List Int := s.map fun x : Nat => (x : Int)
theorem asI_at (s : List Nat) (j : Nat) : (asI s)[j]?.getD 0 = (st s j : Nat) := by
  unfold asI st
  by_cases h : j < s.length <;> simp [h]
theorem asI_len (s : List Nat) : (asI s).length = s.length := by simp [asI]
theorem asI_app (s t : List Nat) : asI (s ++ t) = asI s ++ asI t := by simp [asI]
theorem asI_set (s : List Nat) (i v : Nat) : asI (s.set i v) = (asI s).set i v := by simp [asI, List.map_set]

theorem off_any (x : Int) (w : World) (h1 : 0 ≤ x) (h2 : x ≤ 2) : Calls Try.prog 12 #[.int .i64 x] w fun e w' => e = .returned (.bool false) ∧ w = w' := by
  go_enter Try.func12, Try.ntmps12
  go_wp2
  go_ret
  exact ⟨ret_bool (by simp; omega), rfl⟩

set_option maxHeartbeats 400000 in
theorem index_none (p : Option Addr) (n c : Nat) (s : List Nat) (w : World) (hn : n ≤ 1000000) (hx : IntsIn w p n (asI s)) (h : ∀ j, st s j ≤ 2) :
    Calls Try.prog 14 #[.slice p n c, .func (.func 12) #[] #[]] w fun e w' => e = .returned (.int .i64 (-1)) ∧ w = w' := by
  go_enter Try.func14, Try.ntmps14
  go_wp2
  go_loopg [8] n (fun k i W => ∃ j : Nat, j ≤ n ∧ k = n - j ∧ i = .int .i64 j ∧ w = W)
  case atStart => exact ⟨0, by omega, by omega, rfl, rfl⟩
  case round =>
    obtain ⟨j, hj, hk, rfl, rfl⟩ := hrel
    by_cases hlt : j < n
    · obtain ⟨b, o, rfl, hb, hc⟩ := hx.at (by omega)
      have hcj := hc j hlt
      rw [asI_at] at hcj
      have g1 := h j
      replace hk := Lib.hid hk
      clear hx hc h
      go_wp2_with (go_at_call 12; refine (off_any _ _ (by omega) (by omega)).mono ?_; rintro e w' ⟨rfl, rfl⟩)
      have hk := hk.out
      go_roundg (n - (j + 1))
      case measure => omega
      case rel => exact ⟨j + 1, by omega, rfl, by go_num, rfl⟩
    · replace hk := Lib.hid hk
      clear hx h
      go_wp2
      go_ret
      exact ⟨rfl, rfl⟩

set_option maxHeartbeats 400000 in
theorem contains_none (p : Option Addr) (n c : Nat) (s : List Nat) (w : World) (hn : n ≤ 1000000) (hx : IntsIn w p n (asI s)) (h : ∀ j, st s j ≤ 2) :
    Calls Try.prog 11 #[.slice p n c, .func (.func 12) #[] #[]] w fun e w' => e = .returned (.bool false) ∧ w = w' := by
  have H := Lib.hid (index_none p n c s w hn hx h)
  clear hx h
  go_enter Try.func11, Try.ntmps11
  go_wp2_with (go_at_call 14; refine H.out.mono ?_; rintro e w' ⟨rfl, rfl⟩)
  go_ret
  exact ⟨rfl, rfl⟩

set_option maxHeartbeats 1000000 in
theorem may_ok (a b n c : Nat) (q : Option Addr) (s : List Nat) (w : World) (ha1 : 1 ≤ a) (ha : a ≤ 10) (hb1 : 1 ≤ b) (hb : b ≤ 10) (hn : Hid (n = a * b)) (hx : IntsIn w q n (asI s)) (h : ∀ j, st s j ≤ 2) :
    Calls Try.prog 7 #[.agg #[.int .i64 a, .int .i64 b, .slice q n c]] w fun e w' => e = .returned (.bool true) ∧ Below w.heap.size w w' := by
  have hm : (a : Int) * b = (n : Int) := by rw [hn.out]; simp
  have hab : a * b ≤ 10 * 10 := Nat.mul_le_mul ha hb
  have hn9 : n ≤ 100 := by rw [hn.out]; exact hab
  have hmw : IntKind.i64.wrap ((a : Int) * b) = n := by rw [hm]; exact IntWalk.i64_in _ (by omega)
  have H := Lib.hid (contains_none q n c s (w.alloc (.cells #[.int .i64 a, .int .i64 b, .slice q n c] 28)) (by omega) (hx.alloc _) h)
  clear hx h hab hm
  go_enter Try.func7, Try.ntmps7
  go_wp2_with (go_at_call 11; refine H.out.mono ?_; rintro e w' ⟨rfl, rfl⟩)
  go_ret
  exact ⟨rfl, (Below.refl _ _).alloc (Nat.le_refl _) _⟩

theorem int23' : IntT Try.prog 23 3 := ⟨Try.underlying23, by kernel_rfl⟩
set_option maxHeartbeats 400000 in
theorem clone_any (p : Option Addr) (n c : Nat) (xs : List Int) (w : World) (hn : n < 1099511627776) (hx : IntsIn w p n xs) :
    Calls Try.prog 8 #[.slice p n c] w fun e w' => ∃ p' c', e = .returned (.slice p' n c') ∧ Own 3 w.heap.size w' p' n c' xs ∧ Below w.heap.size w w' := by
  have hl := hx.len
  have he := fun W : World => run_eql_slice_nil (P := Try.prog) W 23 3 p n c Try.underlying23
  cases p with
  | none =>
    have h0 : n = 0 := by
      rcases Nat.eq_zero_or_pos n with h | h
      · exact h
      · obtain ⟨b, o, e, _⟩ := hx.at h; cases e
    subst h0
    have hxs : Hid (xs = []) := List.eq_nil_of_length_eq_zero hl
    clear hx hl
    go_enter Try.func8, Try.ntmps8
    go_wp2
    go_ret
    exact ⟨none, 0, rfl, by rw [hxs.out]; exact Own.nil _ _ _, Below.refl _ _⟩
  | some ad =>
    have hin := Lib.hid (hx.alloc (.cells #[] 3))
    clear hx
    replace hl := Lib.hid hl
    go_enter Try.func8, Try.ntmps8
    go_wp2_with (at_builtin; refine wp_appendL int23' _ rfl _ _ rfl w.heap.size _ 0 0 [] rfl (Own.empty 3 w) ad n c xs rfl hin.out (by omega) (by simp) ?_; intro p' c' w2 hO hg _ hz)
    have hB : Below w.heap.size w w2 := ((Below.refl _ w).alloc (Nat.le_refl _) _).grown hg (by simp) (fun x hx => by cases hx; exact Nat.le_refl _)
    replace hO := Lib.hid hO; replace hB := Lib.hid hB
    clear hg hz
    go_wp2
    go_ret
    exact ⟨p', c', by simp, by simpa using hO.out, hB.out⟩
end Go.Proofs.Ytofncejjlfepkaa
