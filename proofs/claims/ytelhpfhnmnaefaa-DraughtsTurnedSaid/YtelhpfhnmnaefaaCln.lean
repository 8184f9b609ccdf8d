/- What slices.Clone computes at lists of ints; conditions: the slice reads as a list of ints. -/
import Derived.Test.YtelhpfhnmnaefaaNl
import Derived.Test.YtelhpfhnmnaefaaGen
import Derived.Lib.LazyBuf
namespace Go.Proofs.Ytelhpfhnmnaefaa
open Go.RowKit

theorem intCl : IntT Try.prog 22 3 := ⟨Try.underlying22, by kernel_rfl⟩
set_option maxHeartbeats 400000 in
theorem clone_any (p : Option Addr) (n c : Nat) (xs : List Int) (w : World) (hn : n < 1099511627776) (hx : IntsIn w p n xs) :
    Calls Try.prog 13 #[.slice p n c] w fun e w' => ∃ p' c', e = .returned (.slice p' n c') ∧ Own 3 w.heap.size w' p' n c' xs ∧ Below w.heap.size w w' := by
  have hl := hx.len
  have he := fun W : World => run_eql_slice_nil (P := Try.prog) W 22 3 p n c Try.underlying22
  cases p with
  | none =>
    have h0 : n = 0 := by
      rcases Nat.eq_zero_or_pos n with h | h
      · exact h
      · obtain ⟨b, o, e, _⟩ := hx.at h; cases e
    subst h0
    have hxs : Hid (xs = []) := List.eq_nil_of_length_eq_zero hl
    clear hx hl
    go_enter Try.func13, Try.ntmps13
    go_wp2
    go_ret
    exact ⟨none, 0, rfl, by rw [hxs.out]; exact Own.nil _ _ _, Below.refl _ _⟩
  | some ad =>
    have hin := Lib.hid (hx.alloc (.cells #[] 3))
    clear hx
    replace hl := Lib.hid hl
    go_enter Try.func13, Try.ntmps13
    go_wp2_with (at_builtin; refine wp_appendL intCl _ rfl _ _ rfl w.heap.size _ 0 0 [] rfl (Own.empty 3 w) ad n c xs rfl hin.out (by omega) (by simp) ?_; intro p' c' w2 hO hg _ hz)
    have hB : Below w.heap.size w w2 := ((Below.refl _ w).alloc (Nat.le_refl _) _).grown hg (by simp) (fun x hx => by cases hx; exact Nat.le_refl _)
    replace hO := Lib.hid hO; replace hB := Lib.hid hB
    clear hg hz
    go_wp2
    go_ret
    exact ⟨p', c', by simp, by simpa using hO.out, hB.out⟩
end Go.Proofs.Ytelhpfhnmnaefaa
