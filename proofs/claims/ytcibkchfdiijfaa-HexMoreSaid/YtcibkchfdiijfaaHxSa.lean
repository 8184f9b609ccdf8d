import Derived.Test.YtcibkchfdiijfaaHxOa
import Derived.Test.YtcibkchfdiijfaaCln
import Derived.Deep.RegionHeld3
/- gameroomkeep.HexShort walks; no conditions beyond numbers that an int holds. -/
namespace Go.Proofs.Ytcibkchfdiijfaa
open Go.RowKit Go.Shelf

theorem ints_any (p : Option Addr) (n c : Nat) (xs : List Int) (w : World) (hn : n < 1099511627776) (h0 : 0 < n) (hx : IntsIn w p n xs) :
    Calls Try.prog 9 #[.slice p n c] w fun e w' => ∃ p' c', e = .returned (.slice p' n c') ∧ Own 3 w.heap.size w' p' n c' xs ∧ Below w.heap.size w w' := by
  obtain ⟨b, o, rfl, hb, _⟩ := hx.at h0
  go_enter Try.func9, Try.ntmps9
  go_wp2_with (refine wp_appendL intG w rfl _ _ rfl w.heap.size none 0 0 [] rfl (Own.nil _ _ _) ⟨b, o, none⟩ n c xs rfl hx (by omega) (Nat.le_refl _) ?_; intro p' c' w' hO hg _ hz; replace hO := Lib.hid hO; replace hg := Lib.hid hg)
  go_ret
  refine ⟨p', c', by simp, by simpa using hO.out, ⟨hg.out.os, hg.out.tape, hg.out.output, hz, fun k hk => hg.out.block k hk (by simp)⟩⟩
/-- on an empty board each row takes a sign. -/
theorem rc_empty {n who : Nat} {s : List Nat} (h : ∀ j, st s j = 0) {p c : Nat} (hc : Rc n who s p c) : alongS n who p + 1 ≤ c := by
  induction hc with
  | start h1 h2 h3 => rw [h2]; unfold costS; rw [h]; simp
  | step h1 h2 h3 ih =>
    have := along_step (who := who) h2
    unfold costS; rw [h]; omega
theorem short_empty {s : List Nat} (h : ∀ j, st s j = 0) {r : Int} (hr : ShortI 3 1 s r) : r = 3 := by
  have c1 : ∀ q, costS s q = 1 := fun q => by unfold costS; rw [h]; rfl
  have n1 : ∀ q, st s q ≠ 3 - 1 := fun q => by rw [h]; decide
  have r0 : Rc 3 1 s 0 1 := by have := Rc.start (n := 3) (who := 1) (s := s) (p := 0) (by decide) (by decide) (n1 0); rwa [c1] at this
  have r3 : Rc 3 1 s 3 2 := by have := r0.step (q := 3) (by unfold Nx; decide) (n1 3); rwa [c1] at this
  have r6 : Rc 3 1 s 6 3 := by have := r3.step (q := 6) (by unfold Nx; decide) (n1 6); rwa [c1] at this
  rcases hr with ⟨_, hr⟩ | ⟨c, rfl, ⟨p, hp, hl⟩, hm⟩
  · exact absurd (by decide) (hr 6 3 r6)
  · have h1 := hm 6 3 r6 (by decide)
    have h2 := rc_empty h hp
    rw [hl] at h2
    omega
end Go.Proofs.Ytcibkchfdiijfaa
