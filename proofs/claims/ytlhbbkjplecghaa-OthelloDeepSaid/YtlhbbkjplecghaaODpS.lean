/- Othello, plain: one move deeper the value is the best of all moves; no program in sight. -/
import Derived.Test.YtlhbbkjplecghaaOSkS
import Derived.Test.YtlhbbkjplecghaaONew
namespace Go.Proofs.Ytlhbbkjplecghaa

theorem bestL_snoc (sub : Nat → Int) (p : Nat) : ∀ (l : List Nat) (acc : Int × Int), bestL sub (l ++ [p]) acc = if -(sub p) > (bestL sub l acc).1 then (-(sub p), (p : Int)) else bestL sub l acc := by
  intro l
  induction l with
  | nil => intro acc; rfl
  | cons q l ih => intro acc; rw [List.cons_append, bestL, ih, bestL]
theorem seek_val (a b : Nat) (hn : a * b ≤ 100) (f : Nat) (s : List Nat) (who deep : Nat) (h1 : 1 ≤ who) (h2 : who ≤ 2) : (seekS a b f s who deep (-1000) 1000).1 = valS a b f s who deep := by
  obtain ⟨f1, f2⟩ := seek_fits a b f s who deep (-1000) 1000
  have := seek_bd a b hn f s who deep (-1000) 1000 h1 h2
  have g1 := f1 (by omega)
  have g2 := f2 (by omega)
  omega
theorem seek_root (a b : Nat) (hn : a * b ≤ 100) (f : Nat) (s : List Nat) (who d : Nat) (h1 : 1 ≤ who) (h2 : who ≤ 2) (hp : placesN s a b who (a * b) ≠ []) :
    seekS a b (f + 1) s who (d + 1) (-1000) 1000 = bestL (fun p => valS a b f (putS s a b who p) (3 - who) d) (placesN s a b who (a * b)) (-1000, -1) := by
  have hm : moverS s a b who = who := by unfold moverS; rw [if_pos hp]
  rw [seekS, hm]
  rw [if_neg (by omega), if_neg (by simp)]
  rw [Nat.add_sub_cancel]
  refine seekL_root _ _ ?_ ?_ _ _ (by simp) (by simp)
  · exact fun p lo hi => seek_fits a b f _ _ _ lo hi
  · intro p lo hi
    have := seek_bd a b hn f (putS s a b who p) (3 - who) d lo hi (by omega) (by omega)
    omega
theorem seek_first : (seekS 4 4 4 four0 1 1 (-1000) 1000).1 = 3 := by decide +kernel
end Go.Proofs.Ytlhbbkjplecghaa
