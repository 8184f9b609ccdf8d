/- What bridge.Best tells of four hands; conditions: four hands of one to four unlike cards. NOT DONE: the deal's loops and the end. -/
import Derived.Test.YtkakggagaplaiaaBrY
namespace Go.Proofs.Ytkakggagaplaiaa
open Go.RowKit

/-- who has a card, of the first i hands. -/
def owN (L : Nat → List Nat) : Nat → Nat → Nat
  | 0, _ => 4
  | i + 1, x => if x ∈ L i then i else owN L i x
theorem owN_ow {L : Nat → List Nat} (h : Dj (L 0) (L 1) (L 2) (L 3)) (x : Nat) : owN L 4 x = ow (L 0) (L 1) (L 2) (L 3) x := by
  simp only [owN]
  unfold ow
  by_cases h1 : x ∈ L 0
  · simp [h1, h.ab x h1, h.ac x h1, h.ae x h1]
  · by_cases h2 : x ∈ L 1
    · simp [h1, h2, h.bc x h2, h.be x h2]
    · by_cases h3 : x ∈ L 2
      · simp [h1, h2, h3, h.ce x h3]
      · simp [h1, h2, h3]
/-- the deal where the first i hands lie, and j cards of the next. -/
theorem deal_ext {L : Nat → List Nat} (h : Dj (L 0) (L 1) (L 2) (L 3)) {ms : List Nat} (hl : ms.length = 52) (hm : ∀ x, x < 52 → st ms x = owN L 4 x) : ms = dealS (L 0) (L 1) (L 2) (L 3) := by
  have key : ∀ (D : List Nat), D.length = 52 → (∀ c, c < 52 → st ms c = st D c) → ms = D := fun D hD he => by
    refine List.ext_getElem (by rw [hl, hD]) fun c h1 h2 => ?_
    have e1 : st ms c = ms[c] := by unfold st; simp [h1]
    have e2 : st D c = D[c] := by unfold st; simp [h2]
    rw [← e1, ← e2, he c (by omega)]
  exact key _ (deal_len _ _ _ _) fun c hc => by rw [hm c hc, owN_ow h, st_deal _ _ _ _ hc]
end Go.Proofs.Ytkakggagaplaiaa
