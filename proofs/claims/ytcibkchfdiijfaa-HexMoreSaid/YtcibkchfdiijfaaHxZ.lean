import Derived.Test.YtcibkchfdiijfaaHxQ
import Derived.StillTailTactics
import Derived.RangeFuncCalls
/- A region that draws its order, its last operation alone not still, in a round of a range over an iterator; conditions: it holds no defer statement, and nothing outgrows. -/
namespace Go.Proofs.Ytcibkchfdiijfaa
open Go

section
variable {P : Program} {ops : Array Oper} {md : Region.Mode} {Q : Exit → Act → World → Prop} {m l0 : Nat}
theorem oper_wpIn_r {o : Oper} {a : Act} {w : World} {K K' : Act → World → Prop} (hd : noDef o = true) (hK : ∀ a w, K a w → K' a w) (h : o.wp P a w K Q) : o.wpIn (Fence.wide.inRound l0) m P a w K' Q := by
  refine ⟨fun _ _ => trivial, ?_⟩
  rw [Oper.semAt_eq _ _ _ (noDef_ne hd)]
  unfold Oper.wp at h
  generalize (execOp a.eval o).run P w = r at *
  have hdep : (Fence.wide.inRound l0).depth.isSome = true → 1 ≤ m := fun h => by cases h
  cases r with
  | halt x w' =>
    cases x with
    | panic v => exact h
    | _ => simp only [Oper.upon] at h
  | ok x w' =>
    cases x with
    | value u => exact hK _ _ h
    | skip => exact hK _ _ h
    | defer d => exact hK _ _ h
    | enter f args =>
      refine ⟨hdep, CallsIn.inRound _ ((callsIn_wide.2 h).mono ?_)⟩
      intro e w'' hq
      cases e with
      | returned v => exact hK _ _ hq
      | panicked c => exact hq
      | outgrown => exact hq
    | row r args =>
      exact ⟨hdep, fun c cs _ => let ⟨v, w', r, s⟩ := h c cs; ⟨v, w', hK _ _ r, stepsIn_wide.2 s⟩⟩
    | _ => simp only [Oper.upon] at h
theorem wpAnyIn_of_wpAny (hd : ops.toList.all noDef = true) (hQ : ¬ LetsOut Q) : ∀ (fuel : Nat) (listed : Array Bool) (a : Act) (w : World), wpAny P md ops Q fuel listed a w → wpAnyIn (Fence.wide.inRound l0) m P md ops Q fuel listed a w
  | 0, _, _, _, h => h
  | fuel + 1, listed, a, w, h => by
    refine ⟨h.1, fun i hi => ?_⟩
    have h2 := h.2 i hi
    unfold wpOp at h2
    unfold wpOpIn
    cases ho : ops[i]? with
    | none => simp only [ho] at h2; exact wpAnyIn_of_wpAny hd hQ fuel _ _ _ h2
    | some o =>
      simp only [ho] at h2
      have hdo : noDef o = true := List.all_eq_true.1 hd o (Array.mem_toList_iff.2 (Array.mem_of_getElem? ho))
      by_cases hw : Region.wanted o (yielded ops a.tmps) = true
      · simp only [hw, if_true] at h2 ⊢
        rcases h2 with h2 | h2
        · exact oper_wpIn_r hdo (fun a w h => wpAnyIn_of_wpAny hd hQ fuel _ a w h) h2
        · exact absurd h2.2 hQ
      · simp only [hw] at h2 ⊢
        exact ⟨fun _ _ => trivial, wpAnyIn_of_wpAny hd hQ fuel _ _ _ h2⟩
theorem wpIn_still_tail_r {id : Nat} {a : Act} {w : World} {l : List Oper} (n : Nat) (hm : P.follows .mixedOrders = true) (hB : Region.lexTailB .any l.toArray n = true) (hd : l.all noDef = true) (hQ : ¬ LetsOut Q)
    (h : wpStill P l.toArray w.drew (fun a' => wpList P l.toArray Q (l.drop n) a' w.drew) (l.take n) a) : (Code.region id l.toArray true).wpIn (Fence.wide.inRound l0) m P Q a w := by
  simp only [Region.lexTailB, Bool.and_eq_true, decide_eq_true_eq] at hB
  obtain ⟨⟨⟨⟨hsel, hn⟩, hs⟩, hc⟩, hlex⟩ := hB
  have hn' : n < l.length := by simpa using hn
  have htl : (l.take n).length = n := by simp; omega
  have hdl : (l.drop n).length = l.toArray.size - n := by simp
  have inv0 : HeadInv .any l.toArray n (Array.replicate l.toArray.size false) :=
    ⟨by simp, fun j oj _ hl => (by rw [getD_replicate_false] at hl; cases hl), fun t _ ht => getD_in (by simpa using ht) (getD_replicate_false _ _)⟩
  have H := wpAnyL_lex (md := .any) (g := l.toArray.size - n) hsel hs hc hn (l.take n) 0 _ a (fun j hj => by
    have hj' : j < n := by rw [htl] at hj; exact hj
    simp [hj']) (by simpa using htl) inv0 (by rw [htl]; exact hlex) h
  refine wpIn_region_any hm (wpAnyIn_of_wpAny (by simpa using hd) hQ _ _ _ _ ?_)
  have h2 := wpAny_of_head (Q' := Q) (g := l.toArray.size - n) (fun listed a' hL => by
    have h3 := wpAny_of_seq (md := .any) (Q' := Q) (l.drop n) n listed a' w.drew (fun j => by simp [List.getElem?_drop]) (by rw [hdl]; exact hL.1) hL.2
    rwa [hdl] at h3) _ _ _ H
  rw [htl, show n + (l.toArray.size - n) = l.toArray.size by omega] at h2
  exact h2
end
end Go.Proofs.Ytcibkchfdiijfaa
