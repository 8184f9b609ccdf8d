import Derived.Sort.QuietIn
import Derived.Test.YtcibkchfdiijfaaMem
/- A region that draws its order and reads alone, walked once, in a round of a range over an iterator; conditions: it holds no defer statement. -/
namespace Go.Proofs.Ytcibkchfdiijfaa
open Go

section
variable {F : Fence} {n : Nat} {P : Program} {ops : Array Oper} {md : Region.Mode} {C : World → Prop}

def noDef (o : Oper) : Bool := match o.op with
  | .defer _ => false
  | _ => true
theorem noDef_ne {o : Oper} (h : noDef o = true) : ∀ c, o.op ≠ .defer c := fun c e => by
  unfold noDef at h; rw [e] at h; cases h
theorem wpIn_of_quiet_r {o : Oper} {a : Act} {K : Act → Prop} {K' : Act → World → Prop} {Q' : Exit → Act → World → Prop} {w : World} (hd : noDef o = true) (hw : C w) (h : ∀ a w', C w' → K a → K' a w')
    (ha : o.askedIn F P a C) (hh : o.quietIn F n P a C K) : o.wpIn F n P a w K' Q' := by
  obtain ⟨v, h1, h2⟩ := hh
  have h3 := h1 w hw
  refine ⟨ha w hw, ?_⟩
  rw [Oper.semAt_eq _ _ _ (noDef_ne hd)]
  unfold Oper.quietAtIn at h3
  generalize (execOp a.eval o).run P w = r at *
  cases r with
  | halt x w' => simp only [Oper.quietUponIn] at h3
  | ok x w' =>
    cases x with
    | value u =>
      simp only [Oper.quietUponIn] at h3
      simp only [Oper.uponIn]
      rw [h3.1, h3.2]; exact h _ _ hw h2
    | skip =>
      simp only [Oper.quietUponIn] at h3
      simp only [Oper.uponIn]
      rw [h3.1, ← h3.2]; exact h _ _ hw h2
    | enter f args =>
      simp only [Oper.quietUponIn] at h3
      simp only [Oper.uponIn]
      rw [h3.1]
      exact ⟨h3.2.1, h3.2.2.mono fun e w'' hq => by obtain ⟨rfl, hc⟩ := hq; exact h _ _ hc h2⟩
    | _ => simp only [Oper.quietUponIn] at h3
theorem wpOpIn_of_q_r {i : Nat} {a : Act} {K : Act → Prop} {K' : Act → World → Prop} {Q' : Exit → Act → World → Prop} {w : World} (hd : ops.toList.all noDef = true) (hC : C w) (h : ∀ a w', C w' → K a → K' a w')
    (hh : qOpIn F n P ops C i K a) : wpOpIn F n P ops Q' i K' a w := by
  unfold qOpIn at hh
  unfold wpOpIn
  cases hi : ops[i]? with
  | none => simp only [hi] at hh; exact h _ _ hC hh
  | some o =>
    simp only [hi] at hh
    have hdo : noDef o = true := List.all_eq_true.1 hd o (Array.mem_toList_iff.2 (Array.mem_of_getElem? hi))
    by_cases hw : Region.wanted o (yielded ops a.tmps) = true
    · simp only [hw, if_true] at hh ⊢
      exact wpIn_of_quiet_r hdo hC h hh.1 hh.2
    · simp only [hw] at hh ⊢
      exact ⟨hh.1 w hC, h _ _ hC hh.2⟩
theorem wpAnyIn_of_q_r {Q : Act → Prop} {Q' : Exit → Act → World → Prop} (hd : ops.toList.all noDef = true) (hQ : ∀ a w, C w → Q a → Q' .normal a w) : ∀ (fuel : Nat) (listed : Array Bool) (a : Act) (w : World), C w →
    wpAnyQIn F n P md ops C Q fuel listed a → wpAnyIn F n P md ops Q' fuel listed a w
  | 0, _, _, _, hw, h => ⟨h.1, hQ _ _ hw h.2⟩
  | fuel + 1, _, _, _, hw, h => ⟨fun h0 => hQ _ _ hw (h.1 h0), fun i hi => wpOpIn_of_q_r hd hw (fun a' w' hw' => wpAnyIn_of_q_r hd hQ fuel _ a' w' hw') (h.2 i hi)⟩
/-- the region's one walk, in a round as anywhere. -/
theorem wpIn_quiet_r {id : Nat} {Q : Exit → Act → World → Prop} {a : Act} {w : World} {l : List Oper} (hm : P.follows .mixedOrders = true) (hB : Region.lexB .any l.toArray = true) (hd : l.all noDef = true)
    (h : wpQuietIn F n P l.toArray (fun w' => ∃ n, w' = w.drewN n) (fun a' => ∀ w', (∃ n, w' = w.drewN n) → Q .normal a' w') l a) : (Code.region id l.toArray true).wpIn F n P Q a w := by
  simp only [Region.lexB, Bool.and_eq_true] at hB
  refine wpIn_region_any hm (wpAnyIn_of_q_r (C := fun w' => ∃ n, w' = w.drewN n) (Q := fun a' => ∀ w', (∃ n, w' = w.drewN n) → Q .normal a' w') (by simpa using hd) (fun _ w' hw' h => h w' hw') _ _ _ _ ⟨1, rfl⟩ ?_)
  have := wpAnyQIn_lex (F := F) (n := n) (C := fun w' => ∃ n, w' = w.drewN n) (md := .any) hB.1 l 0 (Array.replicate l.length false) a (by simp) (by simpa using hB.2) h
  simpa using this
end
end Go.Proofs.Ytcibkchfdiijfaa
