/- What lasts while a stage is walked: all but the map; plain, conditions in each. -/
import Derived.Test.YtkakggagaplaiaaShQ
namespace Go.Proofs.Ytkakggagaplaiaa
open Go.RowKit

theorem KnM.two {x1 x2 mb : Nat} {W W' : World} {cm : List (List Nat × Int)} (h : KnM W mb cm) (hb : TwS x1 x2 W W') (n1 : mb ≠ x1) (n2 : mb ≠ x2) : KnM W' mb cm := by
  have hlt := h.lt
  obtain ⟨D, n, ⟨es, clock, hm, r⟩, h2⟩ := h
  exact ⟨D, n, ⟨es, clock, (hb.block mb hlt n1 n2).trans hm, r⟩, h2⟩
/-- the world of a stage: all as at its start, but the map. -/
def Stg (A W : World) (mb : Nat) : Prop := A.grownBy W (some mb)
theorem Stg.refl (A : World) (mb : Nat) : Stg A A mb := ⟨rfl, rfl, rfl, Nat.le_refl _, fun _ _ _ => rfl⟩
theorem Stg.low {A W W' : World} {mb B : Nat} (h : Stg A W mb) (hb : Below B W W') (hB : A.heap.size ≤ B) : Stg A W' mb :=
  ⟨hb.os.trans h.os, hb.tape.trans h.tape, hb.output.trans h.output, Nat.le_trans h.size hb.size, fun k hk e => (hb.block k (by omega)).trans (h.block k hk e)⟩
theorem Stg.put {A W W' : World} {mb : Nat} (h : Stg A W mb) (hg : W.grownBy W' (some mb)) : Stg A W' mb :=
  ⟨hg.os.trans h.os, hg.tape.trans h.tape, hg.output.trans h.output, Nat.le_trans h.size hg.size, fun k hk e => (hg.block k (Nat.lt_of_lt_of_le hk h.size) e).trans (h.block k hk e)⟩
theorem Stg.below {A W : World} {mb R : Nat} (h : Stg A W mb) (hR : R ≤ mb) (hA : R ≤ A.heap.size) : Below R A W :=
  (Below.refl R A).grown h hA fun k e => by cases e; exact hR
theorem RgM.mono {R0 R1 : Nat} {W : World} {a b m c : Nat} {q : Option Addr} {ts : List (List Nat)} (h : RgM R1 W a b q m c ts) (hR : R0 ≤ R1) : RgM R0 W a b q m c ts := by
  obtain ⟨vs, h1, h2, h3⟩ := h
  refine ⟨vs, OwnC.mono (k := 1) h1 hR, h2, fun i hi => ?_⟩
  obtain ⟨tb, h4, g, cc, cur, h5, h6, h7⟩ := h3 i hi
  exact ⟨tb, h4, g, cc, cur, by omega, by omega, h7⟩
theorem RgM.lowR {R0 B : Nat} {W W' : World} {a b m c : Nat} {q : Option Addr} {ts : List (List Nat)} (h : RgM R0 W a b q m c ts) (hb : Below B W W') (hB : W.heap.size ≤ B) : RgM R0 W' a b q m c ts :=
  h.keep fun k cur t _ _ e => (hb.block k (by have := lt_of_heap e; omega)).trans e
theorem KnM.lowR {B mb : Nat} {W W' : World} {cm : List (List Nat × Int)} (h : KnM W mb cm) (hb : Below B W W') (hB : W.heap.size ≤ B) : KnM W' mb cm :=
  h.below ⟨hb.os, hb.tape, hb.output, hb.size, fun k hk => hb.block k (by omega)⟩
/-- a copy of a tray with cells of its own. -/
theorem tray_made {W0 W W' : World} {a b tb0 c' : Nat} {p : Option Addr} {l : List Nat} {g : Nat} {c0 : Nat}
    (hb : W.heap[tb0]? = some (.cells #[.int .i64 (a : Int), .int .i64 (b : Int), .slice (some ⟨g, 0, none⟩) 6 c0, .int .i64 (ixN l 0 : Nat)] 80 (0, 0)))
    (hlt : W0.heap.size ≤ tb0) (ht : tb0 < W.heap.size) (hO : Own 3 W.heap.size W' p 6 c' (asI l)) (hB : Below W.heap.size W W') :
    Tray W0.heap.size (W'.setCell ⟨tb0, 2, none⟩ (.slice p 6 c')) tb0 a b 6 p c' (ixN l 0) l ∧ W'.frozen? ⟨tb0, 2, none⟩ = false := by
  have f1 := (Below.block hB _ ht).trans hb
  have hqb : ∀ x, p = some x → x.block ≠ tb0 := fun x hx => by have := (OwnC.block (k := 1) hO x hx).1; omega
  exact ⟨⟨wset f1 2 _, OwnC.mono (k := 1) (OwnC.keep (k := 1) hO fun x hx => wset_ne _ _ (hqb x hx)) (by omega), hlt, hqb⟩, wfree f1 2⟩
theorem mvB_none {a b d : Nat} {l : List Nat} (h : frm a b (ixN l 0) d = none) : mvB a b l d = none := by unfold mvB; rw [h]
theorem mvB_some {a b d k : Nat} {l : List Nat} (h : frm a b (ixN l 0) d = some k) : mvB a b l d = some (exc l (ixN l 0) k) := by unfold mvB; rw [h]
theorem stD_none {a b d : Nat} {t : List Nat} {acc : List (List Nat × Int) × List (List Nat)} (h : mvB a b t d = none) : stD a b t acc d = acc := by unfold stD; rw [h]
theorem stD_old {a b d : Nat} {t u : List Nat} {acc : List (List Nat × Int) × List (List Nat)} (h : mvB a b t d = some u) (hk : (lkC acc.1 u).isSome = true) : stD a b t acc d = acc := by unfold stD; rw [h]; simp [hk]
theorem stD_new {a b d : Nat} {t u : List Nat} {acc : List (List Nat × Int) × List (List Nat)} (h : mvB a b t d = some u) (hk : (lkC acc.1 u).isSome = false) : stD a b t acc d = ((u, (d : Int)) :: acc.1, acc.2 ++ [u]) := by unfold stD; rw [h]; simp [hk]
theorem foldR_succ {α : Type} (f : α → Nat → α) (x : α) (j : Nat) : (List.range (j + 1)).foldl f x = f ((List.range j).foldl f x) j := by rw [List.range_succ, List.foldl_append]; rfl
theorem take_fold {α β : Type} (f : α → β → α) (x : α) (l : List β) (i : Nat) (h : i < l.length) : (l.take (i + 1)).foldl f x = f ((l.take i).foldl f x) l[i] := by
  rw [List.take_succ_eq_append_getElem h, List.foldl_append]; rfl
theorem RgM.snocV {R0 : Nat} {W W' : World} {a b m c c' tb : Nat} {q q' : Option Addr} {ts : List (List Nat)} {u : List Nat} {vs : List Value} (h1 : OwnC 77 1 R0 W q m c vs) (h2 : ts.length = m) (h3 : ∀ i, i < m → ∃ tb, vs[i]? = some (.pointer (some ⟨tb, 0, none⟩)) ∧ TrR R0 W a b tb (ts[i]?.getD [])) (ht : TrR R0 W a b tb u)
    (hO : OwnC 77 1 R0 W' q' (m + 1) c' (vs ++ [.pointer (some ⟨tb, 0, none⟩)])) (hg : W.grownBy W' (q.map (·.block))) : RgM R0 W' a b q' (m + 1) c' (ts ++ [u]) := by
  have hvl : vs.length = m := by have := h1.len; omega
  have hk : ∀ k cur t, R0 ≤ k → (t = 80 ∨ t = 3) → W.heap[k]? = some (.cells cur t (0, 0)) → W'.heap[k]? = some (.cells cur t (0, 0)) := fun k cur t _ ht e => by
    refine (hg.block k (lt_of_heap e) fun e2 => ?_).trans e
    rcases h1.2 with ⟨hv, _⟩ | ⟨g, cap, cur2, hv, hb, hh, _⟩
    · injection hv with hq; rw [hq] at e2; cases e2
    · injection hv with hq
      rw [hq] at e2; simp at e2; subst e2
      rw [hh] at e
      injection e with e; injection e with _ e
      rcases ht with rfl | rfl <;> cases e
  refine ⟨_, hO, by simp [h2], fun i hi => ?_⟩
  by_cases hlt : i < m
  · obtain ⟨tb', h4, h5⟩ := h3 i hlt
    refine ⟨tb', by rw [List.getElem?_append_left (by omega)]; exact h4, ?_⟩
    rw [List.getElem?_append_left (by omega)]
    exact h5.keep hk
  · obtain rfl : i = m := by omega
    refine ⟨tb, by rw [List.getElem?_append_right (by omega), hvl]; simp, ?_⟩
    rw [List.getElem?_append_right (by omega), h2, Nat.sub_self]
    exact ht.keep hk
theorem TrR.app {R0 B : Nat} {W W' : World} {a b tb m c : Nat} {q : Option Addr} {vs : List Value} {l : List Nat} (h : TrR R0 W a b tb l) (h1 : OwnC 77 1 B W q m c vs) (hg : W.grownBy W' (q.map (·.block))) : TrR R0 W' a b tb l := h.keep fun k cur t _ ht e => by
    refine (hg.block k (lt_of_heap e) fun e2 => ?_).trans e
    rcases h1.2 with ⟨hv, _⟩ | ⟨g, cap, cur2, hv, hb, hh, _⟩
    · injection hv with hq; rw [hq] at e2; cases e2
    · injection hv with hq
      rw [hq] at e2; simp at e2; subst e2
      rw [hh] at e
      injection e with e; injection e with _ e
      rcases ht with rfl | rfl <;> cases e
theorem ix_moved {a b d k : Nat} {l : List Nat} (ha : 2 ≤ a) (ha3 : a ≤ 3) (hb : 2 ≤ b) (hb3 : b ≤ 3) (hab : a * b = 6) (hl : IsOrd 6 l) (hd : d < 4) (hf : frm a b (ixN l 0) d = some k) : k = ixN (exc l (ixN l 0) k) 0 := by
  obtain ⟨hg, hg0⟩ := st_ix hl (by omega)
  obtain ⟨hk1, hk2, _⟩ := frm_at ha ha3 hb hb3 (by rw [hab]; exact hg) hd hf
  rw [hab] at hk1
  have hu : IsOrd 6 (exc l (ixN l 0) k) := exc_ord hl hg hk1 (fun e => hk2 e.symm)
  have hlen := hl.len
  exact (ix_at hu hk1 (by rw [exc_st (by omega) (by omega), if_pos rfl]; exact hg0)).symm
end Go.Proofs.Ytkakggagaplaiaa
