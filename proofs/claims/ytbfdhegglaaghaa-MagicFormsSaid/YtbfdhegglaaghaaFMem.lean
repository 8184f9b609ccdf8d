/- Rows of slices that two are put behind, copies of a row; conditions stand in each. -/
import Derived.Test.YtbfdhegglaaghaaMMake
import Derived.Lib.LazyBuf
namespace Go.Proofs.Ytbfdhegglaaghaa
open Go.RowKit

/-- 'out = append(out, a, b)', out a row of slices of the call's own. -/
theorem wp_append2Row {P : Program} {T E : TypeId} (hT : ElT P T E (.slice none 0 0) 1 24) {ops : Array Oper} {rest : List Oper} {o : Oper} {a : Act} {Q : Exit → Act → World → Prop} (w0 : World)
    (hg : o.guard = none) (s x : Operand) (hop : o.op = Op.call { callee := Callee.builtin Builtin.append, args := #[s, x], argTypes := #[T, T] })
    (B : Nat) (q : Option Addr) (n c : Nat) (ls : List (List Int)) (hs : a.eval s = .slice q n c) (own : OwnRows E B w0 q n c ls)
    (p1 : Option Addr) (m1 c1 : Nat) (l1 : List Int) (hl1 : IntsIn w0 p1 m1 l1) (hne1 : ∀ a, p1 = some a → q.map (·.block) ≠ some a.block ∧ B ≤ a.block ∧ a.block < w0.heap.size)
    (p2 : Option Addr) (m2 c2 : Nat) (l2 : List Int) (hl2 : IntsIn w0 p2 m2 l2) (hne2 : ∀ a, p2 = some a → q.map (·.block) ≠ some a.block ∧ B ≤ a.block ∧ a.block < w0.heap.size)
    (sz : Nat) (hsz : sz = w0.heap.size) (hx : a.eval x = .slice (some ⟨sz, 0, none⟩) 2 2)
    (hn : n < 1000000) (hB : B ≤ w0.heap.size)
    (hK : ∀ q' c' w', OwnRows E B w' q' (n + 2) c' (ls ++ [l1, l2]) → w0.grownBy w' (q.map (·.block)) → (q'.map (·.block) = q.map (·.block) ∨ ∀ a', q' = some a' → w0.heap.size ≤ a'.block) → w0.heap.size ≤ w'.heap.size →
      wpList P ops Q rest (a.put o.dst (.slice q' (n + 2) c')) w') :
    wpList P ops Q (o :: rest) a (w0.alloc (.cells #[.slice p1 m1 c1, .slice p2 m2 c2] E)) := by
  subst hsz
  obtain ⟨vs, hO, hll, hr⟩ := own
  have hvl := hO.len
  refine wp_appendLV hT (w0.alloc (.cells #[.slice p1 m1 c1, .slice p2 m2 c2] E)) hg s x hop B q n c vs hs (hO.alloc _) ⟨w0.heap.size, 0, none⟩ 2 2 [.slice p1 m1 c1, .slice p2 m2 c2] rfl rfl (fun j u hj => by
    rw [Addr.add_lit, World.cell?_alloc_new]
    simpa using hj) hx (by omega) (by simp; omega) fun q' c' w' hM hgr hor hz => ?_
  have hz' : w0.heap.size ≤ w'.heap.size := Nat.le_trans (by simp) hz
  have hgr' : w0.grownBy w' (q.map (·.block)) := ⟨hgr.os, hgr.tape, hgr.output, hz', fun k hk hne => (hgr.block k (by simp; omega) hne).trans (Below.heap_alloc w0 _ k hk)⟩
  have hor' : q'.map (·.block) = q.map (·.block) ∨ ∀ a', q' = some a' → w0.heap.size ≤ a'.block := by
    rcases hor with h | h
    · exact .inl h
    · exact .inr fun a' ha => Nat.le_trans (by simp) (h a' ha)
  refine hK q' c' w' ⟨_, hM, by simp [hll], ?_⟩ hgr' hor' hz'
  have key : ∀ p2 : Option Addr, ∀ m2 : Nat, ∀ l2 : List Int, IntsIn w0 p2 m2 l2 → (∀ a, p2 = some a → q.map (·.block) ≠ some a.block ∧ B ≤ a.block ∧ a.block < w0.heap.size) → IntsIn w' p2 m2 l2 ∧ ∀ a, p2 = some a → q'.map (·.block) ≠ some a.block ∧ B ≤ a.block ∧ a.block < w'.heap.size := by
    intro p2 m2 l2 hx2 hn2
    refine ⟨hx2.keep hz' fun b o e => hgr'.block b (hn2 _ e).2.2 (fun e2 => (hn2 _ e).1 e2.symm), fun a ha => ⟨fun e2 => ?_, (hn2 a ha).2.1, Nat.lt_of_lt_of_le (hn2 a ha).2.2 hz'⟩⟩
    rcases hor' with h | h
    · rw [h] at e2; exact (hn2 a ha).1 e2
    · cases q' with
      | none => cases e2
      | some x =>
        have := h x rfl
        have h3 := (hn2 a ha).2.2
        simp at e2; omega
  intro i l3 hi
  by_cases hlt : i < ls.length
  · rw [List.getElem?_append_left hlt] at hi
    obtain ⟨p3, m3, c3, hv, hx3, hn3⟩ := hr i l3 hi
    obtain ⟨k1, k2⟩ := key p3 m3 l3 hx3 hn3
    exact ⟨p3, m3, c3, by rw [List.getElem?_append_left (by omega)]; exact hv, k1, k2⟩
  · have hil : i = ls.length ∨ i = ls.length + 1 := by
      have := (List.getElem?_eq_some_iff.1 hi).1
      simp at this; omega
    rcases hil with rfl | rfl
    · rw [List.getElem?_append_right (by omega)] at hi
      simp at hi
      subst hi
      obtain ⟨k1, k2⟩ := key p1 m1 l1 hl1 hne1
      exact ⟨p1, m1, c1, by rw [List.getElem?_append_right (by omega)]; simp [show ls.length - vs.length = 0 by omega], k1, k2⟩
    · rw [List.getElem?_append_right (by omega)] at hi
      simp at hi
      subst hi
      obtain ⟨k1, k2⟩ := key p2 m2 l2 hl2 hne2
      exact ⟨p2, m2, c2, by rw [List.getElem?_append_right (by omega)]; simp [show ls.length + 1 - vs.length = 1 by omega], k1, k2⟩
set_option maxHeartbeats 400000 in
theorem clone_any (p : Option Addr) (n c : Nat) (xs : List Int) (w : World) (hn : n < 1099511627776) (hx : IntsIn w p n xs) :
    Calls Try.prog 24 #[.slice p n c] w fun e w' => ∃ p' c', e = .returned (.slice p' n c') ∧ Own 3 w.heap.size w' p' n c' xs ∧ Below w.heap.size w w' := by
  have hl := hx.len
  have he := fun W : World => run_eql_slice_nil (P := Try.prog) W 23 3 p n c Try.underlying23
  cases p with
  | none =>
    have h0 : n = 0 := by
      rcases Nat.eq_zero_or_pos n with h | h
      · exact h
      · obtain ⟨b, o, e, _⟩ := hx.at h; cases e
    subst h0
    have hxs : Hid (xs = []) := List.eq_nil_of_length_eq_zero hl
    clear hx hl
    go_enter Try.func24, Try.ntmps24
    go_wp2
    go_ret
    exact ⟨none, 0, rfl, by rw [hxs.out]; exact Own.nil _ _ _, Below.refl _ _⟩
  | some ad =>
    have hin := Lib.hid (hx.alloc (.cells #[] 3))
    clear hx
    replace hl := Lib.hid hl
    go_enter Try.func24, Try.ntmps24
    go_wp2_with (at_builtin; refine wp_appendL int23 _ rfl _ _ rfl w.heap.size _ 0 0 [] rfl (Own.empty 3 w) ad n c xs rfl hin.out (by omega) (by simp) ?_; intro p' c' w2 hO hg _ hz)
    have hB : Below w.heap.size w w2 := ((Below.refl _ w).alloc (Nat.le_refl _) _).grown hg (by simp) (fun x hx => by cases hx; exact Nat.le_refl _)
    replace hO := Lib.hid hO; replace hB := Lib.hid hB
    clear hg hz
    go_wp2
    go_ret
    exact ⟨p', c', by simp, by simpa using hO.out, hB.out⟩

end Go.Proofs.Ytbfdhegglaaghaa
