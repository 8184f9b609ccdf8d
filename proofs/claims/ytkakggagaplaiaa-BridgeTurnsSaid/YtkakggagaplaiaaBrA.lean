/- An append to a full slice: a row of its own is made; no conditions. -/
import Derived.Test.YtkakggagaplaiaaBrK
import Derived.ArgAppend
namespace Go.Proofs.Ytkakggagaplaiaa
open Go.RowKit

theorem wp_append_full {P : Program} {T E : TypeId} (hT : IntT P T E) {ops : Array Oper} {rest : List Oper} {o : Oper} {a : Act} {Q : Exit → Act → World → Prop} (w0 : World)
    (hg : o.guard = none) (s x : Operand) (hop : o.op = Op.call { callee := Callee.builtin Builtin.append, args := #[s, x], argTypes := #[T, T] })
    (p : Option Addr) (n : Nat) (xs : List Int) (hs : a.eval s = .slice p n n) (hxs : IntsIn w0 p n xs) (hnone : p = none → n = 0) (y : Int) (sz : Nat) (hsz : sz = w0.heap.size) (hx : a.eval x = .slice (some ⟨sz, 0, none⟩) 1 1)
    (hn : n < 1099511627776)
    (hK : ∀ p' c' w', n + 1 ≤ c' → p' ≠ none → (∀ a', p' = some a' → w0.heap.size ≤ a'.block) → IntsIn w' p' (n + 1) (xs ++ [y]) → Below w0.heap.size w0 w' → wpList P ops Q rest (a.put o.dst (.slice p' (n + 1) c')) w') :
    wpList P ops Q (o :: rest) a (w0.alloc (.cells #[.int .i64 y] E)) := by
  subst hsz
  obtain ⟨i0, hi, hz0, hz1, hz2⟩ := info_parts hT.info
  have hxs2 := hxs.alloc (.cells #[.int .i64 y] E)
  refine wpList_append_grows _ hg s x T hop E i0 (.int .i64 0) 1 8 hT.under hi hz0 hz1 hz2 rfl (by omega) p n n (xs.map (Value.int .i64)) hs (fun h => ⟨hnone h, hnone h⟩) (by rw [List.length_map, hxs.len]; omega)
    (fun b hb j u hj => ?_) ⟨w0.heap.size, 0, none⟩ 1 1 [.int .i64 y] hx rfl
    (fun j u hj => by
      match j, hj with
      | 0, hj => simp at hj; subst hj; rw [Addr.add_lit]; exact wcell (cs := [_]) (heap_alloc_new w0 _) 0)
    (by intro u hu; simp at hu; subst hu; rfl) (by omega) (by unfold maxLen; omega) (by omega) ?_
  · have hjl : j < xs.length := by
      rcases Nat.lt_or_ge j xs.length with h | h
      · exact h
      · rw [List.getElem?_eq_none (by simpa using h)] at hj; cases hj
    obtain ⟨b2, o2, e, hb2, hc⟩ := hxs2.2 j (by rw [hxs.len] at hjl; exact hjl)
    rw [e] at hb
    injection hb with hb
    subst hb
    rw [Addr.add_lit, hc]
    rw [List.getElem?_map] at hj
    rw [List.getElem?_eq_getElem hjl] at hj ⊢
    simpa using hj
  · intro v' w' hO hgr
    have e : xs.map (Value.int .i64) ++ [.int .i64 y] = (xs ++ [y]).map (Value.int .i64) := by simp
    rw [e] at hO
    have hO2 := hO
    obtain ⟨hl, h2⟩ := hO
    have hB : Below w0.heap.size w0 w' := ((Below.refl w0.heap.size w0).alloc (Nat.le_refl _) _).trans ⟨hgr.os, hgr.tape, hgr.output, hgr.size, fun k hk => hgr.block k (by simp; omega) (by simp)⟩
    rcases h2 with h2 | ⟨g, cap, cur, hv, hb, hh, r⟩
    · exfalso
      have := h2.2
      omega
    · subst hv
      have hO3 : Own E (w0.alloc (.cells #[.int .i64 y] E)).heap.size w' (some ⟨g, 0, none⟩) (n + 1) cap (xs ++ [y]) := hO2
      exact hK _ _ _ (OwnC.cap (k := 1) hO3) (by simp) (fun a' ha' => by injection ha' with ha'; subst ha'; simp at hb; show w0.heap.size ≤ g; omega) hO3.in hB
end Go.Proofs.Ytkakggagaplaiaa
