/- Rows of jumps in memory: their cells, a row's beginning, and an append that tells where the new row lies; no conditions. -/
import Derived.Test.YtapoimadiiheaaaKys
namespace Go.Proofs.Ytapoimadiiheaaa
open Go.RowKit

def jv (j : Jm) : List Value := [.int .i64 (j.1 : Int), .int .i64 (j.2.1 : Int), .int .i64 (j.2.2 : Int)]
def jvals (J : List Jm) : List Value := J.flatMap jv
theorem jvals_len (J : List Jm) : (jvals J).length = J.length * 3 := by
  induction J with
  | nil => rfl
  | cons j l ih =>
    show (jv j ++ jvals l).length = _
    rw [List.length_append, ih, List.length_cons]; simp [jv]; omega
theorem jvals_app (J K : List Jm) : jvals (J ++ K) = jvals J ++ jvals K := by simp [jvals]
theorem jvals_at {J : List Jm} {i : Nat} {j : Jm} (h : J[i]? = some j) : (jvals J)[3 * i]? = some (.int .i64 (j.1 : Int)) ∧ (jvals J)[3 * i + 1]? = some (.int .i64 (j.2.1 : Int)) ∧ (jvals J)[3 * i + 2]? = some (.int .i64 (j.2.2 : Int)) := by
  induction J generalizing i with
  | nil => simp at h
  | cons x l ih =>
    have e : jvals (x :: l) = jv x ++ jvals l := rfl
    have hl : (jv x).length = 3 := rfl
    rw [e]
    cases i with
    | zero => simp at h; subst h; simp [jv]
    | succ i =>
      simp at h
      obtain ⟨a, b, c⟩ := ih h
      rw [List.getElem?_append_right (by omega), List.getElem?_append_right (by omega), List.getElem?_append_right (by omega), hl, show 3 * (i + 1) - 3 = 3 * i by omega, show 3 * (i + 1) + 1 - 3 = 3 * i + 1 by omega, show 3 * (i + 1) + 2 - 3 = 3 * i + 2 by omega]
      exact ⟨a, b, c⟩
/-- a row of the call's own that holds jumps. -/
def OwnJ (B : Nat) (w : World) (p : Option Addr) (n c : Nat) (J : List Jm) : Prop := OwnC 54 3 B w p n c (jvals J)
theorem OwnJ.len {B : Nat} {w : World} {p : Option Addr} {n c : Nat} {J : List Jm} (h : OwnJ B w p n c J) : J.length = n := by
  have := OwnC.len h; rw [jvals_len] at this; omega
theorem OwnJ.at {B : Nat} {w : World} {p : Option Addr} {n c : Nat} {J : List Jm} (h : OwnJ B w p n c J) {i : Nat} (hi : i < n) :
    ∃ g j, p = some ⟨g, 0, none⟩ ∧ B ≤ g ∧ g < w.heap.size ∧ J[i]? = some j ∧ w.cell? ⟨g, 3 * i, none⟩ = some (.int .i64 (j.1 : Int)) ∧ w.cell? ⟨g, 3 * i + 1, none⟩ = some (.int .i64 (j.2.1 : Int)) ∧ w.cell? ⟨g, 3 * i + 2, none⟩ = some (.int .i64 (j.2.2 : Int)) := by
  obtain ⟨g, rfl, hB, hg, _⟩ := OwnC.where h (by omega)
  have hl := h.len
  have hj : J[i]? = some J[i] := List.getElem?_eq_getElem (by omega)
  obtain ⟨a, b, c⟩ := jvals_at hj
  exact ⟨g, J[i], rfl, hB, hg, hj, (OwnC.cell h (by omega)).trans a, (OwnC.cell h (by omega)).trans b, (OwnC.cell h (by omega)).trans c⟩
theorem OwnC.front {E k B : Nat} {w : World} {g n c : Nat} {xs es : List Value} (h : OwnC E k B w (some ⟨g, 0, none⟩) (n + 1) c (xs ++ es)) (hl : xs.length = n * k) : OwnC E k B w (some ⟨g, 0, none⟩) n c xs := by
  refine ⟨hl, ?_⟩
  rcases h.2 with ⟨hv, _⟩ | ⟨g', cap, cur, hv, hb, hh, hn, hm, hs, ht⟩
  · cases hv
  · injection hv with h1 _ h3
    injection h1 with h1
    injection h1 with h1
    subst h1 h3
    refine .inr ⟨_, _, cur, rfl, hb, hh, by omega, hm, hs, ?_⟩
    have e := congrArg (List.take (n * k)) ht
    have hle : n * k ≤ (n + 1) * k := Nat.mul_le_mul_right k (by omega)
    rw [List.take_take, Nat.min_eq_left hle, List.take_append_of_le_length (Nat.le_of_eq hl.symm), List.take_of_length_le (Nat.le_of_eq hl)] at e
    exact e
theorem OwnJ.front {B : Nat} {w : World} {g n c : Nat} {J : List Jm} {j : Jm} (h : OwnJ B w (some ⟨g, 0, none⟩) (n + 1) c (J ++ [j])) : OwnJ B w (some ⟨g, 0, none⟩) n c J := by
  have hl := h.len
  unfold OwnJ at h ⊢
  rw [jvals_app] at h
  exact OwnC.front h (by rw [jvals_len]; simp at hl; omega)
theorem el54 : ElT Try.prog 48 54 (.agg #[.int .i64 0, .int .i64 0, .int .i64 0]) 3 24 := ⟨by kernel_rfl, by kernel_rfl, rfl, by omega, by omega⟩
/-- 'append(row, j)': in the row's own block, and of its cap, or in a new block. -/
theorem wp_appendJ {ops : Array Oper} {rest : List Oper} {o : Oper} {a : Act} {Q : Exit → Act → World → Prop} (w0 : World)
    (hg : o.guard = none) (s x : Operand) (hop : o.op = Op.call { callee := Callee.builtin Builtin.append, args := #[s, x], argTypes := #[48, 48] })
    (B : Nat) (p : Option Addr) (n c : Nat) (J : List Jm) (hs : a.eval s = .slice p n c) (own : OwnJ B w0 p n c J) (es : Array Value) (j : Jm) (hes : es.toList = jv j)
    (sz : Nat) (hsz : sz = w0.heap.size) (hx : a.eval x = .slice (some ⟨sz, 0, none⟩) 1 1)
    (hn : n < 1099511627776) (hB : B ≤ w0.heap.size)
    (hK : ∀ p' c' w', OwnJ B w' p' (n + 1) c' (J ++ [j]) → w0.grownBy w' (p.map (·.block)) → ((p' = p ∧ c' = c) ∨ (w0.grownBy w' none ∧ ∀ a', p' = some a' → w0.heap.size ≤ a'.block)) → w0.heap.size ≤ w'.heap.size →
      wpList Try.prog ops Q rest (a.put o.dst (.slice p' (n + 1) c')) w') :
    wpList Try.prog ops Q (o :: rest) a (w0.alloc (.cells es 54)) := by
  subst hsz
  obtain ⟨i0, hi, hz0, hz1, hz2⟩ := info_parts el54.info
  have hel : es.toList.length = 1 * 3 := by rw [hes]; rfl
  have h1 : ∀ u ∈ es.toList, u.oneCell' = true := by rw [hes]; intro u hu; simp [jv] at hu; rcases hu with rfl | rfl | rfl <;> rfl
  have hnews : ∀ k u, es.toList[k]? = some u → (w0.alloc (.cells es 54)).cell? ((⟨w0.heap.size, 0, none⟩ : Addr).add k) = some u := fun k u hk => by
    rw [Addr.add_lit, World.cell?_alloc_new]; simpa using hk
  refine wpList_plain hg fun K hK' => ?_
  obtain ⟨v', w', hrun, h2, h3, _, h5⟩ := run_append_own_at (P := Try.prog) (w0.alloc (.cells es 54)) B 48 o.type 54 i0 _ 3 24 el54.under hi hz0 hz1 hz2 el54.zs el54.k0 (.slice p n c) n _ (OwnC.alloc own _) ⟨w0.heap.size, 0, none⟩ 1 1 es.toList hel hnews h1 (by unfold maxLen; omega) (by omega) (by simp; omega)
  have hshape : ∃ p' c', v' = .slice p' (n + 1) c' := by
    rcases h2.2 with ⟨hv, h0⟩ | ⟨g, cap, cur, hv, _⟩
    · omega
    · exact ⟨_, _, hv⟩
  obtain ⟨p', c', rfl⟩ := hshape
  have hgrow : w0.grownBy w' (p.map (·.block)) := ⟨h3.os, h3.tape, h3.output, Nat.le_trans (by simp) h3.size, fun k hk hne => (h3.block k (by simp; omega) (by
    intro e; apply hne; rw [e]; cases p <;> rfl)).trans (Below.heap_alloc w0 _ k hk)⟩
  have hgrow2 : ∀ b, w0.alloc (.cells es 54) = b → ∀ X : Obj, w' = b.drew.alloc X → w0.grownBy w' none := fun b e X e2 => by
    subst e e2
    exact ⟨rfl, rfl, rfl, by simp; omega, fun k hk _ => (Below.heap_alloc (w0.alloc (.cells es 54)).drew _ k (by show k < (w0.alloc (.cells es 54)).heap.size; simp; omega)).trans (Below.heap_alloc w0 _ k hk)⟩
  have hwhere : (p' = p ∧ c' = c) ∨ (w0.grownBy w' none ∧ ∀ a', p' = some a' → w0.heap.size ≤ a'.block) := by
    rcases own.2 with ⟨hv, rfl⟩ | ⟨g, cap, cur, hv, hbg, hh, hnc, hcm, hcs, htake⟩
    · injection hv with hp _ hc
      subst hp hc
      have hr := run_append_nil (P := Try.prog) (w0.alloc (.cells es 54)) 48 o.type 54 i0 _ el54.under hi hz0 ⟨w0.heap.size, 0, none⟩ 1 1 es.toList (by rw [hz1]; exact hel) hnews (by omega) (by omega) (by rw [hz2]; omega)
      have e := hrun.symm.trans hr
      injection e with e1 e2
      injection e1 with e1
      subst e1
      exact .inr ⟨hgrow2 _ rfl _ e2, fun a' ha => by cases ha; simp⟩
    · injection hv with hp _ hc
      subst hp hc
      have hh' : (w0.alloc (.cells es 54)).heap[g]? = some (.cells cur 54 (0, 0)) := (Below.heap_alloc w0 _ g (lt_of_heap hh)).trans hh
      by_cases hroom : n + 1 ≤ c
      · have hr := run_append_room (P := Try.prog) (w0.alloc (.cells es 54)) 48 o.type 54 i0 el54.under hi g n c cur hh' ⟨w0.heap.size, 0, none⟩ 1 1 es.toList (by rw [hz1]; exact hel) hnews h1 hroom (by rw [hz1, hel, hcs]; omega)
        have e := hrun.symm.trans hr
        injection e with e1 e2
        injection e1 with e1 _ e3
        exact .inl ⟨e1, e3⟩
      · have own' := OwnC.alloc own (.cells es 54)
        have hr := run_append_grow (P := Try.prog) (w0.alloc (.cells es 54)) 48 o.type 54 i0 _ el54.under hi hz0 ⟨g, 0, none⟩ n c (jvals J) (by rw [hz1]; exact own.1) (World.ownsRow.cells own' (g := g) rfl) ⟨w0.heap.size, 0, none⟩ 1 1 es.toList (by rw [hz1]; exact hel) hnews (by omega) (by omega) (growslice_fits (by omega) (by rw [hz2]; omega))
        have e := hrun.symm.trans hr
        injection e with e1 e2
        injection e1 with e1
        subst e1
        exact .inr ⟨hgrow2 _ rfl _ e2, fun a' ha => by cases ha; simp⟩
  unfold Oper.wp
  simp [execOp, hop, resolve, invoke, builtin, hs, hx, hrun, Result.andThen]
  refine hK' _ _ (hK p' c' w' ?_ hgrow hwhere (Nat.le_trans (by simp) h3.size))
  show OwnC _ _ _ _ _ _ _ _
  rw [jvals_app]
  have e : jvals [j] = es.toList := by rw [hes]; simp [jvals]
  rw [e]
  exact h2
end Go.Proofs.Ytapoimadiiheaaa
