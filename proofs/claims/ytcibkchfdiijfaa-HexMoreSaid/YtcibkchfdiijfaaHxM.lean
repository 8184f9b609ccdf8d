import Derived.Test.YtcibkchfdiijfaaHxU
import Derived.Test.YtcibkchfdiijfaaHxJ
import Derived.Test.YtcibkchfdiijfaaStepA
/- Where hex.Shortest's rounds stand in memory; conditions: those typed. -/
namespace Go.Proofs.Ytcibkchfdiijfaa
open Go.RowKit Go.Shelf

/-- an append of one int in a region that draws; where the new row lies is told. -/
theorem step_appendN {P : Program} {T E : TypeId} (hT : IntT P T E) {ops : Array Oper} {o : Oper} {a : Act} {K : Act → World → Prop} {Q : Exit → Act → World → Prop} {EE : Prop} (w : World) (hgd : o.guard = none) (s x : Operand)
    (hop : o.op = .call { callee := .builtin .append, args := #[s, x], argTypes := #[T, T] })
    (B : Nat) (p : Option Addr) (n c : Nat) (xs : List Int) (hs : a.eval s = .slice p n c) (own : Own E B w p n c xs) (y : Int) (sz : Nat) (hx : a.eval x = .slice (some ⟨sz, 0, none⟩) 1 1) (hc : w.cell? ⟨sz, 0, none⟩ = some (.int .i64 y))
    (hn : n < 1099511627776) (hB : B ≤ w.heap.size)
    (hK : ∀ g c' w', Own E B w' (some ⟨g, 0, none⟩) (n + 1) c' (xs ++ [y]) → w.grownBy w' (p.map (·.block)) → (p.map (·.block) = some g ∨ g = w.heap.size) → K (a.put o.dst (.slice (some ⟨g, 0, none⟩) (n + 1) c')) w') :
    if Region.wanted o (yielded ops a.tmps) = true then Oper.wp P o a w K Q else EE := by
  obtain ⟨i0, hi, hz0, hz1, hz2⟩ := info_parts hT.info
  refine step_append_lies w hgd s x T hop B E i0 (.int .i64 0) 1 8 hT.under hi hz0 hz1 hz2 rfl (by omega) (.slice p n c) n _ hs own ⟨sz, 0, none⟩ 1 1 [.int .i64 y] hx rfl
    (fun j u hj => by
      match j, hj with
      | 0, hj => simp at hj; subst hj; rw [Addr.add_lit]; exact hc)
    (by intro u hu; simp at hu; subst hu; rfl) (by omega) (by unfold maxLen; omega) (by omega) hB w.heap.size rfl ?_
  intro g cap w' h1 h2 h3 h4
  refine hK g cap w' (by simpa [Own] using h1) ?_ ?_
  · refine ⟨h2.os, h2.tape, h2.output, h2.size, fun k hk hne => h2.block k hk ?_⟩
    intro e; apply hne; rw [e]; cases p <;> rfl
  · rcases h3 with h3 | h3
    · left; cases p <;> simp_all [Value.ownBlock]
    · exact .inr h3

def rowsV (R : List (List Nat)) (P : Nat → Option Addr) (C : Nat → Nat) : List Value := (List.range R.length).map fun i => .slice (P i) (Rm R i).length (C i)
theorem rowsV_get {R : List (List Nat)} {P : Nat → Option Addr} {C : Nat → Nat} {i : Nat} (h : i < R.length) : (rowsV R P C)[i]? = some (.slice (P i) (Rm R i).length (C i)) := by
  unfold rowsV; simp [h]
/-- the rounds, each a row of its own; none in a block of Z. -/
structure Rds (Z : Nat → Prop) (W : World) (q : Option Addr) (l c : Nat) (R : List (List Nat)) (P : Nat → Option Addr) (C : Nat → Nat) : Prop where
  row : OwnC 22 1 0 W q l c (rowsV R P C)
  len : R.length = l
  own : ∀ i, i < l → Own 3 0 W (P i) (Rm R i).length (C i) (asI (Rm R i))
  inj : ∀ i j a b, i < l → j < l → P i = some a → P j = some b → a.block = b.block → i = j
  pz : ∀ i a, i < l → P i = some a → ¬ Z a.block
  qz : ∀ a, q = some a → ¬ Z a.block
theorem own_cells {E k B : Nat} {W : World} {p : Option Addr} {n c : Nat} {vs : List Value} (h : OwnC E k B W p n c vs) (a : Addr) (ha : p = some a) : ∃ cur, W.heap[a.block]? = some (.cells cur E (0, 0)) := by
  rcases h.2 with ⟨hv, _⟩ | ⟨g, cap, cur, hv, _, hh, _⟩
  · injection hv with h1 _ _; rw [ha] at h1; cases h1
  · injection hv with h1 _ _
    rw [ha] at h1; injection h1 with h1; subst h1
    exact ⟨cur, hh⟩
theorem Rds.pq {Z : Nat → Prop} {W : World} {q : Option Addr} {l c : Nat} {R : List (List Nat)} {P : Nat → Option Addr} {C : Nat → Nat} (h : Rds Z W q l c R P C) {i : Nat} (hi : i < l) {a b : Addr} (ha : P i = some a) (hb : q = some b) : a.block ≠ b.block := fun e => by
  obtain ⟨c1, h1⟩ := own_cells (k := 1) (h.own i hi) a ha
  obtain ⟨c2, h2⟩ := own_cells h.row b hb
  rw [e, h2] at h1; simp at h1
theorem Rds.nil (Z : Nat → Prop) (W : World) : Rds Z W none 0 0 [] (fun _ => none) (fun _ => 0) := by
  refine ⟨OwnC.nil _ _ _ _, rfl, fun i h => by omega, fun i j a b h => by omega, fun i a h => by omega, fun a h => by cases h⟩
theorem Rds.keep {Z : Nat → Prop} {W W' : World} {q : Option Addr} {l c : Nat} {R : List (List Nat)} {P : Nat → Option Addr} {C : Nat → Nat} (h : Rds Z W q l c R P C) (hk : ∀ k, k < W.heap.size → ¬ Z k → W'.heap[k]? = W.heap[k]?) : Rds Z W' q l c R P C :=
  ⟨h.row.keep fun a ha => hk _ (h.row.block a ha).2 (h.qz a ha), h.len, fun i hi => (h.own i hi).keep fun a ha => hk _ ((h.own i hi).block a ha).2 (h.pz i a hi ha), h.inj, h.pz, h.qz⟩
theorem Rds.mono {Z Z' : Nat → Prop} {W : World} {q : Option Addr} {l c : Nat} {R : List (List Nat)} {P : Nat → Option Addr} {C : Nat → Nat} (h : Rds Z W q l c R P C) (hz : ∀ k, k < W.heap.size → Z' k → Z k) : Rds Z' W q l c R P C :=
  ⟨h.row, h.len, h.own, h.inj, fun i a hi ha hZ => h.pz i a hi ha (hz _ ((h.own i hi).block a ha).2 hZ), fun a ha hZ => h.qz a ha (hz _ (h.row.block a ha).2 hZ)⟩
theorem Rds.push {Z : Nat → Prop} {W W' : World} {q q' : Option Addr} {l c c' : Nat} {R : List (List Nat)} {P : Nat → Option Addr} {C : Nat → Nat} (h : Rds Z W q l c R P C) (hO : OwnC 22 1 0 W' q' (l + 1) c' (rowsV R P C ++ [.slice none 0 0])) (hg : W.grownBy W' (q.map (·.block)))
    (hor : q'.map (·.block) = q.map (·.block) ∨ ∀ a', q' = some a' → W.heap.size ≤ a'.block) (hZ : ∀ k, Z k → k < W.heap.size) : Rds Z W' q' (l + 1) c' (R ++ [[]]) (fun i => if i = l then none else P i) (fun i => if i = l then 0 else C i) := by
  have hl := h.len
  have hget : ∀ i, Rm (R ++ [[]]) i = Rm R i := fun i => ext_get R 1 i
  have hRl : Rm R l = [] := by unfold Rm; rw [List.getElem?_eq_none (by omega)]; rfl
  refine ⟨?_, by simp [hl], fun i hi => ?_, fun i j a b hi hj ha hb e => ?_, fun i a hi ha => ?_, fun a ha => ?_⟩
  · have e : rowsV (R ++ [[]]) (fun i => if i = l then none else P i) (fun i => if i = l then 0 else C i) = rowsV R P C ++ [.slice none 0 0] := by
      unfold rowsV
      rw [List.length_append, List.length_singleton, List.range_succ, List.map_append]
      congr 1
      · refine List.map_congr_left fun i hi => ?_
        have := List.mem_range.1 hi
        have hne : i ≠ l := by omega
        rw [hget]; simp [hne]
      · simp [hl, hget, hRl]
    rw [e]; exact hO
  · rw [hget]
    by_cases e : i = l
    · subst e
      rw [if_pos rfl, if_pos rfl, hRl]; exact Own.nil _ _ _
    · rw [if_neg e, if_neg e]
      refine (h.own i (by omega)).keep fun a ha => hg.block _ ((h.own i (by omega)).block a ha).2 fun e2 => ?_
      cases q with
      | none => cases e2
      | some b => simp at e2; exact h.pq (by omega) ha rfl e2
  · by_cases e1 : i = l
    · subst e1; simp at ha
    · by_cases e2 : j = l
      · subst e2; simp at hb
      · rw [if_neg e1] at ha; rw [if_neg e2] at hb
        exact h.inj i j a b (by omega) (by omega) ha hb e
  · by_cases e1 : i = l
    · subst e1; simp at ha
    · rw [if_neg e1] at ha; exact h.pz i a (by omega) ha
  · rcases hor with h1 | h1
    · rw [ha] at h1
      cases q with
      | none => cases h1
      | some b => simp at h1; rw [h1]; exact h.qz b rfl
    · exact fun hz => by have := hZ _ hz; have := h1 a ha; omega
theorem set_map {R : List (List Nat)} {P : Nat → Option Addr} {C : Nat → Nat} {m g c' : Nat} {y : List Nat} (hm : m < R.length) : rowsV (R.set m y) (fun i => if i = m then some ⟨g, 0, none⟩ else P i) (fun i => if i = m then c' else C i) = (rowsV R P C).set m (.slice (some ⟨g, 0, none⟩) y.length c') := by
  apply List.ext_getElem?
  intro j
  rw [List.getElem?_set]
  by_cases hj : j < R.length
  · rw [rowsV_get (by simpa using hj)]
    by_cases e : m = j
    · subst e
      rw [if_pos rfl, if_pos rfl, if_pos rfl, if_pos (by simp [rowsV, hj])]
      simp [Rm, hj]
    · rw [if_neg e, rowsV_get hj, if_neg (fun h => e h.symm), if_neg (fun h => e h.symm)]
      simp [Rm, e]
  · have h1 : (rowsV (R.set m y) (fun i => if i = m then some ⟨g, 0, none⟩ else P i) (fun i => if i = m then c' else C i))[j]? = none := List.getElem?_eq_none (by simp [rowsV]; omega)
    rw [h1, if_neg (by omega)]
    exact (List.getElem?_eq_none (by simp [rowsV]; omega)).symm
theorem Rds.app {Z : Nat → Prop} {W W' : World} {qg l c m g c' x : Nat} {R : List (List Nat)} {P : Nat → Option Addr} {C : Nat → Nat} (h : Rds Z W (some ⟨qg, 0, none⟩) l c R P C) (hm : m < l) (hO : Own 3 0 W' (some ⟨g, 0, none⟩) ((Rm R m).length + 1) c' (asI (Rm R m) ++ [(x : Int)])) (hg : W.grownBy W' ((P m).map (·.block)))
    (hor : (P m).map (·.block) = some g ∨ g = W.heap.size) (hZ : ∀ k, Z k → k < W.heap.size) : Rds Z (W'.setCell ⟨qg, m, none⟩ (.slice (some ⟨g, 0, none⟩) ((Rm R m).length + 1) c')) (some ⟨qg, 0, none⟩) l c (R.set m (Rm R m ++ [x])) (fun i => if i = m then some ⟨g, 0, none⟩ else P i) (fun i => if i = m then c' else C i) := by
  have hl := h.len
  have hmR : m < R.length := by omega
  have hget : ∀ i, Rm (R.set m (Rm R m ++ [x])) i = if i = m then Rm R m ++ [x] else Rm R i := fun i => by
    unfold Rm
    rw [List.getElem?_set]
    by_cases e : m = i
    · subst e; simp [hmR]
    · rw [if_neg e, if_neg (fun h => e h.symm)]
  have hgl : g < W'.heap.size := (hO.block _ rfl).2
  have hqW := h.row.block _ rfl
  have hgq : g ≠ qg := by
    rcases hor with h1 | h1
    · cases hp : P m with
      | none => rw [hp] at h1; cases h1
      | some a => rw [hp] at h1; simp at h1; rw [← h1]; exact h.pq hm hp rfl
    · have := hqW.2; simp at this; omega
  have hqk : W'.heap[qg]? = W.heap[qg]? := hg.block qg (by simpa using hqW.2) fun e => by
    cases hp : P m with
    | none => rw [hp] at e; cases e
    | some a => rw [hp] at e; simp at e; exact h.pq hm hp rfl e.symm
  have hrowW' : OwnC 22 1 0 W' (some ⟨qg, 0, none⟩) l c (rowsV R P C) := h.row.keep fun a ha => by injection ha with ha; subst ha; exact hqk
  have hb : ∀ k, k ≠ qg → (W'.setCell ⟨qg, m, none⟩ (.slice (some ⟨g, 0, none⟩) ((Rm R m).length + 1) c')).heap[k]? = W'.heap[k]? := fun k hk => Below.heap_setCell W' ⟨qg, m, none⟩ _ k hk
  refine ⟨?_, by simp [hl], fun i hi => ?_, fun i j a b hi hj ha hb2 e => ?_, fun i a hi ha => ?_, h.qz⟩
  · rw [set_map hmR, List.length_append, List.length_singleton]
    exact hrowW'.set m _
  · rw [hget]
    by_cases e : i = m
    · subst e
      rw [if_pos rfl, if_pos rfl, if_pos rfl, asI_app]
      have : Own 3 0 (W'.setCell ⟨qg, i, none⟩ (.slice (some ⟨g, 0, none⟩) ((Rm R i).length + 1) c')) (some ⟨g, 0, none⟩) ((Rm R i).length + 1) c' (asI (Rm R i) ++ [(x : Int)]) := hO.keep fun a ha => by injection ha with ha; subst ha; exact hb _ hgq
      simpa [asI] using this
    · rw [if_neg e, if_neg e, if_neg e]
      refine (h.own i hi).keep fun a ha => ?_
      rw [hb _ (h.pq hi ha rfl)]
      refine hg.block _ ((h.own i hi).block a ha).2 fun e2 => ?_
      cases hp : P m with
      | none => rw [hp] at e2; cases e2
      | some b => rw [hp] at e2; simp at e2; exact e (h.inj i m a b hi hm ha hp e2)
  · have hnew : ∀ i a, i < l → i ≠ m → P i = some a → a.block ≠ g := fun i a hi hne ha e => by
      rcases hor with h1 | h1
      · cases hp : P m with
        | none => rw [hp] at h1; cases h1
        | some b => rw [hp] at h1; simp at h1; exact hne (h.inj i m a b hi hm ha hp (by rw [e, h1]))
      · have := ((h.own i hi).block a ha).2; omega
    by_cases e1 : i = m
    · subst e1
      rw [if_pos rfl] at ha
      injection ha with ha; subst ha
      by_cases e2 : j = i
      · exact e2.symm
      · rw [if_neg e2] at hb2
        exact absurd e.symm (hnew j b hj e2 hb2)
    · rw [if_neg e1] at ha
      by_cases e2 : j = m
      · subst e2
        rw [if_pos rfl] at hb2
        injection hb2 with hb2; subst hb2
        exact absurd e (hnew i a hi e1 ha)
      · rw [if_neg e2] at hb2
        exact h.inj i j a b hi hj ha hb2 e
  · by_cases e1 : i = m
    · subst e1
      rw [if_pos rfl] at ha
      injection ha with ha; subst ha
      rcases hor with h1 | h1
      · cases hp : P i with
        | none => rw [hp] at h1; cases h1
        | some b => rw [hp] at h1; simp at h1; rw [← h1]; exact h.pz i b hi hp
      · exact fun hz => by have := hZ _ hz; simp at this; omega
    · rw [if_neg e1] at ha; exact h.pz i a hi ha
end Go.Proofs.Ytcibkchfdiijfaa
