import Derived.Test.YtcibkchfdiijfaaHxMc
/- hex's solver: the boards it comes to, and where it stands in memory; conditions stand in each. -/
namespace Go.Proofs.Ytcibkchfdiijfaa
open Go.RowKit Go.Maps

/-- all boards that come of one by signs on its empty places. -/
def fl : List Nat → List (List Nat)
  | [] => [[]]
  | x :: r => if x = 0 then (fl r).flatMap fun t => [0 :: t, 1 :: t, 2 :: t] else (fl r).map (x :: ·)
theorem fl_self : ∀ s : List Nat, s ∈ fl s
  | [] => by simp [fl]
  | x :: r => by
    unfold fl
    split
    · rename_i h; subst h
      exact List.mem_flatMap.2 ⟨r, fl_self r, by simp⟩
    · exact List.mem_map.2 ⟨r, fl_self r, rfl⟩
theorem fl_set : ∀ {s t : List Nat} {k v : Nat}, t ∈ fl s → st t k = 0 → k < t.length → v ≤ 2 → t.set k v ∈ fl s
  | [], t, k, v, h, _, hk, _ => by
    simp [fl] at h; subst h; simp at hk
  | x :: r, t, k, v, h, h0, hk, hv => by
    unfold fl at h ⊢
    split at h
    · rename_i hx
      rw [if_pos hx]
      obtain ⟨t', ht', hm⟩ := List.mem_flatMap.1 h
      refine List.mem_flatMap.2 ?_
      have hsh : ∃ y, y ≤ 2 ∧ t = y :: t' := by
        simp at hm
        rcases hm with h | h | h
        · exact ⟨0, by omega, h⟩
        · exact ⟨1, by omega, h⟩
        · exact ⟨2, by omega, h⟩
      obtain ⟨y, hy, rfl⟩ := hsh
      cases k with
      | zero =>
        refine ⟨t', ht', ?_⟩
        rcases (show v = 0 ∨ v = 1 ∨ v = 2 by omega) with rfl | rfl | rfl <;> simp
      | succ k =>
        refine ⟨t'.set k v, fl_set ht' (by simpa [st] using h0) (by simpa using hk) hv, ?_⟩
        rcases (show y = 0 ∨ y = 1 ∨ y = 2 by omega) with rfl | rfl | rfl <;> simp
    · rename_i hx
      rw [if_neg hx]
      obtain ⟨t', ht', rfl⟩ := List.mem_map.1 h
      cases k with
      | zero => exact absurd (by simpa [st] using h0) hx
      | succ k => exact List.mem_map.2 ⟨t'.set k v, fl_set ht' (by simpa [st] using h0) (by simpa using hk) hv, by simp⟩
theorem fl_len : ∀ s : List Nat, (fl s).length = 3 ^ s.countP (· == 0)
  | [] => by simp [fl]
  | x :: r => by
    unfold fl
    have ih := fl_len r
    rw [List.countP_cons]
    split
    · rename_i h; subst h
      have : ∀ l : List (List Nat), (l.flatMap fun t => [0 :: t, 1 :: t, 2 :: t]).length = 3 * l.length := fun l => by
        induction l with
        | nil => rfl
        | cons a l ih => simp [List.flatMap_cons, ih]; omega
      rw [this, ih]
      simp [Nat.pow_succ, Nat.mul_comm]
    · rename_i h
      rw [List.length_map, ih]
      simp [h]
theorem opn_list {n : Nat} {s : List Nat} (h : s.length = n * n) : opn n s = s.countP (· == 0) := by
  have e : s = (List.range (n * n)).map (st s) := by
    apply List.ext_getElem (by simp [h])
    intro i h1 h2
    simp [st, h1]
  unfold opn
  conv => rhs; rw [e, List.countP_map]
  rfl
def kyS (N : Nat) (t : List Nat) (p : Nat) : K3 := (mskU 1 t N, mskU 2 t N, p)
theorem kyS_st (N : Nat) (t : List Nat) {p : Nat} (hp : p = 1 ∨ p = 2) : bkst (kyS N t p) := ⟨mskU_lt _ _ _, mskU_lt _ _ _, by show p < 3; omega⟩
def Uk (N : Nat) (g0 : List Nat) : List K3 := (fl g0).flatMap fun t => [kyS N t 1, kyS N t 2]
theorem Uk_mem {N : Nat} {g0 t : List Nat} (h : t ∈ fl g0) {p : Nat} (hp : p = 1 ∨ p = 2) : kyS N t p ∈ Uk N g0 :=
  List.mem_flatMap.2 ⟨t, h, by rcases hp with rfl | rfl <;> simp⟩
theorem Uk_len (N : Nat) {g0 : List Nat} (h : g0.countP (· == 0) ≤ 9) : (Uk N g0).length ≤ 40000 := by
  have h1 : (Uk N g0).length = 2 * (fl g0).length := by
    unfold Uk
    generalize fl g0 = l
    induction l with
    | nil => rfl
    | cons a l ih => simp [List.flatMap_cons, ih]; omega
  rw [h1, fl_len]
  have := Nat.pow_le_pow_right (show 1 ≤ 3 by omega) h
  have e : 3 ^ 9 = 19683 := by decide
  omega
/-- v wins board t, p being to move. -/
def Vl (n : Nat) (t : List Nat) (p v : Nat) : Prop := (v = 1 ∨ v = 2) ∧ Wn n v (opn n t) t p
def Vk (n : Nat) (l : K3) (v : Nat) : Prop := v ≤ 2 ∧ (n * n ≤ 64 → ∀ t, Bd n t → kyS (n * n) t l.2.2 = l → Vl n t l.2.2 v)
theorem Vk_of {n v p : Nat} {t : List Nat} (h : Bd n t) (hv : Vl n t p v) : Vk n (kyS (n * n) t p) v := by
  refine ⟨by have := hv.1; omega, fun hN u hu he => ?_⟩
  unfold kyS at he
  simp only [Prod.mk.injEq] at he
  have := msk_inj hN hu.len h.len hu.le h.le he.1 he.2.1
  subst this
  exact hv
section
variable {U : List K3} {n : Nat}
set_option maxRecDepth 100000 in
theorem ok_look {W : World} {mb : Nat} (h : MapOk U (Vk n) W mb) {p : K3} (hp : bkst p) : ∃ (z : Bool) (v : Nat), (z = true → Vk n p v) ∧ ∀ r, (Instr.lookup 38 (.map (some mb)) (.agg #[.int .u64 (p.1 : Int), .int .u64 (p.2.1 : Int), .int .i64 (p.2.2 : Int)]) true).run Try.prog (W.drewN r) = .ok (.tuple #[.int .i64 (if z then (v : Int) else 0), .bool z]) (W.drewN r) := by
  obtain ⟨ks, D, f, hK⟩ := h
  refine ⟨decide (p ∈ ks), f p, fun hz => (hK.2.2.2.2 p (by simpa using hz)).1, fun r => ?_⟩
  have hK' : Known U (Vk n) (W.drewN r) mb ks D f := hK
  obtain ⟨h1, h2, h3, h4, h5⟩ := hK'
  obtain ⟨v, ps, hrun, hv⟩ := h1.look_ok blaw under38 (zero3 _) (plainElem_int u3 (by decide)) (bhkey hp)
  obtain ⟨c, rfl, hc, _⟩ := plainElem_int_inv u3 hv
  rw [h4 p hp] at hrun
  simp only [Prod.mk.injEq] at hc
  have hcv : c = if decide (p ∈ ks) then (f p : Int) else 0 := by
    by_cases hm : p ∈ ks
    · rw [(h5 p hm).2] at hc
      rw [if_pos (by simpa using hm)]
      have := hc.1
      injection this with this
      injection this with _ this
      exact this.symm
    · rw [atKey_of_not_has (by rw [h4 p hp]; simpa using hm)] at hc
      rw [if_neg (by simpa using hm)]
      have := hc.1
      injection this with this
      injection this with _ this
      exact this.symm
  rw [← hcv]
  exact hrun
set_option maxRecDepth 100000 in
theorem ok_put {W : World} {mb : Nat} (h : MapOk U (Vk n) W mb) (hU : U.length ≤ 40000) {p : K3} (hp : bkst p) (hpU : p ∈ U) {v : Nat} (hv : Vk n p v) : ∃ W', (Instr.mapUpdate 38 (.map (some mb)) (.agg #[.int .u64 (p.1 : Int), .int .u64 (p.2.1 : Int), .int .i64 (p.2.2 : Int)]) (.int .i64 (v : Int))).run Try.prog W.drew = .ok () W' ∧ MapOk U (Vk n) W' mb ∧ W.grownBy W' (some mb) := by
  obtain ⟨ks, D, f, hK⟩ := h
  have hK' : Known U (Vk n) W.drew mb ks D f := hK
  have hl := hK.len
  have hv2 := hv.1
  obtain ⟨W', h1, h2, h3⟩ := hK'.1.update blaw under38 (by unfold maxLen; omega) (bhkey hp) (plainElem_int u3 (WalkArith.wf_i64 (n := (v : Int)) (by omega)))
  exact ⟨W', h1, hK'.put hp hpU hv h2, ⟨h3.os, h3.tape, h3.output, h3.size, h3.block⟩⟩
end
/-- all blocks but the board's row and the map. -/
structure Tw (g mb : Nat) (A C : World) : Prop where
  os : C.os = A.os
  tape : C.tape = A.tape
  output : C.output = A.output
  size : A.heap.size ≤ C.heap.size
  block : ∀ k, k < A.heap.size → k ≠ g → k ≠ mb → C.heap[k]? = A.heap[k]?
theorem Tw.refl (g mb : Nat) (A : World) : Tw g mb A A := ⟨rfl, rfl, rfl, Nat.le_refl _, fun _ _ _ _ => rfl⟩
theorem Tw.trans {g mb : Nat} {A C D : World} (h : Tw g mb A C) (k : Tw g mb C D) : Tw g mb A D :=
  ⟨k.os.trans h.os, k.tape.trans h.tape, k.output.trans h.output, Nat.le_trans h.size k.size, fun i hi h1 h2 => (k.block i (Nat.lt_of_lt_of_le hi h.size) h1 h2).trans (h.block i hi h1 h2)⟩
theorem Tw.below {g mb : Nat} {A C : World} (h : Below A.heap.size A C) : Tw g mb A C := ⟨h.os, h.tape, h.output, h.size, fun k hk _ _ => h.block k hk⟩
theorem Tw.grown {g mb : Nat} {A C : World} (h : A.grownBy C (some mb)) : Tw g mb A C := ⟨h.os, h.tape, h.output, h.size, fun k hk _ h2 => h.block k hk fun e => by injection e with e; exact h2 e⟩
theorem Tw.set (g mb : Nat) (A : World) (i : Nat) (v : Value) : Tw g mb A (A.setCell ⟨g, i, none⟩ v) := ⟨rfl, rfl, rfl, by simp [World.setCell], fun k _ h1 _ => Below.heap_setCell A ⟨g, i, none⟩ v k h1⟩
/-- the solver in memory. -/
structure Sm (n N c Sb g mb B : Nat) (U : List K3) (w : World) (t : List Nat) : Prop where
  sb : w.heap[Sb]? = some (.cells #[.int .i64 (n : Int), .int .i64 (n : Int), .slice (some ⟨g, 0, none⟩) N c, .map (some mb)] 40 (0, 0))
  row : Own 3 B w (some ⟨g, 0, none⟩) N c (asI t)
  map : MapOk U (Vk n) w mb
  sg : Sb ≠ g
  bs : B ≤ Sb
  bm : B ≤ mb
section
variable {n N c Sb g mb B : Nat} {U : List K3} {w w' : World} {t : List Nat}
theorem Sm.gm (h : Sm n N c Sb g mb B U w t) : g ≠ mb := fun e => by
  obtain ⟨cur, hc⟩ : ∃ cur, w.heap[g]? = some (.cells cur 3 (0, 0)) := by
    rcases h.row.2 with ⟨hv, _⟩ | ⟨g', cap, cur, hv, _, hh, _⟩
    · injection hv with h1 _ _; cases h1
    · injection hv with h1 _ _; injection h1 with h1; injection h1 with h1; subst h1; exact ⟨cur, hh⟩
  obtain ⟨ks, D, f, ⟨es, clock, hb, _⟩, _⟩ := h.map
  rw [e, hb] at hc; cases hc
theorem Sm.sm (h : Sm n N c Sb g mb B U w t) : Sb ≠ mb := fun e => by
  obtain ⟨ks, D, f, ⟨es, clock, hb, _⟩, _⟩ := h.map
  have := h.sb
  rw [e, hb] at this; cases this
theorem Sm.below (h : Sm n N c Sb g mb B U w t) (hb : Below w.heap.size w w') : Sm n N c Sb g mb B U w' t :=
  ⟨(hb.block _ (lt_of_heap h.sb)).trans h.sb, h.row.keep fun a ha => hb.block _ (h.row.block a ha).2, h.map.below hb, h.sg, h.bs, h.bm⟩
theorem Sm.set (h : Sm n N c Sb g mb B U w t) (k v : Nat) : Sm n N c Sb g mb B U (w.setCell ⟨g, k, none⟩ (.int .i64 (v : Int))) (t.set k v) := by
  have hgm := h.gm
  refine ⟨(Below.heap_setCell w ⟨g, k, none⟩ _ Sb h.sg).trans h.sb, ?_, h.map.grown (row := some g) ⟨rfl, rfl, rfl, by simp [World.setCell], fun i _ hne => Below.heap_setCell w ⟨g, k, none⟩ _ i fun e => hne (by rw [e])⟩ (fun e => by injection e with e; exact hgm e.symm), h.sg, h.bs, h.bm⟩
  rw [asI_set]; exact h.row.set k (v : Int)
theorem Sm.put (h : Sm n N c Sb g mb B U w t) (hg : w.grownBy w' (some mb)) (hm : MapOk U (Vk n) w' mb) : Sm n N c Sb g mb B U w' t :=
  ⟨(hg.block _ (lt_of_heap h.sb) (fun e => by injection e with e; exact h.sm e)).trans h.sb, h.row.keep fun a ha => hg.block _ (h.row.block a ha).2 (fun e => by cases ha; injection e with e; exact h.gm e), hm, h.sg, h.bs, h.bm⟩
end
end Go.Proofs.Ytcibkchfdiijfaa
