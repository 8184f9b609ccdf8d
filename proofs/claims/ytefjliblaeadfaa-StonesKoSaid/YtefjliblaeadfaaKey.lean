/- What seen.add computes: how often a board has been seen; conditions: boards of n places, signs 0 to 2, at most 300 of them seen. -/
import Derived.Test.YtefjliblaeadfaaPPl
import Derived.Maps.OwnSet
import Derived.Maps.OwnOps
import Derived.Laws.BytesArg
namespace Go.Proofs.Ytefjliblaeadfaa
open Go.RowKit Go.Maps

/-- the bytes that a board is written as. -/
def bys (s : List Nat) : List Int := s.map fun v : Nat => 48 + (v : Int)
theorem bys_at (s : List Nat) {k : Nat} (hk : k < s.length) : (bys s)[k]?.getD 0 = 48 + (st s k : Int) := by
  unfold bys st; rw [List.getElem?_map, List.getElem?_eq_getElem hk]; rfl
/-- written up to place k. -/
def bysK (s : List Nat) (k : Nat) : List Int := bys (s.take k) ++ List.replicate (s.length - k) 0
theorem bysK_len (s : List Nat) {k : Nat} (hk : k ≤ s.length) : (bysK s k).length = s.length := by unfold bysK bys; simp; omega
theorem bysK_zero (s : List Nat) : bysK s 0 = List.replicate s.length 0 := by simp [bysK, bys]
theorem bysK_all (s : List Nat) : bysK s s.length = bys s := by simp [bysK]
theorem bysK_set (s : List Nat) {k : Nat} (hk : k < s.length) : (bysK s k).set k (48 + (st s k : Int)) = bysK s (k + 1) := by
  unfold bysK
  have e : s.length - k = (s.length - (k + 1)) + 1 := by omega
  have hl : (bys (s.take k)).length = k := by unfold bys; simp; omega
  rw [List.set_append_right _ _ (by rw [hl]; exact Nat.le_refl _), hl, Nat.sub_self, e, List.replicate_succ, List.set_cons_zero]
  have e2 : s.take (k + 1) = s.take k ++ [st s k] := by rw [List.take_add_one]; unfold st; rw [List.getElem?_eq_getElem hk]; rfl
  rw [e2]
  simp [bys]
/-- boards of n places. -/
def Bd (n : Nat) (s : List Nat) : Prop := s.length = n ∧ ∀ j, st s j ≤ 2
def bkey (s : List Nat) : Lit := .string (strOfNums (bys s)).data.toList
theorem bkey_inj {n : Nat} {s t : List Nat} (hs : Bd n s) (ht : Bd n t) (h : bkey s = bkey t) : s = t := by
  refine st_ext (by rw [hs.1, ht.1]) fun k hk => ?_
  unfold bkey at h
  injection h with h
  rw [strOfNums_data, strOfNums_data] at h
  have h2 := congrArg (fun l => l[k]?) h
  have hk2 : k < t.length := by rw [ht.1, ← hs.1]; exact hk
  simp only [List.getElem?_map, bys, List.map_map, List.getElem?_eq_getElem hk, List.getElem?_eq_getElem hk2, Option.map_some, Option.some.injEq, Function.comp] at h2
  have e1 : s[k] = st s k := by unfold st; rw [List.getElem?_eq_getElem hk]; rfl
  have e2 : t[k] = st t k := by unfold st; rw [List.getElem?_eq_getElem hk2]; rfl
  rw [e1, e2] at h2
  have a1 := hs.2 k
  have a2 := ht.2 k
  have h3 := congrArg UInt8.toNat h2
  simp only [UInt8.toNat_ofNat'] at h3
  omega
theorem klaw : Keyed Try.prog 9 := string_keyed Try.underlying9
theorem under45 : Try.prog.underlying 45 = some (.map 9 3) := by kernel_rfl
theorem under3 : Try.prog.underlying 3 = some (.int .i64) := by kernel_rfl
theorem zero3 (w : World) : (zeroValue 3).run Try.prog w = .ok (.int .i64 0) w := by kernel_rfl
theorem bhkey {n : Nat} (hn : n ≤ 100) {s : List Nat} (hs : Bd n s) : keyOf Try.prog 9 (.string (strOfNums (bys s))) = some (bkey s) :=
  WideMaps.keyOf_string_mk Try.underlying9 (by rw [strOfNums_size]; unfold bys; rw [List.length_map, hs.1]; unfold maxLen; omega)
/-- the map's entries are the boards ks, each once. -/
def Seen (n : Nat) (w : World) (mb : Nat) (ks : List (List Nat)) (D : DataW Unit) : Prop :=
  w.ownsMap Try.prog 9 (plainElem Try.prog 3) mb ks.length D ∧ (∀ l, Bd n l → Maps.has D (bkey l) = decide (l ∈ ks)) ∧ ∀ l ∈ ks, Bd n l ∧ ∀ z, D.atKey (bkey l) z = .lit (.int .i64 1)
def SeenM (n : Nat) (w : World) (mb : Nat) (ks : List (List Nat)) : Prop := ∃ D, Seen n w mb ks D
theorem SeenM.grown {n : Nat} {w w' : World} {mb : Nat} {ks : List (List Nat)} {row : Option Nat} (h : SeenM n w mb ks) (hg : w.grownBy w' row) (hne : some mb ≠ row) : SeenM n w' mb ks := by
  obtain ⟨D, h1, h2⟩ := h
  exact ⟨D, h1.kept hg hne, h2⟩
theorem SeenM.below {n : Nat} {w w' : World} {mb : Nat} {ks : List (List Nat)} (h : SeenM n w mb ks) (hb : Below w.heap.size w w') : SeenM n w' mb ks := h.grown (grown_below hb none) (by simp)
theorem SeenM.lt {n : Nat} {w : World} {mb : Nat} {ks : List (List Nat)} (h : SeenM n w mb ks) : mb < w.heap.size := by
  obtain ⟨D, h1, h2⟩ := h
  exact h1.lt
theorem SeenM.notRow {n : Nat} {w : World} {mb : Nat} {ks : List (List Nat)} (h : SeenM n w mb ks) {i : Nat} {v : Value} : w.cell? ⟨mb, i, none⟩ ≠ some v := by
  obtain ⟨D, ⟨es, clock, hb, _⟩, h2⟩ := h
  simp [World.cell?, hb]
theorem seen_made (n : Nat) (w : World) : SeenM n (w.alloc (.map #[] 0)) w.heap.size [] := by
  refine ⟨.map [], ?_⟩
  unfold Seen
  refine ⟨World.ownsMap_made _ _ _ _, fun l _ => ?_, by simp⟩
  simp [Maps.has_eq]
theorem Seen.put {n : Nat} (hn : n ≤ 100) {w w' : World} {mb : Nat} {ks : List (List Nat)} {D : DataW Unit} (h : Seen n w mb ks D) {l : List Nat} (hl : Bd n l) (hnew : l ∉ ks) (h' : w'.ownsMap Try.prog 9 (plainElem Try.prog 3) mb (ks.length + 1) (D.put (bkey l) (.lit (.int .i64 1)))) : SeenM n w' mb (l :: ks) := by
  obtain ⟨h1, h4, h5⟩ := h
  have ht := h1.tidy klaw
  have hkk := klaw.key (bhkey hn hl)
  refine ⟨_, by simpa using h', fun l' hl' => ?_, fun l' hm => ?_⟩
  · by_cases e : l' = l
    · subst e; rw [has_put_same ht.isMap hkk]; simp
    · rw [has_put_other (fun h => e (bkey_inj hl' hl h)), h4 l' hl']; simp [e]
  · rcases List.mem_cons.1 hm with rfl | hl''
    · exact ⟨hl, fun z => atKey_put_same ht.isMap hkk _ _⟩
    · refine ⟨(h5 l' hl'').1, fun z => ?_⟩
      rw [atKey_put_other (fun h => hnew (by rw [← bkey_inj (h5 l' hl'').1 hl h]; exact hl''))]
      exact (h5 l' hl'').2 z
theorem Seen.at {n : Nat} {w : World} {mb : Nat} {ks : List (List Nat)} {D : DataW Unit} (h : Seen n w mb ks D) {l : List Nat} (hl : Bd n l) : D.atKey (bkey l) (.lit (.int .i64 0)) = .lit (.int .i64 (if l ∈ ks then 1 else 0)) := by
  by_cases hm : l ∈ ks
  · rw [if_pos hm]; exact (h.2.2 l hm).2 _
  · rw [if_neg hm]
    have h2 := h.2.1 l hl
    exact atKey_of_not_has (by rw [h2]; simpa using hm) _
theorem ints_grown {n m : Nat} {w w' : World} {mb : Nat} {ks : List (List Nat)} {q : Option Addr} {xs : List Int} (h : IntsIn w q m xs) (hm : SeenM n w mb ks) (hg : w.grownBy w' (some mb)) : IntsIn w' q m xs :=
  ⟨h.1, fun j hj => by
    obtain ⟨b, o, e, hb, hc⟩ := h.2 j hj
    have hne : some b ≠ some mb := by
      intro e'
      injection e' with e'
      subst e'
      exact hm.notRow hc
    exact ⟨b, o, e, Nat.lt_of_lt_of_le hb hg.size, (World.cell?_of_block (a := ⟨b, o + j, none⟩) (hg.block b hb hne)).trans hc⟩⟩
end Go.Proofs.Ytefjliblaeadfaa
