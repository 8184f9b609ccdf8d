/- A map of boards that were tried (keys: strings of small numbers); frames of several blocks; conditions: boards of n <= 100 places, signs 0 to 2. -/
import Derived.Test.YtapoimadiiheaaaMov
import Derived.Maps.OwnSet
import Derived.Maps.OwnOps
import Derived.Laws.BytesArg
namespace Go.Proofs.Ytapoimadiiheaaa
open Go.RowKit Go.Maps

/-- boards of n places. -/
def Bd (n : Nat) (s : List Nat) : Prop := s.length = n ∧ ∀ j, st s j ≤ 2
def bkey (s : List Nat) : Lit := .string (strOfNums (asI s)).data.toList
theorem bkey_inj {n : Nat} {s t : List Nat} (hs : Bd n s) (ht : Bd n t) (h : bkey s = bkey t) : s = t := by
  refine st_ext (by rw [hs.1, ht.1]) fun k hk => ?_
  unfold bkey at h
  injection h with h
  rw [strOfNums_data, strOfNums_data] at h
  have h2 := congrArg (fun l => l[k]?) h
  have hk2 : k < t.length := by rw [ht.1, ← hs.1]; exact hk
  simp only [List.getElem?_map, asI, List.map_map, List.getElem?_eq_getElem hk, List.getElem?_eq_getElem hk2, Option.map_some, Option.some.injEq, Function.comp] at h2
  have e1 : s[k] = st s k := by unfold st; rw [List.getElem?_eq_getElem hk]; rfl
  have e2 : t[k] = st t k := by unfold st; rw [List.getElem?_eq_getElem hk2]; rfl
  rw [e1, e2] at h2
  have a1 := hs.2 k
  have a2 := ht.2 k
  have h3 := congrArg UInt8.toNat h2
  simp only [UInt8.toNat_ofNat'] at h3
  omega
theorem klaw : Keyed Try.prog 9 := string_keyed Try.underlying9
theorem under50 : Try.prog.underlying 50 = some (.map 9 4) := by kernel_rfl
theorem under4 : Try.prog.underlying 4 = some .bool := by kernel_rfl
theorem zero4 (w : World) : (zeroValue 4).run Try.prog w = .ok (.bool false) w := by kernel_rfl
theorem bhkey {n : Nat} (hn : n ≤ 100) {s : List Nat} (hs : Bd n s) : keyOf Try.prog 9 (.string (strOfNums (asI s))) = some (bkey s) :=
  WideMaps.keyOf_string_mk Try.underlying9 (by rw [strOfNums_size]; rw [asI_len, hs.1]; unfold maxLen; omega)
/-- the map's entries are the boards ks. -/
def TrdM (n : Nat) (w : World) (mb : Nat) (ks : List (List Nat)) : Prop :=
  ∃ D : DataW Unit, w.ownsMap Try.prog 9 (plainElem Try.prog 4) mb ks.length D ∧ (∀ l, Bd n l → Maps.has D (bkey l) = decide (l ∈ ks)) ∧ ∀ l ∈ ks, Bd n l ∧ ∀ z, D.atKey (bkey l) z = .lit (.bool true)
theorem TrdM.grown {n : Nat} {w w' : World} {mb : Nat} {ks : List (List Nat)} {row : Option Nat} (h : TrdM n w mb ks) (hg : w.grownBy w' row) (hne : some mb ≠ row) : TrdM n w' mb ks := by
  obtain ⟨D, h1, h2⟩ := h
  exact ⟨D, h1.kept hg hne, h2⟩
theorem TrdM.below {n : Nat} {w w' : World} {mb : Nat} {ks : List (List Nat)} (h : TrdM n w mb ks) (hb : Below w.heap.size w w') : TrdM n w' mb ks := h.grown (grown_below hb none) (by simp)
theorem TrdM.lt {n : Nat} {w : World} {mb : Nat} {ks : List (List Nat)} (h : TrdM n w mb ks) : mb < w.heap.size := by
  obtain ⟨D, h1, h2⟩ := h
  exact h1.lt
theorem TrdM.notRow {n : Nat} {w : World} {mb : Nat} {ks : List (List Nat)} (h : TrdM n w mb ks) {c : Array Value} {t : TypeId} {f : Nat × Nat} : w.heap[mb]? ≠ some (.cells c t f) := by
  obtain ⟨D, ⟨es, clock, hb, _⟩, h2⟩ := h
  rw [hb]; simp
theorem trd_made (n : Nat) (w : World) : TrdM n (w.alloc (.map #[] 0)) w.heap.size [] := by
  refine ⟨.map [], World.ownsMap_made _ _ _ _, fun l _ => ?_, by simp⟩
  simp [Maps.has_eq]
theorem TrdM.look {n : Nat} (hn : n ≤ 100) {w : World} {mb : Nat} {ks : List (List Nat)} (h : TrdM n w mb ks) {l : List Nat} (hl : Bd n l) :
    (Instr.lookup 50 (.map (some mb)) (.string (strOfNums (asI l))) false).run Try.prog w = .ok (.bool (decide (l ∈ ks))) w := by
  obtain ⟨D, h1, h2, h3⟩ := h
  obtain ⟨v, ps, hrun, hv⟩ := h1.lookup klaw under50 (zero4 w) (plainElem_bool under4 false) (bhkey hn hl)
  rw [hrun]
  congr 1
  have hat : D.atKey (bkey l) (.lit (.bool false)) = .lit (.bool (decide (l ∈ ks))) := by
    by_cases hm : l ∈ ks
    · rw [decide_eq_true hm]; exact (h3 l hm).2 _
    · rw [decide_eq_false hm]
      have h4 := h2 l hl
      exact atKey_of_not_has (by rw [h4]; simpa using hm) _
  rw [hat] at hv
  unfold plainElem at hv
  rw [under4] at hv
  cases v <;> simp at hv
  rw [hv.1]
theorem TrdM.put {n : Nat} (hn : n ≤ 100) {w : World} {mb : Nat} {ks : List (List Nat)} (h : TrdM n w mb ks) {l : List Nat} (hl : Bd n l) (hnew : l ∉ ks) (hks : ks.length < 9223372036854775807) :
    ∃ w', (Instr.mapUpdate 50 (.map (some mb)) (.string (strOfNums (asI l))) (.bool true)).run Try.prog w = .ok () w' ∧ TrdM n w' mb (l :: ks) ∧ w.grownBy w' (some mb) := by
  obtain ⟨D, h1, h4, h5⟩ := h
  obtain ⟨w', hrun, h6, h7⟩ := h1.update klaw under50 (by unfold maxLen; omega) (bhkey hn hl) (plainElem_bool under4 true)
  refine ⟨w', hrun, ⟨_, by simpa using h6, fun l' hl' => ?_, fun l' hm => ?_⟩, h7⟩
  · have ht := h1.tidy klaw
    have hkk := klaw.key (bhkey hn hl)
    by_cases e : l' = l
    · subst e; rw [has_put_same ht.isMap hkk]; simp
    · rw [has_put_other (fun h => e (bkey_inj hl' hl h)), h4 l' hl']; simp [e]
  · have ht := h1.tidy klaw
    have hkk := klaw.key (bhkey hn hl)
    rcases List.mem_cons.1 hm with rfl | hl''
    · exact ⟨hl, fun z => atKey_put_same ht.isMap hkk _ _⟩
    · refine ⟨(h5 l' hl'').1, fun z => ?_⟩
      rw [atKey_put_other (fun h => hnew (by rw [← bkey_inj (h5 l' hl'').1 hl h]; exact hl''))]
      exact (h5 l' hl'').2 z

/-- all old blocks but those of S are as they were. -/
structure Kept (S : Nat → Prop) (w w' : World) : Prop where
  os : w'.os = w.os
  tape : w'.tape = w.tape
  output : w'.output = w.output
  size : w.heap.size ≤ w'.heap.size
  block : ∀ k, k < w.heap.size → ¬ S k → w'.heap[k]? = w.heap[k]?
section
variable {S S' : Nat → Prop} {a b c : World}
theorem Kept.refl (S : Nat → Prop) (w : World) : Kept S w w := ⟨rfl, rfl, rfl, Nat.le_refl _, fun _ _ _ => rfl⟩
theorem Kept.trans (h : Kept S a b) (k : Kept S b c) : Kept S a c :=
  ⟨k.os.trans h.os, k.tape.trans h.tape, k.output.trans h.output, Nat.le_trans h.size k.size, fun i hi hne => (k.block i (Nat.lt_of_lt_of_le hi h.size) hne).trans (h.block i hi hne)⟩
theorem Kept.weak (h : Kept S a b) (hS : ∀ k, k < a.heap.size → S k → S' k) : Kept S' a b := ⟨h.os, h.tape, h.output, h.size, fun i hi hne => h.block i hi fun hs => hne (hS i hi hs)⟩
theorem Kept.ofGrown {row : Option Nat} (h : a.grownBy b row) : Kept (fun k => some k = row) a b := ⟨h.os, h.tape, h.output, h.size, fun i hi hne => h.block i hi hne⟩
theorem Kept.ofBelow (h : Below a.heap.size a b) : Kept S a b := ⟨h.os, h.tape, h.output, h.size, fun i hi _ => h.block i hi⟩
theorem Kept.below {B : Nat} (h : Kept S a b) (hB : B ≤ a.heap.size) (hS : ∀ k, k < B → ¬ S k) : Below B a b := ⟨h.os, h.tape, h.output, h.size, fun i hi => h.block i (Nat.lt_of_lt_of_le hi hB) (hS i hi)⟩
theorem Kept.drew (h : Kept S a b) : Kept S a b.drew := ⟨h.os, h.tape, h.output, h.size, h.block⟩
theorem Kept.drew1 (h : Kept S a b) : Kept S a.drew b := ⟨h.os, h.tape, h.output, h.size, h.block⟩
end
end Go.Proofs.Ytapoimadiiheaaa
