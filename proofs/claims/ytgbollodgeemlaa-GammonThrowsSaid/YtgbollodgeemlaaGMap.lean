/- What the map of known means is held to: each entry is the mean of its key; conditions: states of at most three men. -/
import Derived.Test.YtgbollodgeemlaaGMv
namespace Go.Proofs.Ytgbollodgeemlaa
open Go.RowKit Go.Maps

theorem nodup_len : ∀ (xs ys : List Nat), xs.Nodup → (∀ x ∈ xs, x ∈ ys) → xs.length ≤ ys.length := by
  intro xs
  induction xs with
  | nil => intro ys _ _; simp
  | cons x xs ih =>
    intro ys h hs
    rw [List.nodup_cons] at h
    have hx := hs x (by simp)
    have := ih (ys.erase x) h.2 (fun y hy => (List.mem_erase_of_ne (by rintro rfl; exact h.1 hy)).2 (hs y (by simp [hy])))
    rw [List.length_erase_of_mem hx] at this
    have h0 : 0 < ys.length := List.length_pos_of_mem hx
    simp; omega
theorem gcode_lt {l : List Nat} (hl : gst l) : gcode l < 4096 := by
  obtain ⟨h6, h3⟩ := hl
  match l, h6 with
  | [a, b, c, d, e, f], _ =>
    simp only [List.sum_cons, List.sum_nil] at h3
    simp only [gcode]; omega
theorem gcode_inj {l l' : List Nat} (hl : gst l) (hl' : gst l') (h : gcode l = gcode l') : l = l' := by
  obtain ⟨h6, h3⟩ := hl
  obtain ⟨h6', h3'⟩ := hl'
  match l, h6, l', h6' with
  | [a, b, c, d, e, f], _, [a', b', c', d', e', f'], _ =>
    simp only [List.sum_cons, List.sum_nil] at h3 h3'
    simp only [gcode] at h
    obtain rfl : a = a' := by omega
    obtain rfl : b = b' := by omega
    obtain rfl : c = c' := by omega
    obtain rfl : d = d' := by omega
    obtain rfl : e = e' := by omega
    obtain rfl : f = f' := by omega
    rfl
theorem nodup_codes : ∀ {ks : List (List Nat)}, ks.Nodup → (∀ k ∈ ks, gst k) → (ks.map gcode).Nodup := by
  intro ks
  induction ks with
  | nil => intro _ _; simp
  | cons x xs ih =>
    intro h hs
    rw [List.nodup_cons] at h
    rw [List.map_cons, List.nodup_cons]
    refine ⟨?_, ih h.2 (fun k hk => hs k (by simp [hk]))⟩
    intro hm
    rw [List.mem_map] at hm
    obtain ⟨y, hy, e⟩ := hm
    have := gcode_inj (hs y (by simp [hy])) (hs x (by simp)) e
    subst this
    exact h.1 hy
theorem known_len {ks : List (List Nat)} (h : ks.Nodup) (hs : ∀ k ∈ ks, gst k) : ks.length ≤ 4096 := by
  have := nodup_len (ks.map gcode) (List.range 4096) (nodup_codes h hs) (fun x hx => by
    rw [List.mem_map] at hx
    obtain ⟨y, hy, rfl⟩ := hx
    exact List.mem_range.2 (gcode_lt (hs y hy)))
  simpa using this

/-- the map's entries are the states ks, each with its mean. -/
def Known (w : World) (mb : Nat) (ks : List (List Nat)) (D : DataW Unit) : Prop :=
  w.ownsMap Try.prog 40 (plainElem Try.prog 3) mb ks.length D ∧ ks.Nodup ∧ (∀ k ∈ ks, gst k) ∧ (∀ l, gst l → Maps.has D (gkey l) = decide (l ∈ ks)) ∧ ∀ l ∈ ks, ∀ z, D.atKey (gkey l) z = .lit (.int .i64 (gmean l : Int))
def MapOk (w : World) (mb : Nat) : Prop := ∃ ks D, Known w mb ks D
theorem MapOk.grown {w w' : World} {mb : Nat} {row : Option Nat} (h : MapOk w mb) (hg : w.grownBy w' row) (hne : some mb ≠ row) : MapOk w' mb := by
  obtain ⟨ks, D, h1, h2⟩ := h
  exact ⟨ks, D, h1.kept hg hne, h2⟩
theorem MapOk.alloc {w : World} {mb : Nat} (h : MapOk w mb) (o : Obj) : MapOk (w.alloc o) mb := h.grown (World.grownBy_alloc w o none) (by simp)
theorem MapOk.below {w w' : World} {mb : Nat} (h : MapOk w mb) (hb : Below w.heap.size w w') : MapOk w' mb :=
  h.grown (row := none) ⟨hb.os, hb.tape, hb.output, hb.size, fun k hk _ => hb.block k hk⟩ (by simp)
theorem MapOk.lt {w : World} {mb : Nat} (h : MapOk w mb) : mb < w.heap.size := by
  obtain ⟨ks, D, h1, h2⟩ := h
  exact h1.lt
theorem MapOk.notRow {w : World} {mb : Nat} (h : MapOk w mb) {i : Nat} {v : Value} : w.cell? ⟨mb, i, none⟩ ≠ some v := by
  obtain ⟨ks, D, ⟨es, clock, hb, _⟩, h2⟩ := h
  simp [World.cell?, hb]
theorem mapOk_made (w : World) : MapOk (w.alloc (.map #[] 0)) w.heap.size := by
  refine ⟨[], .map [], ?_⟩
  unfold Known
  refine ⟨World.ownsMap_made _ _ _ _, by simp, by simp, fun l _ => ?_, by simp⟩
  simp [Maps.has_eq]

theorem ownsMap_tight {w : World} {P : Program} {k : TypeId} {R : Value → Option (DataW Unit × List MemPlace)} {b n : Nat} {D : DataW Unit} (h : w.ownsMap P k R b n D) : w.ownsMap P k R b (Maps.size D) D := by
  obtain ⟨es, clock, hb, F, hs, rfl⟩ := h
  refine ⟨es, clock, hb, F, ?_, rfl⟩
  rw [Maps.size_eq, length_read]
  exact Nat.le_refl _
theorem Known.put {w w' : World} {mb : Nat} {ks : List (List Nat)} {D : DataW Unit} (h : Known w mb ks D) {l : List Nat} (hl : gst l) (h' : w'.ownsMap Try.prog 40 (plainElem Try.prog 3) mb (ks.length + 1) (D.put (gkey l) (.lit (.int .i64 (gmean l : Int))))) : ∃ ks', Known w' mb ks' (D.put (gkey l) (.lit (.int .i64 (gmean l : Int)))) ∧ l ∈ ks' := by
  obtain ⟨h1, h2, h3, h4, h5⟩ := h
  have ht := h1.tidy hlaw
  have hkk := hlaw.key (hkey hl)
  have hsz := size_put (k := gkey l) ht (.lit (.int .i64 (gmean l : Int)))
  have hle := h1.size_le
  have hat : ∀ l', gst l' → (l' = l ∨ l' ∈ ks) → ∀ z, (D.put (gkey l) (.lit (.int .i64 (gmean l : Int)))).atKey (gkey l') z = .lit (.int .i64 (gmean l' : Int)) := by
    intro l' hl' hm z
    by_cases e : l' = l
    · subst e; exact atKey_put_same ht.isMap hkk _ _
    · rw [atKey_put_other (fun h => e (gkey_inj hl' hl h))]
      exact h5 l' (hm.resolve_left e) z
  have hha : ∀ l', gst l' → Maps.has (D.put (gkey l) (.lit (.int .i64 (gmean l : Int)))) (gkey l') = decide (l' = l ∨ l' ∈ ks) := by
    intro l' hl'
    by_cases e : l' = l
    · subst e; rw [has_put_same ht.isMap hkk]; simp
    · rw [has_put_other (fun h => e (gkey_inj hl' hl h)), h4 l' hl']; simp [e]
  by_cases hm : l ∈ ks
  · refine ⟨ks, ⟨(ownsMap_tight h').mono ?_, h2, h3, fun l' hl' => ?_, fun l' hl' z => hat l' (h3 l' hl') (.inr hl') z⟩, hm⟩
    · rw [hsz, h4 l hl, if_pos (by simpa using hm)]; exact hle
    · rw [hha l' hl']
      congr 1
      exact propext ⟨fun h => h.elim (fun e => e ▸ hm) id, .inr⟩
  · refine ⟨l :: ks, ⟨by simpa using h', List.nodup_cons.2 ⟨hm, h2⟩, fun k hk => ?_, fun l' hl' => ?_, fun l' hl' z => ?_⟩, by simp⟩
    · rcases List.mem_cons.1 hk with rfl | hk
      · exact hl
      · exact h3 k hk
    · rw [hha l' hl']; simp
    · rcases List.mem_cons.1 hl' with rfl | hl''
      · exact hat _ hl (.inl rfl) z
      · exact hat _ (h3 _ hl'') (.inr hl'') z
end Go.Proofs.Ytgbollodgeemlaa
