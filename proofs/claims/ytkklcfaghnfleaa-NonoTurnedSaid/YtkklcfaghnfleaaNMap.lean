/- What the map of known counts of a line's filler is held to; conditions: at most 32 places and blocks. -/
import Derived.Test.YtkklcfaghnfleaaNPl
import Derived.Test.YtkklcfaghnfleaaIdx
import Derived.Test.YtkklcfaghnfleaaNl
import Derived.Maps.OwnSet
import Derived.DeepKeys4
import Derived.WalkArith
namespace Go.Proofs.Ytkklcfaghnfleaa
open Go.RowKit Go.Maps

def sv (p : Nat × Nat) : Value := .agg #[.int .i64 (p.1 : Int), .int .i64 (p.2 : Int)]
theorem slaidOut : laidOutB Try.prog = true := by kernel_rfl
theorem srow : (62 : TypeId) < Try.prog.types.size := of_decide_eq_true (by kernel_rfl)
theorem swide : (match Try.prog.underlying 62 with | some (.array _ _) | some (.struct _) => true | _ => false) = true := by kernel_rfl
theorem skt : Try.prog.keyTypeAt 2 62 = true := by kernel_rfl
theorem slaw : Keyed Try.prog 62 := Keyed.of_law (deep_law_laid slaidOut (m := 2) (by omega) srow skt swide)
theorem under57 : Try.prog.underlying 57 = some (.map 62 3) := by kernel_rfl
theorem under3 : Try.prog.underlying 3 = some (.int .i64) := by kernel_rfl
theorem zero3 (w : World) : (zeroValue 3).run Try.prog w = .ok (.int .i64 0) w := by kernel_rfl
def sst (p : Nat × Nat) : Prop := p.1 < 32 ∧ p.2 < 32
theorem skeys : ((List.range 32).all fun a => (List.range 32).all fun b => (keyOf Try.prog 62 (sv (a, b))).isSome) = true := by decide +kernel
noncomputable def skey (p : Nat × Nat) : Lit := (keyOf Try.prog 62 (sv p)).getD (.bool false)
theorem shkey {p : Nat × Nat} (hp : sst p) : keyOf Try.prog 62 (sv p) = some (skey p) := by
  have h := skeys
  simp only [List.all_eq_true, List.mem_range] at h
  have h := h p.1 hp.1 p.2 hp.2
  obtain ⟨x, hx⟩ := Option.isSome_iff_exists.1 h
  unfold skey
  rw [show (p.1, p.2) = p from rfl] at hx
  rw [hx]; rfl
theorem sv_inj {p q : Nat × Nat} (h : sv p = sv q) : p = q := by
  unfold sv at h
  simp at h
  exact Prod.ext (by have := h.1; omega) (by have := h.2; omega)
theorem skey_inj {p q : Nat × Nat} (hp : sst p) (hq : sst q) (h : skey p = skey q) : p = q :=
  sv_inj (slaw.inj (shkey hp) (by rw [h]; exact shkey hq))
theorem nodup_len : ∀ (xs ys : List Nat), xs.Nodup → (∀ x ∈ xs, x ∈ ys) → xs.length ≤ ys.length := by
  intro xs
  induction xs with
  | nil => intro ys _ _; simp
  | cons x xs ih =>
    intro ys h hs
    rw [List.nodup_cons] at h
    have hx := hs x (by simp)
    have := ih (ys.erase x) h.2 (fun y hy => (List.mem_erase_of_ne (by rintro rfl; exact h.1 hy)).2 (hs y (by simp [hy])))
    rw [List.length_erase_of_mem hx] at this
    have h0 : 0 < ys.length := List.length_pos_of_mem hx
    simp; omega
def scode (p : Nat × Nat) : Nat := p.1 + 32 * p.2
theorem scode_inj {p q : Nat × Nat} (hp : sst p) (hq : sst q) (h : scode p = scode q) : p = q := by
  obtain ⟨a, b⟩ := p
  obtain ⟨c, d⟩ := q
  unfold sst at hp hq
  unfold scode at h
  simp only at hp hq h
  obtain rfl : a = c := by omega
  obtain rfl : b = d := by omega
  rfl
theorem nodup_codes : ∀ {ks : List (Nat × Nat)}, ks.Nodup → (∀ k ∈ ks, sst k) → (ks.map scode).Nodup := by
  intro ks
  induction ks with
  | nil => intro _ _; simp
  | cons x xs ih =>
    intro h hs
    rw [List.nodup_cons] at h
    rw [List.map_cons, List.nodup_cons]
    refine ⟨?_, ih h.2 (fun k hk => hs k (by simp [hk]))⟩
    intro hm
    rw [List.mem_map] at hm
    obtain ⟨y, hy, e⟩ := hm
    have := scode_inj (hs y (by simp [hy])) (hs x (by simp)) e
    subst this
    exact h.1 hy
theorem known_len {ks : List (Nat × Nat)} (h : ks.Nodup) (hs : ∀ k ∈ ks, sst k) : ks.length ≤ 1024 := by
  have := nodup_len (ks.map scode) (List.range 1024) (nodup_codes h hs) (fun x hx => by
    rw [List.mem_map] at hx
    obtain ⟨y, hy, rfl⟩ := hx
    have := hs y hy
    unfold sst at this
    unfold scode
    exact List.mem_range.2 (by omega))
  simpa using this

/-- the map's entries are the spots ks, each with its count. -/
def Known (F : Nat × Nat → Nat) (w : World) (mb : Nat) (ks : List (Nat × Nat)) (D : DataW Unit) : Prop :=
  w.ownsMap Try.prog 62 (plainElem Try.prog 3) mb ks.length D ∧ ks.Nodup ∧ (∀ k ∈ ks, sst k) ∧ (∀ l, sst l → Maps.has D (skey l) = decide (l ∈ ks)) ∧ ∀ l ∈ ks, ∀ z, D.atKey (skey l) z = .lit (.int .i64 (F l : Int))
def MapOk (F : Nat × Nat → Nat) (w : World) (mb : Nat) : Prop := ∃ ks D, Known F w mb ks D
section
variable {F : Nat × Nat → Nat}
theorem MapOk.grown {w w' : World} {mb : Nat} {row : Option Nat} (h : MapOk F w mb) (hg : w.grownBy w' row) (hne : some mb ≠ row) : MapOk F w' mb := by
  obtain ⟨ks, D, h1, h2⟩ := h
  exact ⟨ks, D, h1.kept hg hne, h2⟩
theorem MapOk.alloc {w : World} {mb : Nat} (h : MapOk F w mb) (o : Obj) : MapOk F (w.alloc o) mb := h.grown (World.grownBy_alloc w o none) (by simp)
theorem MapOk.drewN {w : World} {mb : Nat} (h : MapOk F w mb) (n : Nat) : MapOk F (w.drewN n) mb := h.grown (row := none) ⟨rfl, rfl, rfl, Nat.le_refl _, fun _ _ _ => rfl⟩ (by simp)
theorem MapOk.below {w w' : World} {mb : Nat} (h : MapOk F w mb) (hb : Below w.heap.size w w') : MapOk F w' mb :=
  h.grown (row := none) ⟨hb.os, hb.tape, hb.output, hb.size, fun k hk _ => hb.block k hk⟩ (by simp)
theorem MapOk.lt {w : World} {mb : Nat} (h : MapOk F w mb) : mb < w.heap.size := by
  obtain ⟨ks, D, h1, h2⟩ := h
  exact h1.lt
theorem MapOk.notRow {w : World} {mb : Nat} (h : MapOk F w mb) {i : Nat} {v : Value} : w.cell? ⟨mb, i, none⟩ ≠ some v := by
  obtain ⟨ks, D, ⟨es, clock, hb, _⟩, h2⟩ := h
  simp [World.cell?, hb]
theorem mapOk_made (w : World) : MapOk F (w.alloc (.map #[] 0)) w.heap.size := by
  refine ⟨[], .map [], ?_⟩
  unfold Known
  refine ⟨World.ownsMap_made _ _ _ _, by simp, by simp, fun l _ => ?_, by simp⟩
  simp [Maps.has_eq]
theorem ownsMap_tight {w : World} {P : Program} {k : TypeId} {R : Value → Option (DataW Unit × List MemPlace)} {b n : Nat} {D : DataW Unit} (h : w.ownsMap P k R b n D) : w.ownsMap P k R b (Maps.size D) D := by
  obtain ⟨es, clock, hb, F, hs, rfl⟩ := h
  refine ⟨es, clock, hb, F, ?_, rfl⟩
  rw [Maps.size_eq, length_read]
  exact Nat.le_refl _
theorem Known.put {w w' : World} {mb : Nat} {ks : List (Nat × Nat)} {D : DataW Unit} (h : Known F w mb ks D) {l : Nat × Nat} (hl : sst l) (h' : w'.ownsMap Try.prog 62 (plainElem Try.prog 3) mb (ks.length + 1) (D.put (skey l) (.lit (.int .i64 (F l : Int))))) : MapOk F w' mb := by
  obtain ⟨h1, h2, h3, h4, h5⟩ := h
  have ht := h1.tidy slaw
  have hkk := slaw.key (shkey hl)
  have hsz := size_put (k := skey l) ht (.lit (.int .i64 (F l : Int)))
  have hle := h1.size_le
  have hat : ∀ l', sst l' → (l' = l ∨ l' ∈ ks) → ∀ z, (D.put (skey l) (.lit (.int .i64 (F l : Int)))).atKey (skey l') z = .lit (.int .i64 (F l' : Int)) := by
    intro l' hl' hm z
    by_cases e : l' = l
    · subst e; exact atKey_put_same ht.isMap hkk _ _
    · rw [atKey_put_other (fun h => e (skey_inj hl' hl h))]
      exact h5 l' (hm.resolve_left e) z
  have hha : ∀ l', sst l' → Maps.has (D.put (skey l) (.lit (.int .i64 (F l : Int)))) (skey l') = decide (l' = l ∨ l' ∈ ks) := by
    intro l' hl'
    by_cases e : l' = l
    · subst e; rw [has_put_same ht.isMap hkk]; simp
    · rw [has_put_other (fun h => e (skey_inj hl' hl h)), h4 l' hl']; simp [e]
  by_cases hm : l ∈ ks
  · refine ⟨ks, _, ⟨(ownsMap_tight h').mono ?_, h2, h3, fun l' hl' => ?_, fun l' hl' z => hat l' (h3 l' hl') (.inr hl') z⟩⟩
    · rw [hsz, h4 l hl, if_pos (by simpa using hm)]; exact hle
    · rw [hha l' hl']
      congr 1
      exact propext ⟨fun h => h.elim (fun e => e ▸ hm) id, .inr⟩
  · refine ⟨l :: ks, _, ⟨by simpa using h', List.nodup_cons.2 ⟨hm, h2⟩, fun k hk => ?_, fun l' hl' => ?_, fun l' hl' z => ?_⟩⟩
    · rcases List.mem_cons.1 hk with rfl | hk
      · exact hl
      · exact h3 k hk
    · rw [hha l' hl']; simp
    · rcases List.mem_cons.1 hl' with rfl | hl''
      · exact hat _ hl (.inl rfl) z
      · exact hat _ (h3 _ hl'') (.inr hl'') z
end
theorem ints_grown {F : Nat × Nat → Nat} {w w' : World} {mb n : Nat} {q : Option Addr} {xs : List Int} (h : IntsIn w q n xs) (hm : MapOk F w mb) (hg : w.grownBy w' (some mb)) : IntsIn w' q n xs :=
  ⟨h.1, fun j hj => by
    obtain ⟨b, o, e, hb, hc⟩ := h.2 j hj
    have hne : some b ≠ some mb := by
      intro e'
      injection e' with e'
      subst e'
      exact hm.notRow hc
    exact ⟨b, o, e, Nat.lt_of_lt_of_le hb hg.size, (World.cell?_of_block (a := ⟨b, o + j, none⟩) (hg.block b hb hne)).trans hc⟩⟩
end Go.Proofs.Ytkklcfaghnfleaa
