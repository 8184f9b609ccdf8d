/- What the map of known tables is held to; conditions: masks below 2 to the 52, four leaders. -/
import Derived.Test.YtkakggagaplaiaaBrS
import Derived.Maps.OwnSet
import Derived.DeepKeys4
import Derived.WalkArith
namespace Go.Proofs.Ytkakggagaplaiaa
open Go.RowKit Go.Maps

theorem u108 : Try.prog.underlying 108 = some (.int .u64) := by kernel_rfl
theorem u3 : Try.prog.underlying 3 = some (.int .i64) := by kernel_rfl
theorem u110 : Try.prog.underlying 110 = some (.struct #[⟨"cards", 108, 0, false, "", "gameroom/bridge", 0⟩, ⟨"leader", 3, 1, false, "", "gameroom/bridge", 8⟩]) := by kernel_rfl
theorem c108 : Try.prog.cellsOf 108 = 1 := by kernel_rfl
theorem c3 : Try.prog.cellsOf 3 = 1 := by kernel_rfl
theorem c110 : Try.prog.cellsOf 110 = 2 := by kernel_rfl
theorem kt110 : Try.prog.keyType 110 = true := by kernel_rfl
theorem keyS (m ld : Nat) (hm : m < 2 ^ 52) (hld : ld < 4) : (keyOf Try.prog 110 (.agg #[.int .u64 m, .int .i64 ld])).isSome = true := by
  have w1 : (Lit.int .u64 (m : Int)).wf = true := by simp [Lit.wf, IntKind.min, IntKind.max, IntKind.signed, IntKind.bits]; omega
  have w2 : (Lit.int .i64 (ld : Int)).wf = true := WalkArith.wf_i64 (by omega)
  obtain ⟨D, hD⟩ : ∃ D, Try.prog.types.size = D + 1 := ⟨Try.prog.types.size - 1, by have : 110 < Try.prog.types.size := of_decide_eq_true (by kernel_rfl); omega⟩
  have k1 : Try.prog.keyLits (D + 1) 108 [.int .u64 m] = some [.int .u64 m] := by unfold Program.keyLits; simp [w1]
  have k2 : Try.prog.keyLits (D + 1) 3 [.int .i64 ld] = some [.int .i64 ld] := by unfold Program.keyLits; simp [w2]
  unfold keyOf
  rw [u110]
  simp only [kt110, Value.formed, u110, c110, Value.cells, hD]
  unfold Program.keyLits
  simp [c110, c108, c3, k1, k2]
def bkv (p : Nat × Nat) : Value := .agg #[.int .u64 (p.1 : Int), .int .i64 (p.2 : Int)]
theorem blaid : laidOutB Try.prog = true := by kernel_rfl
theorem brow : (110 : TypeId) < Try.prog.types.size := of_decide_eq_true (by kernel_rfl)
theorem bwide : (match Try.prog.underlying 110 with | some (.array _ _) | some (.struct _) => true | _ => false) = true := by kernel_rfl
theorem bkt : Try.prog.keyTypeAt 2 110 = true := by kernel_rfl
set_option maxRecDepth 100000 in
theorem blaw : Keyed Try.prog 110 := Keyed.of_law (deep_law_laid blaid (m := 2) (by omega) brow bkt bwide)
theorem under83 : Try.prog.underlying 83 = some (.map 110 3) := by kernel_rfl
theorem zero3 (w : World) : (zeroValue 3).run Try.prog w = .ok (.int .i64 0) w := by kernel_rfl
def bkst (p : Nat × Nat) : Prop := p.1 < 2 ^ 52 ∧ p.2 < 4
noncomputable def bkey (p : Nat × Nat) : Lit := (keyOf Try.prog 110 (bkv p)).getD (.bool false)
theorem bhkey {p : Nat × Nat} (hp : bkst p) : keyOf Try.prog 110 (bkv p) = some (bkey p) := by
  obtain ⟨x, hx⟩ := Option.isSome_iff_exists.1 (keyS p.1 p.2 hp.1 hp.2)
  unfold bkey bkv
  rw [hx]; rfl
theorem bkv_inj {p q : Nat × Nat} (h : bkv p = bkv q) : p = q := by
  unfold bkv at h
  simp at h
  exact Prod.ext (by have := h.1; omega) (by have := h.2; omega)
theorem bkey_inj {p q : Nat × Nat} (hp : bkst p) (hq : bkst q) (h : bkey p = bkey q) : p = q :=
  bkv_inj (blaw.inj (bhkey hp) (by rw [h]; exact bhkey hq))
theorem nodup_lenB : ∀ (xs ys : List Nat), xs.Nodup → (∀ x ∈ xs, x ∈ ys) → xs.length ≤ ys.length := by
  intro xs
  induction xs with
  | nil => intro ys _ _; simp
  | cons x xs ih =>
    intro ys h hs
    rw [List.nodup_cons] at h
    have hx := hs x (by simp)
    have := ih (ys.erase x) h.2 (fun y hy => (List.mem_erase_of_ne (by rintro rfl; exact h.1 hy)).2 (hs y (by simp [hy])))
    rw [List.length_erase_of_mem hx] at this
    have h0 : 0 < ys.length := List.length_pos_of_mem hx
    simp; omega
def bcode (p : Nat × Nat) : Nat := p.1 + 4503599627370496 * p.2
theorem bcode_inj {p q : Nat × Nat} (hp : bkst p) (hq : bkst q) (h : bcode p = bcode q) : p = q := by
  obtain ⟨a, b⟩ := p
  obtain ⟨c, d⟩ := q
  unfold bkst at hp hq
  unfold bcode at h
  simp only at hp hq h
  obtain rfl : a = c := by omega
  obtain rfl : b = d := by omega
  rfl
theorem nodup_codes : ∀ {ks : List (Nat × Nat)}, ks.Nodup → (∀ k ∈ ks, bkst k) → (ks.map bcode).Nodup := by
  intro ks
  induction ks with
  | nil => intro _ _; simp
  | cons x xs ih =>
    intro h hs
    rw [List.nodup_cons] at h
    rw [List.map_cons, List.nodup_cons]
    refine ⟨?_, ih h.2 (fun k hk => hs k (by simp [hk]))⟩
    intro hm
    rw [List.mem_map] at hm
    obtain ⟨y, hy, e⟩ := hm
    have := bcode_inj (hs y (by simp [hy])) (hs x (by simp)) e
    subst this
    exact h.1 hy
theorem known_len {ks : List (Nat × Nat)} (h : ks.Nodup) (hs : ∀ k ∈ ks, bkst k) : ks.length ≤ 18014398509481984 := by
  have := nodup_lenB (ks.map bcode) (List.range 18014398509481984) (nodup_codes h hs) (fun x hx => by
    rw [List.mem_map] at hx
    obtain ⟨y, hy, rfl⟩ := hx
    have := hs y hy
    unfold bkst at this
    unfold bcode
    exact List.mem_range.2 (by omega))
  simpa using this

/-- the map's entries are the spots ks, each with its count. -/
def Known (F : Nat × Nat → Nat) (w : World) (mb : Nat) (ks : List (Nat × Nat)) (D : DataW Unit) : Prop :=
  w.ownsMap Try.prog 110 (plainElem Try.prog 3) mb ks.length D ∧ ks.Nodup ∧ (∀ k ∈ ks, bkst k) ∧ (∀ l, bkst l → Maps.has D (bkey l) = decide (l ∈ ks)) ∧ ∀ l ∈ ks, ∀ z, D.atKey (bkey l) z = .lit (.int .i64 (F l : Int))
def MapOk (F : Nat × Nat → Nat) (w : World) (mb : Nat) : Prop := ∃ ks D, Known F w mb ks D
section
variable {F : Nat × Nat → Nat}
theorem MapOk.grown {w w' : World} {mb : Nat} {row : Option Nat} (h : MapOk F w mb) (hg : w.grownBy w' row) (hne : some mb ≠ row) : MapOk F w' mb := by
  obtain ⟨ks, D, h1, h2⟩ := h
  exact ⟨ks, D, h1.kept hg hne, h2⟩
theorem MapOk.alloc {w : World} {mb : Nat} (h : MapOk F w mb) (o : Obj) : MapOk F (w.alloc o) mb := h.grown (World.grownBy_alloc w o none) (by simp)
theorem MapOk.drewN {w : World} {mb : Nat} (h : MapOk F w mb) (n : Nat) : MapOk F (w.drewN n) mb := h.grown (row := none) ⟨rfl, rfl, rfl, Nat.le_refl _, fun _ _ _ => rfl⟩ (by simp)
theorem MapOk.below {w w' : World} {mb : Nat} (h : MapOk F w mb) (hb : Below w.heap.size w w') : MapOk F w' mb :=
  h.grown (row := none) ⟨hb.os, hb.tape, hb.output, hb.size, fun k hk _ => hb.block k hk⟩ (by simp)
theorem MapOk.lt {w : World} {mb : Nat} (h : MapOk F w mb) : mb < w.heap.size := by
  obtain ⟨ks, D, h1, h2⟩ := h
  exact h1.lt
theorem MapOk.notRow {w : World} {mb : Nat} (h : MapOk F w mb) {i : Nat} {v : Value} : w.cell? ⟨mb, i, none⟩ ≠ some v := by
  obtain ⟨ks, D, ⟨es, clock, hb, _⟩, h2⟩ := h
  simp [World.cell?, hb]
theorem mapOk_made (w : World) : MapOk F (w.alloc (.map #[] 0)) w.heap.size := by
  refine ⟨[], .map [], ?_⟩
  unfold Known
  refine ⟨World.ownsMap_made _ _ _ _, by simp, by simp, fun l _ => ?_, by simp⟩
  simp [Maps.has_eq]
theorem ownsMap_tight {w : World} {P : Program} {k : TypeId} {R : Value → Option (DataW Unit × List MemPlace)} {b n : Nat} {D : DataW Unit} (h : w.ownsMap P k R b n D) : w.ownsMap P k R b (Maps.size D) D := by
  obtain ⟨es, clock, hb, F, hs, rfl⟩ := h
  refine ⟨es, clock, hb, F, ?_, rfl⟩
  rw [Maps.size_eq, length_read]
  exact Nat.le_refl _
set_option maxRecDepth 100000 in
theorem Known.put {w w' : World} {mb : Nat} {ks : List (Nat × Nat)} {D : DataW Unit} (h : Known F w mb ks D) {l : Nat × Nat} (hl : bkst l) (h' : w'.ownsMap Try.prog 110 (plainElem Try.prog 3) mb (ks.length + 1) (D.put (bkey l) (.lit (.int .i64 (F l : Int))))) : MapOk F w' mb := by
  obtain ⟨h1, h2, h3, h4, h5⟩ := h
  have ht := h1.tidy blaw
  have hkk := blaw.key (bhkey hl)
  have hsz := size_put (k := bkey l) ht (.lit (.int .i64 (F l : Int)))
  have hle := h1.size_le
  have hat : ∀ l', bkst l' → (l' = l ∨ l' ∈ ks) → ∀ z, (D.put (bkey l) (.lit (.int .i64 (F l : Int)))).atKey (bkey l') z = .lit (.int .i64 (F l' : Int)) := by
    intro l' hl' hm z
    by_cases e : l' = l
    · subst e; exact atKey_put_same ht.isMap hkk _ _
    · rw [atKey_put_other (fun h => e (bkey_inj hl' hl h))]
      exact h5 l' (hm.resolve_left e) z
  have hha : ∀ l', bkst l' → Maps.has (D.put (bkey l) (.lit (.int .i64 (F l : Int)))) (bkey l') = decide (l' = l ∨ l' ∈ ks) := by
    intro l' hl'
    by_cases e : l' = l
    · subst e; rw [has_put_same ht.isMap hkk]; simp
    · rw [has_put_other (fun h => e (bkey_inj hl' hl h)), h4 l' hl']; simp [e]
  by_cases hm : l ∈ ks
  · refine ⟨ks, _, ⟨(ownsMap_tight h').mono ?_, h2, h3, fun l' hl' => ?_, fun l' hl' z => hat l' (h3 l' hl') (.inr hl') z⟩⟩
    · rw [hsz, h4 l hl, if_pos (by simpa using hm)]; exact hle
    · rw [hha l' hl']
      congr 1
      exact propext ⟨fun h => h.elim (fun e => e ▸ hm) id, .inr⟩
  · refine ⟨l :: ks, _, ⟨by simpa using h', List.nodup_cons.2 ⟨hm, h2⟩, fun k hk => ?_, fun l' hl' => ?_, fun l' hl' z => ?_⟩⟩
    · rcases List.mem_cons.1 hk with rfl | hk
      · exact hl
      · exact h3 k hk
    · rw [hha l' hl']; simp
    · rcases List.mem_cons.1 hl' with rfl | hl''
      · exact hat _ hl (.inl rfl) z
      · exact hat _ (h3 _ hl'') (.inr hl'') z
end
theorem ints_grown {F : Nat × Nat → Nat} {w w' : World} {mb n : Nat} {q : Option Addr} {xs : List Int} (h : IntsIn w q n xs) (hm : MapOk F w mb) (hg : w.grownBy w' (some mb)) : IntsIn w' q n xs :=
  ⟨h.1, fun j hj => by
    obtain ⟨b, o, e, hb, hc⟩ := h.2 j hj
    have hne : some b ≠ some mb := by
      intro e'
      injection e' with e'
      subst e'
      exact hm.notRow hc
    exact ⟨b, o, e, Nat.lt_of_lt_of_le hb hg.size, (World.cell?_of_block (a := ⟨b, o + j, none⟩) (hg.block b hb hne)).trans hc⟩⟩
end Go.Proofs.Ytkakggagaplaiaa
