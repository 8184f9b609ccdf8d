/- What the map of hex's known boards is held to; conditions: masks below 2 to the 64, two players; at most a million keys. -/
import Derived.Test.YtcibkchfdiijfaaHxMb
import Derived.Maps.OwnSet
import Derived.DeepKeys4
import Derived.WalkArith
namespace Go.Proofs.Ytcibkchfdiijfaa
open Go.RowKit Go.Maps

abbrev K3 := Nat × Nat × Nat
theorem u65 : Try.prog.underlying 65 = some (.int .u64) := by kernel_rfl
theorem u3 : Try.prog.underlying 3 = some (.int .i64) := by kernel_rfl
theorem u67 : Try.prog.underlying 67 = some (.struct #[⟨"one", 65, 0, false, "", "gameroom/hex", 0⟩, ⟨"two", 65, 1, false, "", "gameroom/hex", 8⟩, ⟨"who", 3, 2, false, "", "gameroom/hex", 16⟩]) := by kernel_rfl
theorem c65 : Try.prog.cellsOf 65 = 1 := by kernel_rfl
theorem c3 : Try.prog.cellsOf 3 = 1 := by kernel_rfl
theorem c67 : Try.prog.cellsOf 67 = 3 := by kernel_rfl
theorem kt67 : Try.prog.keyType 67 = true := by kernel_rfl
theorem wf64 {m : Nat} (hm : m < 2 ^ 64) : (Lit.int .u64 (m : Int)).wf = true := by
  have e64 : (2 : Nat) ^ 64 = 18446744073709551616 := by decide
  rw [e64] at hm
  simp [Lit.wf, IntKind.min, IntKind.max, IntKind.signed, IntKind.bits]; omega
theorem keyS (a b p : Nat) (ha : a < 2 ^ 64) (hb : b < 2 ^ 64) (hp : p < 3) : (keyOf Try.prog 67 (.agg #[.int .u64 a, .int .u64 b, .int .i64 p])).isSome = true := by
  have w1 := wf64 ha
  have w2 := wf64 hb
  have w3 : (Lit.int .i64 (p : Int)).wf = true := WalkArith.wf_i64 (by omega)
  obtain ⟨D, hD⟩ : ∃ D, Try.prog.types.size = D + 1 := ⟨Try.prog.types.size - 1, by have : 67 < Try.prog.types.size := of_decide_eq_true (by kernel_rfl); omega⟩
  have k1 : Try.prog.keyLits (D + 1) 65 [.int .u64 a] = some [.int .u64 a] := by unfold Program.keyLits; simp [w1]
  have k2 : Try.prog.keyLits (D + 1) 65 [.int .u64 b] = some [.int .u64 b] := by unfold Program.keyLits; simp [w2]
  have k3 : Try.prog.keyLits (D + 1) 3 [.int .i64 p] = some [.int .i64 p] := by unfold Program.keyLits; simp [w3]
  unfold keyOf
  rw [u67]
  simp only [kt67, Value.formed, u67, c67, Value.cells, hD]
  unfold Program.keyLits
  simp [c67, c65, c3, k1, k2, k3]
def bkv (p : K3) : Value := .agg #[.int .u64 (p.1 : Int), .int .u64 (p.2.1 : Int), .int .i64 (p.2.2 : Int)]
theorem blaid : laidOutB Try.prog = true := by kernel_rfl
theorem brow : (67 : TypeId) < Try.prog.types.size := of_decide_eq_true (by kernel_rfl)
theorem bwide : (match Try.prog.underlying 67 with | some (.array _ _) | some (.struct _) => true | _ => false) = true := by kernel_rfl
theorem bkt : Try.prog.keyTypeAt 2 67 = true := by kernel_rfl
set_option maxRecDepth 100000 in
theorem blaw : Keyed Try.prog 67 := Keyed.of_law (deep_law_laid blaid (m := 2) (by omega) brow bkt bwide)
theorem under38 : Try.prog.underlying 38 = some (.map 67 3) := by kernel_rfl
theorem zero3 (w : World) : (zeroValue 3).run Try.prog w = .ok (.int .i64 0) w := by kernel_rfl
def bkst (p : K3) : Prop := p.1 < 2 ^ 64 ∧ p.2.1 < 2 ^ 64 ∧ p.2.2 < 3
noncomputable def bkey (p : K3) : Lit := (keyOf Try.prog 67 (bkv p)).getD (.bool false)
theorem bhkey {p : K3} (hp : bkst p) : keyOf Try.prog 67 (bkv p) = some (bkey p) := by
  obtain ⟨x, hx⟩ := Option.isSome_iff_exists.1 (keyS p.1 p.2.1 p.2.2 hp.1 hp.2.1 hp.2.2)
  unfold bkey bkv
  rw [hx]; rfl
theorem bkv_inj {p q : K3} (h : bkv p = bkv q) : p = q := by
  unfold bkv at h
  simp at h
  obtain ⟨a, b, c⟩ := p
  obtain ⟨a', b', c'⟩ := q
  simp only at h
  obtain ⟨h1, h2, h3⟩ := h
  obtain rfl : a = a' := by omega
  obtain rfl : b = b' := by omega
  obtain rfl : c = c' := by omega
  rfl
theorem bkey_inj {p q : K3} (hp : bkst p) (hq : bkst q) (h : bkey p = bkey q) : p = q :=
  bkv_inj (blaw.inj (bhkey hp) (by rw [h]; exact bhkey hq))

/-- the map's entries are keys of U, each with a value that V tells. -/
def Known (U : List K3) (V : K3 → Nat → Prop) (w : World) (mb : Nat) (ks : List K3) (D : DataW Unit) (f : K3 → Nat) : Prop :=
  w.ownsMap Try.prog 67 (plainElem Try.prog 3) mb ks.length D ∧ ks.Nodup ∧ (∀ k ∈ ks, bkst k ∧ k ∈ U) ∧ (∀ l, bkst l → Maps.has D (bkey l) = decide (l ∈ ks)) ∧ ∀ l ∈ ks, V l (f l) ∧ ∀ z, D.atKey (bkey l) z = .lit (.int .i64 (f l : Int))
def MapOk (U : List K3) (V : K3 → Nat → Prop) (w : World) (mb : Nat) : Prop := ∃ ks D f, Known U V w mb ks D f
theorem nodup_leK {l K : List K3} (hn : l.Nodup) (hs : ∀ x ∈ l, x ∈ K) : l.length ≤ K.length := by
  induction l generalizing K with
  | nil => simp
  | cons a l ih =>
    have ha : a ∈ K := hs a (by simp)
    have h := ih (K := K.erase a) (List.nodup_cons.1 hn).2 (fun x hx => (List.mem_erase_of_ne (by rintro rfl; exact (List.nodup_cons.1 hn).1 hx)).2 (hs x (by simp [hx])))
    rw [List.length_erase_of_mem ha] at h
    have := List.length_pos_of_mem ha
    simp only [List.length_cons]; omega
section
variable {U : List K3} {V : K3 → Nat → Prop}
theorem Known.len {w : World} {mb : Nat} {ks : List K3} {D : DataW Unit} {f : K3 → Nat} (h : Known U V w mb ks D f) : ks.length ≤ U.length := nodup_leK h.2.1 fun k hk => (h.2.2.1 k hk).2
theorem MapOk.grown {w w' : World} {mb : Nat} {row : Option Nat} (h : MapOk U V w mb) (hg : w.grownBy w' row) (hne : some mb ≠ row) : MapOk U V w' mb := by
  obtain ⟨ks, D, f, h1, h2⟩ := h
  exact ⟨ks, D, f, h1.kept hg hne, h2⟩
theorem MapOk.alloc {w : World} {mb : Nat} (h : MapOk U V w mb) (o : Obj) : MapOk U V (w.alloc o) mb := h.grown (World.grownBy_alloc w o none) (by simp)
theorem MapOk.drewN {w : World} {mb : Nat} (h : MapOk U V w mb) (n : Nat) : MapOk U V (w.drewN n) mb := h.grown (row := none) ⟨rfl, rfl, rfl, Nat.le_refl _, fun _ _ _ => rfl⟩ (by simp)
theorem MapOk.below {w w' : World} {mb : Nat} (h : MapOk U V w mb) (hb : Below w.heap.size w w') : MapOk U V w' mb :=
  h.grown (row := none) ⟨hb.os, hb.tape, hb.output, hb.size, fun k hk _ => hb.block k hk⟩ (by simp)
theorem MapOk.lt {w : World} {mb : Nat} (h : MapOk U V w mb) : mb < w.heap.size := by
  obtain ⟨ks, D, f, h1, h2⟩ := h
  exact h1.lt
theorem MapOk.notRow {w : World} {mb : Nat} (h : MapOk U V w mb) {i : Nat} {v : Value} : w.cell? ⟨mb, i, none⟩ ≠ some v := by
  obtain ⟨ks, D, f, ⟨es, clock, hb, _⟩, h2⟩ := h
  simp [World.cell?, hb]
theorem mapOk_made (w : World) : MapOk U V (w.alloc (.map #[] 0)) w.heap.size := by
  refine ⟨[], .map [], fun _ => 0, ?_⟩
  unfold Known
  refine ⟨World.ownsMap_made _ _ _ _, by simp, by simp, fun l _ => ?_, by simp⟩
  simp [Maps.has_eq]
theorem ownsMap_tight {w : World} {P : Program} {k : TypeId} {R : Value → Option (DataW Unit × List MemPlace)} {b n : Nat} {D : DataW Unit} (h : w.ownsMap P k R b n D) : w.ownsMap P k R b (Maps.size D) D := by
  obtain ⟨es, clock, hb, F, hs, rfl⟩ := h
  refine ⟨es, clock, hb, F, ?_, rfl⟩
  rw [Maps.size_eq, length_read]
  exact Nat.le_refl _
set_option maxRecDepth 100000 in
theorem Known.put {w w' : World} {mb : Nat} {ks : List K3} {D : DataW Unit} {f : K3 → Nat} (h : Known U V w mb ks D f) {l : K3} {v : Nat} (hl : bkst l) (hU : l ∈ U) (hV : V l v) (h' : w'.ownsMap Try.prog 67 (plainElem Try.prog 3) mb (ks.length + 1) (D.put (bkey l) (.lit (.int .i64 (v : Int))))) : MapOk U V w' mb := by
  obtain ⟨h1, h2, h3, h4, h5⟩ := h
  have ht := h1.tidy blaw
  have hkk := blaw.key (bhkey hl)
  have hsz := size_put (k := bkey l) ht (.lit (.int .i64 (v : Int)))
  have hle := h1.size_le
  obtain ⟨f', hf'⟩ : ∃ f' : K3 → Nat, ∀ q, f' q = if q = l then v else f q := ⟨fun q => if q = l then v else f q, fun _ => rfl⟩
  have hat : ∀ l', bkst l' → (l' = l ∨ l' ∈ ks) → V l' (f' l') ∧ ∀ z, (D.put (bkey l) (.lit (.int .i64 (v : Int)))).atKey (bkey l') z = .lit (.int .i64 (f' l' : Int)) := by
    intro l' hl' hm
    rw [hf']
    by_cases e : l' = l
    · subst e; rw [if_pos rfl]; exact ⟨hV, fun z => atKey_put_same ht.isMap hkk _ _⟩
    · rw [if_neg e]
      refine ⟨(h5 l' (hm.resolve_left e)).1, fun z => ?_⟩
      rw [atKey_put_other (fun h => e (bkey_inj hl' hl h))]
      exact (h5 l' (hm.resolve_left e)).2 z
  have hha : ∀ l', bkst l' → Maps.has (D.put (bkey l) (.lit (.int .i64 (v : Int)))) (bkey l') = decide (l' = l ∨ l' ∈ ks) := by
    intro l' hl'
    by_cases e : l' = l
    · subst e; rw [has_put_same ht.isMap hkk]; simp
    · rw [has_put_other (fun h => e (bkey_inj hl' hl h)), h4 l' hl']; simp [e]
  by_cases hm : l ∈ ks
  · refine ⟨ks, _, f', ⟨(ownsMap_tight h').mono ?_, h2, h3, fun l' hl' => ?_, fun l' hl' => hat l' (h3 l' hl').1 (.inr hl')⟩⟩
    · rw [hsz, h4 l hl, if_pos (by simpa using hm)]; exact hle
    · rw [hha l' hl']
      congr 1
      exact propext ⟨fun h => h.elim (fun e => e ▸ hm) id, .inr⟩
  · refine ⟨l :: ks, _, f', ⟨by simpa using h', List.nodup_cons.2 ⟨hm, h2⟩, fun k hk => ?_, fun l' hl' => ?_, fun l' hl' => ?_⟩⟩
    · rcases List.mem_cons.1 hk with rfl | hk
      · exact ⟨hl, hU⟩
      · exact h3 k hk
    · rw [hha l' hl']; simp
    · rcases List.mem_cons.1 hl' with rfl | hl''
      · exact hat _ hl (.inl rfl)
      · exact hat _ (h3 _ hl'').1 (.inr hl'')
end
end Go.Proofs.Ytcibkchfdiijfaa
