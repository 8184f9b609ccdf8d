/- What the map of boards that were come to is held to; conditions: orders of six. -/
import Derived.Test.YtkakggagaplaiaaShP
import Derived.Test.YtkakggagaplaiaaShN
import Derived.Maps.OwnSet
import Derived.DeepKeys4
import Derived.WalkArith
namespace Go.Proofs.Ytkakggagaplaiaa
open Go.RowKit Go.Maps

theorem nlaid : laidOutB Try.prog = true := by kernel_rfl
theorem nrow : (96 : TypeId) < Try.prog.types.size := of_decide_eq_true (by kernel_rfl)
theorem nwide : (match Try.prog.underlying 96 with | some (.array _ _) | some (.struct _) => true | _ => false) = true := by kernel_rfl
theorem nkt : Try.prog.keyTypeAt 2 96 = true := by kernel_rfl
set_option maxRecDepth 100000 in
theorem nlaw : Keyed Try.prog 96 := Keyed.of_law (deep_law_laid nlaid (m := 2) (by omega) nrow nkt nwide)
theorem under92 : Try.prog.underlying 92 = some (.map 96 3) := by kernel_rfl
theorem nzero3 (w : World) : (zeroValue 3).run Try.prog w = .ok (.int .i64 0) w := by kernel_rfl
theorem allKeys : ∀ k, k < 720 → (keyOf Try.prog 96 (nmV (nth 6 k))).isSome = true := by decide +kernel
theorem nthL_onto : ∀ m (left l : List Nat), left.Nodup → l.Perm left → left.length = m → ∃ k, k < fac m ∧ nthL m left k = l
  | 0, left, l, _, hp, hl => ⟨0, fac_pos 0, by
    have h1 : l.length = 0 := by rw [hp.length_eq, hl]
    rw [List.eq_nil_of_length_eq_zero h1]; rfl⟩
  | m + 1, left, [], _, hp, hl => by have := hp.length_eq; rw [hl] at this; cases this
  | m + 1, left, x :: xs, hn, hp, hl => by
    have hx : x ∈ left := hp.mem_iff.1 List.mem_cons_self
    have hi : ixN left x < left.length := List.idxOf_lt_length_of_mem hx
    have hg : left[ixN left x] = x := List.getElem_idxOf hi
    have hp2 : (x :: xs).Perm (x :: left.eraseIdx (ixN left x)) := by
      have := cons_erase left (ixN left x) hi
      rw [hg] at this
      exact hp.trans this.symm
    obtain ⟨k, hk, e⟩ := nthL_onto m (left.eraseIdx (ixN left x)) xs (hn.eraseIdx _) (List.perm_cons x |>.1 hp2) (by rw [List.length_eraseIdx, if_pos hi]; omega)
    have hF := fac_pos m
    have hd : (ixN left x * fac m + k) / fac m = ixN left x := by rw [Nat.mul_comm, Nat.mul_add_div hF, Nat.div_eq_of_lt hk, Nat.add_zero]
    have hm : (ixN left x * fac m + k) % fac m = k := by rw [Nat.mul_comm, Nat.mul_add_mod, Nat.mod_eq_of_lt hk]
    refine ⟨ixN left x * fac m + k, ?_, ?_⟩
    · rw [fac, Nat.mul_comm (fac m)]
      have : (ixN left x + 1) * fac m ≤ (m + 1) * fac m := Nat.mul_le_mul_right _ (by omega)
      rw [Nat.add_mul, Nat.one_mul] at this
      omega
    · rw [nthL, hd, hm, e]
      congr 1
      unfold st; simp [hi, hg]
theorem ord_nth {l : List Nat} (h : IsOrd 6 l) : ∃ k, k < 720 ∧ nth 6 k = l := by
  obtain ⟨k, hk, e⟩ := nthL_onto 6 (List.range 6) l List.nodup_range h (by simp)
  exact ⟨k, by simpa [fac] using hk, e⟩
noncomputable def nkey (l : List Nat) : Lit := (keyOf Try.prog 96 (nmV l)).getD (.bool false)
theorem nhkey {l : List Nat} (h : IsOrd 6 l) : keyOf Try.prog 96 (nmV l) = some (nkey l) := by
  obtain ⟨k, hk, rfl⟩ := ord_nth h
  obtain ⟨x, hx⟩ := Option.isSome_iff_exists.1 (allKeys k hk)
  unfold nkey
  rw [hx]; rfl
theorem nmV_inj {l l' : List Nat} (h : IsOrd 6 l) (h' : IsOrd 6 l') (e : nmV l = nmV l') : l = l' := by
  have hl := h.len
  have hl' := h'.len
  match l, hl, l', hl' with
  | [a, b, c, d, x, y], _, [a', b', c', d', x', y'], _ =>
    unfold nmV at e
    simp [st] at e
    obtain ⟨q1, q2, q3, q4, q5, q6⟩ := e
    obtain rfl : a = a' := by omega
    obtain rfl : b = b' := by omega
    obtain rfl : c = c' := by omega
    obtain rfl : d = d' := by omega
    obtain rfl : x = x' := by omega
    obtain rfl : y = y' := by omega
    rfl
theorem nkey_inj {l l' : List Nat} (h : IsOrd 6 l) (h' : IsOrd 6 l') (e : nkey l = nkey l') : l = l' :=
  nmV_inj h h' (nlaw.inj (nhkey h) (by rw [e]; exact nhkey h'))

/-- the map holds how each board was come to. -/
def KnM (w : World) (mb : Nat) (cm : List (List Nat × Int)) : Prop :=
  ∃ (D : DataW Unit) (n : Nat), w.ownsMap Try.prog 96 (plainElem Try.prog 3) mb n D ∧ n ≤ cm.length ∧ ∀ l, IsOrd 6 l → Maps.has D (nkey l) = (lkC cm l).isSome ∧ ∀ x, lkC cm l = some x → ∀ z, D.atKey (nkey l) z = .lit (.int .i64 x)
section
variable {w w' : World} {mb : Nat} {cm : List (List Nat × Int)}
theorem KnM.grown {row : Option Nat} (h : KnM w mb cm) (hg : w.grownBy w' row) (hne : some mb ≠ row) : KnM w' mb cm := by
  obtain ⟨D, n, h1, h2⟩ := h
  exact ⟨D, n, h1.kept hg hne, h2⟩
theorem KnM.below (h : KnM w mb cm) (hb : Below w.heap.size w w') : KnM w' mb cm :=
  h.grown (row := none) ⟨hb.os, hb.tape, hb.output, hb.size, fun k hk _ => hb.block k hk⟩ (by simp)
theorem KnM.lt (h : KnM w mb cm) : mb < w.heap.size := by
  obtain ⟨D, n, h1, h2⟩ := h
  exact h1.lt
theorem KnM.notRow (h : KnM w mb cm) {i : Nat} {v : Value} : w.cell? ⟨mb, i, none⟩ ≠ some v := by
  obtain ⟨D, n, ⟨es, clock, hb, _⟩, h2⟩ := h
  simp [World.cell?, hb]
theorem knM_made (w : World) : KnM (w.alloc (.map #[] 0)) w.heap.size [] := by
  refine ⟨.map [], 0, World.ownsMap_made _ _ _ _, Nat.le_refl _, fun l _ => ⟨?_, fun x hx => ?_⟩⟩
  · simp [Maps.has_eq, lkC]
  · simp [lkC] at hx
set_option maxRecDepth 100000 in
theorem KnM.put {D : DataW Unit} {n : Nat} {l : List Nat} {x : Int} (h1 : w.ownsMap Try.prog 96 (plainElem Try.prog 3) mb n D) (h2 : n ≤ cm.length)
    (h3 : ∀ l, IsOrd 6 l → Maps.has D (nkey l) = (lkC cm l).isSome ∧ ∀ x, lkC cm l = some x → ∀ z, D.atKey (nkey l) z = .lit (.int .i64 x)) (hl : IsOrd 6 l)
    (h' : w'.ownsMap Try.prog 96 (plainElem Try.prog 3) mb (n + 1) (D.put (nkey l) (.lit (.int .i64 x)))) : KnM w' mb ((l, x) :: cm) := by
  have ht := h1.tidy nlaw
  have hkk := nlaw.key (nhkey hl)
  refine ⟨_, n + 1, h', by simp; exact h2, fun l' hl' => ?_⟩
  rw [lkC_cons]
  by_cases e : l = l'
  · subst e
    rw [if_pos rfl, has_put_same ht.isMap hkk]
    refine ⟨rfl, fun y hy z => ?_⟩
    injection hy with hy
    subst hy
    exact atKey_put_same ht.isMap hkk _ _
  · rw [if_neg e, has_put_other (fun h => e (nkey_inj hl' hl h).symm)]
    refine ⟨(h3 l' hl').1, fun y hy z => ?_⟩
    rw [atKey_put_other (fun h => e (nkey_inj hl' hl h).symm)]
    exact (h3 l' hl').2 y hy z
end
end Go.Proofs.Ytkakggagaplaiaa
