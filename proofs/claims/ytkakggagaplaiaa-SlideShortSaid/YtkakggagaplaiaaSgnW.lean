/- What deck.Sign computes of an order: its sign; conditions: 1 to 9 things. -/
import Derived.Test.YtkakggagaplaiaaNumW
namespace Go.Proofs.Ytkakggagaplaiaa
open Go.RowKit

/-- block g is a row of truths, none of its cells frozen. -/
def Bools (w : World) (g : Nat) (bs : List Bool) : Prop := w.heap[g]? = some (.cells (bs.map Value.bool).toArray 4 (0, 0))
def bt (bs : List Bool) (i : Nat) : Bool := bs[i]?.getD false
theorem Bools.lt {w : World} {g : Nat} {bs : List Bool} (h : Bools w g bs) : g < w.heap.size := lt_of_heap h
theorem Bools.cell {w : World} {g : Nat} {bs : List Bool} (h : Bools w g bs) {i : Nat} (hi : i < bs.length) : w.cell? ⟨g, i, none⟩ = some (.bool (bt bs i)) := by
  rw [cell_of_row w g i _ 4 (0, 0) h]; unfold bt; simp [hi]
theorem Bools.free {w : World} {g : Nat} {bs : List Bool} (h : Bools w g bs) (i : Nat) : w.frozen? ⟨g, i, none⟩ = false := wfree h i
theorem Bools.set {w : World} {g : Nat} {bs : List Bool} (h : Bools w g bs) (i : Nat) (b : Bool) : Bools (w.setCell ⟨g, i, none⟩ (.bool b)) g (bs.set i b) := by
  unfold Bools
  rw [wset h]; simp [List.map_set]
theorem bt_set (bs : List Bool) (i j : Nat) (b : Bool) (hi : i < bs.length) : bt (bs.set i b) j = if j = i then b else bt bs j := by
  unfold bt
  rw [List.getElem?_set]
  by_cases h : i = j
  · subst h; simp [hi]
  · rw [if_neg h, if_neg (fun e => h e.symm)]
/-- how many are false. -/
def nf : List Bool → Nat
  | [] => 0
  | b :: bs => (if b then 0 else 1) + nf bs
theorem nf_set : ∀ (bs : List Bool) (k : Nat), k < bs.length → bt bs k = false → nf (bs.set k true) + 1 = nf bs
  | [], k, h, _ => by simp at h
  | b :: bs, 0, _, hb => by
    simp [bt] at hb
    subst hb
    simp [nf]; omega
  | b :: bs, k + 1, h, hb => by
    have := nf_set bs k (by simpa using h) (by simpa [bt] using hb)
    simp [nf]; omega
theorem boolT : Try.prog.underlying 70 = some (.slice 4) := Try.underlying70
theorem info4 : (Try.prog.info? 4).map (fun i => (i.zero, i.size, i.bytes)) = some (some (.bool false), 1, 1) := by kernel_rfl
theorem run_mkBg {P : Program} {T E : TypeId} (hu : P.underlying T = some (.slice E)) (hinf : (P.info? E).map (fun i => (i.zero, i.size, i.bytes)) = some (some (.bool false), 1, 1)) (n : Nat) (hn : n ≤ 1099511627776) (w : World) :
    (Instr.makeSlice T (.int .i64 n) (.int .i64 n)).run P w = .ok (.slice (some ⟨w.heap.size, 0, none⟩) n n) (w.alloc (.cells ((List.replicate n false).map Value.bool).toArray E)) := by
  obtain ⟨i0, hi, hz0, hz1, hz2⟩ := info_parts hinf
  have hrun := run_make (P := P) w T E i0 (.bool false) hu hi hz0 .i64 .i64 n n (by omega) (by omega) (by rw [hz2]; omega) (by omega)
  simp only [Int.toNat_natCast] at hrun
  rw [hrun]
  congr 3
  simp only [madeCells, Value.cells, hz1, Nat.mul_one]
  apply Array.ext
  · simp
  · intro i h1 h2
    simp [Nat.mod_one]
theorem run_mkB (n : Nat) (hn : n ≤ 1099511627776) (w : World) :
    (Instr.makeSlice 70 (.int .i64 n) (.int .i64 n)).run Try.prog w = .ok (.slice (some ⟨w.heap.size, 0, none⟩) n n) (w.alloc (.cells ((List.replicate n false).map Value.bool).toArray 4)) := run_mkBg boolT info4 n hn w
/-- what is seen is at home; all else is as it was, but place i. -/
structure Cyc (n i : Nat) (l c : List Nat) (bs : List Bool) : Prop where
  ord : IsOrd n c
  len : bs.length = n
  home : ∀ j, j < n → j ≠ i → bt bs j = true → st c j = j
  old : ∀ j, j < n → j ≠ i → bt bs j = false → st c j = st l j
theorem st_setN (c : List Nat) (i j v : Nat) (hi : i < c.length) : st (c.set i v) j = if j = i then v else st c j := by
  unfold st
  rw [List.getElem?_set]
  by_cases h : i = j
  · subst h; simp [hi]
  · rw [if_neg h, if_neg (fun e => h e.symm)]
theorem Cyc.un {n i k : Nat} {l c : List Nat} {bs : List Bool} (h : Cyc n i l c bs) (hi : i < n) (hk : k < n) (hik : k ≠ i) (hc : st c i = k) : bt bs k = false := by
  cases hb : bt bs k with
  | false => rfl
  | true => exact absurd (h.ord.inj hk hi ((h.home k hk hik hb).trans hc.symm)) hik
theorem Cyc.step {n i k : Nat} {l c : List Nat} {bs : List Bool} (h : Cyc n i l c bs) (hn : n ≤ 9) (hi : i < n) (hk : k < n) (hik : k ≠ i) (hc : st c i = k) :
    ∃ c', Cyc n i l c' (bs.set k true) ∧ st c' i = st l k ∧ sgn c' = - sgn c := by
  have hck := h.old k hk hik (h.un hi hk hik hc)
  have hl := h.ord.len
  have hx := set_xch h.ord hi hk (fun e => hik e.symm)
  have hne : st c i ≠ st c k := fun e => hik (h.ord.inj hk hi e.symm)
  have hA : ∀ j, j < n → st (c.map (xch (st c i) (st c k))) j = if j = k then k else if j = i then st c k else st c j := fun j hj => by
    rw [← hx, st_setN _ _ _ _ (by simp; omega), st_setN _ _ _ _ (by omega), hc]
  refine ⟨c.map (xch (st c i) (st c k)), ⟨h.ord.xchg (h.ord.st_lt hi) (h.ord.st_lt hk), by simp [h.len], fun j hj hji hb => ?_, fun j hj hji hb => ?_⟩, ?_, sgn_xch hn h.ord (h.ord.st_lt hi) (h.ord.st_lt hk) hne⟩
  · rw [hA j hj]
    by_cases e : j = k
    · rw [if_pos e, e]
    · rw [if_neg e, if_neg hji]
      rw [bt_set _ _ _ _ (by rw [h.len]; exact hk), if_neg e] at hb
      exact h.home j hj hji hb
  · rw [bt_set _ _ _ _ (by rw [h.len]; exact hk)] at hb
    by_cases e : j = k
    · rw [if_pos e] at hb; cases hb
    · rw [if_neg e] at hb
      rw [hA j hj, if_neg e, if_neg hji]
      exact h.old j hj hji hb
  · rw [hA i hi, if_neg (fun e => hik e.symm), if_pos rfl, hck]
/-- between two rings. -/
structure Rng (n : Nat) (l c : List Nat) (bs : List Bool) : Prop where
  ord : IsOrd n c
  len : bs.length = n
  home : ∀ j, j < n → bt bs j = true → st c j = j
  old : ∀ j, j < n → bt bs j = false → st c j = st l j
theorem Rng.cyc {n : Nat} {l c : List Nat} {bs : List Bool} (h : Rng n l c bs) (i : Nat) : Cyc n i l c bs := ⟨h.ord, h.len, fun j hj _ hb => h.home j hj hb, fun j hj _ hb => h.old j hj hb⟩
theorem Cyc.rng {n i : Nat} {l c : List Nat} {bs : List Bool} (h : Cyc n i l c bs) (hi : i < n) (hc : st c i = i) : Rng n l c (bs.set i true) := by
  refine ⟨h.ord, by simp [h.len], fun j hj hb => ?_, fun j hj hb => ?_⟩
  · by_cases e : j = i
    · rw [e, hc]
    · rw [bt_set _ _ _ _ (by rw [h.len]; exact hi), if_neg e] at hb; exact h.home j hj e hb
  · rw [bt_set _ _ _ _ (by rw [h.len]; exact hi)] at hb
    by_cases e : j = i
    · rw [if_pos e] at hb; cases hb
    · rw [if_neg e] at hb; exact h.old j hj e hb
theorem Rng.done {n : Nat} {l c : List Nat} {bs : List Bool} (h : Rng n l c bs) (ha : ∀ j, j < n → bt bs j = true) : sgn c = 1 := by
  have : c = List.range n := by
    apply List.ext_getElem
    · rw [h.ord.len]; simp
    · intro j h1 h2
      have hj : j < n := by simpa using h2
      have := h.home j hj (ha j hj)
      unfold st at this
      rw [List.getElem?_eq_getElem h1] at this
      simpa using this
  rw [this]; exact sgn_range n
end Go.Proofs.Ytkakggagaplaiaa
