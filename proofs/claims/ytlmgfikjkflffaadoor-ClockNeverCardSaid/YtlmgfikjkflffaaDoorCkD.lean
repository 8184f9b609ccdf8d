/- What newDevice computes of any control and any uses: an error, or a device that is laid in a new block; conditions: the slice's length fits its kind. -/
import Derived.Test.YtlmgfikjkflffaaDoorCkC
namespace Go.Proofs.YtlmgfikjkflffaaDoor
open Go.RowKit

def errD (b k n m r : Int) (xs : List Int) : Int := if chkE b k n m r ≠ 0 then chkE b k n m r else if 200 < xs.length then 11 else if fars xs then 1 else 0

theorem errD_yes {b k n m r : Int} {xs : List Int} (h : errD b k n m r xs = 0) : ∃ (c : Ct) (s : List Nat), b = c.base ∧ k = c.kind ∧ n = c.bonus ∧ m = c.moves ∧ r = c.more ∧ xs = asI s ∧ c.base ≤ 36000000 ∧ c.bonus ≤ 36000000 ∧ c.more ≤ 36000000 ∧ c.moves ≤ 1000 ∧ c.kind ≤ 3 ∧ s.length ≤ 200 ∧ ∀ j, st s j ≤ 36000000 := by
  unfold errD at h
  by_cases h1 : chkE b k n m r = 0
  · rw [if_neg (by simpa using h1)] at h
    by_cases h2 : 200 < xs.length
    · rw [if_pos h2] at h; cases h
    · rw [if_neg h2] at h
      cases h3 : fars xs with
      | true => rw [h3] at h; cases h
      | false =>
        obtain ⟨s, rfl, hs⟩ := fars_no h3
        unfold chkE at h1
        split at h1
        · cases h1
        · split at h1
          · cases h1
          · rename_i h4 h5
            simp only [Bool.or_eq_true, not_or, Bool.not_eq_true, decide_eq_false_iff_not] at h4
            obtain ⟨⟨⟨⟨e1, e2⟩, e3⟩, e4⟩, e5⟩ := h4
            have f1 := farI_no e1
            have f2 := farI_no e2
            have f3 := farI_no e3
            refine ⟨⟨b.toNat, k.toNat, n.toNat, m.toNat, r.toNat⟩, s, ?_, ?_, ?_, ?_, ?_, rfl, ?_, ?_, ?_, ?_, ?_, ?_, hs⟩ <;> (try dsimp only) <;> first | omega | (rw [asI_len] at h2; omega)
  · rw [if_pos (by simpa using h1)] at h
    exact absurd h h1

theorem errD_of {c : Ct} {s : List Nat} (h1 : c.base ≤ 36000000) (h2 : c.bonus ≤ 36000000) (h3 : c.more ≤ 36000000) (h4 : c.moves ≤ 1000) (h5 : c.kind ≤ 3) (h6 : s.length ≤ 200) (h7 : ∀ j, st s j ≤ 36000000) : chkE c.base c.kind c.bonus c.moves c.more = 0 ∧ errD c.base c.kind c.bonus c.moves c.more (asI s) = 0 := by
  have f : ∀ x : Nat, x ≤ 36000000 → farI (x : Int) = false := fun x hx => by unfold farI; simp; omega
  have e : chkE c.base c.kind c.bonus c.moves c.more = 0 := by
    unfold chkE
    rw [f _ h1, f _ h2, f _ h3]
    rw [if_neg (by simp; omega), if_neg (by omega)]
  refine ⟨e, ?_⟩
  unfold errD
  rw [if_neg (by simpa using e), if_neg (by rw [asI_len]; omega), fars_asI h7]
  rfl

theorem beq_ne {a b : Int} (h : a ≠ b) : (a == b) = false := by simp [h]
theorem bne_ne {a b : Int} (h : a ≠ b) : (a != b) = true := by simp [h]

def rowD (b k n m r : Int) : Array Value := #[.int .i64 b, .int .i64 k, .int .i64 n, .int .i64 m, .int .i64 r, .int .i64 b, .int .i64 b, .int .i64 (-1), .int .i64 0, .int .i64 0, .int .i64 0]

set_option maxHeartbeats 2000000 in
theorem newDevice_no (b k n m r : Int) (p : Option Addr) (l c : Nat) (xs : List Int) (w : World) (hl : l ≤ 9223372036854775807) (hx : IntsIn w p l xs) (h : errD b k n m r xs ≠ 0) :
    Calls Tryd.prog 10 #[ctl b k n m r, .slice p l c] w fun e w' => e = .returned (.tuple #[.pointer none, .int .i64 (errD b k n m r xs)]) ∧ Below w.heap.size w w' := by
  have hB := Lib.hid ((Below.refl w.heap.size w).alloc (Nat.le_refl _) (.cells #[.int .i64 b, .int .i64 k, .int .i64 n, .int .i64 m, .int .i64 r] 23))
  have HC := Lib.hid (check_any b k n m r (w.alloc (.cells #[.int .i64 b, .int .i64 k, .int .i64 n, .int .i64 m, .int .i64 r] 23)))
  have hlen := hx.len
  have he : Hid (errD b k n m r xs = if chkE b k n m r ≠ 0 then chkE b k n m r else if 200 < xs.length then 11 else if fars xs then 1 else 0) := Lib.hid rfl
  unfold ctl at *
  generalize errD b k n m r xs = res at *
  generalize chkE b k n m r = ck at *
  by_cases h1 : ck = 0
  · subst h1
    have he2 : Hid (res = if 200 < xs.length then 11 else if fars xs then 1 else 0) := by show _ = _; have := he.out; simpa using this
    clear he
    by_cases h2 : 200 < l
    · have hr : Hid (res = 11) := by show _ = _; have := he2.out; rwa [if_pos (by omega)] at this
      clear hx hlen
      replace h := Lib.hid h; 
      go_enter Tryd.func10, Tryd.ntmps10
      go_wp2_with fail
      refine HC.out.mono ?_
      rintro e w' ⟨rfl, hB2⟩
      replace hB2 := Lib.hid hB2
      go_wp2_with fail
      go_ret2
      exact ⟨by rw [hr.out]; rfl, hB.out.trans (hB2.out.mono (by simp))⟩
    · have h2' : l ≤ 200 := by omega
      clear h2
      have h3 : fars xs = true := by
        have := he2.out
        cases hf : fars xs with
        | true => rfl
        | false => rw [if_neg (by omega), hf] at this; exact absurd this h
      have hr : Hid (res = 1) := by show _ = _; have := he2.out; rwa [if_neg (by omega), h3] at this
      have HF := Lib.hid (fun W hW => contains_any p l c xs W hl hW)
      rw [h3] at HF
      replace hx := Lib.hid hx; replace h := Lib.hid h; replace hlen := Lib.hid hlen; replace h3 := Lib.hid h3
      go_enter Tryd.func10, Tryd.ntmps10
      go_wp2_with fail
      refine HC.out.mono ?_
      rintro e w' ⟨rfl, hB2⟩
      have hx2 := Lib.hid (hx.out.below (hB.out.trans (hB2.mono (by simp))))
      replace hB2 := Lib.hid hB2
      go_wp2_with fail
      refine (HF.out _ hx2.out).mono ?_
      rintro e w2 ⟨rfl, rfl⟩
      go_wp2_with fail
      go_ret2
      exact ⟨by rw [hr.out]; rfl, hB.out.trans (hB2.out.mono (by simp))⟩
  · have hr : Hid (res = ck) := by show _ = _; have := he.out; rwa [if_pos h1] at this
    have z0 := bne_ne h1
    clear hx hlen
    replace h := Lib.hid h; replace h1 := Lib.hid h1
    go_enter Tryd.func10, Tryd.ntmps10
    go_wp2_with fail
    refine HC.out.mono ?_
    rintro e w' ⟨rfl, hB2⟩
    replace hB2 := Lib.hid hB2
    go_wp2_with fail
    go_ret2
    exact ⟨by rw [hr.out]; rfl, hB.out.trans (hB2.out.mono (by simp))⟩

set_option maxHeartbeats 2000000 in
theorem newDevice_yes (b k n m r : Int) (p : Option Addr) (l c : Nat) (xs : List Int) (w : World) (hl : l ≤ 9223372036854775807) (hx : IntsIn w p l xs) (h : errD b k n m r xs = 0) :
    Calls Tryd.prog 10 #[ctl b k n m r, .slice p l c] w fun e w' => ∃ g, e = .returned (.tuple #[.pointer (some ⟨g, 0, none⟩), .int .i64 0]) ∧ w.heap.size ≤ g ∧ w'.heap[g]? = some (.cells (rowD b k n m r) 45 (0, 0)) ∧ Below w.heap.size w w' := by
  have hB := Lib.hid ((Below.refl w.heap.size w).alloc (Nat.le_refl _) (.cells #[.int .i64 b, .int .i64 k, .int .i64 n, .int .i64 m, .int .i64 r] 23))
  have HC := Lib.hid (check_any b k n m r (w.alloc (.cells #[.int .i64 b, .int .i64 k, .int .i64 n, .int .i64 m, .int .i64 r] 23)))
  have hbox : (w.alloc (.cells #[.int .i64 b, .int .i64 k, .int .i64 n, .int .i64 m, .int .i64 r] 23)).heap[w.heap.size]? = some (.cells #[.int .i64 b, .int .i64 k, .int .i64 n, .int .i64 m, .int .i64 r] 23) := heap_alloc_new _ _
  replace hbox := Lib.hid hbox
  have hlen := hx.len
  have h1 : chkE b k n m r = 0 := by
    unfold errD at h
    by_cases h1 : chkE b k n m r = 0
    · exact h1
    · rw [if_pos (by simpa using h1)] at h; exact absurd h h1
  have h2 : l ≤ 200 := by
    unfold errD at h
    rw [if_neg (by simpa using h1)] at h
    apply Nat.le_of_not_lt
    intro hlt
    rw [if_pos (by omega)] at h; cases h
  have h3 : fars xs = false := by
    unfold errD at h
    rw [if_neg (by simpa using h1), if_neg (by omega)] at h
    cases hf : fars xs with
    | true => rw [hf] at h; cases h
    | false => rfl
  have HF := Lib.hid (fun W hW => contains_any p l c xs W hl hW)
  rw [h3] at HF
  unfold ctl at *
  rw [h1] at HC
  replace hx := Lib.hid hx; replace h := Lib.hid h; replace hlen := Lib.hid hlen; replace h3 := Lib.hid h3; replace h1 := Lib.hid h1
  go_enter Tryd.func10, Tryd.ntmps10
  go_wp2_with fail
  refine HC.out.mono ?_
  rintro e w' ⟨rfl, hB2⟩
  have hBB := hB.out.trans (hB2.mono (by simp))
  have hx2 := Lib.hid (hx.out.below hBB)
  have hb2 := (hB2.block w.heap.size (by simp)).trans hbox.out
  have c0 : w'.cell? ⟨w.heap.size, 0, none⟩ = some (.int .i64 b) := by rw [cell_of_row w' _ 0 _ 23 (0, 0) hb2]; rfl
  have c1 : w'.cell? ⟨w.heap.size, 1, none⟩ = some (.int .i64 k) := by rw [cell_of_row w' _ 1 _ 23 (0, 0) hb2]; rfl
  have c2 : w'.cell? ⟨w.heap.size, 2, none⟩ = some (.int .i64 n) := by rw [cell_of_row w' _ 2 _ 23 (0, 0) hb2]; rfl
  have c3 : w'.cell? ⟨w.heap.size, 3, none⟩ = some (.int .i64 m) := by rw [cell_of_row w' _ 3 _ 23 (0, 0) hb2]; rfl
  have c4 : w'.cell? ⟨w.heap.size, 4, none⟩ = some (.int .i64 r) := by rw [cell_of_row w' _ 4 _ 23 (0, 0) hb2]; rfl
  have hsz : w.heap.size ≤ w'.heap.size := hBB.size
  replace hB2 := Lib.hid hB2; replace hBB := Lib.hid hBB; replace hb2 := Lib.hid hb2; replace hsz := Lib.hid hsz
  go_wp2_with fail
  refine (HF.out _ hx2.out).mono ?_
  rintro e w2 ⟨rfl, rfl⟩
  go_wp2_with fail
  go_ret2
  exact ⟨w'.heap.size, rfl, hsz.out, heap_alloc_new _ _, hBB.out.alloc hsz.out _⟩
end Go.Proofs.YtlmgfikjkflffaaDoor
