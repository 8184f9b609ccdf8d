/- What slices.Contains and filler.fits tell; conditions: lines of at most 20 places. -/
import Derived.Test.YtkklcfaghnfleaaNMap
namespace Go.Proofs.Ytkklcfaghnfleaa
open Go.RowKit

def hasV (xs : List Int) (v : Int) : Bool := xs.any fun x => x == v
set_option maxHeartbeats 400000 in
theorem contains_any (p : Option Addr) (n c : Nat) (xs : List Int) (v : Int) (w : World) (hn : n ≤ 9223372036854775807) (hx : IntsIn w p n xs) :
    Calls Try.prog 17 #[.slice p n c, .int .i64 v] w fun e w' => e = .returned (.bool (hasV xs v)) ∧ w = w' := by
  have HI := Lib.hid (index_any p n c xs v w hn hx)
  have hd : Hid (decide (0 ≤ idx xs v) = hasV xs v) := by
    show _ = _
    unfold hasV
    rcases idx_cases xs v with ⟨h1, h2⟩ | ⟨j, h1, h2, h3, h4⟩
    · rw [h1]
      symm
      rw [show decide ((0 : Int) ≤ -1) = false from rfl, List.any_eq_false]
      intro x hx
      obtain ⟨i, hi, rfl⟩ := List.mem_iff_getElem.1 hx
      have := h2 i hi
      rw [List.getElem?_eq_getElem hi] at this
      simpa using this
    · rw [h1]
      symm
      rw [decide_eq_true (by omega), List.any_eq_true]
      refine ⟨xs[j], List.getElem_mem h2, ?_⟩
      rw [List.getElem?_eq_getElem h2] at h3
      simpa using h3
  clear hx
  go_enter Try.func17, Try.ntmps17
  go_wp2_with fail
  refine HI.out.mono ?_
  rintro e w' ⟨rfl, rfl⟩
  generalize idx xs v = z at *
  go_wp2_with fail
  go_ret
  exact ⟨by rw [← hd.out]; rfl, rfl⟩

/-- the filler behind fb: its line, its clue, its map. -/
structure Fl (w : World) (fb : Nat) (lq : Option Addr) (n lc : Nat) (cq : Option Addr) (m cc mb : Nat) (xs : List Int) (ks : List Nat) : Prop where
  box : w.heap[fb]? = some (.cells #[.slice lq n lc, .slice cq m cc, .map (some mb)] 59 (0, 0))
  line : IntsIn w lq n xs
  clue : IntsIn w cq m (asI ks)
  cap : n ≤ lc
section
variable {w w' : World} {fb n lc m cc mb : Nat} {lq cq : Option Addr} {xs : List Int} {ks : List Nat}
theorem Fl.grown {F : Nat × Nat → Nat} (h : Fl w fb lq n lc cq m cc mb xs ks) (hm : MapOk F w mb) (hg : w.grownBy w' (some mb)) : Fl w' fb lq n lc cq m cc mb xs ks := by
  have hne : some fb ≠ some mb := by
    intro e; injection e with e
    have : w.cell? ⟨fb, 0, none⟩ = some (.slice lq n lc) := wcell (cs := [_, _, _]) h.box 0
    rw [e] at this
    exact hm.notRow this
  exact ⟨(hg.block _ (lt_of_heap h.box) hne).trans h.box, ints_grown h.line hm hg, ints_grown h.clue hm hg, h.cap⟩
theorem Fl.below (h : Fl w fb lq n lc cq m cc mb xs ks) (hb : Below w.heap.size w w') : Fl w' fb lq n lc cq m cc mb xs ks :=
  ⟨(hb.block _ (lt_of_heap h.box)).trans h.box, h.line.below hb, h.clue.below hb, h.cap⟩
theorem Fl.drewN (h : Fl w fb lq n lc cq m cc mb xs ks) (k : Nat) : Fl (w.drewN k) fb lq n lc cq m cc mb xs ks :=
  h.below ⟨rfl, rfl, rfl, Nat.le_refl _, fun _ _ => rfl⟩
theorem Fl.c0 (h : Fl w fb lq n lc cq m cc mb xs ks) : w.cell? ⟨fb, 0, none⟩ = some (.slice lq n lc) := wcell (cs := [_, _, _]) h.box 0
theorem Fl.c1 (h : Fl w fb lq n lc cq m cc mb xs ks) : w.cell? ⟨fb, 1, none⟩ = some (.slice cq m cc) := wcell (cs := [_, _, _]) h.box 1
theorem Fl.c2 (h : Fl w fb lq n lc cq m cc mb xs ks) : w.cell? ⟨fb, 2, none⟩ = some (.map (some mb)) := wcell (cs := [_, _, _]) h.box 2
end

theorem fits_has {l : List Int} {k : Nat} : ((l.take k).all fun c => c != 0) = !hasV (l.take k) 0 := by
  unfold hasV
  rw [List.not_any_eq_all_not]
  rfl

set_option maxRecDepth 20000 in
set_option maxHeartbeats 4000000 in
theorem fits_any (fb n lc m cc mb at' k : Nat) (lq cq : Option Addr) (xs : List Int) (ks : List Nat) (w : World) (hF : Fl w fb lq n lc cq m cc mb xs ks) (hn : n ≤ 20) (ha : at' < n) (hk1 : 1 ≤ k) (hk : k ≤ 20) :
    Calls Try.prog 37 #[.pointer (some ⟨fb, 0, none⟩), .int .i64 at', .int .i64 k] w fun e w' => e = .returned (.bool (fitsS (xs.drop at') k)) ∧ w = w' := by
  have c0 := hF.c0
  have hlen := hF.line.len
  have hcap := hF.cap
  obtain ⟨gb, go, rfl, hgb, hcx⟩ := hF.line.at (by omega)
  have hfx : Hid (fitsS (xs.drop at') k = (decide (at' + k ≤ n) && !hasV ((xs.take (at' + k)).drop at') 0 && (Nat.beq (at' + k) n || decide (xs[at' + k]?.getD 0 ≠ 1)))) := by
    show _ = _
    unfold fitsS
    rw [fits_has, List.length_drop, hlen, List.getElem?_drop, List.take_drop]
    congr 1
    · congr 1
      exact decide_eq_decide.2 (by omega)
    · congr 1
      rw [Bool.eq_iff_iff, Nat.beq_eq, Nat.beq_eq]
      omega
  replace hcx := Lib.hid hcx; replace hlen := Lib.hid hlen
  by_cases h1 : at' + k ≤ n
  · have HC := Lib.hid (fun W (h : w = W) => contains_any (some ⟨gb, go + at', none⟩) k (lc - at') ((xs.take (at' + k)).drop at') 0 W (by omega) (by
      subst h
      have := hF.line.part at' (at' + k) (by omega) h1 (some ⟨gb, go + at', none⟩) (fun _ => by simp [Addr.add])
      rw [show at' + k - at' = k by omega] at this
      exact this))
    rw [decide_eq_true h1] at hfx
    generalize hasV ((xs.take (at' + k)).drop at') 0 = B at *
    have hi1 : (at' : Int) + (k : Int) ≤ (n : Int) := by omega
    have hnl : ¬ lc = at' := by omega
    have hc1 : (at' : Int) + (k : Int) ≤ (lc : Int) := by omega
    have hz0 : (0 : Int) ≤ (at' : Int) := by omega
    have hz1 : (at' : Int) ≤ (at' : Int) + (k : Int) := by omega
    have hak : (at' : Int) + (k : Int) - (at' : Int) = (k : Int) := by omega
    clear hF
    cases B with
    | true =>
      go_enter Try.func37, Try.ntmps37
      go_wp2_with fail
      refine (HC.out _ rfl).mono ?_
      rintro e w' ⟨rfl, rfl⟩
      go_wp2_with fail
      go_ret
      exact ⟨by rw [hfx.out]; rfl, rfl⟩
    | false =>
      by_cases h2 : at' + k = n
      · have h2i : ((at' : Int) + (k : Int) == (n : Int)) = true := by simp; omega
        have hnb : Nat.beq (at' + k) n = true := by rw [h2]; exact Nat.beq_refl _
        rw [hnb] at hfx
        clear h2 hnb
        go_enter Try.func37, Try.ntmps37
        go_wp2_with fail
        refine (HC.out _ rfl).mono ?_
        rintro e w' ⟨rfl, rfl⟩
        go_wp2_with fail
        go_ret
        exact ⟨by rw [hfx.out]; rfl, rfl⟩
      · have h2i : ((at' : Int) + (k : Int) == (n : Int)) = false := by simp; omega
        have hnb : Nat.beq (at' + k) n = false := by
          cases h : Nat.beq (at' + k) n with
          | false => rfl
          | true => exact absurd (Nat.eq_of_beq_eq_true h) h2
        rw [hnb] at hfx
        have k1 : w.cell? ⟨gb, go + (at' + k), none⟩ = some (.int .i64 (xs[at' + k]?.getD 0)) := hcx.out (at' + k) (by omega)
        clear hnb
        by_cases h3 : xs[at' + k]?.getD 0 = 1
        · rw [h3] at k1
          rw [h3] at hfx
          go_enter Try.func37, Try.ntmps37
          go_wp2_with fail
          refine (HC.out _ rfl).mono ?_
          rintro e w' ⟨rfl, rfl⟩
          go_wp2_with fail
          go_ret
          exact ⟨by rw [hfx.out]; rfl, rfl⟩
        · have h3' : (xs[at' + k]?.getD 0 != 1) = true := by simp [h3]
          have hfx' : Hid (fitsS (xs.drop at') k = true) := by show _ = _; rw [hfx.out]; simp [h3]
          generalize xs[at' + k]?.getD 0 = x at *
          go_enter Try.func37, Try.ntmps37
          go_wp2_with fail
          refine (HC.out _ rfl).mono ?_
          rintro e w' ⟨rfl, rfl⟩
          go_wp2_with fail
          go_ret
          exact ⟨by rw [hfx'.out]; rfl, rfl⟩
  · rw [decide_eq_false h1] at hfx
    have hi1 : ¬ (at' : Int) + (k : Int) ≤ (n : Int) := by omega
    clear hF
    go_enter Try.func37, Try.ntmps37
    go_wp2_with fail
    go_ret
    exact ⟨by rw [hfx.out]; rfl, rfl⟩
end Go.Proofs.Ytkklcfaghnfleaa
