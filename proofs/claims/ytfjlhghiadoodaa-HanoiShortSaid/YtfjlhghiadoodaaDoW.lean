/- What hanoi.Do computes at a state of up to 40 discs and two pegs from 0 to 2: which error, or the state behind the move; conditions: the slice reads as such a state. -/
import Derived.Test.YtfjlhghiadoodaaGat
import Derived.Test.YtfjlhghiadoodaaIdx
namespace Go.Proofs.Ytfjlhghiadoodaa
open Go.RowKit

/-- how a move ends: its error number e, and where that is 0 the new state u. -/
def DoEnd (s : List Nat) (n a b : Nat) (e : Int) (u : List Nat) : Prop :=
  (e = 5 ∧ a = b) ∨ (e = 10 ∧ ∀ i, i < n → st s i ≠ a) ∨ (e = 8 ∧ ∃ j, j < n ∧ st s j = b ∧ ∀ i, i ≤ j → st s i ≠ a) ∨
  (e = 0 ∧ ∃ i, i < n ∧ u = s.set i b ∧ Moved (st s) (st u) i a b)

theorem st_set (s : List Nat) (i j b : Nat) (h : i < s.length) : st (s.set i b) j = if j = i then b else st s j := by
  unfold st
  by_cases e : j = i
  · subst e; simp [h]
  · rw [List.getElem?_set_ne (fun x => e x.symm), if_neg e]
theorem moved_of {s : List Nat} {n a b i : Nat} (hl : s.length = n) (hs : ∀ j, st s j < 3) (ha : a < 3) (hb : b < 3) (hab : a ≠ b) (hi : i < n) (h1 : st s i = a) (h2 : ∀ j, j < i → st s j ≠ a) (h3 : ∀ j, j < i → st s j ≠ b) :
    Moved (st s) (st (s.set i b)) i a b := by
  refine ⟨ha, hb, hab, h1, by rw [st_set s i i b (by omega), if_pos rfl], fun j hj => ?_, fun j hj => by rw [st_set s i j b (by omega), if_neg hj]⟩
  have := hs j; have := h2 j hj; have := h3 j hj
  omega
theorem idx_st (s : List Nat) (v : Nat) : (idx (asI s) v = -1 ∧ ∀ i, i < s.length → st s i ≠ v) ∨ ∃ j : Nat, idx (asI s) v = j ∧ j < s.length ∧ st s j = v ∧ ∀ i, i < j → st s i ≠ v := by
  rcases idx_cases (asI s) v with ⟨h1, h2⟩ | ⟨j, h1, h2, h3, h4⟩
  · left
    refine ⟨h1, fun i hi e => h2 i (by rw [asI_len]; exact hi) (by rw [asI_at, e])⟩
  · right
    rw [asI_len] at h2
    refine ⟨j, h1, h2, ?_, fun i hi e => h4 i hi (by rw [asI_at, e])⟩
    rw [asI_at] at h3; exact_mod_cast h3
theorem asI_set (s : List Nat) (i b : Nat) : asI (s.set i b) = (asI s).set i b := by simp [asI, List.map_set]

set_option maxHeartbeats 4000000 in
theorem do_any (p : Option Addr) (n c : Nat) (s : List Nat) (a b : Nat) (w : World) (hn : n ≤ 40) (hx : IntsIn w p n (asI s)) (hs : ∀ j, st s j < 3) (ha : a < 3) (hb : b < 3) (aI bI zI : Int) (eaI : Hid (aI = a)) (ebI : Hid (bI = b)) :
    Calls Try.prog 9 #[.slice p n c, .agg #[.int .i64 aI, .int .i64 bI, .int .i64 zI]] w fun e w' => ∃ p' m c' u, ∃ er : Int, e = .returned (.tuple #[.slice p' m c', .int .i64 er]) ∧ DoEnd s n a b er u ∧ (er = 0 → m = n ∧ n ≤ c' ∧ IntsIn w' p' n (asI u)) ∧ Below w.heap.size w w' := by
  have eaI := eaI.out; have ebI := ebI.out
  subst eaI ebI
  have hsl : s.length = n := by have := hx.len; rwa [asI_len] at this
  have C := Lib.hid (fun W h => check_ok p n c s W hn h hs)
  have hx1 := Lib.hid (hx.alloc (.cells #[.int .i64 a, .int .i64 b, .int .i64 zI] 32))
  have hB1 : Hid (Below w.heap.size w (w.alloc (.cells #[.int .i64 a, .int .i64 b, .int .i64 zI] 32))) := (Below.refl _ _).alloc (Nat.le_refl _) _
  have c0 : (w.alloc (.cells #[.int .i64 a, .int .i64 b, .int .i64 zI] 32)).cell? ⟨w.heap.size, 0, none⟩ = some (.int .i64 a) := by rw [World.cell?_alloc_new]; rfl
  have c1 : (w.alloc (.cells #[.int .i64 a, .int .i64 b, .int .i64 zI] 32)).cell? ⟨w.heap.size, 1, none⟩ = some (.int .i64 b) := by rw [World.cell?_alloc_new]; rfl
  have hsz : Hid (w.heap.size < (w.alloc (.cells #[.int .i64 a, .int .i64 b, .int .i64 zI] 32)).heap.size) := by show _ < _; simp
  replace hs := Lib.hid hs
  clear hx
  go_enter Try.func9, Try.ntmps9
  go_wp2_with fail
  generalize w.alloc (.cells #[.int .i64 a, .int .i64 b, .int .i64 zI] 32) = W at *
  refine (C.out _ hx1.out).mono ?_
  rintro e w' ⟨rfl, rfl⟩
  replace hsl := Lib.hid hsl
  by_cases hab : a = b
  · have hab' : ((a : Int) == b) = true := by simp [hab]
    replace hab := Lib.hid hab
    go_wp2_with (first | (go_at_call 16; refine (off_any _ _ (by omega) (by omega)).mono ?_; rintro e w' ⟨rfl, rfl⟩))
    go_ret2
    exact ⟨none, 0, 0, [], 5, rfl, .inl ⟨rfl, hab.out⟩, by omega, hB1.out⟩
  · have hab' : ((a : Int) == b) = false := by simp; omega
    replace hab := Lib.hid hab
    have X1 := Lib.hid (fun k => index_any p n c (asI s) a (W.drewN k) (by omega) hx1.out)
    have X2 := Lib.hid (fun k => index_any p n c (asI s) b (W.drewN k) (by omega) hx1.out)
    go_wp2_with (first | (go_at_call 16; refine (off_any _ _ (by omega) (by omega)).mono ?_; rintro e w' ⟨rfl, rfl⟩))
    go_quiet ((go_at_call 17; first | ((with_reducible refine (X1.out _).mono ?_); exact fun _ _ h => ⟨h.1, _, h.2.symm⟩) | ((with_reducible refine (X2.out _).mono ?_); exact fun _ _ h => ⟨h.1, _, h.2.symm⟩)))
    clear X1 X2 C
    rcases idx_st s a with ⟨e1, f1⟩ | ⟨i, e1, hi, f1, f2⟩
    · rw [e1]
      replace e1 := Lib.hid e1; replace f1 := Lib.hid f1
      go_wp2_with fail
      go_ret2
      exact ⟨none, 0, 0, [], 10, rfl, .inr (.inl ⟨rfl, fun i hi => f1.out i (by have := hsl.out; omega)⟩), by omega, below_drewN hB1.out _⟩
    · rw [e1]
      rw [hsl.out] at hi
      have hi0 : ¬ (i : Int) < 0 := by omega
      rcases idx_st s b with ⟨e2, k1⟩ | ⟨j, e2, hj, k1, k2⟩
      · rw [e2]
        have HM := Lib.hid (moved_of hsl.out hs.out ha hb hab.out hi f1 f2 (fun t ht => k1 t (by have := hsl.out; omega)))
        replace e1 := Lib.hid e1; replace f1 := Lib.hid f1; replace f2 := Lib.hid f2; replace e2 := Lib.hid e2; replace k1 := Lib.hid k1
        go_wp2_with fail
        refine (clone_any p n c (asI s) (World.drewN W _) (by omega) hx1.out).mono ?_
        rintro e w1 ⟨q, c', rfl, hO, hB2⟩
        obtain ⟨g, rfl, hg1, hg2, hnc⟩ := hO.where (by have := hi; omega)
        have d0 := hO.cell (i := i) (by have := hi; omega)
        have d1 := hO.free i
        have d2 : w1.cell? ⟨w.heap.size, 1, none⟩ = some (.int .i64 b) := (hB2.cell (p := ⟨w.heap.size, 1, none⟩) hsz.out).trans c1
        have hO2 := hO.set i b
        rw [← asI_set] at hO2
        have hB3 : Below w.heap.size w (w1.setCell ⟨g, i, none⟩ (.int .i64 b)) := by
          have h1 : Below w.heap.size w (World.drewN W nq) := below_drewN hB1.out _
          exact (h1.trans (hB2.mono h1.size)).setCell (by have := hsz.out; simp at hg1; have : W.heap.size ≤ g := hg1; simp; omega) _
        have hik : (i : Int) < n := by have := hi; omega
        replace hO := Lib.hid hO; replace hO2 := Lib.hid hO2; replace hB3 := Lib.hid hB3; replace hg1 := Lib.hid hg1
        clear hB2
        go_wp2_with fail
        go_ret2
        exact ⟨_, n, c', s.set i b, 0, rfl, .inr (.inr (.inr ⟨rfl, i, hi, rfl, HM.out⟩)), fun _ => ⟨rfl, hnc, hO2.out.in⟩, hB3.out⟩
      · rw [e2]
        have hj0 : (0 : Int) ≤ j := by omega
        by_cases hji : j < i
        · have hji' : (j : Int) < i := by omega
          have HM : Hid (DoEnd s n a b 8 []) := .inr (.inr (.inl ⟨rfl, j, by have := hsl.out; omega, k1, fun t ht => f2 t (by omega)⟩))
          replace e1 := Lib.hid e1; replace f1 := Lib.hid f1; replace f2 := Lib.hid f2; replace e2 := Lib.hid e2; replace k1 := Lib.hid k1; replace k2 := Lib.hid k2
          go_wp2_with fail
          go_ret2
          exact ⟨none, 0, 0, [], 8, rfl, HM.out, by omega, below_drewN hB1.out _⟩
        · have hji' : ¬ (j : Int) < i := by omega
          have hji2 : (i : Int) ≤ j := by omega
          have HM := Lib.hid (moved_of hsl.out hs.out ha hb hab.out hi f1 f2 (fun t ht => k2 t (by omega)))
          replace e1 := Lib.hid e1; replace f1 := Lib.hid f1; replace f2 := Lib.hid f2; replace e2 := Lib.hid e2; replace k1 := Lib.hid k1; replace k2 := Lib.hid k2
          go_wp2_with fail
          refine (clone_any p n c (asI s) (World.drewN W _) (by omega) hx1.out).mono ?_
          rintro e w1 ⟨q, c', rfl, hO, hB2⟩
          obtain ⟨g, rfl, hg1, hg2, hnc⟩ := hO.where (by have := hi; omega)
          have d0 := hO.cell (i := i) (by have := hi; omega)
          have d1 := hO.free i
          have d2 : w1.cell? ⟨w.heap.size, 1, none⟩ = some (.int .i64 b) := (hB2.cell (p := ⟨w.heap.size, 1, none⟩) hsz.out).trans c1
          have hO2 := hO.set i b
          rw [← asI_set] at hO2
          have hB3 : Below w.heap.size w (w1.setCell ⟨g, i, none⟩ (.int .i64 b)) := by
            have h1 : Below w.heap.size w (World.drewN W nq) := below_drewN hB1.out _
            exact (h1.trans (hB2.mono h1.size)).setCell (by have := hsz.out; simp at hg1; have : W.heap.size ≤ g := hg1; simp; omega) _
          have hik : (i : Int) < n := by have := hi; omega
          replace hO := Lib.hid hO; replace hO2 := Lib.hid hO2; replace hB3 := Lib.hid hB3; replace hg1 := Lib.hid hg1
          clear hB2
          go_wp2_with fail
          go_ret2
          exact ⟨_, n, c', s.set i b, 0, rfl, .inr (.inr (.inr ⟨rfl, i, hi, rfl, HM.out⟩)), fun _ => ⟨rfl, hnc, hO2.out.in⟩, hB3.out⟩
end Go.Proofs.Ytfjlhghiadoodaa
