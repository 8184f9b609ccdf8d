/- What dice.Duel computes (duel_ok: two lists of 1 to 20 ints; duel_bad: a list of another length); conditions: the slices read as lists of ints. -/
import Derived.Test.YtlpiejeaekfchaaRows
import Derived.Test.YtlpiejeaekfchaaLib
namespace Go.Proofs.Ytlpiejeaekfchaa
open Go.RowKit

/-- one line of a duel, added to what was counted. -/
def duelRow (x : Int) : List Int → Int × Int × Int → Int × Int × Int
  | [], r => r
  | y :: ys, (p, q, r) => duelRow x ys (if y < x then (p + 1, q, r) else if x = y then (p, q + 1, r) else (p, q, r + 1))
def duel (ys : List Int) : List Int → Int × Int × Int → Int × Int × Int
  | [], r => r
  | x :: xs, r => duel ys xs (duelRow x ys r)

theorem duelRow_snoc (x y : Int) (ys : List Int) : ∀ s, duelRow x (ys ++ [y]) s = (let r := duelRow x ys s; if y < x then (r.1 + 1, r.2.1, r.2.2) else if x = y then (r.1, r.2.1 + 1, r.2.2) else (r.1, r.2.1, r.2.2 + 1)) := by
  induction ys with
  | nil => intro s; rfl
  | cons z zs ih => intro s; exact ih _
theorem duel_snoc (x : Int) (ys xs : List Int) : ∀ s, duel ys (xs ++ [x]) s = duelRow x ys (duel ys xs s) := by
  induction xs with
  | nil => intro s; rfl
  | cons z zs ih => intro s; exact ih _
theorem take_snoc (xs : List Int) (k : Nat) (h : k < xs.length) : xs.take (k + 1) = xs.take k ++ [xs[k]?.getD 0] := by
  rw [List.take_succ_eq_append_getElem h]; simp [List.getElem?_eq_getElem h]
/-- counts are at least 0, and together what was met. -/
def Met (n : Int) (s : Int × Int × Int) : Prop := 0 ≤ s.1 ∧ 0 ≤ s.2.1 ∧ 0 ≤ s.2.2 ∧ s.1 + s.2.1 + s.2.2 = n
theorem duelRow_met (x : Int) (ys : List Int) : ∀ n s, Met n s → Met (n + ys.length) (duelRow x ys s) := by
  induction ys with
  | nil => intro n s h; simpa [duelRow] using h
  | cons y ys ih =>
    intro n s h
    obtain ⟨p, q, r⟩ := s
    have h' : Met (n + 1) (if y < x then (p + 1, q, r) else if x = y then (p, q + 1, r) else (p, q, r + 1)) := by
      unfold Met at h ⊢; simp only at h
      split
      · simp only; omega
      · split <;> (simp only; omega)
    have := ih _ _ h'
    simp only [List.length_cons, duelRow]
    have e : n + ((ys.length + 1 : Nat) : Int) = n + 1 + ys.length := by omega
    rw [e]; exact this
theorem duel_met (ys xs : List Int) : ∀ n s, Met n s → Met (n + xs.length * ys.length) (duel ys xs s) := by
  induction xs with
  | nil => intro n s h; simpa [duel] using h
  | cons x xs ih =>
    intro n s h
    have := ih _ _ (duelRow_met x ys n s h)
    simp only [List.length_cons, duel]
    have e : n + ((xs.length + 1 : Nat) : Int) * ys.length = n + ys.length + xs.length * ys.length := by
      have : ((xs.length + 1 : Nat) : Int) = (xs.length : Int) + 1 := by omega
      rw [this, Int.add_mul]; omega
    rw [e]; exact this

theorem row_more {ys : List Int} {x : Int} {n j : Nat} {s t u : Int × Int × Int} (hy : Hid (ys.length = n)) (hj : j < n) (h : Hid (t = duelRow x (ys.take j) s))
    (e : u = if ys[j]?.getD 0 < x then (t.1 + 1, t.2.1, t.2.2) else if x = ys[j]?.getD 0 then (t.1, t.2.1 + 1, t.2.2) else (t.1, t.2.1, t.2.2 + 1)) : Hid (u = duelRow x (ys.take (j + 1)) s) := by
  have hy := hy.out; have h := h.out
  show _ = _
  rw [take_snoc ys j (by omega), duelRow_snoc, e, h]
theorem all_more {xs ys : List Int} {n m k j : Nat} {s t : Int × Int × Int} (hx : Hid (xs.length = n)) (hy : Hid (ys.length = m)) (hk : k < n) (hj : m ≤ j) (hs : Hid (s = duel ys (xs.take k) (0, 0, 0)))
    (ht : Hid (t = duelRow (xs[k]?.getD 0) (ys.take j) s)) : Hid (t = duel ys (xs.take (k + 1)) (0, 0, 0)) := by
  have hx := hx.out; have hy := hy.out; have hs := hs.out; have ht := ht.out
  show _ = _
  rw [take_snoc xs k (by omega), duel_snoc, ← hs, ht, List.take_of_length_le (by omega)]

set_option maxHeartbeats 1000000 in
theorem duel_any (b1 o1 n1 c1 b2 o2 n2 c2 : Nat) (xs ys : List Int) (w : World) (hx : Hid (xs.length = n1)) (hy : Hid (ys.length = n2))
    (h1 : 1 ≤ n1) (h1' : n1 ≤ 20) (h2 : 1 ≤ n2) (h2' : n2 ≤ 20) (hb1 : b1 < w.heap.size) (hb2 : b2 < w.heap.size)
    (hc1 : ∀ j, j < n1 → w.cell? ⟨b1, o1 + j, none⟩ = some (.int .i64 (xs.getD j 0)))
    (hc2 : ∀ j, j < n2 → w.cell? ⟨b2, o2 + j, none⟩ = some (.int .i64 (ys.getD j 0))) :
    Calls Try.prog 5 #[.slice (some ⟨b1, o1, none⟩) n1 c1, .slice (some ⟨b2, o2, none⟩) n2 c2] w fun e w' =>
      e = .returned (.tuple #[.int .i64 (duel ys xs (0, 0, 0)).1, .int .i64 (duel ys xs (0, 0, 0)).2.1, .int .i64 (duel ys xs (0, 0, 0)).2.2, .int .i64 0]) ∧ Below w.heap.size w w' := by
  go_enter Try.func5, Try.ntmps5
  go_wp2
  refine wp_loop_rounds 3 ?_; rw [rounds_succ]
  go_wp2
  rw [rounds_succ]
  go_wp2
  rw [rounds_succ]
  go_wp2
  generalize hW : w.alloc _ = W
  have HB : Hid (Below w.heap.size w W) := by rw [← hW]; exact (Below.refl _ _).alloc (Nat.le_refl _) _
  have HC1 : ∀ j, j < n1 → W.cell? ⟨b1, o1 + j, none⟩ = some (.int .i64 (xs.getD j 0)) := fun j hj => (HB.out.cell (p := ⟨b1, o1 + j, none⟩) hb1).trans (hc1 j hj)
  have HC2 : ∀ j, j < n2 → W.cell? ⟨b2, o2 + j, none⟩ = some (.int .i64 (ys.getD j 0)) := fun j hj => (HB.out.cell (p := ⟨b2, o2 + j, none⟩) hb2).trans (hc2 j hj)
  clear hW hc1 hc2
  go_loop [4, 5, 6, 33] (fun p q r i => ∃ k : Nat, ∃ s0 s1 s2 : Int, k ≤ n1 ∧ 0 ≤ s0 ∧ 0 ≤ s1 ∧ 0 ≤ s2 ∧ s0 ≤ 20 * k ∧ s1 ≤ 20 * k ∧ s2 ≤ 20 * k ∧ Hid ((s0, s1, s2) = duel ys (xs.take k) (0, 0, 0)) ∧ i = .int .i64 k ∧ p = .int .i64 s0 ∧ q = .int .i64 s1 ∧ r = .int .i64 s2) (fun _ _ _ i => n1 - (intOf i).toNat)
  case atStart => exact ⟨0, 0, 0, 0, by omega, by simp, by simp, by simp, by simp, by simp, by simp, rfl, rfl, rfl, rfl, rfl⟩
  case round =>
    obtain ⟨k, s0, s1, s2, hk, p0, p1, p2, q0, q1, q2, hs, rfl, rfl, rfl, rfl⟩ := hrel
    have hcell : k < n1 → W.cell? ⟨b1, o1 + k, none⟩ = some (.int .i64 (xs.getD k 0)) := fun h => HC1 k h
    by_cases hlt : k < n1
    · have hcell := hcell hlt
      go_wp2
      go_loop [4, 5, 6, 39] (fun p q r i => ∃ j : Nat, ∃ t0 t1 t2 : Int, j ≤ n2 ∧ 0 ≤ t0 ∧ 0 ≤ t1 ∧ 0 ≤ t2 ∧ t0 ≤ 20 * k + j ∧ t1 ≤ 20 * k + j ∧ t2 ≤ 20 * k + j ∧ Hid ((t0, t1, t2) = duelRow (xs[k]?.getD 0) (ys.take j) (s0, s1, s2)) ∧ i = .int .i64 j ∧ p = .int .i64 t0 ∧ q = .int .i64 t1 ∧ r = .int .i64 t2) (fun _ _ _ i => n2 - (intOf i).toNat)
      case atStart => exact ⟨0, s0, s1, s2, by omega, p0, p1, p2, by omega, by omega, by omega, rfl, rfl, rfl, rfl, rfl⟩
      case round =>
        have hjl := hy
        obtain ⟨j, t0, t1, t2, hj, a0, a1, a2, b0, b1, b2, ht, rfl, rfl, rfl, rfl⟩ := hrel
        by_cases hjt : j < n2
        · have hcell2 := HC2 j hjt
          go_wp2
          · have hq : ys[j]?.getD 0 < xs[k]?.getD 0 := by assumption
            go_round
            case rel => exact ⟨j + 1, t0 + 1, t1, t2, by omega, by omega, by omega, by omega, by omega, by omega, by omega, row_more hjl hjt ht (by rw [if_pos hq]), by go_num, rfl, rfl, rfl⟩
            case measure => simp [intOf]; omega
          · have hq : xs[k]?.getD 0 ≤ ys[j]?.getD 0 := by assumption
            have he : (xs[k]?.getD 0 == ys[j]?.getD 0) = true := by assumption
            go_round
            case rel => exact ⟨j + 1, t0, t1 + 1, t2, by omega, by omega, by omega, by omega, by omega, by omega, by omega, row_more hjl hjt ht (by rw [if_neg (by omega), if_pos (by simpa using he)]), by go_num, rfl, rfl, rfl⟩
            case measure => simp [intOf]; omega
          · have hq : xs[k]?.getD 0 ≤ ys[j]?.getD 0 := by assumption
            have he : (xs[k]?.getD 0 == ys[j]?.getD 0) = false := by assumption
            go_round
            case rel => exact ⟨j + 1, t0, t1, t2 + 1, by omega, by omega, by omega, by omega, by omega, by omega, by omega, row_more hjl hjt ht (by rw [if_neg (by omega), if_neg (by simpa using he)]), by go_num, rfl, rfl, rfl⟩
            case measure => simp [intOf]; omega
        · go_wp2
          go_round
          case rel => exact ⟨k + 1, t0, t1, t2, by omega, a0, a1, a2, by omega, by omega, by omega, all_more hx hjl hlt (by omega) hs ht, by go_num, rfl, rfl, rfl⟩
          case measure => simp [intOf]; omega
    · have hs' := hs.out
      rw [List.take_of_length_le (by have := hx.out; omega)] at hs'
      have HS := Lib.hid hs'
      clear hs'
      go_wp2
      refine bodyPost_ret (v := .tuple #[.int .i64 s0, .int .i64 s1, .int .i64 s2, .int .i64 0]) (by simp [results, Try.results5, go_sem]) rfl ⟨?_, HB.out⟩
      have h := HS.out
      rw [← h]
theorem duel_ok (p1 p2 : Option Addr) (n1 c1 n2 c2 : Nat) (xs ys : List Int) (w : World) (h1 : 1 ≤ n1) (h1' : n1 ≤ 20) (h2 : 1 ≤ n2) (h2' : n2 ≤ 20) (hx : IntsIn w p1 n1 xs) (hy : IntsIn w p2 n2 ys)
    (p q r : Int) (hr : duel ys xs (0, 0, 0) = (p, q, r)) :
    Calls Try.prog 5 #[.slice p1 n1 c1, .slice p2 n2 c2] w fun e w' =>
      e = .returned (.tuple #[.int .i64 p, .int .i64 q, .int .i64 r, .int .i64 0]) ∧ Below w.heap.size w w' := by
  obtain ⟨b1, o1, rfl, hb1, hc1⟩ := hx.at (by omega)
  obtain ⟨b2, o2, rfl, hb2, hc2⟩ := hy.at (by omega)
  refine (duel_any b1 o1 n1 c1 b2 o2 n2 c2 xs ys w hx.len hy.len h1 h1' h2 h2' hb1 hb2 (fun j hj => by simpa using hc1 j hj) (fun j hj => by simpa using hc2 j hj)).mono ?_
  rw [hr]
  exact fun e w' h => h

set_option maxHeartbeats 1000000 in
theorem duel_bad (p1 p2 : Option Addr) (n1 c1 n2 c2 : Nat) (w : World) (h : n1 < 1 ∨ 20 < n1 ∨ n2 < 1 ∨ 20 < n2) :
    Calls Try.prog 5 #[.slice p1 n1 c1, .slice p2 n2 c2] w fun e w' =>
      e = .returned (.tuple #[.int .i64 0, .int .i64 0, .int .i64 0, .int .i64 3]) ∧ Below w.heap.size w w' := by
  by_cases hn : n1 < 1 ∨ 20 < n1
  · by_cases hn1 : n1 < 1
    · go_enter Try.func5, Try.ntmps5
      go_wp2
      refine wp_loop_rounds 3 ?_; rw [rounds_succ]
      go_wp2
      refine bodyPost_ret (v := .tuple #[.int .i64 0, .int .i64 0, .int .i64 0, .int .i64 3]) (by simp [results, Try.results5, go_sem]) rfl ⟨rfl, (Below.refl _ _).alloc (Nat.le_refl _) _⟩
    · have hn2 : 20 < n1 := by omega
      go_enter Try.func5, Try.ntmps5
      go_wp2
      refine wp_loop_rounds 3 ?_; rw [rounds_succ]
      go_wp2
      refine bodyPost_ret (v := .tuple #[.int .i64 0, .int .i64 0, .int .i64 0, .int .i64 3]) (by simp [results, Try.results5, go_sem]) rfl ⟨rfl, (Below.refl _ _).alloc (Nat.le_refl _) _⟩
  · have a1 : 1 ≤ n1 := by omega
    have a2 : n1 ≤ 20 := by omega
    by_cases hn1 : n2 < 1
    · clear h hn
      go_enter Try.func5, Try.ntmps5
      go_wp2
      refine wp_loop_rounds 3 ?_; rw [rounds_succ]
      go_wp2
      rw [rounds_succ]
      go_wp2
      refine bodyPost_ret (v := .tuple #[.int .i64 0, .int .i64 0, .int .i64 0, .int .i64 3]) (by simp [results, Try.results5, go_sem]) rfl ⟨rfl, (Below.refl _ _).alloc (Nat.le_refl _) _⟩
    · have hn2 : 20 < n2 := by omega
      clear h hn
      go_enter Try.func5, Try.ntmps5
      go_wp2
      refine wp_loop_rounds 3 ?_; rw [rounds_succ]
      go_wp2
      rw [rounds_succ]
      go_wp2
      refine bodyPost_ret (v := .tuple #[.int .i64 0, .int .i64 0, .int .i64 0, .int .i64 3]) (by simp [results, Try.results5, go_sem]) rfl ⟨rfl, (Below.refl _ _).alloc (Nat.le_refl _) _⟩
end Go.Proofs.Ytlpiejeaekfchaa
