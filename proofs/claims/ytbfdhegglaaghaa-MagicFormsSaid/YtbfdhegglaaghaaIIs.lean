/- What magic.Is computes at any slice of whole numbers; conditions: the slice reads as its numbers, and is shorter than 2^40. -/
import Derived.Test.YtbfdhegglaaghaaIKnd
import Derived.Test.YtbfdhegglaaghaaIPl
import Derived.Test.YtbfdhegglaaghaaMMin
namespace Go.Proofs.Ytbfdhegglaaghaa
open Go.RowKit

theorem side_none (NN c : Nat) (p : Option Addr) (w : World) (hN : Hid (∀ n, 1 ≤ n → n ≤ 12 → n * n ≠ NN)) :
    Calls Try.prog 14 #[.slice p NN c] w fun e w' => e = .returned (.int .i64 0) ∧ w = w' := by
  go_enter Try.func14, Try.ntmps14
  go_wp2
  go_loopg [3] 12 (fun gk kv W' => ∃ k : Nat, 1 ≤ k ∧ k ≤ 13 ∧ gk = 13 - k ∧ kv = .int .i64 k ∧ w = W')
  case atStart => exact ⟨1, by omega, by omega, by omega, rfl, rfl⟩
  case round =>
    obtain ⟨k, hk1, hk, hgk, rfl, rfl⟩ := hrel
    replace hgk := Lib.hid hgk
    obtain ⟨kk, hkk⟩ : ∃ kk : Nat, k * k = kk := ⟨_, rfl⟩
    have hK : (k : Int) * k = (kk : Int) := by rw [← hkk]; simp
    have hb : kk ≤ 13 * 13 := by rw [← hkk]; exact Nat.mul_le_mul (by omega) (by omega)
    by_cases hlt : k < 13
    · have hne := hN.out k hk1 (by omega)
      rw [hkk] at hne
      have g0 : ((kk : Int) == (NN : Int)) = false := by simp; omega
      replace hne := Lib.hid hne; replace hkk := Lib.hid hkk
      go_wp2_with fail
      have hgk := hgk.out
      go_roundg (13 - (k + 1))
      case measure => omega
      case rel => exact ⟨k + 1, by omega, by omega, rfl, by go_num, rfl⟩
    · replace hkk := Lib.hid hkk
      go_wp2_with fail
      go_ret
      exact ⟨rfl, rfl⟩
/-- out of range. -/
def offI (x : Int) : Bool := decide (x < -1000000) || decide (1000000 < x)
theorem ioff (x : Int) (w : World) : Calls Try.prog 18 #[.int .i64 x] w fun e w' => e = .returned (.bool (offI x)) ∧ w = w' := by
  by_cases h1 : x < -1000000
  · have h2 : offI x = true := by simp [offI, h1]
    rw [h2]
    go_enter Try.func18, Try.ntmps18
    go_wp2
    go_ret
    exact ⟨rfl, rfl⟩
  · by_cases h3 : 1000000 < x
    · have h2 : offI x = true := by simp [offI, h3]
      rw [h2]
      go_enter Try.func18, Try.ntmps18
      go_wp2
      go_ret
      exact ⟨rfl, rfl⟩
    · have h2 : offI x = false := by simp [offI, h1, h3]
      rw [h2]
      go_enter Try.func18, Try.ntmps18
      go_wp2
      go_ret
      exact ⟨rfl, rfl⟩
theorem any_no {s : List Int} (n : Nat) (hl : s.length = n) (h : ∀ i, i < n → offI (ist s i) = false) : s.any offI = false := by
  rw [Bool.eq_false_iff]
  intro hh
  rw [List.any_eq_true] at hh
  obtain ⟨x, hx, ho⟩ := hh
  obtain ⟨i, hi, rfl⟩ := List.mem_iff_getElem.1 hx
  have := h i (by omega)
  simp [ist, hi] at this
  rw [this] at ho; exact absurd ho (by simp)
theorem any_yes {s : List Int} {i n : Nat} (hl : s.length = n) (hi : i < n) (h : offI (ist s i) = true) : s.any offI = true := by
  rw [List.any_eq_true]
  refine ⟨s[i], List.getElem_mem _, ?_⟩
  simpa [ist, show i < s.length by omega] using h

set_option maxHeartbeats 400000 in
theorem iindex (p : Option Addr) (n c : Nat) (s : List Int) (w : World) (hn : n ≤ 1099511627776) (hx : IntsIn w p n s) :
    Calls Try.prog 29 #[.slice p n c, .func (.func 18) #[] #[]] w fun e w' => (∃ r : Int, e = .returned (.int .i64 r) ∧ (0 ≤ r ↔ s.any offI = true)) ∧ w = w' := by
  have hl := hx.len
  go_enter Try.func29, Try.ntmps29
  go_wp2
  go_loopg [8] n (fun k i W => ∃ j : Nat, j ≤ n ∧ k = n - j ∧ i = .int .i64 j ∧ (∀ t, t < j → offI (ist s t) = false) ∧ w = W)
  case atStart => exact ⟨0, by omega, by omega, rfl, fun t ht => absurd ht (by omega), rfl⟩
  case round =>
    obtain ⟨j, hj, hk, rfl, hno, rfl⟩ := hrel
    by_cases hlt : j < n
    · obtain ⟨b, o, rfl, hb, hc⟩ := hx.at (by omega)
      have hcj := hc j hlt
      replace hk := Lib.hid hk
      have hist : s[j]?.getD 0 = ist s j := rfl
      rw [hist] at hcj
      rcases hb1 : offI (ist s j) with _ | _
      · have H := Lib.hid (ioff (ist s j) w)
        have hno' : Hid (∀ t, t < j + 1 → offI (ist s t) = false) := fun t ht => by
          rcases (show t < j ∨ t = j by omega) with h | rfl
          · exact hno t h
          · exact hb1
        rw [hb1] at H
        clear hx hc hno hb1 hist
        generalize ist s j = v at *
        go_wp2_with (go_at_call 18; refine (H.out).mono ?_; rintro e w' ⟨rfl, rfl⟩)
        have hk := hk.out
        go_roundg (n - (j + 1))
        case measure => omega
        case rel => exact ⟨j + 1, by omega, rfl, by go_num, hno'.out, rfl⟩
      · have H := Lib.hid (ioff (ist s j) w)
        have hyes : Hid (s.any offI = true) := any_yes hl hlt hb1
        rw [hb1] at H
        clear hx hc hno hb1 hist
        generalize ist s j = v at *
        go_wp2_with (go_at_call 18; refine (H.out).mono ?_; rintro e w' ⟨rfl, rfl⟩)
        go_ret
        exact ⟨⟨(j : Int), rfl, fun _ => hyes.out, fun _ => by omega⟩, rfl⟩
    · have hjn : j = n := by omega
      have hnone : Hid (s.any offI = false) := any_no n hl fun i hi => hno i (by omega)
      replace hk := Lib.hid hk
      clear hx hno
      go_wp2
      go_ret
      exact ⟨⟨-1, rfl, fun h => absurd h (by omega), fun h => by rw [hnone.out] at h; exact absurd h (by simp)⟩, rfl⟩

set_option maxHeartbeats 400000 in
theorem icontains (p : Option Addr) (n c : Nat) (s : List Int) (w : World) (hn : n ≤ 1099511627776) (hx : IntsIn w p n s) :
    Calls Try.prog 17 #[.slice p n c, .func (.func 18) #[] #[]] w fun e w' => e = .returned (.bool (s.any offI)) ∧ w = w' := by
  have H := Lib.hid (iindex p n c s w hn hx)
  clear hx
  generalize s.any offI = b at *
  go_enter Try.func17, Try.ntmps17
  go_wp2_with fail
  refine H.out.mono ?_
  rintro e w' ⟨⟨r, rfl, hr⟩, rfl⟩
  cases b
  · have hr' : r < 0 := by
      rcases Int.lt_or_le r 0 with h | h
      · exact h
      · exact absurd (hr.1 h) (by simp)
    clear hr
    go_wp2_with fail
    go_ret
    exact ⟨ret_bool (by simp; try omega), rfl⟩
  · have hr' : 0 ≤ r := hr.2 rfl
    clear hr
    go_wp2_with fail
    go_ret
    exact ⟨ret_bool (by simp; try omega), rfl⟩
/-- how many rows a square has; 0: it is none. -/
def sideS (N : Nat) : Nat := ((List.range 13).find? fun n => decide (1 ≤ n) && n * n == N).getD 0
theorem sideS_spec (N : Nat) : (1 ≤ sideS N ∧ sideS N ≤ 12 ∧ N = sideS N * sideS N) ∨ (sideS N = 0 ∧ ∀ n, 1 ≤ n → n ≤ 12 → n * n ≠ N) := by
  unfold sideS
  rcases h : (List.range 13).find? fun n => decide (1 ≤ n) && n * n == N with _ | n
  · right
    refine ⟨rfl, fun n h1 h2 h3 => ?_⟩
    rw [List.find?_eq_none] at h
    have := h n (by simp; omega)
    simp [h3] at this
    omega
  · left
    have h1 := List.find?_some h
    have h2 := List.mem_of_find?_eq_some h
    simp at h1 h2
    simp only [Option.getD_some]
    exact ⟨h1.1, by omega, h1.2.symm⟩
theorem side_is (N c : Nat) (p : Option Addr) (w : World) : Calls Try.prog 14 #[.slice p N c] w fun e w' => e = .returned (.int .i64 (sideS N : Nat)) ∧ w = w' := by
  rcases sideS_spec N with ⟨h1, h2, h3⟩ | ⟨h1, h2⟩
  · exact side_any (sideS N) N c p w h1 h2 h3
  · rw [h1]; exact side_none N c p w (Lib.hid h2)
/-- what Is answers. -/
def isI (l : List Int) : Nat × Int × Int :=
  if sideS l.length = 0 then (0, 0, 2) else if l.any offI = true then (0, 0, 3) else ((kindI l (sideS l.length)).1, (kindI l (sideS l.length)).2, 0)
theorem offs {l : List Int} (h : l.any offI = false) : ∀ x ∈ l, -1000000 ≤ x ∧ x ≤ 1000000 := fun x hx => by
  rw [Bool.eq_false_iff] at h
  constructor
  · rcases Int.lt_or_le x (-1000000) with h1 | h1
    · exact absurd (List.any_eq_true.2 ⟨x, hx, by simp [offI, h1]⟩) h
    · exact h1
  · rcases Int.lt_or_le 1000000 x with h1 | h1
    · exact absurd (List.any_eq_true.2 ⟨x, hx, by simp [offI, h1]⟩) h
    · exact h1
set_option maxHeartbeats 1000000 in
theorem iis_any (N c : Nat) (p : Option Addr) (l : List Int) (w : World) (hn : N ≤ 1099511627776) (hx : IntsIn w p N l) :
    Calls Try.prog 8 #[.slice p N c] w fun e w' => e = .returned (.tuple #[.int .i64 ((isI l).1 : Nat), .int .i64 (isI l).2.1, .int .i64 (isI l).2.2]) ∧ Below w.heap.size w w' := by
  have hl := hx.len
  have HS := Lib.hid (side_is N c p w)
  have HC := Lib.hid (icontains p N c l w hn hx)
  rcases sideS_spec N with ⟨h1, h2, h3⟩ | ⟨h1, h2⟩
  · rcases ho : l.any offI with _ | _
    · have he : isI l = ((kindI l (sideS N)).1, (kindI l (sideS N)).2, 0) := by unfold isI; rw [hl, if_neg (by omega), if_neg (by simp [ho])]
      rw [he]
      rw [ho] at HC
      have HK := Lib.hid (ikind_any (sideS N) c p l w h1 h2 (by rw [← h3]; exact hx) (offs ho))
      rw [← h3] at HK
      have z0 : ((sideS N : Int) == 0) = false := by simp; omega
      replace h3 := Lib.hid h3
      clear hx hl ho he
      generalize sideS N = n at *
      generalize kindI l n = ks at *
      obtain ⟨k1, k2⟩ := ks
      simp only at HK
      go_enter Try.func8, Try.ntmps8
      go_wp2_with fail
      refine HS.out.mono ?_
      rintro e w' ⟨rfl, rfl⟩
      go_wp2_with fail
      refine HC.out.mono ?_
      rintro e w' ⟨rfl, rfl⟩
      go_wp2_with fail
      refine HK.out.mono ?_
      rintro e W ⟨rfl, hB⟩
      replace hB := Lib.hid hB
      go_wp2_with fail
      go_ret3
      exact ⟨rfl, hB.out⟩
    · have he : isI l = (0, 0, 3) := by unfold isI; rw [hl, if_neg (by omega), if_pos ho]
      rw [he]
      rw [ho] at HC
      have z0 : ((sideS N : Int) == 0) = false := by simp; omega
      replace h3 := Lib.hid h3
      clear hx hl ho he
      generalize sideS N = n at *
      go_enter Try.func8, Try.ntmps8
      go_wp2_with fail
      refine HS.out.mono ?_
      rintro e w' ⟨rfl, rfl⟩
      go_wp2_with fail
      refine HC.out.mono ?_
      rintro e w' ⟨rfl, rfl⟩
      go_wp2_with fail
      go_ret3
      exact ⟨rfl, Below.refl _ _⟩
  · have he : isI l = (0, 0, 2) := by unfold isI; rw [hl, if_pos h1]
    rw [he]
    rw [h1] at HS
    clear hx hl he HC h2
    go_enter Try.func8, Try.ntmps8
    go_wp2_with fail
    refine HS.out.mono ?_
    rintro e w' ⟨rfl, rfl⟩
    go_wp2_with fail
    go_ret3
    exact ⟨rfl, Below.refl _ _⟩
end Go.Proofs.Ytbfdhegglaaghaa
