/- gameroomkeep.FourAdds returns true whatever it is given; conditions: the arguments are ints of 64 bits. -/
import Derived.Test.YtfoojdkbonmmgaaCountF
import Derived.Test.YtfoojdkbonmmgaaPick
namespace Go.Proofs.Ytfoojdkbonmmgaa
open Go.RowKit

theorem one_fall (n W H c c0 : Nat) (hc : c < W) (hc0 : c0 < W) (hH : 1 ≤ H) (hn : n = W * H) : (fallS ((zs n).set ((H - 1) * W + c0) 1) W c H = -1) ↔ (H = 1 ∧ c = c0) := by
  obtain ⟨m, rfl⟩ : ∃ m, H = m + 1 := ⟨H - 1, by omega⟩
  have hin : m * W + c0 < (zs n).length := by
    rw [zs_len, hn, Nat.mul_comm W]
    calc m * W + c0 < m * W + W := by omega
      _ = (m + 1) * W := by rw [Nat.add_mul, Nat.one_mul]
  simp only [Nat.add_sub_cancel]
  rw [fallS]
  by_cases e : c = c0
  · subst e
    have h1 : ((zs n).set (m * W + c) 1)[m * W + c]?.getD 0 = 1 := by simp [hin]
    rw [h1, if_neg (by omega)]
    cases m with
    | zero => simp [fallS]
    | succ m =>
      have h2 : ((zs n).set ((m + 1) * W + c) 1)[m * W + c]?.getD 0 = 0 := by
        rw [List.getElem?_set_ne (by rw [Nat.add_mul]; omega), zs_at]
      rw [fallS, h2, if_pos rfl]
      constructor
      · intro h; omega
      · intro h; omega
  · have h1 : ((zs n).set (m * W + c0) 1)[m * W + c]?.getD 0 = 0 := by
      rw [List.getElem?_set_ne (by omega), zs_at]
    rw [h1, if_pos rfl]
    constructor
    · intro h; omega
    · intro h; omega
theorem one_opens (n W H c0 : Nat) (hc0 : c0 < W) (hH : 1 ≤ H) (hn : n = W * H) : ∀ m, m ≤ W → opens ((zs n).set ((H - 1) * W + c0) 1) W H m = m - (if H = 1 ∧ c0 < m then 1 else 0) := by
  intro m
  induction m with
  | zero => intro _; simp [opens]
  | succ m ih =>
    intro hm
    rw [opens, ih (by omega)]
    have h := one_fall n W H m c0 (by omega) hc0 hH hn
    by_cases e : H = 1 ∧ m = c0
    · rw [if_pos (h.2 e), if_neg (by omega), if_pos (by omega)]; omega
    · rw [if_neg (fun x => e (h.1 x))]
      by_cases e2 : H = 1 ∧ c0 < m
      · rw [if_pos e2, if_pos (by omega)]; omega
      · rw [if_neg e2, if_neg (by omega)]; omega
def want (W H k : Nat) : Nat := if 1 < k then (if H = 1 then W * (W - 1) else W * W) else 0
theorem twos_want (W H k : Nat) (hH : 1 ≤ H) : twos W H k W = want W H k := by
  have key : ∀ m, m ≤ W → twos W H k m = m * (if k ≤ 1 then 0 else if H = 1 then W - 1 else W) := by
    intro m
    induction m with
    | zero => intro _; simp [twos]
    | succ m ih =>
      intro hm
      rw [twos, ih (by omega), one_opens (W * H) W H m (by omega) hH rfl W (Nat.le_refl _), Nat.add_mul, Nat.one_mul]
      by_cases hk : k ≤ 1
      · simp [hk]
      · simp only [hk, if_false]
        by_cases hh : H = 1
        · simp [hh, show m < W from by omega]
        · simp [hh]
  rw [key W (Nat.le_refl _)]
  unfold want
  by_cases hk : k ≤ 1
  · rw [if_pos hk, if_neg (by omega), Nat.mul_zero]
  · rw [if_neg hk]
    by_cases hh : H = 1
    · rw [if_pos hh, if_pos (show 1 < k from by omega), if_pos hh]
    · rw [if_neg hh, if_pos (show 1 < k from by omega), if_neg hh]

set_option maxHeartbeats 2000000 in
theorem adds_any (a b c : Int) (w : World) (a1 : -9223372036854775808 ≤ a) (a2 : a ≤ 9223372036854775807) (b1 : -9223372036854775808 ≤ b) (b2 : b ≤ 9223372036854775807) (c1 : -9223372036854775808 ≤ c) (c2 : c ≤ 9223372036854775807) :
    Calls Try.prog 3 #[.int .i64 a, .int .i64 b, .int .i64 c] w fun e w' => e = .returned (.bool true) ∧ Below w.heap.size w w' := by
  have p1 := pick_lt a 10 (by omega)
  have p2 := pick_lt b 10 (by omega)
  have p3 := pick_lt c 10 (by omega)
  have A := Lib.hid (picked_any a 10 w a1 a2 (by omega) (by omega) 10 rfl)
  have B := Lib.hid (picked_any b 10 w b1 b2 (by omega) (by omega) 10 rfl)
  have C := Lib.hid (picked_any c 10 w c1 c2 (by omega) (by omega) 10 rfl)
  generalize pick a 10 = x at *
  generalize pick b 10 = y at *
  generalize pick c 10 = z at *
  have K := fun (W : World) (p : Nat) (hp : p ≤ 2) (r : Nat) hr (xI yI zI pI : Int) (e1 : xI = ((x + 1 : Nat) : Int)) (e2 : yI = ((y + 1 : Nat) : Int)) (e3 : zI = ((z + 1 : Nat) : Int)) (e4 : pI = (p : Int)) => by
    have := countF (x + 1) (y + 1) (z + 1) p W (by omega) (by omega) (by omega) (by omega) (by omega) (by omega) hp r hr
    rw [← e1, ← e2, ← e3, ← e4] at this; exact this
  replace K := Lib.hid K
  have hw : Hid (twos (x + 1) (y + 1) (z + 1) (x + 1) = want (x + 1) (y + 1) (z + 1)) := twos_want _ _ _ (by omega)
  have ho : Hid (opens (zs ((x + 1) * (y + 1))) (x + 1) (y + 1) (x + 1) = x + 1) := zs_opens _ _ _ (by omega) _
  go_enter Try.func3, Try.ntmps3
  go_wp2_with fail
  refine A.out.mono ?_
  rintro e w' ⟨rfl, rfl⟩
  go_wp2_with fail
  refine B.out.mono ?_
  rintro e w' ⟨rfl, rfl⟩
  go_wp2_with fail
  refine C.out.mono ?_
  rintro e w' ⟨rfl, rfl⟩
  go_wp2_with fail
  refine (K.out _ 0 (by omega) 1 rfl _ _ _ _ (by omega) (by omega) (by omega) (by omega)).mono ?_
  rintro e w1 ⟨rfl, hB⟩
  replace hB := Lib.hid hB
  go_wp2_with fail
  refine (K.out _ 1 (by omega) (x + 1) (by rw [ho.out]; rfl) _ _ _ _ (by omega) (by omega) (by omega) (by omega)).mono ?_
  rintro e w2 ⟨rfl, hB2⟩
  replace hB := Lib.hid (hB.out.trans (hB2.mono hB.out.size)); clear hB2
  go_wp2_with fail
  refine (K.out _ 2 (by omega) (want (x + 1) (y + 1) (z + 1)) (by rw [hw.out]; rfl) _ _ _ _ (by omega) (by omega) (by omega) (by omega)).mono ?_
  rintro e w3 ⟨rfl, hB2⟩
  replace hB := Lib.hid (hB.out.trans (hB2.mono hB.out.size)); clear hB2
  have hx1 : (((x + 1 : Nat) : Int) == 1 + (x : Int)) = true := by simp; omega
  have s1 : (x + 1) * (x + 1) ≤ 10 * 10 := Nat.mul_le_mul (by omega) (by omega)
  have s2 : (1 + (x : Int)) * (1 + (x : Int)) = (((x + 1) * (x + 1) : Nat) : Int) := by push_cast; rw [Int.add_comm]
  have s3 : (1 + (x : Int)) * (x : Int) = (((x + 1) * x : Nat) : Int) := by push_cast; rw [Int.add_comm]
  have s4 : (x + 1) * x ≤ 10 * 10 := Nat.mul_le_mul (by omega) (by omega)
  have t1 : 0 ≤ (1 + (x : Int)) * (1 + (x : Int)) := by omega
  have t2 : (1 + (x : Int)) * (1 + (x : Int)) ≤ 100 := by omega
  have t3 : 0 ≤ (1 + (x : Int)) * (x : Int) := by omega
  have t4 : (1 + (x : Int)) * (x : Int) ≤ 100 := by omega
  replace s1 := Lib.hid s1; replace s2 := Lib.hid s2; replace s3 := Lib.hid s3; replace s4 := Lib.hid s4
  by_cases hz : z = 0
  · have e1 : Hid ((want (x + 1) (y + 1) (z + 1) : Int) = 0) := by show _ = _; simp [want, hz]
    have hz' : ¬ (1 : Int) < 1 + z := by omega
    rw [e1.out]
    clear hz
    go_wp2_with fail
    go_ret
    exact ⟨ret_bool (by first | (simp; done) | (simp; omega) | skip), hB.out⟩
  · have hz' : (1 : Int) < 1 + z := by omega
    by_cases hy : y = 0
    · have e1 : Hid ((want (x + 1) (y + 1) (z + 1) : Int) = (1 + (x : Int)) * (x : Int)) := by
        show _ = _
        rw [s3.out]; unfold want; rw [if_pos (by omega), if_pos (by omega)]; simp
      have hy' : ((1 : Int) + y == 1) = true := by simp; omega
      have hs : (1 : Int) + x - 1 = x := by omega
      rw [e1.out]
      clear hy hz
      go_wp2_with fail
      go_ret
      exact ⟨ret_bool (by first | (simp; done) | (simp; omega) | skip), hB.out⟩
    · have e1 : Hid ((want (x + 1) (y + 1) (z + 1) : Int) = (1 + (x : Int)) * (1 + (x : Int))) := by
        show _ = _
        rw [s2.out]; unfold want; rw [if_pos (by omega), if_neg (by omega)]
      have hy' : ((1 : Int) + y == 1) = false := by simp; omega
      rw [e1.out]
      clear hy hz
      go_wp2_with fail
      go_ret
      exact ⟨ret_bool (by first | (simp; done) | (simp; omega) | skip), hB.out⟩
end Go.Proofs.Ytfoojdkbonmmgaa
