/- What hanoi.Nth computes: the state behind k moves of a way (NS); conditions: up to 40 discs, two pegs from 0 to 2, k below 2^n. -/
import Derived.Test.YtfjlhghiadoodaaMath2
import Derived.Test.YtfjlhghiadoodaaIdx
namespace Go.Proofs.Ytfjlhghiadoodaa
open Go.RowKit

theorem set_mid (j v : Nat) (T : List Nat) : asI (List.replicate j 0 ++ v :: T) = (asI (List.replicate (j + 1) 0 ++ T)).set j v := by
  rw [← asI_set', List.replicate_succ', List.append_assoc, List.set_append_right _ _ (by simp)]
  simp
where asI_set' {s : List Nat} {i b : Nat} : asI (s.set i b) = (asI s).set i b := by simp [asI, List.map_set]

theorem div_pow (k j : Nat) : (k : Int) / 2 ^ j = ((k / 2 ^ j : Nat) : Int) := by push_cast; rfl

set_option maxRecDepth 100000 in
set_option maxHeartbeats 4000000 in
theorem nth_any (n a b k : Nat) (w : World) (hn : n ≤ 40) (ha : a < 3) (hb : b < 3) (hab : a ≠ b) (hk : k < 2 ^ n) (nI aI bI kI : Int) (e1 : Hid (nI = n)) (e2 : Hid (aI = a)) (e3 : Hid (bI = b)) (e4 : Hid (kI = k)) :
    Calls Try.prog 11 #[.int .i64 nI, .int .i64 aI, .int .i64 bI, .int .i64 kI] w fun e w' => ∃ p, e = .returned (.tuple #[.slice p n n, .int .i64 0]) ∧ IntsIn w' p n (asI (NS n a b k)) ∧ Below w.heap.size w w' := by
  have e1 := e1.out; have e2 := e2.out; have e3 := e3.out; have e4 := e4.out
  subst e1 e2 e3 e4
  have hsh := shl_lt n (by omega)
  have hp40 : 2 ^ n ≤ 2 ^ 40 := Nat.pow_le_pow_right (by omega) hn
  obtain ⟨P, hP⟩ : ∃ P, P = 2 ^ n := ⟨_, rfl⟩
  have ep : (2 : Int) ^ n = (P : Int) := by rw [hP]; push_cast; rfl
  rw [← hP] at hk hp40
  rw [ep] at hsh
  have hkP : (k : Int) < P := by omega
  have hk40 : k < 1099511627776 := by omega
  have hab' : ((a : Int) == b) = false := by simp; omega
  replace hP := Lib.hid hP; replace hab := Lib.hid hab; replace hp40 := Lib.hid hp40
  obtain ⟨g, hg⟩ : ∃ g, g = w.heap.size := ⟨_, rfl⟩
  replace hg := Lib.hid hg
  go_enter Try.func11, Try.ntmps11
  go_wp2_with (first | (go_at_call 16; refine (off_any _ _ (by omega) (by omega)).mono ?_; rintro e w' ⟨rfl, rfl⟩) | (at_make; refine wp_make int22 _ g hg rfl _ _ rfl _ _ _ _ n rfl rfl rfl rfl (by omega) ?_; intro W1 hN hB1 hz1))
  replace hN := Lib.hid hN; replace hB1 := Lib.hid hB1
  go_loopg [1, 2, 11] n (fun kk fr to i W => ∃ m a' b' : Nat, ∃ T : List Nat, m ≤ n ∧ kk = m ∧ i = .int .i64 ((m : Int) - 1) ∧ fr = .int .i64 a' ∧ to = .int .i64 b' ∧ a' < 3 ∧ b' < 3 ∧ a' ≠ b' ∧ NS n a b k = NS m a' b' k ++ T ∧ T.length = n - m ∧ Nums W g 3 (asI (List.replicate m 0 ++ T)) ∧ Below g w W)
  case atStart => exact ⟨n, a, b, [], by omega, rfl, rfl, rfl, rfl, ha, hb, hab.out, by simp, by simp, by have := hN.out; simpa [asI] using this, hB1.out⟩
  case round =>
    clear hN hB1 hz1 hsh ep hkP hk ha hb hab'
    obtain ⟨m, a', b', T, hm, hgk, rfl, rfl, rfl, ha, hb, hne, hNS, hTl, hN, hB⟩ := hrel
    replace hgk := Lib.hid hgk; replace hne := Lib.hid hne; replace hNS := Lib.hid hNS; replace hTl := Lib.hid hTl
    by_cases hm0 : m = 0
    · subst hm0
      have hin := hN.in (n := n) (by rw [asI_len]; simp; have := hTl.out; omega)
      have hT : Hid (List.replicate 0 0 ++ T = NS n a b k) := by show _ = _; rw [hNS.out]; simp [NS]
      rw [hT.out] at hin
      replace hin := Lib.hid hin; replace hN := Lib.hid hN; replace hB := Lib.hid hB
      go_wp2_with fail
      go_ret2
      exact ⟨_, rfl, hin.out, hB.out.mono (by have := hg.out; omega)⟩
    · obtain ⟨j, rfl⟩ : ∃ j, m = j + 1 := ⟨m - 1, by omega⟩
      have ej : ((j + 1 : Nat) : Int) - 1 = j := by omega
      rw [ej]
      replace ej := Lib.hid ej
      have hb1 : bits .and .i64 ((k : Int) / 2 ^ j) 1 = (bit k j : Nat) := by
        rw [div_pow]; exact bits_and1 _ (by have := Nat.div_le_self k (2 ^ j); omega)
      have cj := hN.cell (i := j) (by rw [asI_len]; simp; have := hTl.out; omega)
      have fj := hN.free j
      have k0 : (0 : Int) ≤ j := by omega
      have k1 : (j : Int) < n := by omega
      rcases bit_cases k j with ⟨hbit, _⟩ | ⟨hbit, _⟩
      · rw [hbit] at hb1
        have hNS2 : Hid (NS n a b k = NS j a' (3 - a' - b') k ++ (a' :: T)) := by show _ = _; rw [hNS.out, NS, if_pos hbit, List.append_assoc]; rfl
        replace hbit := Lib.hid hbit; replace hN := Lib.hid hN; replace hB := Lib.hid hB
        go_wp2_with fail
        have hgk := hgk.out
        go_roundg j
        case measure => omega
        case rel =>
          refine ⟨j, a', 3 - a' - b', a' :: T, by omega, rfl, by go_num, rfl, congrArg (Value.int .i64) (by have := hne.out; omega), ha, by have := hne.out; omega, by have := hne.out; omega, hNS2.out, by simp; have := hTl.out; omega, ?_, hB.out.setCell (Nat.le_refl _) _⟩
          rw [set_mid]; exact hN.out.set j a'
      · rw [hbit] at hb1
        have hNS2 : Hid (NS n a b k = NS j (3 - a' - b') b' k ++ (b' :: T)) := by show _ = _; rw [hNS.out, NS, if_neg (show ¬ bit k j = 0 by omega), List.append_assoc]; rfl
        replace hbit := Lib.hid hbit; replace hN := Lib.hid hN; replace hB := Lib.hid hB
        go_wp2_with fail
        have hgk := hgk.out
        go_roundg j
        case measure => omega
        case rel =>
          refine ⟨j, 3 - a' - b', b', b' :: T, by omega, rfl, by go_num, congrArg (Value.int .i64) (by have := hne.out; omega), rfl, by have := hne.out; omega, hb, by have := hne.out; omega, hNS2.out, by simp; have := hTl.out; omega, ?_, hB.out.setCell (Nat.le_refl _) _⟩
          rw [set_mid]; exact hN.out.set j b'
end Go.Proofs.Ytfjlhghiadoodaa
