/- What deck.Nth computes; conditions: 1 to 12 things, a number below their orders' count. -/
import Derived.Test.YtkakggagaplaiaaDk
namespace Go.Proofs.Ytkakggagaplaiaa
open Go.RowKit

theorem Own.rowb {E B n c : Nat} {w : World} {q : Option Addr} {xs : List Int} (h : Own E B w q n c xs) : ∀ x, q.map (·.block) = some x → B ≤ x := fun x e => by
  cases q with
  | none => cases e
  | some a => have := (h.block a rfl).1; simp at e; omega
set_option maxRecDepth 20000 in
set_option maxHeartbeats 4000000 in
theorem nth_any (n k : Nat) (w : World) (hn1 : 1 ≤ n) (hn : n ≤ 12) (hk : k < fac n) :
    Calls Try.prog 14 #[.int .i64 n, .int .i64 k] w fun e w' => ∃ q c, e = .returned (.tuple #[.slice q n c, .int .i64 0]) ∧ Own 3 w.heap.size w' q n c (asI (nth n k)) ∧ Below w.heap.size w w' := by
  have hkb := Nat.lt_of_lt_of_le hk (fac_bd hn)
  have g1 : decide ((n : Int) < 0) = false := decide_eq_false (by omega)
  have g2 : decide ((12 : Int) < n) = false := decide_eq_false (by omega)
  replace hk := Lib.hid hk
  go_enter Try.func14, Try.ntmps14
  go_wp2_with fail
  go_loopg [6, 7] (n - 1) (fun gk av iv W' => ∃ j A : Nat, 1 ≤ j ∧ j ≤ n ∧ gk = n - j ∧ iv = .int .i64 ((j + 1 : Nat) : Int) ∧ av = .int .i64 A ∧ Hid (A = fac j) ∧ w = W')
  case atStart => exact ⟨1, 1, by omega, hn1, by omega, rfl, rfl, Lib.hid rfl, rfl⟩
  case round =>
    obtain ⟨j, A, hj1, hj, hgk, rfl, rfl, hA, rfl⟩ := hrel
    replace hgk := Lib.hid hgk
    by_cases hlt : j < n
    · have hb := fac_bd (n := j + 1) (by omega)
      have hA2 : Hid (A * (j + 1) = fac (j + 1)) := by show _ = _; rw [hA.out]; rfl
      rw [← hA2.out] at hb
      obtain ⟨A2, hA3⟩ : ∃ A2, A * (j + 1) = A2 := ⟨_, rfl⟩
      rw [hA3] at hb hA2
      have hm : (A : Int) * ((j : Int) + 1) = (A2 : Int) := by rw [← hA3]; push_cast; rfl
      have hw : IntKind.i64.wrap (A2 : Int) = A2 := IntWalk.i64_in _ (by omega)
      replace hA3 := Lib.hid hA3
      go_wp2_with fail
      have hgk := hgk.out
      go_roundg (n - (j + 1))
      case measure => omega
      case rel => exact ⟨j + 1, A2, by omega, by omega, rfl, by go_num, rfl, hA2, rfl⟩
    · obtain rfl : j = n := by omega
      have hAb := fac_bd hn
      rw [← hA.out] at hAb
      have hkA : k < A := by rw [hA.out]; exact hk.out
      have g3 : decide ((k : Int) < 0) = false := decide_eq_false (by omega)
      have g4 : decide ((A : Int) ≤ (k : Int)) = false := decide_eq_false (by omega)
      go_wp2_with fail
      refine (iota_any j w (by omega)).mono ?_
      rintro e w1 ⟨gl, rfl, hO, hB⟩
      replace hO := Lib.hid hO; replace hB := Lib.hid hB
      have hdl : Hid (∀ x, (none : Option Addr).map (·.block) = some x → x ≠ gl) := fun x e => by cases e
      go_wp2_with fail
      go_loopg [1, 6, 8, 9, 10] j (fun gk kv av lv ov mv W' => ∃ (m t kk A cl co : Nat) (L O : List Nat) (q : Option Addr), t + m = j ∧ gk = m ∧ mv = .int .i64 m ∧ kv = .int .i64 kk ∧ av = .int .i64 A ∧ Hid (A = fac m) ∧ kk < A ∧ lv = .slice (some ⟨gl, 0, none⟩) m cl ∧ ov = .slice q t co ∧
        Own 3 w.heap.size W' (some ⟨gl, 0, none⟩) m cl (asI L) ∧ Own 3 w.heap.size W' q t co (asI O) ∧ (∀ x, q.map (·.block) = some x → x ≠ gl) ∧ Hid (nth j k = O ++ nthL m L kk) ∧ Below w.heap.size w W')
      case atStart => exact ⟨j, 0, k, A, j, 0, List.range j, [], none, by omega, rfl, rfl, rfl, rfl, hA, hkA, rfl, rfl, hO.out, Own.nil _ _ _, hdl.out, Lib.hid rfl, hB.out⟩
      case round =>
        obtain ⟨m, t, kk, A1, cl, co, L, O, q, htm, hgk2, rfl, rfl, rfl, hA1, hkk, rfl, rfl, hL, hQ, hne, hsp, hB1⟩ := hrel
        obtain ⟨W1, rfl⟩ : ∃ W1 : World, W1 = wr := ⟨_, rfl⟩
        replace hgk2 := Lib.hid hgk2
        clear hO hB hdl
        cases m with
        | zero =>
          have hfin : Hid (nth j k = O) := by show _ = _; rw [hsp.out]; simp [nthL]
          obtain rfl : t = j := by omega
          rw [← hfin.out] at hQ
          replace hQ := Lib.hid hQ; replace hB1 := Lib.hid hB1
          clear hL hne
          go_wp2_with fail
          go_ret2
          exact ⟨q, co, rfl, hQ.out, hB1.out⟩
        | succ m =>
          obtain ⟨A2, hA2⟩ : ∃ A2, fac m = A2 := ⟨_, rfl⟩
          have hA1e : A1 = A2 * (m + 1) := by rw [hA1.out, ← hA2]; rfl
          have hA2p : 0 < A2 := by rw [← hA2]; exact fac_pos m
          have hA2b : A2 ≤ 479001600 := by rw [← hA2]; exact fac_bd (by omega)
          have hkk2 : kk < 479001601 := by have := fac_bd (n := m + 1) (by omega); rw [← hA1.out] at this; omega
          have hA1b : A1 ≤ 479001600 := by rw [hA1.out]; exact fac_bd (by omega)
          have hiL : kk / A2 < m + 1 := by rw [Nat.div_lt_iff_lt_mul hA2p, Nat.mul_comm, ← hA1e]; exact hkk
          have hk2 : kk % A2 < A2 := Nat.mod_lt _ hA2p
          have hsp2 : Hid (nth j k = (O ++ [st L (kk / A2)]) ++ nthL m (L.eraseIdx (kk / A2)) (kk % A2)) := by
            show _ = _
            rw [hsp.out, nthL, hA2]; simp
          have t1 : (A1 : Int).tdiv ((m : Int) + 1) = (A2 : Int) := by
            rw [Int.tdiv_eq_ediv_of_nonneg (by omega), hA1e]
            push_cast
            exact Int.mul_ediv_cancel _ (by omega)
          have t1' : (A1 : Int) / ((m : Int) + 1) = (A2 : Int) := by rw [← Int.tdiv_eq_ediv_of_nonneg (by omega)]; exact t1
          have t2' : (kk : Int) / (A2 : Int) = ((kk / A2 : Nat) : Int) := by push_cast; rfl
          have t2 : (kk : Int).tdiv (A2 : Int) = ((kk / A2 : Nat) : Int) := by rw [Int.tdiv_eq_ediv_of_nonneg (by omega)]; exact t2'
          have t3' : (kk : Int) % (A2 : Int) = ((kk % A2 : Nat) : Int) := by push_cast; rfl
          have t3 : (kk : Int).tmod (A2 : Int) = ((kk % A2 : Nat) : Int) := by rw [Int.tmod_eq_emod_of_nonneg (by omega)]; exact t3'
          generalize kk / A2 = i at *
          generalize kk % A2 = k2 at *
          replace hA1e := Lib.hid hA1e; replace hA2 := Lib.hid hA2
          have zA : A2 ≠ 0 := by omega
          have zm : ((m : Int) + 1) ≠ 0 := by omega
          have hll := hL.len
          rw [asI_len] at hll
          have c0 : W1.cell? ⟨gl, i, none⟩ = some (.int .i64 (st L i : Nat)) := by
            have := hL.in.cellN (i := i) (by omega)
            rwa [Nat.zero_add] at this
          generalize st L i = v at *
          have hqo := Lib.hid hQ.rowb
          have hBw := Lib.hid hB1.size
          replace hL := Lib.hid hL; replace hQ := Lib.hid hQ; replace hB1 := Lib.hid hB1; replace hne := Lib.hid hne; replace hll := Lib.hid hll
          clear hsp hk hkk
          have hglb := Lib.hid ((OwnC.block (k := 1) hL.out _ rfl))
          go_wp2_with (at_builtin; refine wp_append1 intG W1 rfl _ _ rfl w.heap.size q t co _ rfl hQ.out (v : Int) rfl (by omega) hBw.out ?_; intro q2 co2 w2 hQ2 hg2 hor2 hz2; replace hQ2 := Lib.hid hQ2; replace hg2 := Lib.hid hg2; replace hor2 := Lib.hid hor2; replace hz2 := Lib.hid hz2)
          have hL2 : Own 3 w.heap.size w2 (some ⟨gl, 0, none⟩) (m + 1) cl (asI L) := hL.out.grown hg2.out fun a ha e => by
            cases ha; exact hne.out gl e.symm rfl
          have hB2 := Lib.hid (hB1.out.grown hg2.out hBw.out hqo.out)
          have hne2 : Hid (∀ x, q2.map (·.block) = some x → x ≠ gl) := fun x e e2 => by
            subst e2
            rcases hor2.out with h | h
            · exact hne.out x (h ▸ e) rfl
            · cases q2 with
              | none => cases e
              | some a =>
                have h1 := h a rfl
                have h3 := hglb.out.2
                simp at e h3
                omega
          have HD := Lib.hid (fun i1 h => del_own w.heap.size gl (m + 1) cl i (asI L) w2 (by omega) hiL hL2 i1 h)
          clear hL2 hL hQ hg2 hor2 hne c0 hB1
          refine (HD.out _ (Lib.hid (by push_cast; rfl))).mono ?_
          rintro e w3 ⟨rfl, hL3, hg3⟩
          have hL4 : Hid (Own 3 w.heap.size w3 (some ⟨gl, 0, none⟩) m cl (asI (L.eraseIdx i))) := by
            have : (asI L).eraseIdx i = asI (L.eraseIdx i) := by unfold asI; rw [List.eraseIdx_eq_take_drop_succ, List.eraseIdx_eq_take_drop_succ, List.map_append, List.map_take, List.map_drop]
            rw [this] at hL3
            exact hL3
          have hQ4 : Hid (Own 3 w.heap.size w3 q2 (t + 1) co2 (asI (O ++ [v]))) := by
            rw [asI_app]
            exact hQ2.out.grown hg3 fun a ha e => by
              subst ha
              cases e
              exact hne2.out _ rfl rfl
          have hB4 := Lib.hid (hB2.out.grown hg3 (Nat.le_trans hBw.out hz2.out) fun x e => by cases e; exact hglb.out.1)
          clear hL3 hg3 HD hQ2 hB2
          go_wp2_with fail
          have hgk2 := hgk2.out
          go_roundg m
          case measure => omega
          case rel => exact ⟨m, t + 1, k2, A2, cl, co2, L.eraseIdx i, O ++ [v], q2, by omega, rfl, by go_num, rfl, rfl, Lib.hid hA2.out.symm, hk2, by simp, rfl, hL4.out, hQ4.out, hne2.out, hsp2, hB4.out⟩
end Go.Proofs.Ytkakggagaplaiaa
