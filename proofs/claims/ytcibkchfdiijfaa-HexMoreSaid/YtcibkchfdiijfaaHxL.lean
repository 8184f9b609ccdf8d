import Derived.Test.YtcibkchfdiijfaaGrd
import Derived.Deep.QuietTactic
import Derived.BigQuiet
import Derived.Deep.DeepCutAuto
/- hex.joined's closures: has a group a place so far from a side; conditions stand in each. -/
namespace Go.Proofs.Ytcibkchfdiijfaa
open Go.RowKit

/-- how far a place is from a player's first side. -/
def alongS (n who p : Nat) : Nat := if who = 1 then p / n else p % n
theorem along_any (n who p : Nat) (w : World) (hn : 1 ≤ n) (hn2 : n ≤ 10) (hp : p < n * n) :
    Calls Try.prog 20 #[.int .i64 (n : Int), .int .i64 (who : Int), .int .i64 (p : Int)] w fun e w' => e = .returned (.int .i64 (alongS n who p : Nat)) ∧ w = w' := by
  have hm : (p : Int).tmod (n : Int) = ((p % n : Nat) : Int) := by rw [Int.tmod_eq_emod_of_nonneg (by omega)]; exact (Int.natCast_emod p n).symm
  have hd : (p : Int).tdiv (n : Int) = ((p / n : Nat) : Int) := Int.ofNat_tdiv p n
  have hnn : n * n ≤ 100 := Nat.mul_le_mul hn2 hn2
  have h1 : p % n < n := Nat.mod_lt _ hn
  have h2 : p / n < n := Nat.div_lt_of_lt_mul hp
  unfold alongS
  generalize p % n = m at *
  generalize p / n = d at *
  have hwm : IntKind.i64.wrap (m : Int) = m := IntWalk.i64_in _ (by omega)
  have hwd : IntKind.i64.wrap (d : Int) = d := IntWalk.i64_in _ (by omega)
  have hn0 : ¬ n = 0 := by omega
  go_enter Try.func20, Try.ntmps20
  by_cases hw : who = 1
  · subst hw
    go_wp2_with fail
    go_ret
    exact ⟨rfl, rfl⟩
  · have e1 : decide ((who : Int) = 1) = false := decide_eq_false (by omega)
    have e2 : ((who : Int) == 1) = false := by simp; omega
    rw [if_neg hw]
    replace hw := Lib.hid hw
    go_wp2_with fail
    go_ret
    exact ⟨rfl, rfl⟩
theorem jj_any (n who p k Gb Wb Kb : Nat) (w : World) (hn : 1 ≤ n) (hn2 : n ≤ 10) (hp : p < n * n)
    (hg : w.cell? ⟨Gb, 0, none⟩ = some (.int .i64 (n : Int))) (hw : w.cell? ⟨Wb, 0, none⟩ = some (.int .i64 (who : Int))) (hk : w.cell? ⟨Kb, 0, none⟩ = some (.int .i64 (k : Int))) :
    Calls Try.prog 25 #[.int .i64 (p : Int), .pointer (some ⟨Gb, 0, none⟩), .pointer (some ⟨Wb, 0, none⟩), .pointer (some ⟨Kb, 0, none⟩)] w fun e w' => e = .returned (.bool (alongS n who p == k)) ∧ Below w.heap.size w w' := by
  have HA := Lib.hid (fun W => along_any n who p W hn hn2 hp)
  have hend : ((alongS n who p == k) : Bool) = ((alongS n who p : Int) == (k : Int)) := by
    by_cases h : alongS n who p = k
    · rw [h]; simp
    · rw [beq_eq_false_iff_ne.2 h, beq_eq_false_iff_ne.2 (by omega)]
  rw [hend]
  clear hend
  generalize alongS n who p = al at *
  replace hp := Lib.hid hp
  go_enter Try.func25, Try.ntmps25
  go_wp2_with fail
  go_quiet ((go_at_call 20; ((with_reducible refine (HA.out _).mono ?_); exact fun _ _ h => ⟨h.1, _, h.2.symm⟩)))
  go_wp2_with fail
  go_ret
  exact ⟨rfl, below_drewN (Below.refl _ _) _⟩

/-- a test asked of each place, till it holds. -/
theorem containsM (cap : Array Value) (p : Option Addr) (n c : Nat) (l : List Nat) (f : Nat → Bool) (w : World) (hn : n ≤ 1000) (hx : IntsIn w p n (asI l))
    (Hf : ∀ W j, j < n → Below w.heap.size w W → Calls Try.prog 25 (#[.int .i64 (st l j : Nat)] ++ cap) W fun e w' => e = .returned (.bool (f (st l j))) ∧ Below W.heap.size W w') :
    Calls Try.prog 31 #[.slice p n c, .func (.func 25) #[] cap] w fun e w' => ((e = .returned (.int .i64 (-1)) ∧ ∀ j, j < n → f (st l j) = false) ∨ ∃ i : Nat, e = .returned (.int .i64 i) ∧ i < n ∧ f (st l i) = true) ∧ Below w.heap.size w w' := by
  replace Hf := Lib.hid Hf
  go_enter Try.func31, Try.ntmps31
  go_wp2_with fail
  go_loopg [8] n (fun k i W => ∃ j : Nat, j ≤ n ∧ k = n - j ∧ i = .int .i64 j ∧ Hid (∀ t, t < j → f (st l t) = false) ∧ Hid (Below w.heap.size w W))
  case atStart => exact ⟨0, by omega, by omega, rfl, fun t ht => absurd ht (by omega), Below.refl _ _⟩
  case round =>
    obtain ⟨j, hj, hk, rfl, hno, hB⟩ := hrel
    replace hk := Lib.hid hk
    by_cases hlt : j < n
    · obtain ⟨bb, oo, rfl, hbb, hcc⟩ := hx.at (by omega)
      have c0 := (hB.out.cell (p := ⟨bb, oo + j, none⟩) hbb).trans (hcc j hlt)
      rw [asI_at] at c0
      have HO := Lib.hid (Hf.out wr j hlt hB.out)
      obtain ⟨x, hxe⟩ : ∃ x, st l j = x := ⟨_, rfl⟩
      rw [hxe] at c0 HO
      clear hx hcc
      cases hf : f x with
      | true =>
        rw [hf] at HO
        have hf' : Hid (f (st l j) = true) := by show _ = _; rw [hxe]; exact hf
        replace hxe := Lib.hid hxe
        clear hf
        go_wp2_with fail
        refine HO.out.mono ?_
        rintro e w' ⟨rfl, hB2⟩
        replace hB2 := Lib.hid hB2
        go_wp2_with fail
        go_ret
        exact ⟨.inr ⟨j, rfl, hlt, hf'.out⟩, hB.out.trans (hB2.out.mono hB.out.size)⟩
      | false =>
        rw [hf] at HO
        have hno2 : Hid (∀ t, t < j + 1 → f (st l t) = false) := fun t ht => by
          rcases (show t < j ∨ t = j by omega) with h | h
          · exact hno.out t h
          · rw [h, hxe]; exact hf
        replace hxe := Lib.hid hxe
        clear hf
        go_wp2_with fail
        refine HO.out.mono ?_
        rintro e w' ⟨rfl, hB2⟩
        replace hB2 := Lib.hid hB2
        go_wp2_with fail
        have hk := hk.out
        go_roundg (n - (j + 1))
        case measure => omega
        case rel => exact ⟨j + 1, by omega, rfl, by go_num, hno2, hB.out.trans (hB2.out.mono hB.out.size)⟩
    · obtain rfl : j = n := by omega
      go_wp2_with fail
      go_ret
      exact ⟨.inl ⟨rfl, hno.out⟩, hB.out⟩
theorem st_mem {l : List Nat} {i : Nat} (h : i < l.length) : st l i ∈ l := by
  unfold st; rw [List.getElem?_eq_getElem h]; exact List.getElem_mem h
theorem containsF (cap : Array Value) (p : Option Addr) (n c : Nat) (l : List Nat) (f : Nat → Bool) (w : World) (hn : n ≤ 1000) (hx : IntsIn w p n (asI l))
    (Hf : ∀ W j, j < n → Below w.heap.size w W → Calls Try.prog 25 (#[.int .i64 (st l j : Nat)] ++ cap) W fun e w' => e = .returned (.bool (f (st l j))) ∧ Below W.heap.size W w') :
    Calls Try.prog 24 #[.slice p n c, .func (.func 25) #[] cap] w fun e w' => e = .returned (.bool (l.any f)) ∧ Below w.heap.size w w' := by
  have hll : l.length = n := by have := hx.len; rwa [asI_len] at this
  have HI := Lib.hid (containsM cap p n c l f w hn hx Hf)
  obtain ⟨R, hR⟩ : ∃ R, R = l.any f := ⟨_, rfl⟩
  rw [← hR]
  replace hR := Lib.hid hR
  clear hx Hf
  go_enter Try.func24, Try.ntmps24
  go_wp2_with fail
  refine HI.out.mono ?_
  rintro e w' ⟨⟨rfl, hno⟩ | ⟨i, rfl, hi, hy⟩, hB⟩
  · have hRe : Hid (R = false) := by
      show _ = _
      rw [hR.out, List.any_eq_false]
      intro x hx
      obtain ⟨j, hj, rfl⟩ := List.getElem_of_mem hx
      have := hno j (by omega)
      rw [show st l j = l[j] by unfold st; simp [hj]] at this
      rw [this]; simp
    replace hB := Lib.hid hB
    clear hno HI
    go_wp2_with fail
    go_ret
    exact ⟨ret_bool hRe.out.symm, hB.out⟩
  · have hRe : Hid (R = true) := by
      show _ = _
      rw [hR.out, List.any_eq_true]
      exact ⟨_, st_mem (l := l) (i := i) (by omega), hy⟩
    have h0 : (0 : Int) ≤ (i : Int) := by omega
    replace hB := Lib.hid hB
    clear hy HI
    go_wp2_with fail
    go_ret
    exact ⟨ret_bool hRe.out.symm, hB.out⟩
/-- has a group a place so far from its side? -/
theorem side_any (n who k m Gb Wb Qb c : Nat) (q : Option Addr) (l : List Nat) (w : World) (hn : 1 ≤ n) (hn2 : n ≤ 10) (hl : ∀ a ∈ l, a < n * n) (hm : m ≤ 1000) (hx : IntsIn w q m (asI l))
    (hG : Gb < w.heap.size) (hW : Wb < w.heap.size)
    (hq : w.cell? ⟨Qb, 0, none⟩ = some (.slice q m c)) (hg : w.cell? ⟨Gb, 0, none⟩ = some (.int .i64 (n : Int))) (hw : w.cell? ⟨Wb, 0, none⟩ = some (.int .i64 (who : Int))) :
    Calls Try.prog 23 #[.int .i64 (k : Int), .pointer (some ⟨Qb, 0, none⟩), .pointer (some ⟨Gb, 0, none⟩), .pointer (some ⟨Wb, 0, none⟩)] w fun e w' => e = .returned (.bool (l.any fun a => alongS n who a == k)) ∧ Below w.heap.size w w' := by
  have hll : l.length = m := by have := hx.len; rwa [asI_len] at this
  have hQ : Qb < w.heap.size := by
    unfold World.cell? at hq
    cases ho : w.heap[Qb]? with
    | none => simp [ho] at hq
    | some o => exact lt_of_heap ho
  have hB0 : Below w.heap.size w (w.alloc (.cells #[.int .i64 (k : Int)] 3)) := (Below.refl _ w).alloc (Nat.le_refl _) _
  have HC := Lib.hid (containsF #[.pointer (some ⟨Gb, 0, none⟩), .pointer (some ⟨Wb, 0, none⟩), .pointer (some ⟨w.heap.size, 0, none⟩)] q m c l (fun a => alongS n who a == k) (w.alloc (.cells #[.int .i64 (k : Int)] 3)) hm (hx.below hB0) fun W j hj hB =>
    jj_any n who (st l j) k Gb Wb w.heap.size W hn hn2 (hl _ (st_mem (by omega))) ((hB.cell (p := ⟨Gb, 0, none⟩) (by simp; omega)).trans ((hB0.cell (p := ⟨Gb, 0, none⟩) hG).trans hg)) ((hB.cell (p := ⟨Wb, 0, none⟩) (by simp; omega)).trans ((hB0.cell (p := ⟨Wb, 0, none⟩) hW).trans hw))
      ((hB.cell (p := ⟨w.heap.size, 0, none⟩) (by simp)).trans (wcell (cs := [_]) (heap_alloc_new w (.cells #[.int .i64 (k : Int)] 3)) 0)))
  have hq2 := (hB0.cell (p := ⟨Qb, 0, none⟩) hQ).trans hq
  replace hB0 := Lib.hid hB0
  generalize (l.any fun a => alongS n who a == k) = R at *
  clear hx hl
  go_enter Try.func23, Try.ntmps23
  go_wp2_with fail
  refine HC.out.mono ?_
  rintro e w' ⟨rfl, hB⟩
  replace hB := Lib.hid hB
  go_wp2_with fail
  go_ret
  exact ⟨rfl, hB0.out.trans (hB.out.mono (by simp))⟩
end Go.Proofs.Ytcibkchfdiijfaa
