/- What home.moved makes: the states that one man's move by some pips leaves; conditions: at most three men, one to six pips. -/
import Derived.Test.YtgbollodgeemlaaGEm
namespace Go.Proofs.Ytgbollodgeemlaa
open Go.RowKit

theorem homeG : ElT Try.prog 72 40 (.agg #[.int .i64 0, .int .i64 0, .int .i64 0, .int .i64 0, .int .i64 0, .int .i64 0]) 6 48 := ⟨by kernel_rfl, by kernel_rfl, rfl, by omega, by omega⟩
/-- the cells of a list of states. -/
def hcells (l : List Nat) : List Value := l.map fun n : Nat => Value.int .i64 (n : Int)
def hflat (ls : List (List Nat)) : List Value := ls.flatMap hcells

theorem idx0 (a b c d e f : Nat) (w : World) : (Instr.index 40 (H6 a b c d e f) (.int .i64 0)).run Try.prog w = .ok (.int .i64 (a : Int)) w := by kernel_rfl
theorem idx1 (a b c d e f : Nat) (w : World) : (Instr.index 40 (H6 a b c d e f) (.int .i64 1)).run Try.prog w = .ok (.int .i64 (b : Int)) w := by kernel_rfl
theorem idx2 (a b c d e f : Nat) (w : World) : (Instr.index 40 (H6 a b c d e f) (.int .i64 2)).run Try.prog w = .ok (.int .i64 (c : Int)) w := by kernel_rfl
theorem idx3 (a b c d e f : Nat) (w : World) : (Instr.index 40 (H6 a b c d e f) (.int .i64 3)).run Try.prog w = .ok (.int .i64 (d : Int)) w := by kernel_rfl
theorem idx4 (a b c d e f : Nat) (w : World) : (Instr.index 40 (H6 a b c d e f) (.int .i64 4)).run Try.prog w = .ok (.int .i64 (e : Int)) w := by kernel_rfl
theorem idx5 (a b c d e f : Nat) (w : World) : (Instr.index 40 (H6 a b c d e f) (.int .i64 5)).run Try.prog w = .ok (.int .i64 (f : Int)) w := by kernel_rfl
theorem idxh (a b c d e f k : Nat) (hk : k < 6) (w : World) : (Instr.index 40 (H6 a b c d e f) (.int .i64 (k : Int))).run Try.prog w = .ok (.int .i64 ((gat [a, b, c, d, e, f] k : Nat) : Int)) w := by
  rcases (show k = 0 ∨ k = 1 ∨ k = 2 ∨ k = 3 ∨ k = 4 ∨ k = 5 by omega) with rfl | rfl | rfl | rfl | rfl | rfl
  · exact idx0 ..
  · exact idx1 ..
  · exact idx2 ..
  · exact idx3 ..
  · exact idx4 ..
  · exact idx5 ..

theorem gat_set_le {l : List Nat} {k v m : Nat} (h : ∀ j, gat l j ≤ m) (hv : v ≤ m) (j : Nat) : gat (l.set k v) j ≤ m := by
  have hj := h j
  unfold gat at hj ⊢
  rw [List.getD_eq_getElem?_getD] at hj ⊢
  rw [List.getElem?_set]
  split
  · split
    · exact hv
    · exact Nat.zero_le _
  · exact hj
theorem six {l : List Nat} (h : l.length = 6) : ∃ a b c d e f, l = [a, b, c, d, e, f] := by
  match l, h with
  | [a, b, c, d, e, f], _ => exact ⟨a, b, c, d, e, f, rfl⟩
theorem six_at {l : List Nat} {a b c d e f : Nat} (h : l = [a, b, c, d, e, f]) (k : Nat) (hk : k < 6) : [Value.int .i64 (a : Int), .int .i64 (b : Int), .int .i64 (c : Int), .int .i64 (d : Int), .int .i64 (e : Int), .int .i64 (f : Int)][k]? = some (.int .i64 ((gat l k : Nat) : Int)) := by
  subst h
  rcases (show k = 0 ∨ k = 1 ∨ k = 2 ∨ k = 3 ∨ k = 4 ∨ k = 5 by omega) with rfl | rfl | rfl | rfl | rfl | rfl <;> rfl
theorem six_get {l : List Nat} {a b c d e f : Nat} (h : l = [a, b, c, d, e, f]) (k : Nat) (hk : k < 6) : ∀ h : k < [Value.int .i64 (a : Int), .int .i64 (b : Int), .int .i64 (c : Int), .int .i64 (d : Int), .int .i64 (e : Int), .int .i64 (f : Int)].length, [Value.int .i64 (a : Int), .int .i64 (b : Int), .int .i64 (c : Int), .int .i64 (d : Int), .int .i64 (e : Int), .int .i64 (f : Int)][k]'h = .int .i64 ((gat l k : Nat) : Int) :=
  fun hh => Option.some.inj ((List.getElem?_eq_getElem hh).symm.trans (six_at h k hk))
theorem six_set {l l1 : List Nat} {a b c d e f a1 b1 c1 d1 e1 f1 k v : Nat} {vI : Int} (h : l = [a, b, c, d, e, f]) (h1 : l1 = l.set k v) (h2 : l1 = [a1, b1, c1, d1, e1, f1]) (hv : vI = v) :
    [Value.int .i64 (a : Int), .int .i64 (b : Int), .int .i64 (c : Int), .int .i64 (d : Int), .int .i64 (e : Int), .int .i64 (f : Int)].set k (.int .i64 vI) = [Value.int .i64 (a1 : Int), .int .i64 (b1 : Int), .int .i64 (c1 : Int), .int .i64 (d1 : Int), .int .i64 (e1 : Int), .int .i64 (f1 : Int)] := by
  have E1 : hcells l = [Value.int .i64 (a : Int), .int .i64 (b : Int), .int .i64 (c : Int), .int .i64 (d : Int), .int .i64 (e : Int), .int .i64 (f : Int)] := by rw [h]; rfl
  have E2 : hcells l1 = [Value.int .i64 (a1 : Int), .int .i64 (b1 : Int), .int .i64 (c1 : Int), .int .i64 (d1 : Int), .int .i64 (e1 : Int), .int .i64 (f1 : Int)] := by rw [h2]; rfl
  rw [← E1, ← E2, h1, hv]
  unfold hcells
  rw [List.map_set]

set_option maxRecDepth 20000 in
set_option maxHeartbeats 4000000 in
theorem moved_any (a b c d e f p : Nat) (w : World) (hp1 : 1 ≤ p) (hp2 : p ≤ 6) (h3 : a + b + c + d + e + f ≤ 3) (hne : gempty [a, b, c, d, e, f] = false) :
    Calls Try.prog 32 #[H6 a b c d e f, .int .i64 p] w fun r w' => ∃ q n cc, r = .returned (.slice q n cc) ∧ n = (gmoved [a, b, c, d, e, f] p).length ∧ OwnC 40 6 w.heap.size w' q n cc (hflat (gmoved [a, b, c, d, e, f] p)) ∧ Below w.heap.size w w' := by
  obtain ⟨l, hl⟩ : ∃ l, l = [a, b, c, d, e, f] := ⟨_, rfl⟩
  rw [← hl]
  have e0 := heap_alloc_new w (.cells #[.int .i64 (a : Int), .int .i64 (b : Int), .int .i64 (c : Int), .int .i64 (d : Int), .int .i64 (e : Int), .int .i64 (f : Int)] 40)
  have hB0 := Lib.hid ((Below.refl w.heap.size w).alloc (Nat.le_refl _) (.cells #[.int .i64 (a : Int), .int .i64 (b : Int), .int .i64 (c : Int), .int .i64 (d : Int), .int .i64 (e : Int), .int .i64 (f : Int)] 40))
  have hsz0 : w.heap.size < (w.alloc (.cells #[.int .i64 (a : Int), .int .i64 (b : Int), .int .i64 (c : Int), .int .i64 (d : Int), .int .i64 (e : Int), .int .i64 (f : Int)] 40)).heap.size := by simp
  have HI : Hid (∀ k : Nat, k < 6 → ∀ W, (Instr.index 40 (H6 a b c d e f) (.int .i64 (k : Int))).run Try.prog W = .ok (.int .i64 ((gat l k : Nat) : Int)) W) := fun k hk W => by rw [hl]; exact idxh a b c d e f k hk W
  have hc6 : Hid (∀ k : Nat, k < 6 → [Value.int .i64 (a : Int), .int .i64 (b : Int), .int .i64 (c : Int), .int .i64 (d : Int), .int .i64 (e : Int), .int .i64 (f : Int)][k]? = some (.int .i64 ((gat l k : Nat) : Int))) := fun k hk => by
    rw [hl]
    rcases (show k = 0 ∨ k = 1 ∨ k = 2 ∨ k = 3 ∨ k = 4 ∨ k = 5 by omega) with rfl | rfl | rfl | rfl | rfl | rfl <;> rfl
  have hm3 : Hid (∀ k, gat l k ≤ 3) := fun k => by
    rw [hl]
    by_cases hk : k < 6
    · rcases (show k = 0 ∨ k = 1 ∨ k = 2 ∨ k = 3 ∨ k = 4 ∨ k = 5 by omega) with rfl | rfl | rfl | rfl | rfl | rfl <;> simp [gat] <;> omega
    · rw [gat, List.getD, List.getElem?_eq_none (by simp; omega)]; simp
  have hfp : Hid (gfar l 6 ≠ 0) := fun h => by
    rw [hl] at h
    rw [gfar_pos rfl h] at hne
    cases hne
  replace hl := Lib.hid hl; replace h3 := Lib.hid h3; replace e0 := Lib.hid e0
  go_enter Try.func32, Try.ntmps32
  go_wp2_with fail
  generalize w.alloc (.cells #[.int .i64 (a : Int), .int .i64 (b : Int), .int .i64 (c : Int), .int .i64 (d : Int), .int .i64 (e : Int), .int .i64 (f : Int)] 40) = W at *
  go_loopg [6] 6 (fun gk fv W' => ∃ k : Nat, k ≤ 6 ∧ gk = k ∧ fv = .int .i64 ((k : Int) - 1) ∧ W' = W ∧ Hid (gfar l k = gfar l 6))
  case atStart => exact ⟨6, by omega, by omega, by go_num, rfl, Lib.hid rfl⟩
  case round => 
    obtain ⟨k, hk, hgk, rfl, rfl, hf⟩ := hrel
    obtain ⟨W1, rfl⟩ : ∃ W1 : World, W1 = wr := ⟨_, rfl⟩
    replace hgk := Lib.hid hgk
    by_cases hk0 : k = 0
    · subst hk0
      exact absurd hf.out (Ne.symm hfp.out)
    · obtain ⟨j, rfl⟩ : ∃ j, k = j + 1 := ⟨k - 1, by omega⟩
      have ej : ((j + 1 : Nat) : Int) - 1 = (j : Int) := by omega
      have d0 : W1.cell? ⟨w.heap.size, j, none⟩ = some (.int .i64 ((gat l j : Nat) : Int)) := by rw [wcell (cs := [_, _, _, _, _, _]) e0.out j]; exact hc6.out j (by omega)
      rw [ej]
      by_cases hz : gat l j = 0
      · have hf' : Hid (gfar l j = gfar l 6) := by rw [← hf.out]; show _ = _; rw [gfar, hz]; rfl
        rw [hz] at d0
        go_wp2_with fail
        have hgk := hgk.out
        go_roundg j
        case measure => omega
        case rel => exact ⟨j, by omega, rfl, by go_num, rfl, hf'⟩
      · have hf' : Hid (gfar l 6 = j + 1) := by
          rw [← hf.out]; show _ = _; rw [gfar]
          have : Nat.beq (gat l j) 0 = false := by
            cases h : Nat.beq (gat l j) 0 with
            | false => rfl
            | true => exact absurd (Nat.eq_of_beq_eq_true h) hz
          rw [this]; rfl
        have hzz : (((gat l j : Nat) : Int) == 0) = false := by simp; omega
        have d1 : W1.cell? ⟨w.heap.size, 0, none⟩ = some (.int .i64 (a : Int)) := wcell (cs := [_, _, _, _, _, _]) e0.out 0
        have d2 : W1.cell? ⟨w.heap.size, 1, none⟩ = some (.int .i64 (b : Int)) := wcell (cs := [_, _, _, _, _, _]) e0.out 1
        have d3 : W1.cell? ⟨w.heap.size, 2, none⟩ = some (.int .i64 (c : Int)) := wcell (cs := [_, _, _, _, _, _]) e0.out 2
        have d4 : W1.cell? ⟨w.heap.size, 3, none⟩ = some (.int .i64 (d : Int)) := wcell (cs := [_, _, _, _, _, _]) e0.out 3
        have d5 : W1.cell? ⟨w.heap.size, 4, none⟩ = some (.int .i64 (e : Int)) := wcell (cs := [_, _, _, _, _, _]) e0.out 4
        have d6 : W1.cell? ⟨w.heap.size, 5, none⟩ = some (.int .i64 (f : Int)) := wcell (cs := [_, _, _, _, _, _]) e0.out 5
        clear hf
        go_wp2_with fail
        clear d0 d1 d2 d3 d4 d5 d6
        go_loopg [5, 22] 6 (fun gk lv kv W' => ∃ (k n cc : Nat) (q : Option Addr), k ≤ 6 ∧ gk = 6 - k ∧ kv = .int .i64 k ∧ lv = .slice q n cc ∧ OwnC 40 6 W1.heap.size W' q n cc (hflat (gmovedN l p k)) ∧ n = (gmovedN l p k).length ∧ Below W1.heap.size W1 W' ∧ n ≤ k)
        case atStart => exact ⟨0, 0, 0, none, by omega, by omega, rfl, rfl, OwnC.nil _ _ _ _, rfl, Below.refl _ _, by omega⟩
        case round =>
          obtain ⟨k, n, cc, q, hk6, hgk, rfl, rfl, hO, hn, hBr, hnk⟩ := hrel
          obtain ⟨W2, rfl⟩ : ∃ W2 : World, W2 = wr := ⟨_, rfl⟩
          replace hgk := Lib.hid hgk
          by_cases hlt : k < 6
          · have hix := HI.out k hlt
            have er := (hBr.block _ hsz0).trans e0.out
            have d1 : W2.cell? ⟨w.heap.size, 0, none⟩ = some (.int .i64 (a : Int)) := wcell (cs := [_, _, _, _, _, _]) er 0
            have d2 : W2.cell? ⟨w.heap.size, 1, none⟩ = some (.int .i64 (b : Int)) := wcell (cs := [_, _, _, _, _, _]) er 1
            have d3 : W2.cell? ⟨w.heap.size, 2, none⟩ = some (.int .i64 (c : Int)) := wcell (cs := [_, _, _, _, _, _]) er 2
            have d4 : W2.cell? ⟨w.heap.size, 3, none⟩ = some (.int .i64 (d : Int)) := wcell (cs := [_, _, _, _, _, _]) er 3
            have d5 : W2.cell? ⟨w.heap.size, 4, none⟩ = some (.int .i64 (e : Int)) := wcell (cs := [_, _, _, _, _, _]) er 4
            have d6 : W2.cell? ⟨w.heap.size, 5, none⟩ = some (.int .i64 (f : Int)) := wcell (cs := [_, _, _, _, _, _]) er 5
            have hs0 : gmovedN l p (k + 1) = gmovedN l p k ++ if gok l p k then [gstep l p k] else [] := by
              rw [gmovedN, gmovedN, List.range_succ, List.filter_append, List.map_append]
              congr 1
              by_cases h : gok l p k <;> simp [h]
            replace hs0 := Lib.hid hs0; replace hO := Lib.hid hO; replace hn := Lib.hid hn; replace hBr := Lib.hid hBr; replace er := Lib.hid er
            by_cases hz2 : gat l k = 0
            · have hok : gok l p k = false := by unfold gok; rw [hz2]; rfl
              have hs1 : Hid (gmovedN l p (k + 1) = gmovedN l p k) := by show _ = _; rw [hs0.out, hok]; simp
              rw [hz2] at hix
              clear hok hz2
              go_wp2_with fail
              have hgk := hgk.out
              go_roundg (6 - (k + 1))
              case measure => omega
              case rel => exact ⟨k + 1, n, cc, q, by omega, rfl, by go_num, rfl, by rw [hs1.out]; exact hO.out, by rw [hs1.out]; exact hn.out, hBr.out, by omega⟩
            · have hzb : Nat.beq (gat l k) 0 = false := by
                cases h : Nat.beq (gat l k) 0 with
                | false => rfl
                | true => exact absurd (Nat.eq_of_beq_eq_true h) hz2
              have hzi : (((gat l k : Nat) : Int) == 0) = false := by simp; omega
              by_cases hlow : k + 1 < p ∧ k ≠ j
              · have hok : gok l p k = false := by
                  unfold gok
                  rw [hf'.out, hzb]
                  have : Nat.beq (k + 1) (j + 1) = false := by
                    cases h : Nat.beq (k + 1) (j + 1) with
                    | false => rfl
                    | true => exact absurd (Nat.eq_of_beq_eq_true h) (by omega)
                  rw [this]
                  simp [hlow.1]
                have hs1 : Hid (gmovedN l p (k + 1) = gmovedN l p k) := by show _ = _; rw [hs0.out, hok]; simp
                have h1 : (k : Int) - (p : Int) < -1 := by omega
                have h2 : ((k : Int) != (j : Int)) = true := by simp; omega
                clear hok hz2 hzb hlow
                go_wp2_with fail
                have hgk := hgk.out
                go_roundg (6 - (k + 1))
                case measure => omega
                case rel => exact ⟨k + 1, n, cc, q, by omega, rfl, by go_num, rfl, by rw [hs1.out]; exact hO.out, by rw [hs1.out]; exact hn.out, hBr.out, by omega⟩
              · have hok : gok l p k = true := by
                  unfold gok
                  rw [hf'.out, hzb]
                  by_cases h : k + 1 < p
                  · have : k = j := by omega
                    subst this
                    simp
                  · simp [h]
                have hs1 : Hid (gmovedN l p (k + 1) = gmovedN l p k ++ [gstep l p k]) := by show _ = _; rw [hs0.out, hok]; simp
                have hv : Hid ((decide ((k : Int) - (p : Int) < -1) && (k : Int) != (j : Int)) = false) := by
                  show _ = _
                  by_cases h : k + 1 < p
                  · have : k = j := by omega
                    subst this
                    simp
                  · have : ¬ ((k : Int) - (p : Int) < -1) := by omega
                    simp [this]
                have hq := six_get hl.out k hlt
                have hm := hm3.out k
                obtain ⟨l1, hl1⟩ : ∃ l1, l1 = l.set k (gat l k - 1) := ⟨_, rfl⟩
                have hll : l.length = 6 := by rw [hl.out]; rfl
                obtain ⟨a1, b1, c1, d1', e1, f1, h1⟩ := six (l := l1) (by rw [hl1, List.length_set]; exact hll)
                have hq1 := six_set hl.out hl1 h1 (vI := ((gat l k : Nat) : Int) - 1) (by omega)
                have hgs : gstep l p k = if p ≤ k then l1.set (k - p) (gat l1 (k - p) + 1) else l1 := by rw [hl1]; rfl
                clear hok hzb
                have hz1 : W1.heap.size ≤ W2.heap.size := hBr.out.size
                by_cases hpk : p ≤ k
                · have hpk' : ¬ ((k : Int) - (p : Int) < -1) := by omega
                  rw [if_pos hpk] at hgs
                  have hkp6 : k - p < 6 := by omega
                  have hq2 := six_get h1 (k - p) (by omega)
                  have hm1 : gat l1 (k - p) ≤ 3 := by
                    rw [hl1]
                    exact gat_set_le (fun j => hm3.out j) (by omega) _
                  obtain ⟨l2, hl2⟩ : ∃ l2, l2 = l1.set (k - p) (gat l1 (k - p) + 1) := ⟨_, rfl⟩
                  obtain ⟨a2, b2, c2, d2', e2, f2, h2⟩ := six (l := l2) (by rw [hl2, List.length_set, hl1, List.length_set]; exact hll)
                  have hq3 := six_set h1 hl2 h2 (vI := ((gat l1 (k - p) : Nat) : Int) + 1) (by omega)
                  rw [← hl2] at hgs
                  have hs2 : Hid (hflat (gmovedN l p (k + 1)) = hflat (gmovedN l p k) ++ #[Value.int .i64 (a2 : Int), .int .i64 (b2 : Int), .int .i64 (c2 : Int), .int .i64 (d2' : Int), .int .i64 (e2 : Int), .int .i64 (f2 : Int)].toList) := by
                    show _ = _; rw [hs1.out, hgs, h2, hflat, List.flatMap_append]; rfl
                  have hs3 : Hid (n + 1 = (gmovedN l p (k + 1)).length) := by show _ = _; rw [hs1.out, List.length_append, ← hn.out]; rfl
                  have ekp : (k : Int) - (p : Int) = ((k - p : Nat) : Int) := by omega
                  replace hl1 := Lib.hid hl1; replace hl2 := Lib.hid hl2; replace h1 := Lib.hid h1; replace h2 := Lib.hid h2; replace hgs := Lib.hid hgs; replace hll := Lib.hid hll
                  generalize hg1 : gat l1 (k - p) = G1 at *
                  replace hg1 := Lib.hid hg1
                  go_wp2_with (at_builtin; refine wp_appendVs homeG (W2.alloc (.cells #[.int .i64 (a2 : Int), .int .i64 (b2 : Int), .int .i64 (c2 : Int), .int .i64 (d2' : Int), .int .i64 (e2 : Int), .int .i64 (f2 : Int)] 40)) rfl (.tmp 53) (.tmp 55) rfl W1.heap.size q n cc _ rfl (hO.out.alloc _) #[.int .i64 (a2 : Int), .int .i64 (b2 : Int), .int .i64 (c2 : Int), .int .i64 (d2' : Int), .int .i64 (e2 : Int), .int .i64 (f2 : Int)] rfl rfl _ ?_ rfl ?_ ?_ ?_; (simp); (omega); (simp; omega); intro p6 c6 w6 hO7 hg6 hr6 hz6)
                  have hB7 := Lib.hid ((hBr.out.alloc hBr.out.size (.cells #[.int .i64 (a2 : Int), .int .i64 (b2 : Int), .int .i64 (c2 : Int), .int .i64 (d2' : Int), .int .i64 (e2 : Int), .int .i64 (f2 : Int)] 40)).grown hg6 (by simp; omega) (fun x hx => by
                    cases q with
                    | none => cases hx
                    | some y => simp at hx; subst hx; exact (hO.out.block y rfl).1))
                  rw [← hs2.out] at hO7
                  replace hO7 := Lib.hid hO7
                  clear hg6 hr6 hz6
                  go_wp2_with fail
                  have hgk := hgk.out
                  go_roundg (6 - (k + 1))
                  case measure => omega
                  case rel => exact ⟨k + 1, n + 1, c6, p6, by omega, rfl, by go_num, rfl, hO7.out, hs3.out, hB7.out, by omega⟩
                · rw [if_neg hpk] at hgs
                  have hs2 : Hid (hflat (gmovedN l p (k + 1)) = hflat (gmovedN l p k) ++ #[Value.int .i64 (a1 : Int), .int .i64 (b1 : Int), .int .i64 (c1 : Int), .int .i64 (d1' : Int), .int .i64 (e1 : Int), .int .i64 (f1 : Int)].toList) := by
                    show _ = _; rw [hs1.out, hgs, h1, hflat, List.flatMap_append]; rfl
                  have hs3 : Hid (n + 1 = (gmovedN l p (k + 1)).length) := by show _ = _; rw [hs1.out, List.length_append, ← hn.out]; rfl
                  replace hl1 := Lib.hid hl1; replace h1 := Lib.hid h1; replace hgs := Lib.hid hgs; replace hll := Lib.hid hll
                  have hto : ¬ (0 : Int) ≤ (k : Int) - (p : Int) := by omega
                  by_cases hlo : k + 1 < p
                  · have hkj2 : ((k : Int) != (j : Int)) = false := by simp; omega
                    have hlo' : (k : Int) - (p : Int) < -1 := by omega
                    clear hlow
                    go_wp2_with (at_builtin; refine wp_appendVs homeG (W2.alloc (.cells #[.int .i64 (a1 : Int), .int .i64 (b1 : Int), .int .i64 (c1 : Int), .int .i64 (d1' : Int), .int .i64 (e1 : Int), .int .i64 (f1 : Int)] 40)) rfl (.tmp 53) (.tmp 55) rfl W1.heap.size q n cc _ rfl (hO.out.alloc _) #[.int .i64 (a1 : Int), .int .i64 (b1 : Int), .int .i64 (c1 : Int), .int .i64 (d1' : Int), .int .i64 (e1 : Int), .int .i64 (f1 : Int)] rfl rfl _ ?_ rfl ?_ ?_ ?_; (simp); (omega); (simp; omega); intro p6 c6 w6 hO7 hg6 hr6 hz6)
                    have hB7 := Lib.hid ((hBr.out.alloc hBr.out.size (.cells #[.int .i64 (a1 : Int), .int .i64 (b1 : Int), .int .i64 (c1 : Int), .int .i64 (d1' : Int), .int .i64 (e1 : Int), .int .i64 (f1 : Int)] 40)).grown hg6 (by simp; omega) (fun x hx => by
                      cases q with
                      | none => cases hx
                      | some y => simp at hx; subst hx; exact (hO.out.block y rfl).1))
                    rw [← hs2.out] at hO7
                    replace hO7 := Lib.hid hO7
                    clear hg6 hr6 hz6
                    go_wp2_with fail
                    have hgk := hgk.out
                    go_roundg (6 - (k + 1))
                    case measure => omega
                    case rel => exact ⟨k + 1, n + 1, c6, p6, by omega, rfl, by go_num, rfl, hO7.out, hs3.out, hB7.out, by omega⟩
                  · have hlo' : ¬ (k : Int) - (p : Int) < -1 := by omega
                    clear hlow
                    go_wp2_with (at_builtin; refine wp_appendVs homeG (W2.alloc (.cells #[.int .i64 (a1 : Int), .int .i64 (b1 : Int), .int .i64 (c1 : Int), .int .i64 (d1' : Int), .int .i64 (e1 : Int), .int .i64 (f1 : Int)] 40)) rfl (.tmp 53) (.tmp 55) rfl W1.heap.size q n cc _ rfl (hO.out.alloc _) #[.int .i64 (a1 : Int), .int .i64 (b1 : Int), .int .i64 (c1 : Int), .int .i64 (d1' : Int), .int .i64 (e1 : Int), .int .i64 (f1 : Int)] rfl rfl _ ?_ rfl ?_ ?_ ?_; (simp); (omega); (simp; omega); intro p6 c6 w6 hO7 hg6 hr6 hz6)
                    have hB7 := Lib.hid ((hBr.out.alloc hBr.out.size (.cells #[.int .i64 (a1 : Int), .int .i64 (b1 : Int), .int .i64 (c1 : Int), .int .i64 (d1' : Int), .int .i64 (e1 : Int), .int .i64 (f1 : Int)] 40)).grown hg6 (by simp; omega) (fun x hx => by
                      cases q with
                      | none => cases hx
                      | some y => simp at hx; subst hx; exact (hO.out.block y rfl).1))
                    rw [← hs2.out] at hO7
                    replace hO7 := Lib.hid hO7
                    clear hg6 hr6 hz6
                    go_wp2_with fail
                    have hgk := hgk.out
                    go_roundg (6 - (k + 1))
                    case measure => omega
                    case rel => exact ⟨k + 1, n + 1, c6, p6, by omega, rfl, by go_num, rfl, hO7.out, hs3.out, hB7.out, by omega⟩
          · have hk6' : k = 6 := by omega
            subst hk6'
            have hBB := Lib.hid (hB0.out.trans (hBr.mono hB0.out.size))
            have hOB := Lib.hid (hO.mono hB0.out.size)
            replace hn := Lib.hid hn
            clear hO hBr
            go_wp2_with fail
            go_ret
            exact ⟨q, n, cc, rfl, hn.out, hOB.out, hBB.out⟩
end Go.Proofs.Ytgbollodgeemlaa
