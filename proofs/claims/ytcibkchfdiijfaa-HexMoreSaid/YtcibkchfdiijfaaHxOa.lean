import Derived.Test.YtcibkchfdiijfaaHxX
import Derived.Test.YtcibkchfdiijfaaHxGr
/- gameroomkeep.HexOne walks: on a full board one has joined; no conditions beyond numbers that an int holds. -/
namespace Go.Proofs.Ytcibkchfdiijfaa
open Go.RowKit Go.Shelf

def incK (G : List Nat) (k : Nat) : List Nat := (G.take k).map (· + 1) ++ G.drop k
theorem incK_len (G : List Nat) (k : Nat) : (incK G k).length = G.length := by unfold incK; simp; omega
theorem incK_st {G : List Nat} {k : Nat} (h : k < G.length) : st (incK G k) k = st G k := by
  unfold incK st
  rw [List.getElem?_append_right (by simp; omega)]
  simp [Nat.min_eq_left (Nat.le_of_lt h)]
theorem incK_succ {G : List Nat} {k : Nat} (h : k < G.length) : incK G (k + 1) = (incK G k).set k (st G k + 1) := by
  unfold incK
  have hl : ((G.take k).map (· + 1)).length = k := by simp; omega
  rw [List.set_append_right _ _ (by omega), List.drop_eq_getElem_cons h, hl, Nat.sub_self, List.set_cons_zero, List.take_add_one, List.getElem?_eq_getElem h, List.map_append, List.append_assoc]
  have e : st G k = G[k] := by simp [st, h]
  rw [e]; rfl
theorem incK_all (G : List Nat) : incK G G.length = G.map (· + 1) := by unfold incK; simp
theorem st_map {G : List Nat} {j : Nat} (h : j < G.length) : st (G.map (· + 1)) j = st G j + 1 := by unfold st; simp [h]
theorem st_out {G : List Nat} {j : Nat} (h : G.length ≤ j) : st G j = 0 := by unfold st; rw [List.getElem?_eq_none h]; rfl

set_option maxRecDepth 20000 in
set_option maxHeartbeats 2000000 in
theorem one_law (ni : Int) (rq : Option Addr) (rl rcap : Nat) (xs : List Int) (w : World) (hn1 : -9223372036854775808 ≤ ni) (hn2 : ni ≤ 9223372036854775807)
    (hrl : rl ≤ 9223372036854775807) (hxb : ∀ j, j < rl → -9223372036854775808 ≤ xs[j]?.getD 0 ∧ xs[j]?.getD 0 ≤ 9223372036854775807) (hx : IntsIn w rq rl xs) :
    Calls Try.prog 4 #[.int .i64 ni, .slice rq rl rcap] w fun e w' => e = .returned (.bool true) ∧ Below w.heap.size w w' := by
  have HP := Lib.hid (picked_any ni 7 w hn1 hn2 (by omega) (by omega) 7 rfl)
  have hpl := pick_lt ni 7 (by omega)
  obtain ⟨n, hn⟩ : ∃ n, n = 1 + pick ni 7 := ⟨_, rfl⟩
  have hn1' : 1 ≤ n := by omega
  have hn2' : n ≤ 7 := by omega
  have hw1 : (1 : Int) + (pick ni 7 : Nat) = (n : Int) := by rw [hn]; push_cast; rfl
  obtain ⟨N, hN⟩ : ∃ N, N = n * n := ⟨_, rfl⟩
  have hN49 : N ≤ 49 := by rw [hN]; exact Nat.mul_le_mul hn2' hn2'
  have hN1 : 1 ≤ N := by rw [hN]; exact Nat.mul_le_mul hn1' hn1'
  have HG := Lib.hid (gridr_any n n w (by omega) (by omega) N hN rq rl rcap xs 1 (by omega) hrl hxb hx)
  rw [show ((1 : Nat) : Int) = 1 from rfl] at HG
  generalize pick ni 7 = pk at *
  obtain ⟨G, hG⟩ : ∃ G, G = rawG xs 1 N := ⟨_, rfl⟩
  have hGl : G.length = N := by rw [hG, rawG_len]
  have hG1 : ∀ x ∈ G, x ≤ 1 := by rw [hG]; exact rawG_le xs 1 N
  rw [← hG] at HG
  have hwn : IntKind.i64.wrap (n : Int) = n := IntWalk.i64_in _ (by omega)
  have hst : ∀ j, st (G.map (· + 1)) j ≤ 2 := fun j => by
    by_cases h : j < G.length
    · rw [st_map h]
      have := hG1 _ (st_mem h)
      omega
    · rw [st_out (by simp; omega)]; omega
  have hfull : ∀ a, a < n * n → st (G.map (· + 1)) a = 1 ∨ st (G.map (· + 1)) a = 2 := fun a ha => by
    rw [← hN, ← hGl] at ha
    rw [st_map ha]
    have := hG1 _ (st_mem ha)
    omega
  replace hn := Lib.hid hn; replace hG := Lib.hid hG; replace hGl := Lib.hid hGl; replace hG1 := Lib.hid hG1; replace hst := Lib.hid hst; replace hfull := Lib.hid hfull; replace hN := Lib.hid hN
  clear hx hxb
  go_enter Try.func4, Try.ntmps4
  go_wp2_with (first
    | (go_at_call 8; (with_reducible refine HP.out.mono ?_); rintro e w' ⟨rfl, rfl⟩)
    | (go_at_call 7; (with_reducible refine HG.out.mono ?_); rintro e W1 ⟨q, c, rfl, hO, hB⟩; replace hO := Lib.hid hO; replace hB := Lib.hid hB))
  have hOl := hO.out.len
  obtain ⟨g, rfl, hgB, hgl, _⟩ := hO.out.where (by omega)
  have hbx := heap_alloc_new W1 (.cells #[.int .i64 (n : Int), .int .i64 (n : Int), .slice (some ⟨g, 0, none⟩) N c] 24)
  have hB1 : Below w.heap.size w (W1.alloc (.cells #[.int .i64 (n : Int), .int .i64 (n : Int), .slice (some ⟨g, 0, none⟩) N c] 24)) := hB.out.alloc hB.out.size _
  have hO1 := hO.out.alloc (.cells #[.int .i64 (n : Int), .int .i64 (n : Int), .slice (some ⟨g, 0, none⟩) N c] 24)
  obtain ⟨Gb, hGb⟩ : ∃ Gb, Gb = W1.heap.size := ⟨_, rfl⟩
  rw [← hGb] at hbx hgl ⊢
  have hGbw : w.heap.size ≤ Gb := by rw [hGb]; exact hB.out.size
  replace hbx := Lib.hid hbx; replace hB1 := Lib.hid hB1; replace hO1 := Lib.hid hO1; replace hGb := Lib.hid hGb; replace hOl := Lib.hid hOl
  go_loopg [7] N (fun gk iv W => ∃ k : Nat, k ≤ N ∧ gk = N - k ∧ iv = .int .i64 (k : Int) ∧ Hid (Own 3 w.heap.size W (some ⟨g, 0, none⟩) N c (asI (incK G k))) ∧ Hid (W.heap[Gb]? = some (.cells #[.int .i64 (n : Int), .int .i64 (n : Int), .slice (some ⟨g, 0, none⟩) N c] 24 (0, 0))) ∧ Hid (Below w.heap.size w W))
  case atStart => exact ⟨0, Nat.zero_le _, rfl, rfl, by show Own _ _ _ _ _ _ _; simpa [incK] using hO1.out, hbx.out, hB1.out⟩
  case round =>
    clear hbx hB1 hO1
    obtain ⟨k, hk, hgk, rfl, hOk, hbk, hBk⟩ := hrel
    obtain ⟨W, rfl⟩ : ∃ W : World, W = wr := ⟨_, rfl⟩
    replace hgk := Lib.hid hgk
    have d2 := wcell (cs := [_, _, _]) hbk.out 2
    simp only [List.getElem?_cons_zero, List.getElem?_cons_succ] at d2
    by_cases hlt : k < N
    · have ck := hOk.out.cell hlt
      have fk := hOk.out.free k
      rw [asI_at, incK_st (by rw [hGl.out]; exact hlt)] at ck
      have hx1 : st G k ≤ 1 := hG1.out _ (st_mem (by rw [hGl.out]; exact hlt))
      have hset := hOk.out.set k ((st G k + 1 : Nat) : Int)
      rw [← asI_set, ← incK_succ (by rw [hGl.out]; exact hlt)] at hset
      have ecast : ((st G k + 1 : Nat) : Int) = (st G k : Int) + 1 := by push_cast; rfl
      rw [ecast] at hset
      have hb2 : Hid ((W.setCell ⟨g, k, none⟩ (.int .i64 ((st G k : Int) + 1))).heap[Gb]? = some (.cells #[.int .i64 (n : Int), .int .i64 (n : Int), .slice (some ⟨g, 0, none⟩) N c] 24 (0, 0))) := (Below.heap_setCell W ⟨g, k, none⟩ _ Gb (by simp; omega)).trans hbk.out
      have hB2 : Hid (Below w.heap.size w (W.setCell ⟨g, k, none⟩ (.int .i64 ((st G k : Int) + 1)))) := hBk.out.setCell (p := ⟨g, k, none⟩) hgB _
      generalize st G k = x at *
      replace hset := Lib.hid hset; replace ecast := Lib.hid ecast
      go_wp2_with fail
      have hgk := hgk.out
      go_roundg (N - (k + 1))
      case measure => omega
      case rel => exact ⟨k + 1, by omega, rfl, by go_num, hset, hb2, hB2⟩
    · obtain rfl : k = N := by omega
      have hall : incK G k = G.map (· + 1) := by have := incK_all G; rwa [hGl.out] at this
      rw [hall] at hOk
      have hsl : (G.map (· + 1)).length = k := by simp; exact hGl.out
      have hin := hOk.out.in
      have d0 := wcell (cs := [_, _, _]) hbk.out 0
      have d1 := wcell (cs := [_, _, _]) hbk.out 1
      simp only [List.getElem?_cons_zero, List.getElem?_cons_succ] at d0 d1
      have hGbl := lt_of_heap hbk.out
      have kp : ∀ W2 : World, Below W.heap.size W W2 → W2.cell? ⟨Gb, 0, none⟩ = some (.int .i64 (n : Int)) ∧ W2.cell? ⟨Gb, 1, none⟩ = some (.int .i64 (n : Int)) ∧ W2.cell? ⟨Gb, 2, none⟩ = some (.slice (some ⟨g, 0, none⟩) k c) := fun W2 h => ⟨(h.cell (p := ⟨Gb, 0, none⟩) hGbl).trans d0, (h.cell (p := ⟨Gb, 1, none⟩) hGbl).trans d1, (h.cell (p := ⟨Gb, 2, none⟩) hGbl).trans d2⟩
      have HJ := Lib.hid (Joined_yes (some ⟨g, 0, none⟩) n k c (G.map (· + 1)) W hN.out hn1' (by omega) hsl hin hst.out)
      have HS1 : Hid (∀ W2 : World, Below W.heap.size W W2 → Calls Try.prog 11 #[.agg #[.int .i64 (n : Int), .int .i64 (n : Int), .slice (some ⟨g, 0, none⟩) k c], .int .i64 1] W2 fun e w' => ∃ r : Int, e = .returned (.tuple #[.int .i64 r, .int .i64 0]) ∧ ShortI n 1 (G.map (· + 1)) r ∧ r ≤ 200 ∧ Below W2.heap.size W2 w') := fun W2 h => Shortest_yes n k 1 c _ _ W2 hN.out hn1' (by omega) hsl (hin.below h) hst.out (.inl rfl)
      have HS2 : Hid (∀ W2 : World, Below W.heap.size W W2 → Calls Try.prog 11 #[.agg #[.int .i64 (n : Int), .int .i64 (n : Int), .slice (some ⟨g, 0, none⟩) k c], .int .i64 2] W2 fun e w' => ∃ r : Int, e = .returned (.tuple #[.int .i64 r, .int .i64 0]) ∧ ShortI n 2 (G.map (· + 1)) r ∧ r ≤ 200 ∧ Below W2.heap.size W2 w') := fun W2 h => Shortest_yes n k 2 c _ _ W2 hN.out hn1' (by omega) hsl (hin.below h) hst.out (.inr rfl)
      replace kp := Lib.hid kp; replace hin := Lib.hid hin; replace hall := Lib.hid hall; replace hsl := Lib.hid hsl
      go_upto_region 10 with (first
        | (go_at_call 10; (with_reducible refine HJ.out.mono ?_); rintro e W2 ⟨j, p, l, cc, rfl, hJI, hjl, hl4, hBj⟩; obtain ⟨e0, e1, e2⟩ := kp.out W2 hBj; replace hBj := Lib.hid hBj; replace hJI := Lib.hid hJI; replace hjl := Lib.hid hjl)
        | (go_at_call 11; first
            | ((with_reducible refine (HS1.out _ hBj.out).mono ?_); rintro e W3 ⟨r1, rfl, hr1, _, hBr⟩; have hBr1 := hBj.out.trans (hBr.mono hBj.out.size); obtain ⟨e0', e1', e2'⟩ := kp.out W3 hBr1; replace hBr1 := Lib.hid hBr1; replace hr1 := Lib.hid hr1; replace hBr := Lib.hid hBr)
            | ((with_reducible refine (HS2.out _ hBr1.out).mono ?_); rintro e W4 ⟨r2, rfl, hr2, _, hBr'⟩; have hBr2 := hBr1.out.trans (hBr'.mono hBr1.out.size); replace hBr2 := Lib.hid hBr2; replace hr2 := Lib.hid hr2; replace hBr' := Lib.hid hBr')))
      have hj12 := full_join hn1' hfull.out hJI.out
      have s1 := short_join hn1' hst.out (.inl rfl) hr1.out hJI.out
      have s2 := short_join hn1' hst.out (.inr rfl) hr2.out hJI.out
      have hjn : n ≤ l := hjl.out (by omega)
      have hBend : Hid (Below w.heap.size w W4) := hBk.out.trans (hBr2.out.mono hBk.out.size)
      have dl : decide ((l : Int) < (n : Int)) = false := decide_eq_false (by omega)
      clear HP HG HJ HS1 HS2 kp
      rcases hj12 with rfl | rfl
      · obtain rfl : r1 = 0 := s1.1.2 rfl
        obtain rfl : r2 = -1 := s2.2.2 rfl
        clear s1 s2
        go_wp2_with fail
        go_ret
        exact ⟨rfl, hBend.out⟩
      · obtain rfl : r2 = 0 := s2.1.2 rfl
        obtain rfl : r1 = -1 := s1.2.2 rfl
        clear s1 s2
        go_wp2_with fail
        go_ret
        exact ⟨rfl, hBend.out⟩
end Go.Proofs.Ytcibkchfdiijfaa
