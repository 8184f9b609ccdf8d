/- What the closure of hanoi.Way computes: the moves of mv appended to its row, and the discs put on the peg; conditions: the captured boxes lie as Way lays them (St), up to ten discs. -/
import Derived.Test.YtfjlhghiadoodaaMv
import Derived.Laws.EntriesVeiled
namespace Go.Proofs.Ytfjlhghiadoodaa
open Go.RowKit

/-- the boxes and rows that the closure works on. -/
structure St (w : World) (sb lb bb L : Nat) (p : Option Addr) (n c : Nat) (s : List Nat) (q : Option Addr) (cq : Nat) (l : List (Nat × Nat)) : Prop where
  s0 : w.heap[sb]? = some (.cells #[.slice p n c] 22 (0, 0))
  b0 : w.heap[bb]? = some (.cells #[.func (.func 19) #[] #[.pointer (some ⟨sb, 0, none⟩), .pointer (some ⟨bb, 0, none⟩), .pointer (some ⟨lb, 0, none⟩)]] 47 (0, 0))
  l0 : w.heap[lb]? = some (.cells #[.slice q l.length cq] 38 (0, 0))
  own : Own 3 (sb + 1) w p n c (asI s)
  ownM : OwnM L w q l.length cq l
  lt : L ≤ w.heap.size
  o1 : sb < lb
  o2 : lb < bb
  o3 : bb < L
  hp : ∀ a, p = some a → a.block < lb

theorem St.next {w w' : World} {sb lb bb L : Nat} {p : Option Addr} {n c : Nat} {s : List Nat} {q : Option Addr} {cq : Nat} {l : List (Nat × Nat)} (h : St w sb lb bb L p n c s q cq l)
    {q' : Option Addr} {cq' : Nat} {m : Nat × Nat} (hM : OwnM L w' q' (l.length + 1) cq' (l ++ [m])) (hg : w.grownBy w' (q.map (·.block))) :
    St (w'.setCell ⟨lb, 0, none⟩ (.slice q' (l.length + 1) cq')) sb lb bb L p n c s q' cq' (l ++ [m]) ∧ Below sb w (w'.setCell ⟨lb, 0, none⟩ (.slice q' (l.length + 1) cq')) ∧ w'.heap[lb]? = some (.cells #[.slice q l.length cq] 38 (0, 0)) := by
  obtain ⟨s0, b0, l0, own, ownM, lt, o1, o2, o3, hp⟩ := h
  have hq : ∀ a, q = some a → L ≤ a.block := fun a ha => (World.ownsRow.lt ownM a.block (by rw [ha]; rfl)).1
  have hr : ∀ k, k < L → some k ≠ q.map (·.block) := fun k hk e => by
    cases q with
    | none => cases e
    | some a => have := hq a rfl; simp at e; omega
  have keep : ∀ k, k < L → k ≠ lb → (w'.setCell ⟨lb, 0, none⟩ (.slice q' (l.length + 1) cq')).heap[k]? = w.heap[k]? := fun k hk hne =>
    (Below.heap_setCell w' _ _ k hne).trans (hg.block k (by omega) (hr k hk))
  refine ⟨⟨(keep sb (by omega) (by omega)).trans s0, (keep bb (by omega) (by omega)).trans b0, ?_, own.keep fun a ha => ?_, ?_, ?_, o1, o2, o3, hp⟩, ?_, ?_⟩
  · have := (hg.block lb (by omega) (hr lb (by omega))).trans l0
    simp [World.setCell, Array.getElem?_modify, this]
  · exact keep _ (by have := hp a ha; omega) (by have := hp a ha; omega)
  · have e : (l ++ [m]).length = l.length + 1 := by simp
    rw [e]
    refine World.ownsRow.kept (row := some lb) hM ⟨rfl, rfl, rfl, by simp [World.setCell], fun k _ hne => Below.heap_setCell w' _ _ k (by rintro rfl; exact hne rfl)⟩ ?_
    cases q' with
    | none => left; rfl
    | some a => right; intro e; have := (World.ownsRow.lt hM a.block rfl).1; simp [Value.ownBlock] at e; omega
  · simp [World.setCell]; have := hg.size; omega
  · exact ⟨hg.os, hg.tape, hg.output, by simp [World.setCell]; exact hg.size, fun k hk => keep k (by omega) (by omega)⟩
  · exact (hg.block lb (by omega) (hr lb (by omega))).trans l0
theorem free_of_one {w : World} {b : Nat} {v : Value} {t : TypeId} (h : w.heap[b]? = some (.cells #[v] t (0, 0))) : w.frozen? ⟨b, 0, none⟩ = false := by
  simp [World.frozen?, h]

theorem St.set {w : World} {sb lb bb L : Nat} {g n c : Nat} {s : List Nat} {q : Option Addr} {cq : Nat} {l : List (Nat × Nat)} (h : St w sb lb bb L (some ⟨g, 0, none⟩) n c s q cq l) (i b : Nat) :
    St (w.setCell ⟨g, i, none⟩ (.int .i64 b)) sb lb bb L (some ⟨g, 0, none⟩) n c (s.set i b) q cq l ∧ Below sb w (w.setCell ⟨g, i, none⟩ (.int .i64 b)) := by
  obtain ⟨s0, b0, l0, own, ownM, lt, o1, o2, o3, hp⟩ := h
  have hg := hp _ rfl
  have hg2 := (own.block _ rfl).1
  simp at hg hg2
  have keep : ∀ k, k ≠ g → (w.setCell ⟨g, i, none⟩ (.int .i64 b)).heap[k]? = w.heap[k]? := fun k hk => Below.heap_setCell w _ _ k hk
  refine ⟨⟨(keep _ (by omega)).trans s0, (keep _ (by omega)).trans b0, (keep _ (by omega)).trans l0, ?_, ?_, by simpa [World.setCell] using lt, o1, o2, o3, hp⟩, ⟨rfl, rfl, rfl, by simp [World.setCell], fun k hk => keep k (by omega)⟩⟩
  · rw [asI_set]; exact own.set i b
  · refine World.ownsRow.kept (row := some g) ownM ⟨rfl, rfl, rfl, by simp [World.setCell], fun k _ hne => keep k (by rintro rfl; exact hne rfl)⟩ ?_
    cases q with
    | none => left; rfl
    | some a => right; intro e; have := (World.ownsRow.lt ownM a.block rfl).1; simp [Value.ownBlock] at e; omega

set_option maxHeartbeats 2000000 in
theorem bring_any (sb lb bb L n c : Nat) (p : Option Addr) (hn : n ≤ 10) : ∀ (k : Nat) (s : List Nat) (l : List (Nat × Nat)) (q : Option Addr) (cq : Nat) (pg : Nat) (w : World), k ≤ n → Hid (s.length = n) → Hid (∀ j, st s j < 3) → pg < 3 → l.length + 2 ^ k ≤ 4096 →
    Hid (St w sb lb bb L p n c s q cq l) → ∀ (kI pI : Int), Hid (kI = k) → Hid (pI = pg) →
    Calls Try.prog 19 #[.int .i64 kI, .int .i64 pI, .pointer (some ⟨sb, 0, none⟩), .pointer (some ⟨bb, 0, none⟩), .pointer (some ⟨lb, 0, none⟩)] w fun e w' => e = .returned (.tuple #[]) ∧
      (∃ q' cq', St w' sb lb bb L p n c (put k s pg) q' cq' (l ++ mv k (st s) pg)) ∧ Below sb w w' := by
  intro k
  induction k with
  | zero =>
    intro s l q cq pg w hk hl hs hp hb hS kI pI hkI hpI
    have hkI := hkI.out; subst hkI
    clear hpI
    go_enter Try.func19, Try.ntmps19
    go_wp2
    refine bodyPost_ret (results_none rfl _ _ _) rfl ⟨rfl, ⟨q, cq, by simpa [mv, put] using hS.out⟩, Below.refl _ _⟩
  | succ k ih =>
    intro s l q cq pg w hk hl hs hp hb hS kI pI hkI hpI
    have hkI := hkI.out; have hpI := hpI.out; subst hkI hpI
    obtain ⟨g, rfl, hg1, hg2, hnc⟩ := hS.out.own.where (by omega)
    have hpw : 2 ^ (k + 1) = 2 ^ k + 2 ^ k := by rw [Nat.pow_succ]; omega
    have hfk := hs.out k
    have hb2 : l.length + 2 ^ k ≤ 4096 := by have := two_pos k; omega
    have c0 := cell_of_one hS.out.s0
    have c1 := hS.out.own.cell (i := k) (by omega)
    rw [asI_at] at c1
    have c2 := cell_of_one hS.out.b0
    have z0 : ((k : Int) + 1 == 0) = false := by simp; omega
    by_cases e0 : st s k = pg
    · have z1 : ((st s k : Int) == (pg : Int)) = true := by simp [e0]
      have IH := Lib.hid (ih s l q cq pg w (by omega) hl hs hp hb2 hS k pg rfl rfl)
      replace e0 := Lib.hid e0; replace hpw := Lib.hid hpw
      clear ih
      go_enter Try.func19, Try.ntmps19
      go_wp2_with fail
      ((with_reducible refine IH.out.mono ?_))
      rintro e w' ⟨rfl, ⟨q1, cq1, hS1⟩, hB1⟩
      replace hS1 := Lib.hid hS1
      go_wp2_with fail
      go_end0
      refine ⟨rfl, ⟨q1, cq1, ?_⟩, hB1⟩
      have h1 := hS1.out
      rw [put_same s k pg (by have := hl.out; omega) e0.out] at h1
      rw [mv, if_pos e0.out]; exact h1
    · have z1 : ((st s k : Int) == (pg : Int)) = false := by simp; omega
      obtain ⟨t, ht⟩ : ∃ t, t = 3 - st s k - pg := ⟨_, rfl⟩
      have ht3 : t < 3 := by omega
      have IH := Lib.hid (ih s l q cq t w (by omega) hl hs ht3 hb2 hS k (3 - (st s k : Int) - pg) rfl (Lib.hid (by omega)))
      have hlm := mv_len hs.out k t ht3
      have hgl := G_lt (st s) k t
      have hl1 : (l ++ mv k (st s) t).length + 1 + 2 ^ k ≤ 4096 := by rw [List.length_append]; omega
      have hlp : (put k s t).length = n := by rw [put_len]; exact hl.out
      have hX : ∀ j, st ((put k s t).set k pg) j < 3 := fun j => by
        have := hs.out j
        rw [st_set _ _ _ _ (by omega), put_st _ _ _ (by have := hl.out; omega)]
        split
        · exact hp
        · split <;> omega
      have hX2 : mv k (st ((put k s t).set k pg)) pg = mv k (fun _ => t) pg := mv_congr k (fun i hi => by
          rw [st_set _ _ _ _ (by omega), if_neg (by omega), put_st _ _ _ (by have := hl.out; omega), if_pos hi]) pg
      have hput := put_put s k pg t (by have := hl.out; omega)
      replace hX := Lib.hid hX; replace hX2 := Lib.hid hX2; replace hput := Lib.hid hput; replace hlp := Lib.hid hlp
      have hlt : (l ++ mv k (st s) t).length < 1000000 := by have := two_pos k; omega
      replace e0 := Lib.hid e0; replace hpw := Lib.hid hpw; replace hlm := Lib.hid hlm; replace ht := Lib.hid ht
      generalize hl2 : l ++ mv k (st s) t = l2 at *
      go_enter Try.func19, Try.ntmps19
      go_wp2_with fail
      ((with_reducible refine IH.out.mono ?_))
      rintro e w1 ⟨rfl, ⟨q1, cq1, hS1⟩, hB1⟩
      clear c0 c1 c2 IH
      have c0 := cell_of_one hS1.l0
      have hO := hS1.ownM
      have hL1 := hS1.lt
      replace hS1 := Lib.hid hS1; replace hB1 := Lib.hid hB1; replace hO := Lib.hid hO; replace hl2 := Lib.hid hl2
      go_wp2_with (at_builtin; refine wp_append3 w1 rfl _ _ rfl L q1 l2.length cq1 l2 rfl hO.out (st s k) pg rfl hlt hL1 ?_; intro q2 cq2 w2 hM hg2 hz2; obtain ⟨hS2, hB2, d0⟩ := hS1.out.next hM hg2; have d1 := free_of_one d0; have d2 := cell_of_one d0; have d3 := cell_of_one hS2.s0; have d4 := cell_of_one hS2.b0; have d5 := hS2.own.cell (i := k) (by omega); have d6 := hS2.own.free k; obtain ⟨hS3, hB3⟩ := hS2.set k pg; have d7 := cell_of_one hS3.b0; replace hS2 := Lib.hid hS2; replace hB2 := Lib.hid hB2; replace d0 := Lib.hid d0; replace hS3 := Lib.hid hS3; replace hB3 := Lib.hid hB3; replace hM := Lib.hid hM; replace hg2 := Lib.hid hg2; clear c0)
      have IH2 := Lib.hid (ih ((put k s t).set k pg) (l2 ++ [(st s k, pg)]) q2 cq2 pg _ (by omega) (Lib.hid (by simp; exact hlp.out)) hX hp (by rw [List.length_append]; exact hl1) hS3 k pg rfl rfl)
      clear d1 d2 d3 d4 d5 d6 d7
      ((with_reducible refine IH2.out.mono ?_))
      rintro e w4 ⟨rfl, ⟨q4, cq4, hS4⟩, hB4⟩
      replace hS4 := Lib.hid hS4; replace hB4 := Lib.hid hB4
      go_wp2_with fail
      go_end0
      have h4 := hS4.out
      rw [hput.out, hX2.out, ← hl2.out, List.append_assoc, List.append_assoc] at h4
      refine ⟨rfl, ⟨q4, cq4, ?_⟩, ?_⟩
      · rw [mv, if_neg e0.out, ← ht.out]; exact h4
      · have h1 := hB1.out.trans (hB2.out.mono (Nat.le_refl _))
        exact (h1.trans hB3.out).trans hB4.out
end Go.Proofs.Ytfjlhghiadoodaa
