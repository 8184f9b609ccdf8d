/- Plain law of Benson's theorem: what has two vital regions stays, whatever the other plays; no program's step in sight. -/
import Derived.Test.YtefjliblaeadfaaBPl
namespace Go.Proofs.Ytefjliblaeadfaa

/-- the groups of w and the regions of a board. -/
structure Brd (a b w : Nat) (s : List Nat) (gs rs : List Pt) : Prop where
  sl : s.length = a * b
  gcol : ∀ i, i < gs.length → ∀ q ∈ (pAt gs i).1, q < s.length ∧ st s q = w
  gcon : ∀ i, i < gs.length → ∃ r, r ∈ (pAt gs i).1 ∧ ∀ X : Nat → Prop, X r → (∀ p, X p → p < s.length → ∀ t ∈ nearL a s.length p, st s t = w → X t) → ∀ t ∈ (pAt gs i).1, X t
  gcl : ∀ i, i < gs.length → ∀ q ∈ (pAt gs i).1, ∀ t ∈ nearL a s.length q, st s t = w → t ∈ (pAt gs i).1
  gbn : ∀ i, i < gs.length → ∀ e ∈ (pAt gs i).2, ∃ t ∈ (pAt gs i).1, e ∈ nearL a s.length t
  gcov : ∀ q, q < s.length → st s q = w → ∃ i, i < gs.length ∧ q ∈ (pAt gs i).1
  rcol : ∀ j, j < rs.length → ∀ q ∈ (pAt rs j).1, q < s.length ∧ st s q ≠ w
  rcl : ∀ j, j < rs.length → ∀ q ∈ (pAt rs j).1, ∀ t ∈ nearL a s.length q, t ∈ (pAt rs j).1 ∨ (t ∈ (pAt rs j).2 ∧ st s t = w)
  rdis : ∀ i j, i < j → j < rs.length → ∀ t ∈ (pAt rs j).1, t ∉ (pAt rs i).1
theorem brd_of {a b w : Nat} {s : List Nat} {gs rs : List Pt} (hab : s.length = a * b) (hg : PtsOf (fun v => v == w) s a (rootsN (fun v => v == w) s a s.length) gs) (hr : PtsOf (fun v => v != w) s a (rootsN (fun v => v != w) s a s.length) rs) : Brd a b w s gs rs := by
  have IG := rootsN_I (so := fun v => v == w) hab s.length (Nat.le_refl _)
  have IR := rootsN_I (so := fun v => v != w) hab s.length (Nat.le_refl _)
  generalize rootsN (fun v => v == w) s a s.length = G at *
  generalize rootsN (fun v => v != w) s a s.length = R at *
  obtain ⟨hgl, hg⟩ := hg
  obtain ⟨hrl, hr⟩ := hr
  refine ⟨hab, fun i hi q hq => ?_, fun i hi => ?_, fun i hi q hq t ht hw => ?_, fun i hi e he => ?_, fun q hq hw => ?_, fun j hj q hq => ?_, fun j hj q hq t ht => ?_, fun i j hij hj t ht hti => ?_⟩
  · have hq2 := (hg i (by omega)).1.mem_iff.1 hq
    obtain ⟨h1, h2⟩ := IG.lt i (by omega)
    exact ⟨(spread_ok hab h1).lt q (.inl hq2), by simpa using inn_so hab h1 h2 q hq2⟩
  · obtain ⟨h1, h2⟩ := IG.lt i (by omega)
    have S := spread_ok (so := fun v => v == w) hab h1
    refine ⟨st G i, (hg i (by omega)).1.mem_iff.2 S.f0, fun X h0 hc t ht => S.con X h0 (fun p hp hpl t ht hs => hc p hp hpl t ht (by simpa using hs)) t ((hg i (by omega)).1.mem_iff.1 ht)⟩
  · have hq2 := (hg i (by omega)).1.mem_iff.1 hq
    obtain ⟨h1, h2⟩ := IG.lt i (by omega)
    have S := spread_ok (so := fun v => v == w) hab h1
    refine (hg i (by omega)).1.mem_iff.2 ?_
    rcases S.cl q hq2 t ht with h | h
    · exact h
    · have := S.so2 t h; simp [hw] at this
  · obtain ⟨h1, h2⟩ := IG.lt i (by omega)
    obtain ⟨p, hp, h⟩ := (spread_ok (so := fun v => v == w) hab h1).bn e ((hg i (by omega)).2.mem_iff.1 he)
    exact ⟨p, (hg i (by omega)).1.mem_iff.2 hp, h⟩
  · obtain ⟨i, hi, h⟩ := IG.cov q hq (by simpa using hw)
    exact ⟨i, by omega, (hg i hi).1.mem_iff.2 h⟩
  · have hq2 := (hr j (by omega)).1.mem_iff.1 hq
    obtain ⟨h1, h2⟩ := IR.lt j (by omega)
    exact ⟨(spread_ok hab h1).lt q (.inl hq2), by simpa using inn_so hab h1 h2 q hq2⟩
  · have hq2 := (hr j (by omega)).1.mem_iff.1 hq
    obtain ⟨h1, h2⟩ := IR.lt j (by omega)
    have S := spread_ok (so := fun v => v != w) hab h1
    rcases S.cl q hq2 t ht with h | h
    · exact .inl ((hr j (by omega)).1.mem_iff.2 h)
    · exact .inr ⟨(hr j (by omega)).2.mem_iff.2 h, by simpa using S.so2 t h⟩
  · obtain ⟨h1, h2⟩ := IR.lt i (by omega)
    obtain ⟨h3, h4⟩ := IR.lt j (by omega)
    exact comp_disj hab h1 h3 h4 (IR.fr i j hij (by omega)) t ((hr j (by omega)).1.mem_iff.1 ht) ((hr i (by omega)).1.mem_iff.1 hti)

/-- what holds behind each of the other's moves. -/
structure Inv (a b w : Nat) (s : List Nat) (gs rs : List Pt) (u v : List Bool) (x : List Nat) : Prop where
  xl : x.length = a * b
  x2 : ∀ j, st x j ≤ 2
  i1 : ∀ i, i < gs.length → bAt u i = false → ∀ q ∈ (pAt gs i).1, st x q = w
  i2 : ∀ j, j < rs.length → bAt v j = false → ∀ r ∈ (pAt rs j).1, st x r ≠ w ∧ (st x r = 0 → st s r = 0)
  i3 : ∀ j, j < rs.length → bAt v j = false → (∃ r ∈ (pAt rs j).1, st s r = 0) → ∃ r ∈ (pAt rs j).1, st x r = 0
section
variable {a b w : Nat} {s : List Nat} {gs rs : List Pt} {u v : List Bool}
theorem Inv.start (B : Brd a b w s gs rs) (h2 : ∀ j, st s j ≤ 2) : Inv a b w s gs rs u v s :=
  ⟨B.sl, h2, fun i hi _ q hq => (B.gcol i hi q hq).2, fun j hj _ r hr => ⟨(B.rcol j hj r hr).2, fun h => h⟩, fun _ _ _ h => h⟩
theorem vital_iff {r g : Pt} : vitalS s r g = true ↔ (∃ p ∈ r.1, st s p = 0) ∧ ∀ p ∈ r.1, st s p = 0 → p ∈ g.2 := by
  unfold vitalS
  rw [Bool.and_eq_true, List.any_eq_true, List.all_eq_true]
  refine and_congr ⟨fun ⟨p, h1, h2⟩ => ⟨p, h1, by simpa using h2⟩, fun ⟨p, h1, h2⟩ => ⟨p, h1, by simpa using h2⟩⟩ ⟨fun h p hp h0 => ?_, fun h p hp => ?_⟩
  · have := h p hp; rw [h0] at this; simpa using this
  · by_cases h0 : st s p = 0
    · simp [h0, h p hp h0]
    · simp [h0]
/-- a group all of whose places stand is connected on any board. -/
theorem Brd.conn (B : Brd a b w s gs rs) {i : Nat} (hi : i < gs.length) {z : List Nat} (hz : z.length = a * b) (hs : ∀ q ∈ (pAt gs i).1, st z q = w) : ∀ q ∈ (pAt gs i).1, ∀ t ∈ (pAt gs i).1, Conn z a w q t := by
  obtain ⟨r, hr, hc⟩ := B.gcon i hi
  have hrt : ∀ t ∈ (pAt gs i).1, Conn z a w r t := fun t ht => (hc (fun t => t ∈ (pAt gs i).1 ∧ Conn z a w r t) ⟨hr, .refl⟩ (fun p hp _ t ht hw => by
    have h1 := B.gcl i hi p hp.1 t ht hw
    refine ⟨h1, hp.2.step ?_ (hs t h1)⟩
    rw [hz, ← B.sl]; exact ht) t ht).2
  intro q hq t ht
  have hrl : r < z.length := by rw [hz, ← B.sl]; exact (B.gcol i hi r hr).1
  exact ((hrt q hq).symm hz hrl (hs r hr)).trans (hrt t ht)
/-- the groups with two vital regions stay while groups without liberties are taken. -/
theorem ben_take (B : Brd a b w s gs rs) (F : AlF gs.length rs.length (fun j i => vitalS s (pAt rs j) (pAt gs i)) (fun j i => touchS (pAt rs j) (pAt gs i)) u v) (hw : w = 1 ∨ w = 2) {x : List Nat} (I : Inv a b w s gs rs u v x) {p : Nat} (hp : p < a * b) (hp0 : st x p = 0) :
    ∀ k, k ≤ a * b → ∀ i, i < gs.length → bAt u i = false → ∀ q ∈ (pAt gs i).1, st (putN a w (x.set p (3 - w)) k).1 q = w := by
  have hw0 : w ≠ 0 := by omega
  have hx1 : (x.set p (3 - w)).length = a * b := by rw [List.length_set]; exact I.xl
  have hpx : p < x.length := by rw [I.xl]; exact hp
  intro k
  induction k with
  | zero =>
    intro _ i hi hu q hq
    show st (x.set p (3 - w)) q = w
    rw [st_set _ _ _ _ hpx, if_neg, I.i1 i hi hu q hq]
    intro e
    have := I.i1 i hi hu q hq
    rw [e, hp0] at this; omega
  | succ k ih =>
    intro hk i hi hu q hq
    have ihk := ih (by omega)
    have J := putN_I hw0 hx1 k (by omega)
    rw [putN_succ]
    generalize putN a w (x.set p (3 - w)) k = z at *
    unfold stepP
    by_cases h1 : st z.1 k = w
    · rw [if_pos h1]
      by_cases h2 : (grpS z.1 a k).2 = []
      · rw [if_pos h2]
        have hkz : k < z.1.length := by rw [J.len]; omega
        show st (clearL z.1 _) q = w
        rw [clearL_at _ _ _ (grp_lt J.len hkz)]
        by_cases h3 : q ∈ (grpS z.1 a k).1
        · exfalso
          have hcq := (grp_conn J.len hkz).1 h3
          obtain ⟨j1, j2, hj, hj2, f1, v1, f2, v2⟩ := cntN_two _ (F.liv i hi hu)
          have key : ∀ j, j < rs.length → bAt v j = false → vitalS s (pAt rs j) (pAt gs i) = true → p ∉ (pAt rs j).1 → False := fun j hj hv hvt hpj => by
            obtain ⟨he, hall⟩ := vital_iff.1 hvt
            obtain ⟨e, her, he0⟩ := I.i3 j hj hv he
            have hes := (I.i2 j hj hv e her).2 he0
            have heb := hall e her hes
            obtain ⟨t, ht, hte⟩ := B.gbn i hi e heb
            have hep : e ≠ p := fun h => hpj (by rw [← h]; exact her)
            have hez : st z.1 e = 0 := by
              rcases J.old e with h | ⟨_, h⟩
              · rw [h, st_set _ _ _ _ hpx, if_neg hep]; exact he0
              · exact h
            have hct := B.conn hi J.len (ihk i hi hu) q hq t ht
            have hlib : Lib1 z.1 a k := ⟨t, by rw [h1] at hcq ⊢; exact hcq.trans hct, e, by rw [J.len, ← B.sl]; exact hte, hez⟩
            exact (lib_iff J.len hkz (by rw [h1]; exact hw0)).2 hlib h2
          by_cases hp1 : p ∈ (pAt rs j1).1
          · exact key j2 hj2 f2 v2 (fun h => B.rdis j1 j2 hj hj2 p h hp1)
          · exact key j1 (by omega) f1 v1 hp1
        · rw [if_neg h3]; exact ihk i hi hu q hq
      · rw [if_neg h2]; exact ihk i hi hu q hq
    · rw [if_neg h1]; exact ihk i hi hu q hq
theorem ben_put (B : Brd a b w s gs rs) (F : AlF gs.length rs.length (fun j i => vitalS s (pAt rs j) (pAt gs i)) (fun j i => touchS (pAt rs j) (pAt gs i)) u v) (hw : w = 1 ∨ w = 2) {x : List Nat} (I : Inv a b w s gs rs u v x) {p : Nat} (hp : p < a * b)
    (hR : (putS x a (3 - w) p).2.2 = 0) : Inv a b w s gs rs u v (putS x a (3 - w) p).1 := by
  have hT : ∀ hp0 : st x p = 0, _ := fun hp0 => ben_take B F hw I hp hp0 (a * b) (Nat.le_refl _)
  unfold putS at *
  by_cases h0 : st x p ≠ 0
  · rw [if_pos h0] at hR; simp at hR
  · rw [if_neg h0] at hR ⊢
    have h0 : st x p = 0 := by simpa using h0
    have hw0 : w ≠ 0 := by omega
    have hx1 : (x.set p (3 - w)).length = a * b := by rw [List.length_set]; exact I.xl
    have hpx : p < x.length := by rw [I.xl]; exact hp
    have T := hT h0
    have e3 : 3 - (3 - w) = w := by omega
    rw [I.xl, e3] at hR ⊢
    have J := putN_I hw0 hx1 (a * b) (Nat.le_refl _)
    have hx2 : ∀ j, st (x.set p (3 - w)) j ≤ 2 := fun j => by rw [st_set _ _ _ _ hpx]; split; omega; exact I.x2 j
    have hle := putN_le hw0 hx1 hx2 (a * b) (Nat.le_refl _)
    clear hT
    generalize putN a w (x.set p (3 - w)) (a * b) = z at *
    by_cases h4 : (grpS z.1 a p).2 = []
    · rw [if_pos h4] at hR; simp at hR
    · rw [if_neg h4]
      show Inv a b w s gs rs u v z.1
      have hpz : p < z.1.length := by rw [J.len]; exact hp
      have hzp : st z.1 p = 3 - w := by
        have e := st_set x p (3 - w) p hpx
        rw [if_pos rfl] at e
        rcases J.old p with h | ⟨h, _⟩
        · rw [h, e]
        · rw [e] at h; omega
      -- places of a region: as they were, but for p
      have same : ∀ j, j < rs.length → bAt v j = false → ∀ r ∈ (pAt rs j).1, r ≠ p → st z.1 r = st x r := fun j hj hv r hr hrp => by
        have e := st_set x p (3 - w) r hpx
        rw [if_neg hrp] at e
        rcases J.old r with h | ⟨h, _⟩
        · rw [h, e]
        · rw [e] at h; exact absurd h (I.i2 j hj hv r hr).1
      refine ⟨J.len, hle, T, fun j hj hv r hr => ?_, fun j hj hv he => ?_⟩
      · by_cases hrp : r = p
        · rw [hrp, hzp]; exact ⟨by omega, fun h => by omega⟩
        · rw [same j hj hv r hr hrp]; exact I.i2 j hj hv r hr
      · obtain ⟨e, her, he0⟩ := I.i3 j hj hv he
        by_cases hep : e = p
        · subst hep
          obtain ⟨q, hq, t, ht, ht0⟩ := (lib_iff J.len hpz (by rw [hzp]; omega)).1 h4
          -- what is next to the region and is not w is in it
          have stay : ∀ y ∈ (pAt rs j).1, ∀ t ∈ nearL a z.1.length y, st z.1 t ≠ w → t ∈ (pAt rs j).1 := fun y hy t ht htw => by
            rcases B.rcl j hj y hy t (by rw [B.sl, ← J.len]; exact ht) with h | ⟨h, hsw⟩
            · exact h
            · exfalso
              have htl : t < s.length := by rw [B.sl, ← J.len]; rw [J.len] at ht ⊢; exact near_lt (by rw [← B.sl]; exact (B.rcol j hj y hy).1) ht
              obtain ⟨i, hi, hti⟩ := B.gcov t htl hsw
              have htch : touchS (pAt rs j) (pAt gs i) = true := List.any_eq_true.2 ⟨t, h, by simpa using hti⟩
              cases hu : bAt u i
              · exact htw (T i hi hu t hti)
              · have := F.tch i j hi hj hu htch; rw [hv] at this; cases this
          have hqr : q ∈ (pAt rs j).1 := by
            rw [hzp] at hq
            clear ht ht0
            induction hq with
            | refl => exact her
            | step h1 h2 h3 ih => exact stay _ ih _ h2 (by rw [h3]; omega)
          exact ⟨t, stay q hqr t ht (by rw [ht0]; omega), ht0⟩
        · exact ⟨e, her, by rw [same j hj hv e her hep]; exact he0⟩
end
end Go.Proofs.Ytefjliblaeadfaa
