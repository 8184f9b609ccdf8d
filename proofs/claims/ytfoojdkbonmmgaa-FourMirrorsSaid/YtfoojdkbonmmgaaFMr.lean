/- Mirrored boards have the same value; a threat that a sign can fall to wins; plain; no conditions. -/
import Derived.Test.YtfoojdkbonmmgaaFTh
namespace Go.Proofs.Ytfoojdkbonmmgaa

/-- s' is s, mirrored from left to right. -/
structure Mr (a b n : Nat) (s s' : List Nat) : Prop where
  nab : n = a * b
  l : s.length = n
  l' : s'.length = n
  at' : ∀ v u, v < b → u < a → st s' (v * a + u) = st s (v * a + (a - 1 - u))
section
variable {a b n : Nat} {s s' : List Nat}
theorem Mr.symm (h : Mr a b n s s') : Mr a b n s' s := ⟨h.nab, h.l', h.l, fun v u hv hu => by rw [h.at' v _ hv (by omega), show a - 1 - (a - 1 - u) = u by omega]⟩
theorem in_rng {v u : Nat} (hv : v < b) (hu : u < a) : v * a + u < a * b := by
  have : (v + 1) * a ≤ b * a := Nat.mul_le_mul_right _ hv
  rw [Nat.succ_mul, Nat.mul_comm b a] at this
  omega
theorem parts {i : Nat} (h : i < a * b) : i / a < b ∧ i % a < a ∧ i / a * a + i % a = i := by
  have ha : 0 < a := by
    rcases Nat.eq_zero_or_pos a with rfl | h0
    · simp at h
    · exact h0
  exact ⟨Nat.div_lt_of_lt_mul h, Nat.mod_lt _ ha, by rw [Nat.mul_comm]; exact Nat.div_add_mod i a⟩
theorem parts_eq {y x : Nat} (hx : x < a) : (y * a + x) / a = y ∧ (y * a + x) % a = x := by
  have ha : 0 < a := by omega
  exact ⟨by rw [Nat.add_comm, Nat.add_mul_div_right _ _ ha, Nat.div_eq_of_lt hx, Nat.zero_add], by rw [Nat.add_comm, Nat.add_mul_mod_self_right, Nat.mod_eq_of_lt hx]⟩
theorem mr_mirN (hn : n = a * b) (hl : s.length = n) : Mr a b n s (mirN s a n) := by
  refine ⟨hn, hl, by rw [mirN_at]; simp, fun v u hv hu => ?_⟩
  have hi : v * a + u < n := by rw [hn]; exact in_rng hv hu
  rw [mirN_at]
  show (List.map _ _)[_]?.getD 0 = _
  rw [List.getElem?_map, List.getElem?_range hi]
  simp only [Option.map_some, Option.getD_some]
  congr 1
  unfold mirP
  rw [(parts_eq hu).1, (parts_eq hu).2]; omega
theorem Mr.cf (h : Mr a b n s s') (x y : Int) : cf a b s' x y = cf a b s ((a : Int) - 1 - x) y := by
  unfold Go.Proofs.Ytfoojdkbonmmgaa.cf
  by_cases hc : 0 ≤ x ∧ x < a ∧ 0 ≤ y ∧ y < b
  · rw [if_pos hc, if_pos ⟨by omega, by omega, hc.2.2.1, hc.2.2.2⟩, h.at' _ _ (by omega) (by omega)]
    congr 3
    omega
  · rw [if_neg hc, if_neg fun h2 => hc ⟨by omega, by omega, h2.2.2.1, h2.2.2.2⟩]
theorem Mr.ext (h : Mr a b n s s') {who x y dx dy : Int} {r : Nat} (he : ext (Go.Proofs.Ytfoojdkbonmmgaa.cf a b s') who x y dx dy r) : Go.Proofs.Ytfoojdkbonmmgaa.ext (Go.Proofs.Ytfoojdkbonmmgaa.cf a b s) who ((a : Int) - 1 - x) y (-dx) dy r := fun t h1 h2 => by
  have := he t h1 h2
  rw [h.cf] at this
  rw [← this]
  congr 1
  rw [Int.neg_mul]; omega
theorem Mr.row (h : Mr a b n s s') {who x y : Int} {k : Nat} (hr : Row4 (Go.Proofs.Ytfoojdkbonmmgaa.cf a b s') who x y k) : Row4 (Go.Proofs.Ytfoojdkbonmmgaa.cf a b s) who ((a : Int) - 1 - x) y k := by
  obtain ⟨j, hj, p, q, h1, h2, h3⟩ := hr
  have e1 := h.ext h1
  have e2 := h.ext h2
  rw [Int.neg_neg] at e2
  rcases (show j = 0 ∨ j = 1 ∨ j = 2 ∨ j = 3 by omega) with rfl | rfl | rfl | rfl
  · exact ⟨0, by omega, q, p, e2, e1, by omega⟩
  · exact ⟨1, by omega, p, q, e1, e2, h3⟩
  · exact ⟨3, by omega, q, p, e2, e1, by omega⟩
  · exact ⟨2, by omega, q, p, e2, e1, by omega⟩
theorem Mr.fal (h : Mr a b n s s') {c : Nat} (hc : c < a) : (fal s' a c b = none ∧ Go.Proofs.Ytfoojdkbonmmgaa.fal s a (a - 1 - c) b = none) ∨ ∃ y, y < b ∧ Go.Proofs.Ytfoojdkbonmmgaa.fal s' a c b = some (y * a + c) ∧ Go.Proofs.Ytfoojdkbonmmgaa.fal s a (a - 1 - c) b = some (y * a + (a - 1 - c)) := by
  cases h1 : Go.Proofs.Ytfoojdkbonmmgaa.fal s' a c b with
  | none =>
    left
    refine ⟨rfl, ?_⟩
    cases h2 : Go.Proofs.Ytfoojdkbonmmgaa.fal s a (a - 1 - c) b with
    | none => rfl
    | some p =>
      obtain ⟨y, hy, rfl, h3, _⟩ := fal_some h2
      rw [← h.at' y c hy hc] at h3
      exact absurd h3 (fal_none h1 y hy)
  | some p =>
    right
    obtain ⟨y, hy, rfl, h3, h4⟩ := fal_some h1
    refine ⟨y, hy, rfl, fal_is hy (by rw [← h.at' y c hy hc]; exact h3) fun y' h5 h6 => ?_⟩
    rw [← h.at' y' c h6 hc]; exact h4 y' h5 h6
theorem st_set' {s : List Nat} {i v j : Nat} (h : i < s.length) : st (s.set i v) j = if j = i then v else st s j := by
  unfold st
  by_cases e : j = i
  · subst e; simp [h]
  · rw [if_neg e, List.getElem?_set_ne (by omega)]
theorem idx_inj {v u y c : Nat} (hu : u < a) (hc : c < a) (h : v * a + u = y * a + c) : v = y ∧ u = c := by
  have h1 := (parts_eq (y := v) hu)
  have h2 := (parts_eq (y := y) hc)
  rw [h] at h1
  exact ⟨by rw [← h1.1, h2.1], by rw [← h1.2, h2.2]⟩
theorem Mr.set (h : Mr a b n s s') {y c who : Nat} (hy : y < b) (hc : c < a) : Mr a b n (s.set (y * a + (a - 1 - c)) who) (s'.set (y * a + c) who) := by
  refine ⟨h.nab, by rw [List.length_set]; exact h.l, by rw [List.length_set]; exact h.l', fun v u hv hu => ?_⟩
  have i1 : y * a + (a - 1 - c) < s.length := by rw [h.l, h.nab]; exact in_rng hy (by omega)
  have i2 : y * a + c < s'.length := by rw [h.l', h.nab]; exact in_rng hy hc
  rw [st_set' i1, st_set' i2, h.at' v u hv hu]
  by_cases e : v * a + u = y * a + c
  · obtain ⟨rfl, rfl⟩ := idx_inj hu hc e
    rw [if_pos rfl, if_pos rfl]
  · rw [if_neg e, if_neg]
    intro e2
    obtain ⟨rfl, h5⟩ := idx_inj (by omega) (by omega) e2
    exact e (by rw [show u = c by omega])
def WbOk (a b k : Nat) (wb : List Nat → Nat → Bool) : Prop := ∀ cs x y, x < a → y < b → (wb cs (y * a + x) = true ↔ Row4 (cf a b cs) (st cs (y * a + x) : Nat) x y k)
theorem Mr.wb {k : Nat} {wb : List Nat → Nat → Bool} (hw : WbOk a b k wb) (h : Mr a b n s s') {y x : Nat} (hy : y < b) (hx : x < a) : wb s' (y * a + x) = wb s (y * a + (a - 1 - x)) := by
  have e1 := hw s' x y hx hy
  have e2 := hw s (a - 1 - x) y (by omega) hy
  rw [Bool.eq_iff_iff, e1, e2, h.at' y x hy hx]
  have hc : (((a - 1 - x : Nat) : Int)) = (a : Int) - 1 - x := by omega
  constructor
  · intro hr; rw [hc]; exact h.row hr
  · intro hr
    rw [hc] at hr
    have := h.symm.row hr
    rwa [show (a : Int) - 1 - ((a : Int) - 1 - x) = x by omega] at this
theorem Mr.mm {k : Nat} {wb : List Nat → Nat → Bool} (hw : WbOk a b k wb) : ∀ (f ply : Nat) (s s' : List Nat) (who : Nat), Mr a b n s s' → mm wb a b f ply s' who = Go.Proofs.Ytfoojdkbonmmgaa.mm wb a b f ply s who
  | 0, _, _, _, _, _ => rfl
  | f + 1, ply, s, s', who, h => by
    unfold Go.Proofs.Ytfoojdkbonmmgaa.mm
    congr 1
    refine mxO_rev fun c hc => ?_
    unfold valF
    rcases h.fal hc with ⟨h1, h2⟩ | ⟨y, hy, h1, h2⟩
    · rw [h1, h2]
    · rw [h1, h2]
      simp only
      have hs := h.set (who := who) hy hc
      rw [hs.wb hw hy hc, Mr.mm hw f (ply + 1) _ _ (3 - who) hs]
theorem Mr.stk (h : Mr a b n s s') (hs : Stk a n s) : Stk a n s' := fun i hi h1 h2 => by
  rw [h.nab] at hi h2
  obtain ⟨p1, p2, p3⟩ := parts hi
  rw [← p3] at h1 h2 ⊢
  generalize i / a = v at *
  generalize i % a = u at *
  have hv1 : v + 1 < b := by
    rcases Nat.lt_or_ge (v + 1) b with h3 | h3
    · exact h3
    · exfalso
      have h4 : b * a ≤ (v + 1) * a := Nat.mul_le_mul_right _ h3
      rw [Nat.succ_mul] at h4
      rw [Nat.mul_comm a b] at h2
      omega
  have e : v * a + u + a = (v + 1) * a + u := by rw [Nat.succ_mul]; omega
  rw [e, h.at' (v + 1) u hv1 p2]
  rw [h.at' v u p1 p2] at h1
  have := hs (v * a + (a - 1 - u)) (by rw [h.nab]; exact in_rng p1 (by omega)) h1 (by
    rw [show v * a + (a - 1 - u) + a = (v + 1) * a + (a - 1 - u) by rw [Nat.succ_mul]; omega, h.nab]; exact in_rng hv1 (by omega))
  rwa [show v * a + (a - 1 - u) + a = (v + 1) * a + (a - 1 - u) by rw [Nat.succ_mul]; omega] at this
theorem Mr.mine {k : Nat} {wb : List Nat → Nat → Bool} (hw : WbOk a b k wb) (h : Mr a b n s s') {who : Nat} (hm : Mine wb s who n) : Mine wb s' who n := by
  obtain ⟨i, hi, h1, h2⟩ := hm
  rw [h.nab] at hi
  obtain ⟨p1, p2, p3⟩ := parts hi
  rw [← p3] at h1 h2
  have e : i / a * a + (a - 1 - (a - 1 - i % a)) = i / a * a + i % a := by omega
  refine ⟨i / a * a + (a - 1 - i % a), by rw [h.nab]; exact in_rng p1 (by omega), ?_, ?_⟩
  · rw [h.at' _ _ p1 (by omega), e]; exact h1
  · rw [h.wb hw p1 (by omega), e]; exact h2
theorem Mr.theirs {k : Nat} {wb : List Nat → Nat → Bool} (hw : WbOk a b k wb) (h : Mr a b n s s') {who : Nat} (hm : Theirs wb s who n) : Theirs wb s' who n := by
  obtain ⟨i, hi, h1, h3, h2⟩ := hm
  rw [h.nab] at hi
  obtain ⟨p1, p2, p3⟩ := parts hi
  rw [← p3] at h1 h2 h3
  have e : i / a * a + (a - 1 - (a - 1 - i % a)) = i / a * a + i % a := by omega
  refine ⟨i / a * a + (a - 1 - i % a), by rw [h.nab]; exact in_rng p1 (by omega), ?_, ?_, ?_⟩
  · rw [h.at' _ _ p1 (by omega), e]; exact h1
  · rw [h.at' _ _ p1 (by omega), e]; exact h3
  · rw [h.wb hw p1 (by omega), e]; exact h2
theorem ldS_count (s : List Nat) : ∀ j, j ≤ s.length → ldS s j = ((s.take j).count 1 : Int) - (s.take j).count 2
  | 0, _ => by simp [ldS]
  | j + 1, h => by
    rw [ldS, ldS_count s j (by omega), List.take_succ_eq_append_getElem (by omega), List.count_append, List.count_append]
    have e : st s j = s[j] := by unfold st; rw [List.getElem?_eq_getElem (by omega)]; rfl
    rw [e, List.count_singleton, List.count_singleton]
    by_cases h1 : s[j] = 1
    · simp [h1]; omega
    · by_cases h2 : s[j] = 2
      · simp [h2]; omega
      · simp [h1, h2]
theorem Mr.perm (h : Mr a b n s s') : s'.Perm s := by
  have e : s = (List.range n).map (st s) := by
    apply List.ext_getElem
    · simp [h.l]
    · intro i h1 h2; simp [st, h1]
  have e' : s' = (List.range n).map (st s ∘ fun i => i / a * a + (a - 1 - i % a)) := by
    apply List.ext_getElem
    · simp [h.l']
    · intro i h1 h2
      have hi : i < a * b := by rw [← h.nab, ← h.l']; exact h1
      obtain ⟨p1, p2, p3⟩ := parts hi
      have := h.at' _ _ p1 p2
      rw [p3] at this
      unfold st at this
      rw [List.getElem?_eq_getElem h1] at this
      simp only [Option.getD_some] at this
      rw [this]; simp [st]
  have hm : ∀ i, i < n → (i / a * a + (a - 1 - i % a)) < n ∧ (i / a * a + (a - 1 - i % a)) / a * a + (a - 1 - (i / a * a + (a - 1 - i % a)) % a) = i := fun i hi => by
    rw [h.nab] at hi
    obtain ⟨p1, p2, p3⟩ := parts hi
    refine ⟨by rw [h.nab]; exact in_rng p1 (by omega), ?_⟩
    rw [(parts_eq (a := a) (y := i / a) (x := a - 1 - i % a) (by omega)).1, (parts_eq (a := a) (y := i / a) (x := a - 1 - i % a) (by omega)).2]
    rw [show a - 1 - (a - 1 - i % a) = i % a by omega]; exact p3
  have hp : ((List.range n).map fun i => i / a * a + (a - 1 - i % a)).Perm (List.range n) := by
    refine (List.perm_ext_iff_of_nodup ?_ List.nodup_range).2 fun x => ?_
    · refine List.pairwise_map.2 (List.Pairwise.imp_of_mem (fun {x y} hx hy hxy e => hxy ?_) List.nodup_range)
      rw [← (hm x (List.mem_range.1 hx)).2, ← (hm y (List.mem_range.1 hy)).2, e]
    · rw [List.mem_map, List.mem_range]
      constructor
      · rintro ⟨y, hy, rfl⟩; exact (hm y (List.mem_range.1 hy)).1
      · intro hx; exact ⟨_, List.mem_range.2 (hm x hx).1, (hm x hx).2⟩
  have h2 := hp.map (st s)
  rw [List.map_map] at h2
  rw [e']
  exact h2.trans (by rw [← e])
theorem Mr.ld (h : Mr a b n s s') : ldS s' n = ldS s n := by
  have p := h.perm
  have e1 := ldS_count s n (by rw [h.l]; exact Nat.le_refl _)
  have e2 := ldS_count s' n (by rw [h.l']; exact Nat.le_refl _)
  rw [List.take_of_length_le (by rw [h.l]; exact Nat.le_refl _)] at e1
  rw [List.take_of_length_le (by rw [h.l']; exact Nat.le_refl _)] at e2
  rw [e1, e2, p.count_eq, p.count_eq]
theorem Mr.mov (h : Mr a b n s s') : movS s' n = movS s n := by unfold movS; rw [h.ld]
theorem Mr.bv {k deep who : Nat} {wb : List Nat → Nat → Bool} {v v' : Int} (hw : WbOk a b k wb) (h : Mr a b n s s') (h1 : BV wb a b n deep s who v) (h2 : BV wb a b n deep s' who v') : v = v' := by
  have hT : Theirs wb s who n ↔ Theirs wb s' who n := ⟨h.theirs hw, h.symm.theirs hw⟩
  have hM : Mine wb s who n ↔ Mine wb s' who n := ⟨h.mine hw, h.symm.mine hw⟩
  rcases h1 with ⟨a1, rfl⟩ | ⟨a1, a2, rfl⟩ | ⟨a1, a2, rfl⟩ <;> rcases h2 with ⟨b1, rfl⟩ | ⟨b1, b2, rfl⟩ | ⟨b1, b2, rfl⟩
  · rfl
  · exact absurd (hT.1 a1) b1
  · exact absurd (hT.1 a1) b1
  · exact absurd (hT.2 b1) a1
  · rfl
  · exact absurd (hM.1 a2) b2
  · exact absurd (hT.2 b1) a1
  · exact absurd (hM.2 b2) a2
  · exact (Mr.mm hw deep 0 s s' who h).symm
end
/-- a threat that a sign can fall to. -/
def Falls (wb : List Nat → Nat → Bool) (a n : Nat) (s : List Nat) (who : Nat) : Prop := ∃ t ∈ TL wb s who n, n ≤ t + a ∨ st s (t + a) ≠ 0
theorem falls_iff {a b n f who : Nat} {wb : List Nat → Nat → Bool} {s : List Nat} (hn : n = a * b) (hs : Stk a n s) (hf : f ≤ 5) : Falls wb a n s who ↔ mm wb a b (f + 1) 0 s who = 99 := by
  have hval : ∀ c v, valF wb (mm wb a b f 1) a b 0 s who c = some v → v ≤ 99 ∧ (v = 99 → ∃ p, fal s a c b = some p ∧ wb (s.set p who) p = true) := fun c v hv => by
    unfold valF at hv
    cases h1 : fal s a c b with
    | none => rw [h1] at hv; cases hv
    | some p =>
      rw [h1] at hv
      simp only at hv
      injection hv with hv
      have hb := mm_bound wb a b f 1 (s.set p who) (3 - who) (by omega)
      by_cases hw : wb (s.set p who) p = true
      · rw [if_pos hw] at hv
        exact ⟨by omega, fun _ => ⟨p, rfl, hw⟩⟩
      · rw [if_neg hw] at hv
        exact ⟨by omega, fun h => by omega⟩
  constructor
  · rintro ⟨t, ht, hor⟩
    unfold TL at ht
    rw [List.mem_filter, List.mem_range, Bool.and_eq_true, beq_iff_eq] at ht
    obtain ⟨htn, h0, hw⟩ := ht
    have htn' := htn
    rw [hn] at htn'
    obtain ⟨p1, p2, p3⟩ := parts htn'
    have hfal : fal s a (t % a) b = some t := by
      have hcol : ∀ d y', y' = t / a + 1 + d → y' < b → st s (y' * a + t % a) ≠ 0 := fun d => by
        induction d with
        | zero =>
          intro y' e hy
          subst e
          have e2 : (t / a + 1 + 0) * a + t % a = t + a := by rw [Nat.add_zero, Nat.succ_mul]; omega
          rw [e2]
          rcases hor with h | h
          · exfalso
            have := in_rng (a := a) (b := b) hy p2
            rw [e2] at this; omega
          · exact h
        | succ d ih =>
          intro y' e hy
          subst e
          have := ih (t / a + 1 + d) rfl (by omega)
          have hi1 := in_rng (a := a) (b := b) (v := t / a + 1 + d) (by omega) p2
          have hi2 := in_rng (a := a) (b := b) hy p2
          have e3 : (t / a + 1 + (d + 1)) * a + t % a = (t / a + 1 + d) * a + t % a + a := by
            rw [show t / a + 1 + (d + 1) = (t / a + 1 + d) + 1 by omega, Nat.succ_mul]; omega
          rw [e3] at hi2 ⊢
          exact hs _ (by rw [hn]; exact hi1) (by omega) (by rw [hn]; exact hi2)
      have := fal_is (cs := s) (W := a) (col := t % a) (y := t / a) (H := b) p1 (by rw [p3]; exact h0) (fun y' h1 h2 => hcol (y' - (t / a + 1)) y' (by omega) h2)
      rw [p3] at this; exact this
    have hv : valF wb (mm wb a b f 1) a b 0 s who (t % a) = some 99 := by
      unfold valF
      rw [hfal]
      simp only
      rw [if_pos hw]; rfl
    have hm : mxO (valF wb (mm wb a b f 1) a b 0 s who) a = some 99 := mxO_some.2 ⟨⟨t % a, p2, hv⟩, fun c v hc hv => (hval c v hv).1⟩
    unfold mm
    rw [hm]; rfl
  · intro h
    unfold mm at h
    cases hm : mxO (valF wb (mm wb a b f 1) a b 0 s who) a with
    | none => rw [hm] at h; simp at h
    | some m =>
      rw [hm] at h
      simp only [Option.getD_some] at h
      subst h
      obtain ⟨⟨c, hc, hv⟩, _⟩ := mxO_some.1 hm
      obtain ⟨p, hfp, hw⟩ := (hval c 99 hv).2 rfl
      obtain ⟨y, hy, rfl, h0, hbel⟩ := fal_some hfp
      have hin := in_rng (a := a) (b := b) hy hc
      refine ⟨y * a + c, ?_, ?_⟩
      · unfold TL
        rw [List.mem_filter, List.mem_range, Bool.and_eq_true, beq_iff_eq]
        exact ⟨by rw [hn]; exact hin, h0, hw⟩
      · rcases Nat.lt_or_ge (y + 1) b with h1 | h1
        · right
          have := hbel (y + 1) (by omega) h1
          rwa [Nat.succ_mul, show y * a + a + c = y * a + c + a by omega] at this
        · left
          have : b * a ≤ (y + 1) * a := Nat.mul_le_mul_right _ h1
          rw [Nat.succ_mul] at this
          rw [hn, Nat.mul_comm a b]; omega
end Go.Proofs.Ytfoojdkbonmmgaa
