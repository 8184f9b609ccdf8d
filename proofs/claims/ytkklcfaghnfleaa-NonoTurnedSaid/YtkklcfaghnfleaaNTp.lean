/- Pictures by numbers, in plain Lean: what a line tells is so in each picture; pictures are counted; turned pictures are as many. No conditions. -/
import Derived.Test.YtkklcfaghnfleaaNPl
namespace Go.Proofs.Ytkklcfaghnfleaa

abbrev Pic := Nat → Nat → Int
def rowL (m : Nat) (c : Pic) (y : Nat) : List Int := (List.range m).map (c y)
def colL (n : Nat) (c : Pic) (x : Nat) : List Int := (List.range n).map fun y => c y x
theorem rowL_len (m : Nat) (c : Pic) (y : Nat) : (rowL m c y).length = m := by simp [rowL]
theorem colL_len (n : Nat) (c : Pic) (x : Nat) : (colL n c x).length = n := by simp [colL]
theorem rowL_at {m : Nat} (c : Pic) (y : Nat) {x : Nat} (h : x < m) : (rowL m c y)[x]? = some (c y x) := by simp [rowL, h]
theorem colL_at {n : Nat} (c : Pic) (x : Nat) {y : Nat} (h : y < n) : (colL n c x)[y]? = some (c y x) := by simp [colL, h]
def Vld (n m : Nat) (c : Pic) : Prop := ∀ y x, y < n → x < m → c y x = -1 ∨ c y x = 0 ∨ c y x = 1
/-- c' knows at least what c does. -/
def Rf (n m : Nat) (c c' : Pic) : Prop := ∀ y x, y < n → x < m → c y x = c' y x ∨ (c y x = -1 ∧ (c' y x = 0 ∨ c' y x = 1))
def Full (n m : Nat) (s : Pic) : Prop := ∀ y x, y < n → x < m → s y x = 0 ∨ s y x = 1
def LinesOk (n m : Nat) (R C : Nat → List Nat) (s : Pic) : Prop := (∀ y, y < n → 1 ≤ WS (rowL m s y) (R y)) ∧ ∀ x, x < m → 1 ≤ WS (colL n s x) (C x)
/-- s is a picture with all clues. -/
def Good (n m : Nat) (R C : Nat → List Nat) (s : Pic) : Prop := Full n m s ∧ LinesOk n m R C s
theorem Rf.refl (n m : Nat) (c : Pic) : Rf n m c c := fun _ _ _ _ => .inl rfl
theorem Rf.trans {n m : Nat} {a b c : Pic} (h : Rf n m a b) (k : Rf n m b c) : Rf n m a c := fun y x hy hx => by
  rcases h y x hy hx with h1 | ⟨h1, h2⟩
  · rw [h1]; exact k y x hy hx
  · rcases k y x hy hx with k1 | ⟨k1, k2⟩
    · exact .inr ⟨h1, by rw [← k1]; exact h2⟩
    · exact .inr ⟨h1, k2⟩
theorem Rf.vld {n m : Nat} {a b : Pic} (h : Rf n m a b) (k : Vld n m a) : Vld n m b := fun y x hy hx => by
  rcases h y x hy hx with h1 | ⟨_, h2⟩
  · rw [← h1]; exact k y x hy hx
  · exact .inr h2
theorem Rf.row {n m : Nat} {a b : Pic} (h : Rf n m a b) {y : Nat} (hy : y < n) : Ref (rowL m a y) (rowL m b y) := by
  refine ⟨by rw [rowL_len, rowL_len], fun x hx => ?_⟩
  rw [rowL_len] at hx
  rw [rowL_at a y hx, rowL_at b y hx]
  rcases h y x hy hx with h1 | ⟨h1, h2⟩
  · exact .inl (by rw [h1])
  · refine .inr ⟨by rw [h1], ?_⟩
    rcases h2 with h2 | h2
    · exact .inl (by rw [h2])
    · exact .inr (by rw [h2])
theorem Rf.col {n m : Nat} {a b : Pic} (h : Rf n m a b) {x : Nat} (hx : x < m) : Ref (colL n a x) (colL n b x) := by
  refine ⟨by rw [colL_len, colL_len], fun y hy => ?_⟩
  rw [colL_len] at hy
  rw [colL_at a x hy, colL_at b x hy]
  rcases h y x hy hx with h1 | ⟨h1, h2⟩
  · exact .inl (by rw [h1])
  · refine .inr ⟨by rw [h1], ?_⟩
    rcases h2 with h2 | h2
    · exact .inl (by rw [h2])
    · exact .inr (by rw [h2])

/-- what is sure in a line is so in each whole line that fits. -/
theorem line_sure {l p : List Int} {ks : List Nat} (hks : ∀ k ∈ ks, 1 ≤ k) (hr : Ref l p) (hp : ∀ i, i < l.length → p[i]? = some 0 ∨ p[i]? = some 1) (hw : 1 ≤ WS p ks) {i : Nat} (hi : i < l.length) :
    some (sureAt l ks i) = p[i]? ∨ sureAt l ks i = -1 := by
  unfold sureAt
  rcases hr.2 i hi with h1 | ⟨h1, h2⟩
  · rw [h1]
    rcases hp i hi with h2 | h2
    · rw [h2]; simp
    · rw [h2]; simp
  · rw [h1]
    simp only [Option.getD_some]
    rw [if_neg (by omega)]
    have hpart := WS_part l.length l ks i (Nat.le_refl _) hks h1
    have hset : ∀ v : Int, p[i]? = some v → Ref (l.set i v) p := fun v hv => by
      refine ⟨by rw [List.length_set]; exact hr.1, fun j hj => ?_⟩
      rw [List.length_set] at hj
      by_cases e : i = j
      · subst e; rw [List.getElem?_set_self hj, hv]; exact .inl rfl
      · rw [List.getElem?_set_ne e]; exact hr.2 j hj
    rcases h2 with h2 | h2
    · have := Nat.le_trans hw (WS_ref hks (hset 0 h2))
      rw [if_neg (by omega)]
      split
      · exact .inl h2.symm
      · exact .inr rfl
    · have := Nat.le_trans hw (WS_ref hks (hset 1 h2))
      split
      · exact .inl h2.symm
      · rw [if_neg (by omega)]; exact .inr rfl
theorem sure_ref {l : List Int} {ks : List Nat} {i : Nat} {v : Int} (hi : l[i]? = some v) (hv : v = -1 ∨ v = 0 ∨ v = 1) : v = sureAt l ks i ∨ (v = -1 ∧ (sureAt l ks i = 0 ∨ sureAt l ks i = 1)) := by
  unfold sureAt
  rw [hi]
  simp only [Option.getD_some]
  rcases hv with rfl | rfl | rfl
  · rw [if_neg (by omega)]
    split
    · exact .inr ⟨rfl, .inr rfl⟩
    · split
      · exact .inr ⟨rfl, .inl rfl⟩
      · exact .inl rfl
  · exact .inl rfl
  · exact .inl rfl
/-- a row as it is told. -/
def updR (m : Nat) (c : Pic) (y0 : Nat) (v : Nat → Int) : Pic := fun y x => if y = y0 ∧ x < m then v x else c y x
def set1 (c : Pic) (y0 x0 : Nat) (v : Int) : Pic := fun y x => if y = y0 ∧ x = x0 then v else c y x
/-- a column as far as some row. -/
def updC (c : Pic) (x0 k : Nat) (v : Nat → Int) : Pic := fun y x => if x = x0 ∧ y < k then v y else c y x
theorem updC_zero (c : Pic) (x0 : Nat) (v : Nat → Int) : updC c x0 0 v = c := by
  funext y x; unfold updC; rw [if_neg (by omega)]
theorem updC_succ (c : Pic) (x0 k : Nat) (v : Nat → Int) : updC c x0 (k + 1) v = set1 (updC c x0 k v) k x0 (v k) := by
  funext y x
  unfold updC set1
  by_cases h : y = k ∧ x = x0
  · obtain ⟨rfl, rfl⟩ := h
    rw [if_pos ⟨rfl, by omega⟩, if_pos ⟨rfl, rfl⟩]
  · rw [if_neg h]
    show _ = if x = x0 ∧ y < k then v y else c y x
    by_cases h2 : x = x0 ∧ y < k
    · rw [if_pos ⟨h2.1, by omega⟩, if_pos h2]
    · rw [if_neg h2, if_neg]
      rintro ⟨h3, h4⟩
      by_cases h5 : y = k
      · exact h ⟨h5, h3⟩
      · exact h2 ⟨h3, by omega⟩
theorem row_rf {n m : Nat} {c : Pic} {ks : List Nat} (hv : Vld n m c) {y0 : Nat} (hy : y0 < n) : Rf n m c (updR m c y0 (sureAt (rowL m c y0) ks)) := fun y x h1 h2 => by
  unfold updR
  by_cases h : y = y0 ∧ x < m
  · obtain ⟨rfl, _⟩ := h
    rw [if_pos ⟨rfl, h2⟩]
    exact sure_ref (rowL_at c y h2) (hv y x h1 h2)
  · rw [if_neg h]; exact .inl rfl
theorem col_rf {n m k : Nat} {c : Pic} {ks : List Nat} (hv : Vld n m c) {x0 : Nat} (hx : x0 < m) : Rf n m c (updC c x0 k (sureAt (colL n c x0) ks)) := fun y x h1 h2 => by
  unfold updC
  by_cases h : x = x0 ∧ y < k
  · obtain ⟨rfl, _⟩ := h
    rw [if_pos ⟨rfl, by assumption⟩]
    exact sure_ref (colL_at c x h1) (hv y x h1 h2)
  · rw [if_neg h]; exact .inl rfl
theorem Full.lineR {n m : Nat} {s : Pic} (h : Full n m s) {y : Nat} (hy : y < n) {c : Pic} : ∀ i, i < (rowL m c y).length → (rowL m s y)[i]? = some 0 ∨ (rowL m s y)[i]? = some 1 := fun i hi => by
  rw [rowL_len] at hi
  rw [rowL_at s y hi]
  rcases h y i hy hi with h | h
  · exact .inl (by rw [h])
  · exact .inr (by rw [h])
theorem Full.lineC {n m : Nat} {s : Pic} (h : Full n m s) {x : Nat} (hx : x < m) {c : Pic} : ∀ i, i < (colL n c x).length → (colL n s x)[i]? = some 0 ∨ (colL n s x)[i]? = some 1 := fun i hi => by
  rw [colL_len] at hi
  rw [colL_at s x hi]
  rcases h i x hi hx with h | h
  · exact .inl (by rw [h])
  · exact .inr (by rw [h])
section
variable {n m : Nat} {R C : Nat → List Nat} (hR : ∀ y, y < n → ∀ k ∈ R y, 1 ≤ k) (hC : ∀ x, x < m → ∀ k ∈ C x, 1 ≤ k)
include hR in
theorem row_sol {c s : Pic} (hs : Good n m R C s) (h : Rf n m c s) {y0 : Nat} (hy : y0 < n) : Rf n m (updR m c y0 (sureAt (rowL m c y0) (R y0))) s := fun y x h1 h2 => by
  unfold updR
  by_cases e : y = y0 ∧ x < m
  · obtain ⟨rfl, _⟩ := e
    rw [if_pos ⟨rfl, h2⟩]
    rcases line_sure (hR y h1) (h.row h1) (hs.1.lineR h1) (hs.2.1 y h1) (i := x) (by rw [rowL_len]; exact h2) with h3 | h3
    · rw [rowL_at s y h2] at h3; exact .inl (Option.some.inj h3)
    · exact .inr ⟨h3, hs.1 y x h1 h2⟩
  · rw [if_neg e]; exact h y x h1 h2
include hC in
theorem col_sol {c s : Pic} (hs : Good n m R C s) (h : Rf n m c s) {x0 k : Nat} (hx : x0 < m) : Rf n m (updC c x0 k (sureAt (colL n c x0) (C x0))) s := fun y x h1 h2 => by
  unfold updC
  by_cases e : x = x0 ∧ y < k
  · obtain ⟨rfl, _⟩ := e
    rw [if_pos ⟨rfl, by assumption⟩]
    rcases line_sure (hC x h2) (h.col h2) (hs.1.lineC h2) (hs.2.2 x h2) (i := y) (by rw [colL_len]; exact h1) with h3 | h3
    · rw [colL_at s x h1] at h3; exact .inl (Option.some.inj h3)
    · exact .inr ⟨h3, hs.1 y x h1 h2⟩
  · rw [if_neg e]; exact h y x h1 h2
include hR in
theorem row_none {c s : Pic} (hs : Good n m R C s) (h : Rf n m c s) {y : Nat} (hy : y < n) : 1 ≤ WS (rowL m c y) (R y) := Nat.le_trans (hs.2.1 y hy) (WS_ref (hR y hy) (h.row hy))
include hC in
theorem col_none {c s : Pic} (hs : Good n m R C s) (h : Rf n m c s) {x : Nat} (hx : x < m) : 1 ≤ WS (colL n c x) (C x) := Nat.le_trans (hs.2.2 x hx) (WS_ref (hC x hx) (h.col hx))
end

/-! ### how many places are open -/
def opn (n m : Nat) (c : Pic) : Nat := (List.range (n * m)).countP fun i => c (i / m) (i % m) == -1
theorem countP_lt {α : Type} {p q : α → Bool} : ∀ {l : List α}, (∀ x ∈ l, p x = true → q x = true) → (∃ x ∈ l, p x = false ∧ q x = true) → l.countP p < l.countP q
  | [], _, h => by obtain ⟨x, hx, _⟩ := h; cases hx
  | a :: l, h, h2 => by
    have hle : l.countP p ≤ l.countP q := List.countP_mono_left fun x hx hp => h x (List.mem_cons_of_mem _ hx) hp
    obtain ⟨x, hx, hp, hq⟩ := h2
    rcases List.mem_cons.1 hx with rfl | hx
    · rw [List.countP_cons, List.countP_cons, hp, hq]; simp; omega
    · have ih := countP_lt (fun x hx => h x (List.mem_cons_of_mem _ hx)) ⟨x, hx, hp, hq⟩
      have ha := h a List.mem_cons_self
      rw [List.countP_cons, List.countP_cons]
      cases h3 : p a with
      | false => simp; omega
      | true => rw [ha h3]; simp; omega
theorem fx_lt {n m i : Nat} (h : i < n * m) : i / m < n ∧ i % m < m := by
  have hm : 0 < m := by
    rcases Nat.eq_zero_or_pos m with rfl | hm
    · simp at h
    · exact hm
  exact ⟨Nat.div_lt_of_lt_mul (by rw [Nat.mul_comm]; exact h), Nat.mod_lt _ hm⟩
theorem fx_at {m y x : Nat} (hx : x < m) : (y * m + x) / m = y ∧ (y * m + x) % m = x := by
  have hm : 0 < m := by omega
  constructor
  · rw [Nat.add_comm, Nat.add_mul_div_right _ _ hm, Nat.div_eq_of_lt hx, Nat.zero_add]
  · rw [Nat.add_comm, Nat.add_mul_mod_self_right, Nat.mod_eq_of_lt hx]
theorem fx_in {n m y x : Nat} (hy : y < n) (hx : x < m) : y * m + x < n * m := by
  have : (y + 1) * m ≤ n * m := Nat.mul_le_mul_right _ hy
  rw [Nat.succ_mul] at this
  omega
theorem opn_le {n m : Nat} {a b : Pic} (h : Rf n m a b) : opn n m b ≤ opn n m a := by
  unfold opn
  refine List.countP_mono_left fun i hi hb => ?_
  obtain ⟨h1, h2⟩ := fx_lt (List.mem_range.1 hi)
  have hb' := eq_of_beq hb
  rcases h _ _ h1 h2 with e | ⟨e, e2⟩
  · rw [e]; exact hb
  · rw [e]; rfl
theorem opn_lt {n m : Nat} {a b : Pic} (h : Rf n m a b) {y x : Nat} (hy : y < n) (hx : x < m) (hne : a y x ≠ b y x) : opn n m b < opn n m a := by
  unfold opn
  refine countP_lt (fun i hi hb => ?_) ⟨y * m + x, List.mem_range.2 (fx_in hy hx), ?_, ?_⟩
  · obtain ⟨h1, h2⟩ := fx_lt (List.mem_range.1 hi)
    rcases h _ _ h1 h2 with e | ⟨e, e2⟩
    · rw [e]; exact hb
    · rw [e]; rfl
  · rw [(fx_at hx).1, (fx_at hx).2]
    rcases h y x hy hx with e | ⟨e, e2⟩
    · exact absurd e hne
    · rcases e2 with e2 | e2 <;> rw [e2] <;> rfl
  · rw [(fx_at hx).1, (fx_at hx).2]
    rcases h y x hy hx with e | ⟨e, e2⟩
    · exact absurd e hne
    · rw [e]; rfl

/-! ### pictures are counted -/
def bitsL : Nat → List (List Nat)
  | 0 => [[]]
  | k + 1 => (bitsL k).map (0 :: ·) ++ (bitsL k).map (1 :: ·)
theorem bitsL_mem : ∀ {k : Nat} {s : List Nat}, s ∈ bitsL k ↔ s.length = k ∧ ∀ x ∈ s, x ≤ 1
  | 0, s => by
    unfold bitsL
    rw [List.mem_singleton]
    constructor
    · rintro rfl; exact ⟨rfl, fun x hx => by cases hx⟩
    · exact fun h => List.length_eq_zero_iff.1 h.1
  | k + 1, s => by
    unfold bitsL
    rw [List.mem_append, List.mem_map, List.mem_map]
    constructor
    · rintro (⟨t, ht, rfl⟩ | ⟨t, ht, rfl⟩)
      · obtain ⟨h1, h2⟩ := bitsL_mem.1 ht
        exact ⟨by simp [h1], fun x hx => by rcases List.mem_cons.1 hx with rfl | hx; · omega
                                            · exact h2 x hx⟩
      · obtain ⟨h1, h2⟩ := bitsL_mem.1 ht
        exact ⟨by simp [h1], fun x hx => by rcases List.mem_cons.1 hx with rfl | hx; · omega
                                            · exact h2 x hx⟩
    · rintro ⟨h1, h2⟩
      cases s with
      | nil => simp at h1
      | cons a s =>
        have ha := h2 a List.mem_cons_self
        have hs : s ∈ bitsL k := bitsL_mem.2 ⟨by simpa using h1, fun x hx => h2 x (List.mem_cons_of_mem _ hx)⟩
        rcases (show a = 0 ∨ a = 1 by omega) with rfl | rfl
        · exact .inl ⟨s, hs, rfl⟩
        · exact .inr ⟨s, hs, rfl⟩
theorem nodup_map_inj {α β : Type} {f : α → β} {l : List α} (h : l.Nodup) (hf : ∀ x ∈ l, ∀ y ∈ l, f x = f y → x = y) : (l.map f).Nodup := by
  induction l with
  | nil => exact List.nodup_nil
  | cons a l ih =>
    rw [List.map_cons, List.nodup_cons]
    rw [List.nodup_cons] at h
    refine ⟨fun hm => ?_, ih h.2 fun x hx y hy => hf x (List.mem_cons_of_mem _ hx) y (List.mem_cons_of_mem _ hy)⟩
    obtain ⟨x, hx, e⟩ := List.mem_map.1 hm
    have := hf x (List.mem_cons_of_mem _ hx) a List.mem_cons_self e
    exact h.1 (this ▸ hx)
theorem bitsL_nodup : ∀ k, (bitsL k).Nodup
  | 0 => by simp [bitsL]
  | k + 1 => by
    unfold bitsL
    rw [List.nodup_append]
    refine ⟨nodup_map_inj (bitsL_nodup k) fun x _ y _ e => by simpa using e, nodup_map_inj (bitsL_nodup k) fun x _ y _ e => by simpa using e, ?_⟩
    intro a ha b hb e
    obtain ⟨x, _, rfl⟩ := List.mem_map.1 ha
    obtain ⟨y, _, rfl⟩ := List.mem_map.1 hb
    simp at e
def ofL (m : Nat) (s : List Nat) : Pic := fun y x => ((s[y * m + x]?.getD 0 : Nat) : Int)
def allN (n : Nat) (p : Nat → Bool) : Bool := (List.range n).all p
theorem allN_iff {n : Nat} {p : Nat → Bool} : allN n p = true ↔ ∀ i, i < n → p i = true := by
  unfold allN; rw [List.all_eq_true]; exact ⟨fun h i hi => h i (List.mem_range.2 hi), fun h i hi => h i (List.mem_range.1 hi)⟩
/-- s solves c. -/
def slv (n m : Nat) (R C : Nat → List Nat) (c : Pic) (s : List Nat) : Bool :=
  allN n (fun y => decide (1 ≤ WS (rowL m (ofL m s) y) (R y))) && allN m (fun x => decide (1 ≤ WS (colL n (ofL m s) x) (C x))) && allN n fun y => allN m fun x => decide (c y x = ofL m s y x) || decide (c y x = -1)
theorem ofL_full {n m : Nat} {s : List Nat} (h : s ∈ bitsL (n * m)) : Full n m (ofL m s) := fun y x hy hx => by
  obtain ⟨h1, h2⟩ := bitsL_mem.1 h
  have hi := fx_in hy hx
  unfold ofL
  rw [List.getElem?_eq_getElem (by omega)]
  have := h2 _ (List.getElem_mem (l := s) (n := y * m + x) (by omega))
  simp only [Option.getD_some]
  omega
theorem slv_iff {n m : Nat} {R C : Nat → List Nat} {c : Pic} {s : List Nat} (h : s ∈ bitsL (n * m)) : slv n m R C c s = true ↔ Good n m R C (ofL m s) ∧ Rf n m c (ofL m s) := by
  unfold slv
  rw [Bool.and_eq_true, Bool.and_eq_true, allN_iff, allN_iff, allN_iff]
  have hf := ofL_full h
  constructor
  · rintro ⟨⟨h1, h2⟩, h3⟩
    refine ⟨⟨hf, fun y hy => of_decide_eq_true (h1 y hy), fun x hx => of_decide_eq_true (h2 x hx)⟩, fun y x hy hx => ?_⟩
    have := allN_iff.1 (h3 y hy) x hx
    rw [Bool.or_eq_true, decide_eq_true_eq, decide_eq_true_eq] at this
    rcases this with e | e
    · exact .inl e
    · exact .inr ⟨e, hf y x hy hx⟩
  · rintro ⟨⟨_, h1, h2⟩, h3⟩
    refine ⟨⟨fun y hy => decide_eq_true (h1 y hy), fun x hx => decide_eq_true (h2 x hx)⟩, fun y hy => allN_iff.2 fun x hx => ?_⟩
    rw [Bool.or_eq_true, decide_eq_true_eq, decide_eq_true_eq]
    rcases h3 y x hy hx with e | e
    · exact .inl e
    · exact .inr e.1
def cntP (n m : Nat) (R C : Nat → List Nat) (c : Pic) : Nat := (bitsL (n * m)).countP (slv n m R C c)
theorem cnt_same {n m : Nat} {R C : Nat → List Nat} {c c' : Pic} (h : Rf n m c c') (hs : ∀ s, Good n m R C s → Rf n m c s → Rf n m c' s) : cntP n m R C c = cntP n m R C c' := by
  unfold cntP
  refine List.countP_congr fun s hm => ?_
  rw [slv_iff hm, slv_iff hm]
  exact ⟨fun ⟨h1, h2⟩ => ⟨h1, hs _ h1 h2⟩, fun ⟨h1, h2⟩ => ⟨h1, h.trans h2⟩⟩
theorem cnt_none {n m : Nat} {R C : Nat → List Nat} {c : Pic} (h : ∀ s, Good n m R C s → Rf n m c s → False) : cntP n m R C c = 0 := by
  unfold cntP
  rw [List.countP_eq_zero]
  intro s hm hs
  obtain ⟨h1, h2⟩ := (slv_iff hm).1 hs
  exact h _ h1 h2
/-- the flat list of a picture. -/
def flat (n m : Nat) (c : Pic) : List Nat := (List.range (n * m)).map fun i => (c (i / m) (i % m)).toNat
theorem flat_len (n m : Nat) (c : Pic) : (flat n m c).length = n * m := by simp [flat]
theorem flat_at {n m : Nat} {c : Pic} (hf : Full n m c) {y x : Nat} (hy : y < n) (hx : x < m) : ofL m (flat n m c) y x = c y x := by
  unfold ofL flat
  rw [List.getElem?_map, List.getElem?_range (fx_in hy hx)]
  simp only [Option.map_some, Option.getD_some, (fx_at hx).1, (fx_at hx).2]
  rcases hf y x hy hx with e | e <;> rw [e] <;> rfl
theorem flat_bits {n m : Nat} {c : Pic} (hf : Full n m c) : flat n m c ∈ bitsL (n * m) := by
  refine bitsL_mem.2 ⟨flat_len n m c, fun v hv => ?_⟩
  obtain ⟨i, hi, rfl⟩ := List.mem_map.1 hv
  obtain ⟨h1, h2⟩ := fx_lt (List.mem_range.1 hi)
  rcases hf _ _ h1 h2 with e | e <;> rw [e] <;> decide
theorem ofL_inj {n m : Nat} {s t : List Nat} (hs : s.length = n * m) (ht : t.length = n * m) (h : ∀ y x, y < n → x < m → ofL m s y x = ofL m t y x) : s = t := by
  refine List.ext_getElem (by omega) fun i h1 h2 => ?_
  have hi : i < n * m := by omega
  obtain ⟨h3, h4⟩ := fx_lt hi
  have := h _ _ h3 h4
  unfold ofL at this
  have e : i / m * m + i % m = i := by rw [Nat.mul_comm]; exact Nat.div_add_mod i m
  rw [e, List.getElem?_eq_getElem h1, List.getElem?_eq_getElem h2] at this
  simp only [Option.getD_some] at this
  omega
theorem countP_one {α : Type} {p : α → Bool} : ∀ {l : List α} {a : α}, l.Nodup → a ∈ l → p a = true → (∀ x ∈ l, p x = true → x = a) → l.countP p = 1
  | b :: l, a, hn, ha, hp, h => by
    rw [List.nodup_cons] at hn
    rw [List.countP_cons]
    by_cases e : b = a
    · subst e
      have : l.countP p = 0 := by
        rw [List.countP_eq_zero]
        intro x hx hpx
        have := h x (List.mem_cons_of_mem _ hx) hpx
        exact hn.1 (this ▸ hx)
      rw [this, hp]; rfl
    · have hal : a ∈ l := by
        rcases List.mem_cons.1 ha with h1 | h1
        · exact absurd h1.symm e
        · exact h1
      have ih := countP_one hn.2 hal hp fun x hx => h x (List.mem_cons_of_mem _ hx)
      have hb : p b = false := by
        cases hpb : p b with
        | false => rfl
        | true => exact absurd (h b List.mem_cons_self hpb) e
      rw [ih, hb]; rfl
theorem Rf.full {n m : Nat} {c s : Pic} (hf : Full n m c) (h : Rf n m c s) {y x : Nat} (hy : y < n) (hx : x < m) : s y x = c y x := by
  rcases h y x hy hx with e | ⟨e, _⟩
  · exact e.symm
  · rcases hf y x hy hx with e2 | e2 <;> rw [e2] at e <;> omega
theorem line_eqR {n m : Nat} {s t : Pic} (h : ∀ y x, y < n → x < m → s y x = t y x) {y : Nat} (hy : y < n) : rowL m s y = rowL m t y := by
  unfold rowL; exact List.map_congr_left fun x hx => h y x hy (List.mem_range.1 hx)
theorem line_eqC {n m : Nat} {s t : Pic} (h : ∀ y x, y < n → x < m → s y x = t y x) {x : Nat} (hx : x < m) : colL n s x = colL n t x := by
  unfold colL; exact List.map_congr_left fun y hy => h y x (List.mem_range.1 hy) hx
theorem Good.eq {n m : Nat} {R C : Nat → List Nat} {s t : Pic} (h : ∀ y x, y < n → x < m → s y x = t y x) (hs : Good n m R C s) : Good n m R C t :=
  ⟨fun y x hy hx => by rw [← h y x hy hx]; exact hs.1 y x hy hx, fun y hy => by rw [← line_eqR h hy]; exact hs.2.1 y hy, fun x hx => by rw [← line_eqC h hx]; exact hs.2.2 x hx⟩
/-- a picture that is known whole, and whose lines have ways, is the one. -/
theorem cnt_full {n m : Nat} {R C : Nat → List Nat} {c : Pic} (hg : Good n m R C c) : cntP n m R C c = 1 := by
  unfold cntP
  have hb := flat_bits hg.1
  have he : ∀ y x, y < n → x < m → c y x = ofL m (flat n m c) y x := fun y x hy hx => (flat_at hg.1 hy hx).symm
  refine countP_one (bitsL_nodup _) hb ((slv_iff hb).2 ⟨hg.eq he, fun y x hy hx => .inl (he y x hy hx)⟩) fun s hs h => ?_
  obtain ⟨_, h2⟩ := (slv_iff hs).1 h
  exact ofL_inj (n := n) (m := m) (bitsL_mem.1 hs).1 (flat_len n m c) fun y x hy hx => by rw [← he y x hy hx]; exact h2.full hg.1 hy hx
theorem cnt_pos {n m : Nat} {R C : Nat → List Nat} {c g : Pic} (hg : Good n m R C g) (h : Rf n m c g) : 1 ≤ cntP n m R C c := by
  unfold cntP
  have hb := flat_bits hg.1
  have he : ∀ y x, y < n → x < m → g y x = ofL m (flat n m g) y x := fun y x hy hx => (flat_at hg.1 hy hx).symm
  refine List.countP_pos_iff.2 ⟨_, hb, (slv_iff hb).2 ⟨hg.eq he, fun y x hy hx => ?_⟩⟩
  rw [← he y x hy hx]; exact h y x hy hx
theorem countP_two {α : Type} {p q r : α → Bool} : ∀ {l : List α}, (∀ x ∈ l, p x = (q x || r x) ∧ ¬ (q x = true ∧ r x = true)) → l.countP p = l.countP q + l.countP r
  | [], _ => rfl
  | a :: l, h => by
    have ih := countP_two fun x hx => h x (List.mem_cons_of_mem _ hx)
    obtain ⟨h1, h2⟩ := h a List.mem_cons_self
    rw [List.countP_cons, List.countP_cons, List.countP_cons, ih, h1]
    cases hq : q a <;> cases hr : r a
    · simp
    · simp; omega
    · simp; omega
    · exact absurd ⟨hq, hr⟩ h2
theorem set1_rf {n m : Nat} {c s : Pic} {y0 x0 : Nat} {v : Int} (hy : y0 < n) (hx : x0 < m) (ho : c y0 x0 = -1) (hv : v = 0 ∨ v = 1) : Rf n m (set1 c y0 x0 v) s ↔ Rf n m c s ∧ s y0 x0 = v := by
  constructor
  · intro h
    have h0 := h y0 x0 hy hx
    have e0 : set1 c y0 x0 v y0 x0 = v := by unfold set1; rw [if_pos ⟨rfl, rfl⟩]
    rw [e0] at h0
    have hs : s y0 x0 = v := by
      rcases h0 with h0 | ⟨h0, _⟩
      · exact h0.symm
      · rcases hv with rfl | rfl <;> omega
    refine ⟨fun y x h1 h2 => ?_, hs⟩
    by_cases e : y = y0 ∧ x = x0
    · obtain ⟨rfl, rfl⟩ := e
      exact .inr ⟨ho, by rw [hs]; exact hv⟩
    · have := h y x h1 h2
      unfold set1 at this
      rw [if_neg e] at this
      exact this
  · rintro ⟨h, hs⟩ y x h1 h2
    unfold set1
    by_cases e : y = y0 ∧ x = x0
    · obtain ⟨rfl, rfl⟩ := e
      rw [if_pos ⟨rfl, rfl⟩]; exact .inl hs.symm
    · rw [if_neg e]; exact h y x h1 h2
theorem set1_up {n m : Nat} {c : Pic} {y0 x0 : Nat} {v : Int} (ho : c y0 x0 = -1) (hv : v = 0 ∨ v = 1) : Rf n m c (set1 c y0 x0 v) := fun y x _ _ => by
  unfold set1
  by_cases e : y = y0 ∧ x = x0
  · obtain ⟨rfl, rfl⟩ := e
    rw [if_pos ⟨rfl, rfl⟩]; exact .inr ⟨ho, hv⟩
  · rw [if_neg e]; exact .inl rfl
theorem cnt_split {n m : Nat} {R C : Nat → List Nat} {c : Pic} {y0 x0 : Nat} (hy : y0 < n) (hx : x0 < m) (ho : c y0 x0 = -1) : cntP n m R C c = cntP n m R C (set1 c y0 x0 0) + cntP n m R C (set1 c y0 x0 1) := by
  unfold cntP
  refine countP_two fun s hs => ⟨?_, ?_⟩
  · rw [Bool.eq_iff_iff, Bool.or_eq_true, slv_iff hs, slv_iff hs, slv_iff hs, set1_rf hy hx ho (.inl rfl), set1_rf hy hx ho (.inr rfl)]
    constructor
    · rintro ⟨h1, h2⟩
      rcases h1.1 y0 x0 hy hx with e | e
      · exact .inl ⟨h1, h2, e⟩
      · exact .inr ⟨h1, h2, e⟩
    · rintro (⟨h1, h2, _⟩ | ⟨h1, h2, _⟩) <;> exact ⟨h1, h2⟩
  · rw [slv_iff hs, slv_iff hs, set1_rf hy hx ho (.inl rfl), set1_rf hy hx ho (.inr rfl)]
    rintro ⟨⟨_, _, e⟩, ⟨_, _, e2⟩⟩
    omega

/-! ### turned pictures -/
def open0 : Pic := fun _ _ => -1
def turnL (n m : Nat) (s : List Nat) : List Nat := (List.range (m * n)).map fun i => s[i % n * m + i / n]?.getD 0
theorem turnL_len (n m : Nat) (s : List Nat) : (turnL n m s).length = m * n := by simp [turnL]
theorem turnL_at {n m : Nat} (s : List Nat) {y x : Nat} (hy : y < n) (hx : x < m) : ofL n (turnL n m s) x y = ofL m s y x := by
  unfold ofL turnL
  rw [List.getElem?_map, List.getElem?_range (fx_in hx hy)]
  simp only [Option.map_some, Option.getD_some, (fx_at hy).1, (fx_at hy).2]
theorem turnL_bits {n m : Nat} {s : List Nat} (h : s ∈ bitsL (n * m)) : turnL n m s ∈ bitsL (m * n) := by
  obtain ⟨h1, h2⟩ := bitsL_mem.1 h
  refine bitsL_mem.2 ⟨turnL_len n m s, fun v hv => ?_⟩
  obtain ⟨i, hi, rfl⟩ := List.mem_map.1 hv
  obtain ⟨h3, h4⟩ := fx_lt (List.mem_range.1 hi)
  have := fx_in h4 h3
  rw [List.getElem?_eq_getElem (by omega)]
  exact h2 _ (List.getElem_mem _)
theorem turn_slv {n m : Nat} {R C : Nat → List Nat} {s : List Nat} (h : s ∈ bitsL (n * m)) (hs : slv n m R C open0 s = true) : slv m n C R open0 (turnL n m s) = true := by
  obtain ⟨⟨h1, h2, h3⟩, _⟩ := (slv_iff h).1 hs
  have hb := turnL_bits h
  refine (slv_iff hb).2 ⟨⟨ofL_full hb, fun x hx => ?_, fun y hy => ?_⟩, fun y x hy hx => .inr ⟨rfl, ofL_full hb y x hy hx⟩⟩
  · have : rowL n (ofL n (turnL n m s)) x = colL n (ofL m s) x := by
      unfold rowL colL; exact List.map_congr_left fun y hy => turnL_at s (List.mem_range.1 hy) hx
    rw [this]; exact h3 x hx
  · have : colL m (ofL n (turnL n m s)) y = rowL m (ofL m s) y := by
      unfold rowL colL; exact List.map_congr_left fun x hx => turnL_at s hy (List.mem_range.1 hx)
    rw [this]; exact h2 y hy
theorem len_le_of_sub {α : Type} [DecidableEq α] : ∀ {l k : List α}, l.Nodup → (∀ x ∈ l, x ∈ k) → l.length ≤ k.length
  | [], _, _, _ => Nat.zero_le _
  | a :: l, k, hn, h => by
    rw [List.nodup_cons] at hn
    have ha := h a List.mem_cons_self
    have ih := len_le_of_sub (k := k.erase a) hn.2 fun x hx => (List.mem_erase_of_ne (fun e => hn.1 (by rw [← e]; exact hx))).2 (h x (List.mem_cons_of_mem _ hx))
    rw [List.length_erase_of_mem ha] at ih
    have : 0 < k.length := List.length_pos_of_mem ha
    rw [List.length_cons]; omega
theorem turn_le (n m : Nat) (R C : Nat → List Nat) : cntP n m R C open0 ≤ cntP m n C R open0 := by
  unfold cntP
  rw [List.countP_eq_length_filter, List.countP_eq_length_filter, ← List.length_map (f := turnL n m)]
  refine len_le_of_sub (nodup_map_inj ((bitsL_nodup _).filter _) fun s hs t ht e => ?_) fun u hu => ?_
  · have h1 := (List.mem_filter.1 hs).1
    have h2 := (List.mem_filter.1 ht).1
    refine ofL_inj (n := n) (m := m) (bitsL_mem.1 h1).1 (bitsL_mem.1 h2).1 fun y x hy hx => ?_
    rw [← turnL_at s hy hx, ← turnL_at t hy hx, e]
  · obtain ⟨s, hs, rfl⟩ := List.mem_map.1 hu
    obtain ⟨h1, h2⟩ := List.mem_filter.1 hs
    exact List.mem_filter.2 ⟨turnL_bits h1, turn_slv h1 h2⟩
theorem turn_cnt (n m : Nat) (R C : Nat → List Nat) : cntP n m R C open0 = cntP m n C R open0 := Nat.le_antisymm (turn_le n m R C) (turn_le m n C R)
end Go.Proofs.Ytkklcfaghnfleaa
