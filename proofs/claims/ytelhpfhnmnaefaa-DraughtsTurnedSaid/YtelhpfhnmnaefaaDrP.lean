/- Draughts, plainly: neighbours, jumps, steps, rows of ways in order, and what a turned board has; no program in sight. -/
import Derived.WalkKit
namespace Go.Proofs.Ytelhpfhnmnaefaa

/-- next place in a direction; 0: none. -/
def nxt (p d : Nat) : Nat :=
  let y : Int := ((p : Int) - 1) / 4
  let x : Int := 2 * (((p : Int) - 1) % 4) + 1 - y % 2 + (2 * ((d : Int) % 2) - 1)
  let z : Int := y + (2 * ((d : Int) / 2) - 1)
  if x < 0 ∨ 7 < x ∨ z < 0 ∨ 7 < z then 0 else (4 * z + x / 2 + 1).toNat

theorem nxt_le : ∀ p : Fin 33, ∀ d : Fin 4, 1 ≤ p.val → nxt p.val d.val ≤ 32 := by decide +kernel
theorem nxt_turn : ∀ p : Fin 33, ∀ d : Fin 4, 1 ≤ p.val → nxt (33 - p.val) (3 - d.val) = if nxt p.val d.val = 0 then 0 else 33 - nxt p.val d.val := by decide +kernel

def atS (b : List Int) (s : Int) (p : Nat) : Int := s * b[p]?.getD 0
def dirsS (piece s : Int) : List Nat := if piece = 2 then [0, 1, 2, 3] else if 0 < s then [0, 1] else [2, 3]
def lastS (s : Int) (p : Nat) : Bool := if 0 < s then decide (p ≤ 4) else decide (29 ≤ p)
theorem dirs_lt {piece s : Int} {d : Nat} (h : d ∈ dirsS piece s) : d < 4 := by
  unfold dirsS at h
  split at h
  · simp at h; omega
  · split at h <;> (simp at h; omega)

def fst (way : List Nat) : Nat := way[0]?.getD 0
def lst (way : List Nat) : Nat := way[way.length - 1]?.getD 0
/-- one jump in a direction: what is leapt, and where it ends. -/
def stp (b : List Int) (s : Int) (way over : List Nat) (d : Nat) : Option (Nat × Nat) :=
  let mid := nxt (lst way) d
  if mid = 0 ∨ 0 ≤ atS b s mid ∨ mid ∈ over then none
  else
    let to := nxt mid d
    if to = 0 ∨ (atS b s to ≠ 0 ∧ to ≠ fst way) then none else some (mid, to)

/-- all ways that go on from a way; the fuel: more than there is to leap. -/
def jumpsS (b : List Int) (s piece : Int) : Nat → List Nat → List Nat → List (List Nat)
  | 0, _, _ => []
  | f + 1, way, over =>
    let R := (dirsS piece s).flatMap fun d => (stp b s way over d).elim [] fun r => if piece = 1 ∧ lastS s r.2 = true then [way ++ [r.2]] else jumpsS b s piece f (way ++ [r.2]) (over ++ [r.1])
    R ++ if ((dirsS piece s).all fun d => (stp b s way over d).isNone) = true ∧ 1 < way.length then [way] else []

def stepsS (b : List Int) (s : Int) (p : Nat) : List (List Nat) :=
  if 0 < atS b s p then (dirsS (atS b s p) s).flatMap fun d => if nxt p d ≠ 0 ∧ atS b s (nxt p d) = 0 then [[p, nxt p d]] else [] else []
def leapsS (b : List Int) (s : Int) (p : Nat) : List (List Nat) := if 0 < atS b s p then jumpsS b s (atS b s p) 13 [p] [] else []
/-- places 1 to 32. -/
def places : List Nat := (List.range 32).map (· + 1)
theorem places_mem {p : Nat} : p ∈ places ↔ 1 ≤ p ∧ p ≤ 32 := by
  unfold places
  simp only [List.mem_map, List.mem_range]
  constructor
  · rintro ⟨a, h, rfl⟩; omega
  · intro h; exact ⟨p - 1, by omega, by omega⟩
def outS (b : List Int) (s : Int) : List (List Nat) :=
  let L := places.flatMap (leapsS b s)
  if L.isEmpty then places.flatMap (stepsS b s) else L

/-! ### the turned board -/
/-- c is b turned round, sides changed. -/
def Tn (b c : List Int) : Prop := ∀ p, 1 ≤ p → p ≤ 32 → c[p]?.getD 0 = - b[33 - p]?.getD 0
theorem Tn.symm {b c : List Int} (h : Tn b c) : Tn c b := fun p h1 h2 => by
  rw [h (33 - p) (by omega) (by omega), show 33 - (33 - p) = p by omega, Int.neg_neg]
theorem at_turn {b c : List Int} (h : Tn b c) (s : Int) (p : Nat) (h1 : 1 ≤ p) (h2 : p ≤ 32) : atS c (-s) (33 - p) = atS b s p := by
  unfold atS
  rw [h (33 - p) (by omega) (by omega), show 33 - (33 - p) = p by omega]
  exact Int.neg_mul_neg _ _
theorem dirs_turn {piece s : Int} {d : Nat} (hs : s = 1 ∨ s = -1) (h : d ∈ dirsS piece s) : 3 - d ∈ dirsS piece (-s) := by
  unfold dirsS at *
  split at h
  · rename_i hp; rw [if_pos hp]; simp at h ⊢; omega
  · rename_i hp; rw [if_neg hp]
    rcases hs with rfl | rfl
    · simp at h ⊢; omega
    · simp at h ⊢; omega
theorem last_turn {s : Int} (hs : s = 1 ∨ s = -1) {p : Nat} (h1 : 1 ≤ p) (h2 : p ≤ 32) : lastS (-s) (33 - p) = lastS s p := by
  unfold lastS
  rcases hs with rfl | rfl
  · simp; omega
  · simp; omega

def mir (way : List Nat) : List Nat := way.map (33 - ·)
/-- places of a board. -/
def InB (way : List Nat) : Prop := ∀ p ∈ way, 1 ≤ p ∧ p ≤ 32
theorem mir_mir {way : List Nat} (h : InB way) : mir (mir way) = way := by
  unfold mir
  rw [List.map_map]
  conv => rhs; rw [← List.map_id way]
  apply List.map_congr_left
  intro p hp
  have := h p hp
  simp; omega
theorem inB_mir {way : List Nat} (h : InB way) : InB (mir way) := by
  intro p hp
  obtain ⟨q, hq, rfl⟩ := List.mem_map.1 hp
  have := h q hq
  omega
theorem inB_app {way : List Nat} {p : Nat} (h : InB way) (h1 : 1 ≤ p) (h2 : p ≤ 32) : InB (way ++ [p]) := by
  intro q hq
  rcases List.mem_append.1 hq with hq | hq
  · exact h q hq
  · simp at hq; subst hq; exact ⟨h1, h2⟩
theorem mir_app (way : List Nat) (p : Nat) : mir (way ++ [p]) = mir way ++ [33 - p] := by simp [mir]
theorem fst_mir {way : List Nat} (h : way ≠ []) : fst (mir way) = 33 - fst way := by
  unfold fst mir
  cases way with
  | nil => exact absurd rfl h
  | cons a r => rfl
theorem lst_mem {way : List Nat} (h : way ≠ []) : lst way ∈ way := by
  unfold lst
  have : way.length - 1 < way.length := by have := List.length_pos_iff.2 h; omega
  rw [List.getElem?_eq_getElem this]
  exact List.getElem_mem this
theorem fst_mem {way : List Nat} (h : way ≠ []) : fst way ∈ way := by
  unfold fst
  have : 0 < way.length := List.length_pos_iff.2 h
  rw [List.getElem?_eq_getElem this]
  exact List.getElem_mem this
theorem lst_mir {way : List Nat} (h : way ≠ []) : lst (mir way) = 33 - lst way := by
  unfold lst mir
  rw [List.length_map]
  have : way.length - 1 < way.length := by have := List.length_pos_iff.2 h; omega
  simp [this]
theorem mem_mir {over : List Nat} (h : InB over) {m : Nat} (h1 : 1 ≤ m) (h2 : m ≤ 32) : 33 - m ∈ mir over ↔ m ∈ over := by
  unfold mir
  rw [List.mem_map]
  constructor
  · rintro ⟨a, ha, e⟩
    have := h a ha
    obtain rfl : a = m := by omega
    exact ha
  · intro hm; exact ⟨m, hm, rfl⟩

theorem stp_in {b : List Int} {s : Int} {way over : List Nat} {d : Nat} {r : Nat × Nat} (hw : InB way) (hne : way ≠ []) (hd : d < 4) (h : stp b s way over d = some r) :
    r.1 = nxt (lst way) d ∧ r.2 = nxt r.1 d ∧ (1 ≤ r.1 ∧ r.1 ≤ 32) ∧ (1 ≤ r.2 ∧ r.2 ≤ 32) ∧ atS b s r.1 < 0 ∧ r.1 ∉ over := by
  have hl := hw _ (lst_mem hne)
  have h1 := nxt_le ⟨lst way, by omega⟩ ⟨d, hd⟩ hl.1
  simp only at h1
  unfold stp at h
  simp only at h
  split at h
  · cases h
  · rename_i hc
    split at h
    · cases h
    · rename_i hc2
      cases h
      simp only [not_or, not_and, Decidable.not_not] at hc hc2
      have h2 := nxt_le ⟨nxt (lst way) d, by omega⟩ ⟨d, hd⟩ (by simp only; omega)
      simp only at h2
      exact ⟨rfl, rfl, ⟨Nat.pos_of_ne_zero hc.1, h1⟩, ⟨Nat.pos_of_ne_zero hc2.1, h2⟩, Int.not_le.1 hc.2.1, hc.2.2⟩

theorem stp_turn {b c : List Int} (hT : Tn b c) {s : Int} {way over : List Nat} {d : Nat} (hw : InB way) (ho : InB over) (hne : way ≠ []) (hd : d < 4) :
    stp c (-s) (mir way) (mir over) (3 - d) = (stp b s way over d).map fun r => (33 - r.1, 33 - r.2) := by
  have hl := hw _ (lst_mem hne)
  have hf := hw _ (fst_mem hne)
  have h1 := nxt_le ⟨lst way, by omega⟩ ⟨d, hd⟩ hl.1
  have t1 := nxt_turn ⟨lst way, by omega⟩ ⟨d, hd⟩ hl.1
  simp only at h1 t1
  unfold stp
  simp only [lst_mir hne, fst_mir hne, t1]
  obtain ⟨m, hm⟩ : ∃ m, nxt (lst way) d = m := ⟨_, rfl⟩
  simp only [hm] at h1 ⊢
  by_cases h0 : m = 0
  · simp [h0]
  · have t2 := nxt_turn ⟨m, by omega⟩ ⟨d, hd⟩ (by simp only; omega)
    have h2 := nxt_le ⟨m, by omega⟩ ⟨d, hd⟩ (by simp only; omega)
    simp only at t2 h2
    have e1 : (33 - m = 0 ∨ 0 ≤ atS c (-s) (33 - m) ∨ 33 - m ∈ mir over) ↔ (m = 0 ∨ 0 ≤ atS b s m ∨ m ∈ over) := by
      rw [at_turn hT s m (by omega) h1, mem_mir ho (by omega) h1]
      constructor
      · rintro (h | h)
        · omega
        · exact .inr h
      · rintro (h | h)
        · exact absurd h h0
        · exact .inr h
    simp only [if_neg h0, e1, t2]
    obtain ⟨q, hq⟩ : ∃ q, nxt m d = q := ⟨_, rfl⟩
    simp only [hq] at h2 ⊢
    by_cases hc : m = 0 ∨ 0 ≤ atS b s m ∨ m ∈ over
    · simp only [if_pos hc]; rfl
    · simp only [if_neg hc]
      by_cases hz : q = 0
      · simp [hz]
      · have e2 : (33 - q = 0 ∨ atS c (-s) (33 - q) ≠ 0 ∧ 33 - q ≠ 33 - fst way) ↔ (q = 0 ∨ atS b s q ≠ 0 ∧ q ≠ fst way) := by
          rw [at_turn hT s q (by omega) h2]
          constructor
          · rintro (h | h)
            · omega
            · exact .inr ⟨h.1, by omega⟩
          · rintro (h | h)
            · exact absurd h hz
            · exact .inr ⟨h.1, by omega⟩
        simp only [if_neg hz, e2]
        by_cases hc2 : q = 0 ∨ atS b s q ≠ 0 ∧ q ≠ fst way
        · simp only [if_pos hc2]; rfl
        · simp only [if_neg hc2]; rfl

theorem jumps_turn {b c : List Int} (hT : Tn b c) {s piece : Int} (hs : s = 1 ∨ s = -1) : ∀ (f : Nat) (way over x : List Nat), InB way → InB over → way ≠ [] → x ∈ jumpsS b s piece f way over → mir x ∈ jumpsS c (-s) piece f (mir way) (mir over)
  | 0, _, _, _, _, _, _, h => by simp [jumpsS] at h
  | f + 1, way, over, x, hw, ho, hne, h => by
    unfold jumpsS at h ⊢
    simp only [List.mem_append] at h ⊢
    rcases h with h | h
    · left
      obtain ⟨d, hd, hx⟩ := List.mem_flatMap.1 h
      refine List.mem_flatMap.2 ⟨3 - d, dirs_turn hs hd, ?_⟩
      rw [stp_turn hT hw ho hne (dirs_lt hd)]
      cases he : stp b s way over d with
      | none => rw [he] at hx; simp at hx
      | some r =>
        rw [he] at hx
        obtain ⟨_, _, i1, i2, _, _⟩ := stp_in hw hne (dirs_lt hd) he
        simp only [Option.map_some, Option.elim_some] at hx ⊢
        rw [last_turn hs i2.1 i2.2]
        split at hx
        · rename_i hc
          rw [if_pos hc]
          simp at hx
          subst hx
          rw [mir_app]; simp
        · rename_i hc
          rw [if_neg hc]
          have := jumps_turn hT hs f _ _ x (inB_app hw i2.1 i2.2) (inB_app ho i1.1 i1.2) (by simp) hx
          rwa [mir_app, mir_app] at this
    · right
      split at h
      · rename_i hc
        simp at h
        subst h
        have hall : ((dirsS piece (-s)).all fun d => (stp c (-s) (mir x) (mir over) d).isNone) = true := by
          rw [List.all_eq_true] at hc ⊢
          intro d hd
          have h4 := dirs_lt hd
          have hd2 : 3 - d ∈ dirsS piece s := by have := dirs_turn (by rcases hs with rfl | rfl <;> simp) hd; rwa [Int.neg_neg] at this
          have e := stp_turn hT (s := s) hw ho hne (d := 3 - d) (by omega)
          rw [show 3 - (3 - d) = d by omega] at e
          rw [e]
          have := hc.1 _ hd2
          cases he : stp b s x over (3 - d) with
          | none => rfl
          | some r => rw [he] at this; cases this
        rw [if_pos ⟨hall, by simpa [mir] using hc.2⟩]
        simp
      · simp at h

theorem jumps_in {b : List Int} {s piece : Int} : ∀ (f : Nat) (way over x : List Nat), InB way → InB over → way ≠ [] → x ∈ jumpsS b s piece f way over → InB x
  | 0, _, _, _, _, _, _, h => by simp [jumpsS] at h
  | f + 1, way, over, x, hw, ho, hne, h => by
    unfold jumpsS at h
    simp only [List.mem_append] at h
    rcases h with h | h
    · obtain ⟨d, hd, hx⟩ := List.mem_flatMap.1 h
      cases he : stp b s way over d with
      | none => rw [he] at hx; simp at hx
      | some r =>
        rw [he] at hx
        obtain ⟨_, _, i1, i2, _, _⟩ := stp_in hw hne (dirs_lt hd) he
        simp only [Option.elim_some] at hx
        split at hx
        · simp at hx; subst hx; exact inB_app hw i2.1 i2.2
        · exact jumps_in f _ _ x (inB_app hw i2.1 i2.2) (inB_app ho i1.1 i1.2) (by simp) hx
    · split at h
      · simp at h; subst h; exact hw
      · simp at h

theorem leaps_turn {b c : List Int} (hT : Tn b c) {s : Int} (hs : s = 1 ∨ s = -1) {p : Nat} (h1 : 1 ≤ p) (h2 : p ≤ 32) {x : List Nat} (h : x ∈ leapsS b s p) : mir x ∈ leapsS c (-s) (33 - p) := by
  unfold leapsS at *
  rw [at_turn hT s p h1 h2]
  split at h
  · rename_i hc
    rw [if_pos hc]
    exact jumps_turn hT hs 13 [p] [] x (by intro q hq; simp at hq; omega) (by intro q hq; simp at hq) (by simp) h
  · simp at h
theorem steps_turn {b c : List Int} (hT : Tn b c) {s : Int} (hs : s = 1 ∨ s = -1) {p : Nat} (h1 : 1 ≤ p) (h2 : p ≤ 32) {x : List Nat} (h : x ∈ stepsS b s p) : mir x ∈ stepsS c (-s) (33 - p) := by
  unfold stepsS at *
  rw [at_turn hT s p h1 h2]
  split at h
  · rename_i hc
    rw [if_pos hc]
    obtain ⟨d, hd, hx⟩ := List.mem_flatMap.1 h
    have h4 := dirs_lt hd
    refine List.mem_flatMap.2 ⟨3 - d, dirs_turn hs hd, ?_⟩
    have t1 := nxt_turn ⟨p, by omega⟩ ⟨d, h4⟩ h1
    have t2 := nxt_le ⟨p, by omega⟩ ⟨d, h4⟩ h1
    simp only at t1 t2
    split at hx
    · rename_i hc2
      rw [if_neg hc2.1] at t1
      rw [t1, at_turn hT s _ (by omega) t2, if_pos ⟨by omega, hc2.2⟩]
      simp at hx
      subst hx
      simp [mir]
    · simp at hx
  · simp at h
theorem steps_in {b : List Int} {s : Int} {p : Nat} (h1 : 1 ≤ p) (h2 : p ≤ 32) {x : List Nat} (h : x ∈ stepsS b s p) : InB x := by
  unfold stepsS at h
  split at h
  · obtain ⟨d, hd, hx⟩ := List.mem_flatMap.1 h
    have t2 := nxt_le ⟨p, by omega⟩ ⟨d, dirs_lt hd⟩ h1
    simp only at t2
    split at hx
    · rename_i hc2
      simp at hx
      subst hx
      intro q hq
      simp at hq
      rcases hq with rfl | rfl
      · exact ⟨h1, h2⟩
      · exact ⟨by have := hc2.1; omega, t2⟩
    · simp at hx
  · simp at h
theorem leaps_in {b : List Int} {s : Int} {p : Nat} (h1 : 1 ≤ p) (h2 : p ≤ 32) {x : List Nat} (h : x ∈ leapsS b s p) : InB x := by
  unfold leapsS at h
  split at h
  · exact jumps_in 13 [p] [] x (by intro q hq; simp at hq; omega) (by intro q hq; simp at hq) (by simp) h
  · simp at h

theorem out_in {b : List Int} {s : Int} {x : List Nat} (h : x ∈ outS b s) : InB x := by
  unfold outS at h
  simp only at h
  split at h
  · obtain ⟨p, hp, hx⟩ := List.mem_flatMap.1 h
    have := places_mem.1 hp
    exact steps_in this.1 this.2 hx
  · obtain ⟨p, hp, hx⟩ := List.mem_flatMap.1 h
    have := places_mem.1 hp
    exact leaps_in this.1 this.2 hx

/-! ### rows in order -/
def cmpL : List Nat → List Nat → Int
  | [], [] => 0
  | [], _ :: _ => -1
  | _ :: _, [] => 1
  | a :: x, b :: y => if a < b then -1 else if b < a then 1 else cmpL x y
theorem cmpL_self : ∀ x, cmpL x x = 0
  | [] => rfl
  | a :: x => by unfold cmpL; rw [if_neg (Nat.lt_irrefl _), if_neg (Nat.lt_irrefl _)]; exact cmpL_self x
theorem cmpL_range : ∀ x y, cmpL x y = -1 ∨ cmpL x y = 0 ∨ cmpL x y = 1
  | [], [] => .inr (.inl rfl)
  | [], _ :: _ => .inl rfl
  | _ :: _, [] => .inr (.inr rfl)
  | a :: x, b :: y => by
    unfold cmpL
    split
    · exact .inl rfl
    · split
      · exact .inr (.inr rfl)
      · exact cmpL_range x y
theorem cmpL_neg : ∀ x y, cmpL y x = - cmpL x y
  | [], [] => rfl
  | [], _ :: _ => rfl
  | _ :: _, [] => rfl
  | a :: x, b :: y => by
    unfold cmpL
    rcases Nat.lt_trichotomy a b with h | h | h
    · rw [if_neg (by omega), if_pos h, if_pos h]; rfl
    · rw [if_neg (by omega), if_neg (by omega), if_neg (by omega), if_neg (by omega)]; exact cmpL_neg x y
    · rw [if_pos h, if_neg (by omega), if_pos h]
theorem cmpL_zero : ∀ x y, cmpL x y = 0 → x = y
  | [], [], _ => rfl
  | [], _ :: _, h => by cases h
  | _ :: _, [], h => by cases h
  | a :: x, b :: y, h => by
    unfold cmpL at h
    split at h
    · cases h
    · split at h
      · cases h
      · rw [cmpL_zero x y h, show a = b by omega]
theorem cmpL_trans : ∀ x y z, cmpL x y ≤ 0 → cmpL y z ≤ 0 → cmpL x z ≤ 0 ∧ (cmpL x z = 0 → cmpL x y = 0 ∧ cmpL y z = 0)
  | [], [], z, _, h => ⟨h, fun e => ⟨rfl, e⟩⟩
  | [], _ :: _, [], h, h2 => by exact absurd h2 (by unfold cmpL; decide)
  | [], _ :: _, _ :: _, _, _ => ⟨by unfold cmpL; decide, fun e => by cases e⟩
  | _ :: _, [], _, h, _ => absurd h (by unfold cmpL; decide)
  | _ :: _, _ :: _, [], _, h => absurd h (by unfold cmpL; decide)
  | a :: x, b :: y, c :: z, h1, h2 => by
    unfold cmpL at *
    by_cases hab : a < b
    · by_cases hbc : b < c
      · rw [if_pos (by omega)]; exact ⟨by decide, fun e => by cases e⟩
      · rw [if_neg hbc] at h2
        by_cases hcb : c < b
        · rw [if_pos hcb] at h2; exact absurd h2 (by decide)
        · rw [if_pos (by omega)]; exact ⟨by decide, fun e => by cases e⟩
    · rw [if_neg hab] at h1
      by_cases hba : b < a
      · rw [if_pos hba] at h1; exact absurd h1 (by decide)
      · rw [if_neg hba] at h1
        by_cases hbc : b < c
        · rw [if_pos (by omega)]; exact ⟨by decide, fun e => by cases e⟩
        · rw [if_neg hbc] at h2
          by_cases hcb : c < b
          · rw [if_pos hcb] at h2; exact absurd h2 (by decide)
          · rw [if_neg hcb] at h2
            have := cmpL_trans x y z h1 h2
            rw [if_neg (by omega), if_neg (by omega), if_neg hab, if_neg hba, if_neg hbc, if_neg hcb]
            exact this

/-- adjacent like ones taken once, of the first k of a row. -/
def cpN {α : Type} [DecidableEq α] (f : Nat → α) : Nat → List α
  | 0 => []
  | 1 => [f 0]
  | k + 2 => if f (k + 1) = f k then cpN f (k + 1) else cpN f (k + 1) ++ [f (k + 1)]
/-- a row in strict order. -/
def Strict (l : List (List Nat)) : Prop := l.Pairwise fun x y => cmpL x y < 0

theorem cpN_spec (f : Nat → List Nat) : ∀ k, (∀ i j, i < j → j < k + 1 → cmpL (f i) (f j) ≤ 0) → Strict (cpN f (k + 1)) ∧ (∀ x, x ∈ cpN f (k + 1) ↔ ∃ i, i < k + 1 ∧ f i = x)
  | 0, _ => by
    refine ⟨List.pairwise_singleton _ _, fun x => ?_⟩
    show x ∈ [f 0] ↔ _
    rw [List.mem_singleton]
    constructor
    · rintro rfl; exact ⟨0, by omega, rfl⟩
    · rintro ⟨i, hi, rfl⟩; rw [show i = 0 by omega]
  | k + 1, h => by
    obtain ⟨h1, h2⟩ := cpN_spec f k (fun i j hij hj => h i j hij (by omega))
    unfold cpN
    split
    · rename_i e
      refine ⟨h1, fun x => ?_⟩
      rw [h2 x]
      constructor
      · rintro ⟨i, hi, rfl⟩; exact ⟨i, by omega, rfl⟩
      · rintro ⟨i, hi, rfl⟩
        by_cases hk : i = k + 1
        · exact ⟨k, by omega, by rw [hk, e]⟩
        · exact ⟨i, by omega, rfl⟩
    · rename_i e
      refine ⟨?_, fun x => ?_⟩
      · unfold Strict
        rw [List.pairwise_append]
        refine ⟨h1, List.pairwise_singleton _ _, fun x hx y hy => ?_⟩
        simp at hy
        subst hy
        obtain ⟨i, hi, rfl⟩ := (h2 x).1 hx
        have hle := h i (k + 1) (by omega) (by omega)
        rcases cmpL_range (f i) (f (k + 1)) with hc | hc | hc
        · omega
        · exfalso
          have h3 : cmpL (f i) (f k) ≤ 0 := by
            by_cases hik : i = k
            · rw [hik, cmpL_self]; decide
            · exact h i k (by omega) (by omega)
          have h4 := (cmpL_trans _ _ _ h3 (h k (k + 1) (by omega) (by omega))).2 hc
          exact e (cmpL_zero _ _ h4.2).symm
        · omega
      · rw [List.mem_append, h2 x, List.mem_singleton]
        constructor
        · rintro (⟨i, hi, rfl⟩ | rfl)
          · exact ⟨i, by omega, rfl⟩
          · exact ⟨k + 1, by omega, rfl⟩
        · rintro ⟨i, hi, rfl⟩
          by_cases hk : i = k + 1
          · exact .inr (by rw [hk])
          · exact .inl ⟨i, by omega, rfl⟩

theorem strict_eq : ∀ (l m : List (List Nat)), Strict l → Strict m → (∀ x, x ∈ l ↔ x ∈ m) → l = m
  | [], [], _, _, _ => rfl
  | [], b :: m, _, _, h => absurd ((h b).2 (List.mem_cons_self ..)) (by simp)
  | a :: l, [], _, _, h => absurd ((h a).1 (List.mem_cons_self ..)) (by simp)
  | a :: l, b :: m, h1, h2, h => by
    obtain ⟨p1, q1⟩ := List.pairwise_cons.1 h1
    obtain ⟨p2, q2⟩ := List.pairwise_cons.1 h2
    have hab : a = b := by
      rcases List.mem_cons.1 ((h a).1 (List.mem_cons_self ..)) with e | e
      · exact e
      · rcases List.mem_cons.1 ((h b).2 (List.mem_cons_self ..)) with e2 | e2
        · exact e2.symm
        · have c1 := p2 a e
          have c2 := p1 b e2
          rw [cmpL_neg] at c1
          omega
    subst hab
    have hna : a ∉ l := fun e => by have := p1 a e; rw [cmpL_self] at this; omega
    have hnb : a ∉ m := fun e => by have := p2 a e; rw [cmpL_self] at this; omega
    rw [strict_eq l m q1 q2 fun x => ⟨fun hx => by
      rcases List.mem_cons.1 ((h x).1 (List.mem_cons_of_mem _ hx)) with e | e
      · exact absurd (e ▸ hx) hna
      · exact e, fun hx => by
      rcases List.mem_cons.1 ((h x).2 (List.mem_cons_of_mem _ hx)) with e | e
      · exact absurd (e ▸ hx) hnb
      · exact e⟩]
theorem strict_nodup {l : List (List Nat)} (h : Strict l) : l.Nodup := by
  refine List.Pairwise.imp ?_ h
  intro x y hxy e
  rw [e, cmpL_self] at hxy
  omega
theorem nodup_le {α : Type} [DecidableEq α] : ∀ (l m : List α), l.Nodup → (∀ x ∈ l, x ∈ m) → l.length ≤ m.length
  | [], _, _, _ => Nat.zero_le _
  | a :: l, m, hn, h => by
    obtain ⟨h1, h2⟩ := List.nodup_cons.1 hn
    have ha := h a (List.mem_cons_self ..)
    have := nodup_le l (m.erase a) h2 fun x hx => (List.mem_erase_of_ne (fun e => h1 (by rw [← e]; exact hx))).2 (h x (List.mem_cons_of_mem _ hx))
    rw [List.length_erase_of_mem ha] at this
    have := List.length_pos_of_mem ha
    simp only [List.length_cons]; omega

/-- the ways of a board, as a row in strict order. -/
structure Ways (b : List Int) (s : Int) (R : List (List Nat)) : Prop where
  st : Strict R
  mem : ∀ x, x ∈ R ↔ x ∈ outS b s

theorem out_turn {b c : List Int} (hT : Tn b c) {s : Int} (hs : s = 1 ∨ s = -1) {x : List Nat} (h : x ∈ outS b s) : mir x ∈ outS c (-s) := by
  have hs2 : -s = 1 ∨ -s = -1 := by rcases hs with rfl | rfl <;> simp
  unfold outS at *
  simp only at *
  by_cases hL : (places.flatMap (leapsS b s)).isEmpty = true
  · rw [if_pos hL] at h
    have hL2 : (places.flatMap (leapsS c (-s))).isEmpty = true := by
      rw [List.isEmpty_iff, List.flatMap_eq_nil_iff] at hL ⊢
      intro p hp
      have hp1 := places_mem.1 hp
      apply List.eq_nil_iff_forall_not_mem.2
      intro y hy
      have h3 := hL (33 - p) (places_mem.2 (by omega))
      have h5 := leaps_turn hT.symm hs2 hp1.1 hp1.2 hy
      rw [Int.neg_neg] at h5
      rw [h3] at h5
      simp at h5
    rw [if_pos hL2]
    obtain ⟨p, hp, hx⟩ := List.mem_flatMap.1 h
    have hp1 := places_mem.1 hp
    exact List.mem_flatMap.2 ⟨33 - p, places_mem.2 (by omega), steps_turn hT hs hp1.1 hp1.2 hx⟩
  · rw [if_neg hL] at h
    obtain ⟨p, hp, hx⟩ := List.mem_flatMap.1 h
    have hp1 := places_mem.1 hp
    have hm := leaps_turn hT hs hp1.1 hp1.2 hx
    have hmem : mir x ∈ places.flatMap (leapsS c (-s)) := List.mem_flatMap.2 ⟨33 - p, places_mem.2 (by omega), hm⟩
    rw [if_neg (by rw [List.isEmpty_iff]; intro e; rw [e] at hmem; simp at hmem)]
    exact hmem

theorem ways_turn {b c : List Int} (hT : Tn b c) {s : Int} (hs : s = 1 ∨ s = -1) {R Q : List (List Nat)} (hR : Ways b s R) (hQ : Ways c (-s) Q) : R.length = Q.length ∧ ∀ x ∈ R, mir x ∈ Q := by
  have hs2 : -s = 1 ∨ -s = -1 := by rcases hs with rfl | rfl <;> simp
  have one : ∀ {b c : List Int} {s : Int} {R Q : List (List Nat)}, Tn b c → (s = 1 ∨ s = -1) → Ways b s R → Ways c (-s) Q → R.length ≤ Q.length ∧ ∀ x ∈ R, mir x ∈ Q := by
    intro b c s R Q hT hs hR hQ
    have h1 : ∀ x ∈ R, mir x ∈ Q := fun x hx => (hQ.mem _).2 (out_turn hT hs ((hR.mem x).1 hx))
    refine ⟨?_, h1⟩
    have hn : (R.map mir).Nodup := by
      rw [List.nodup_iff_pairwise_ne, List.pairwise_map]
      refine List.Pairwise.imp_of_mem ?_ (List.nodup_iff_pairwise_ne.1 (strict_nodup hR.st))
      intro x y hx hy hxy e
      apply hxy
      rw [← mir_mir (out_in ((hR.mem x).1 hx)), e, mir_mir (out_in ((hR.mem y).1 hy))]
    have := nodup_le _ Q hn fun x hx => by
      obtain ⟨y, hy, rfl⟩ := List.mem_map.1 hx
      exact h1 y hy
    simpa using this
  have a := one hT hs hR hQ
  have b := one hT.symm hs2 hQ (by rw [Int.neg_neg]; exact hR)
  exact ⟨by omega, a.2⟩
end Go.Proofs.Ytelhpfhnmnaefaa
