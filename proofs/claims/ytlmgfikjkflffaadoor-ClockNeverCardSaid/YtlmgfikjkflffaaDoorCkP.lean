/- The plain law of a clock: what the presses of a device leave, how far a player's time goes, and what its pace is; no program in sight. -/
import Derived.WalkKit
namespace Go.Proofs.YtlmgfikjkflffaaDoor

/-- a control: base, kind, bonus, moves, more. -/
structure Ct where
  base : Nat
  kind : Nat
  bonus : Nat
  moves : Nat
  more : Nat

def takenS (c : Ct) (u : Nat) : Nat := if c.kind = 3 then u - c.bonus else u
def giveS (c : Ct) (t u : Nat) : Nat := if c.kind = 1 then t + c.bonus else if c.kind = 2 then t + min c.bonus u else t
def endS (c : Ct) (m t : Nat) : Nat := if 0 < c.moves ∧ (m + 1) % c.moves = 0 then t + c.more else t
/-- one player's time and moves behind a move; none: the flag falls. -/
def pressS (c : Ct) (t m u : Nat) : Option (Nat × Nat) :=
  if t < takenS c u then none else some (endS c m (giveS c (t - takenS c u) u), m + 1)

/-- the device: times, moves made, moves in all, and who has fallen. -/
structure Dv where
  t0 : Nat
  t1 : Nat
  m0 : Nat
  m1 : Nat
  mv : Nat
  fl : Int

def stepS (c : Ct) (d : Dv) (u : Nat) : Dv × Bool :=
  if d.mv % 2 = 0 then
    match pressS c d.t0 d.m0 u with
    | none => ({ d with t0 := 0, fl := 0 }, false)
    | some r => ({ d with t0 := r.1, m0 := r.2, mv := d.mv + 1 }, true)
  else
    match pressS c d.t1 d.m1 u with
    | none => ({ d with t1 := 0, fl := 1 }, false)
    | some r => ({ d with t1 := r.1, m1 := r.2, mv := d.mv + 1 }, true)

/-- all moves; none: a move behind a fallen flag. -/
def runS (c : Ct) : Dv → List Nat → Option Dv
  | d, [] => some d
  | d, u :: r => if 0 ≤ d.fl then none else runS c (stepS c d u).1 r

def P (c : Ct) (m : Nat) : Nat := c.base + (if c.kind = 0 then 0 else m * c.bonus) + (if 0 < c.moves then m / c.moves * c.more else 0)

theorem div_step (m k : Nat) (hk : 0 < k) : (m + 1) / k = m / k + if (m + 1) % k = 0 then 1 else 0 := by
  have h1 := Nat.div_add_mod m k
  have h2 := Nat.mod_lt m hk
  by_cases h : m % k + 1 = k
  · have e : m + 1 = k * (m / k + 1) := by rw [Nat.mul_add]; omega
    have e2 : (m + 1) % k = 0 := by rw [e]; exact Nat.mul_mod_right _ _
    rw [if_pos e2, e, Nat.mul_div_cancel_left _ hk]
  · have e : m + 1 = k * (m / k) + (m % k + 1) := by omega
    have e2 : (m + 1) % k = m % k + 1 := by
      rw [e, Nat.mul_add_mod, Nat.mod_eq_of_lt (by omega)]
    have e3 : (m % k + 1) / k = 0 := Nat.div_eq_of_lt (by omega)
    have e4 : (m + 1) / k = m / k + (m % k + 1) / k := by
      conv => lhs; rw [e]
      exact Nat.mul_add_div hk _ _
    rw [if_neg (by omega), e4, e3]

theorem P_mono (c : Ct) {a b : Nat} (h : a ≤ b) : P c a ≤ P c b := by
  unfold P
  have h1 := Nat.mul_le_mul_right c.bonus h
  have h2 := Nat.mul_le_mul_right c.more (Nat.div_le_div_right (c := c.moves) h)
  split <;> split <;> omega

theorem P_step (c : Ct) (m : Nat) : P c (m + 1) = P c m + (if c.kind = 0 then 0 else c.bonus) + (if 0 < c.moves ∧ (m + 1) % c.moves = 0 then c.more else 0) := by
  unfold P
  have h2 : (m + 1) * c.bonus = m * c.bonus + c.bonus := Nat.succ_mul _ _
  by_cases hm : 0 < c.moves
  · have h := div_step m c.moves hm
    rw [if_pos hm, if_pos hm, h]
    by_cases hz : (m + 1) % c.moves = 0
    · rw [if_pos hz, if_pos (⟨hm, hz⟩ : 0 < c.moves ∧ (m + 1) % c.moves = 0), Nat.add_mul (m / c.moves) 1 c.more, Nat.one_mul]
      by_cases hk : c.kind = 0
      · simp only [if_pos hk]; omega
      · simp only [if_neg hk]; omega
    · rw [if_neg hz, if_neg (show ¬ (0 < c.moves ∧ (m + 1) % c.moves = 0) from fun x => hz x.2), Nat.add_zero (m / c.moves)]
      by_cases hk : c.kind = 0
      · simp only [if_pos hk]; omega
      · simp only [if_neg hk]; omega
  · rw [if_neg hm, if_neg hm, if_neg (show ¬ (0 < c.moves ∧ (m + 1) % c.moves = 0) from fun x => hm x.1)]
    by_cases hk : c.kind = 0
    · simp only [if_pos hk]
    · simp only [if_neg hk]; omega

theorem giveS_le (c : Ct) (t u : Nat) : giveS c t u ≤ t + (if c.kind = 0 then 0 else c.bonus) := by
  unfold giveS
  have := Nat.min_le_left c.bonus u
  generalize min c.bonus u = mn at *
  by_cases h1 : c.kind = 1
  · rw [if_pos h1, if_neg (by omega)]; exact Nat.le_refl _
  · by_cases h2 : c.kind = 2
    · rw [if_neg h1, if_pos h2, if_neg (by omega)]; omega
    · rw [if_neg h1, if_neg h2]; omega
theorem giveS_zero (c : Ct) (t : Nat) (h : c.kind < 2) : giveS c t 0 = t + (if c.kind = 0 then 0 else c.bonus) := by
  unfold giveS
  by_cases h1 : c.kind = 1
  · rw [if_pos h1, if_neg (by omega)]
  · rw [if_neg h1, if_neg (by omega), if_pos (by omega)]; rfl
theorem endS_eq (c : Ct) (m t : Nat) : endS c m t = t + (if 0 < c.moves ∧ (m + 1) % c.moves = 0 then c.more else 0) := by
  unfold endS
  split <;> rfl
theorem takenS_zero (c : Ct) : takenS c 0 = 0 := by unfold takenS; split <;> omega

theorem pressS_le {c : Ct} {t m u : Nat} {r : Nat × Nat} (h : pressS c t m u = some r) (ht : t ≤ P c m) : r.2 = m + 1 ∧ r.1 ≤ P c (m + 1) := by
  unfold pressS at h
  rw [P_step]
  split at h
  · cases h
  · obtain rfl := Option.some.inj h
    refine ⟨rfl, ?_⟩
    show endS c m _ ≤ _
    rw [endS_eq]
    have := giveS_le c (t - takenS c u) u
    omega

theorem pressS_zero (c : Ct) (t m : Nat) : ∃ r, pressS c t m 0 = some r ∧ (c.kind < 2 → t = P c m → r.1 = P c (m + 1)) := by
  unfold pressS
  rw [takenS_zero, if_neg (by omega)]
  refine ⟨_, rfl, fun hk ht => ?_⟩
  show endS c m _ = _
  rw [P_step, endS_eq, giveS_zero c _ hk]
  omega

/-- what holds all the time: k moves are behind. -/
structure Good (c : Ct) (k : Nat) (d : Dv) : Prop where
  fl0 : -1 ≤ d.fl
  fl1 : d.fl ≤ 1
  mv : d.mv ≤ k
  m0 : d.m0 = (d.mv + 1) / 2
  m1 : d.m1 = d.mv / 2
  t0 : d.t0 ≤ P c d.m0
  t1 : d.t1 ≤ P c d.m1

def dev0 (c : Ct) : Dv := ⟨c.base, c.base, 0, 0, 0, -1⟩
theorem P_zero (c : Ct) : P c 0 = c.base := by unfold P; split <;> split <;> simp
theorem Good.start (c : Ct) : Good c 0 (dev0 c) := ⟨by show (-1 : Int) ≤ -1; decide, by show (-1 : Int) ≤ 1; decide, Nat.le_refl _, show 0 = (0 + 1) / 2 by decide, show 0 = 0 / 2 by decide, by rw [show (dev0 c).m0 = 0 from rfl, P_zero]; exact Nat.le_refl _, by rw [show (dev0 c).m1 = 0 from rfl, P_zero]; exact Nat.le_refl _⟩

theorem Good.step {c : Ct} {k : Nat} {d : Dv} (h : Good c k d) (u : Nat) : Good c (k + 1) (stepS c d u).1 := by
  obtain ⟨f0, f1, hm, h0, h1, ht0, ht1⟩ := h
  unfold stepS
  split
  · rename_i hp
    cases he : pressS c d.t0 d.m0 u with
    | none => exact ⟨by show (-1 : Int) ≤ 0; decide, by show (0 : Int) ≤ 1; decide, Nat.le_succ_of_le hm, h0, h1, Nat.zero_le _, ht1⟩
    | some r =>
      obtain ⟨e, hl⟩ := pressS_le he ht0
      refine ⟨f0, f1, Nat.succ_le_succ hm, ?_, ?_, ?_, ht1⟩
      · show r.2 = (d.mv + 1 + 1) / 2; omega
      · show d.m1 = (d.mv + 1) / 2; omega
      · show r.1 ≤ P c r.2; rw [e]; exact hl
  · rename_i hp
    cases he : pressS c d.t1 d.m1 u with
    | none => exact ⟨by show (-1 : Int) ≤ 1; decide, by show (1 : Int) ≤ 1; decide, Nat.le_succ_of_le hm, h0, h1, ht0, Nat.zero_le _⟩
    | some r =>
      obtain ⟨e, hl⟩ := pressS_le he ht1
      refine ⟨f0, f1, Nat.succ_le_succ hm, ?_, ?_, ht0, ?_⟩
      · show d.m0 = (d.mv + 1 + 1) / 2; omega
      · show r.2 = (d.mv + 1) / 2; omega
      · show r.1 ≤ P c r.2; rw [e]; exact hl

theorem Good.run {c : Ct} : ∀ (l : List Nat) (k : Nat) (d e : Dv), Good c k d → runS c d l = some e → Good c (k + l.length) e
  | [], k, d, e, h, hr => by cases hr; exact h
  | u :: r, k, d, e, h, hr => by
    unfold runS at hr
    split at hr
    · cases hr
    · have := Good.run r (k + 1) _ e (h.step u) hr
      rwa [show k + (u :: r).length = k + 1 + r.length by simp; omega]

/-- with nothing used: nobody falls, and the first player's time is all his pace (no kind that gives less). -/
theorem run_zeros {c : Ct} : ∀ (n k : Nat) (d : Dv), Good c k d → d.mv = k → d.fl = -1 → (c.kind < 2 → d.t0 = P c d.m0) →
    ∃ e, runS c d (List.replicate n 0) = some e ∧ Good c (k + n) e ∧ e.mv = k + n ∧ e.fl = -1 ∧ (c.kind < 2 → e.t0 = P c e.m0)
  | 0, k, d, h, hm, hf, ht => ⟨d, rfl, h, hm, hf, ht⟩
  | n + 1, k, d, h, hm, hf, ht => by
    have key : (stepS c d 0).1.mv = k + 1 ∧ (stepS c d 0).1.fl = -1 ∧ (c.kind < 2 → (stepS c d 0).1.t0 = P c (stepS c d 0).1.m0) := by
      unfold stepS
      split
      · obtain ⟨r, hr, hk⟩ := pressS_zero c d.t0 d.m0
        obtain ⟨e, hl⟩ := pressS_le hr h.t0
        rw [hr]
        exact ⟨by show d.mv + 1 = _; omega, hf, fun h2 => by show r.1 = P c r.2; rw [e]; exact hk h2 (ht h2)⟩
      · obtain ⟨r, hr, hk⟩ := pressS_zero c d.t1 d.m1
        rw [hr]
        exact ⟨by show d.mv + 1 = _; omega, hf, ht⟩
    obtain ⟨e, he, hg, h1, h2, h3⟩ := run_zeros n (k + 1) _ (h.step 0) key.1 key.2.1 key.2.2
    refine ⟨e, ?_, by rwa [show k + (n + 1) = k + 1 + n by omega], by omega, h2, h3⟩
    rw [List.replicate_succ]
    unfold runS
    rw [if_neg (by omega), he]

/-- the law's own words on a run. -/
theorem run_law {c : Ct} {l : List Nat} {e : Dv} (h : runS c (dev0 c) l = some e) :
    -1 ≤ e.fl ∧ e.fl ≤ 1 ∧ e.t0 ≤ P c ((l.length + 1) / 2) ∧ e.mv ≤ l.length := by
  have g := Good.run l 0 _ _ (Good.start c) h
  have hm := g.mv
  refine ⟨g.fl0, g.fl1, Nat.le_trans g.t0 (P_mono c ?_), by omega⟩
  have := g.m0
  omega
theorem zeros_law (c : Ct) (n : Nat) : ∃ e, runS c (dev0 c) (List.replicate n 0) = some e ∧ e.mv = n ∧ e.fl = -1 ∧ (c.kind < 2 → e.t0 = P c ((n + 1) / 2)) := by
  obtain ⟨e, h, g, h1, h2, h3⟩ := run_zeros n 0 (dev0 c) (Good.start c) rfl rfl (fun _ => (P_zero c).symm)
  refine ⟨e, h, by omega, h2, fun hk => ?_⟩
  rw [h3 hk, g.m0]
  congr 2
  omega

/-- how great the numbers grow. -/
theorem P_le {c : Ct} (hb : c.base ≤ 36000000) (hn : c.bonus ≤ 36000000) (hm : c.more ≤ 36000000) {m : Nat} (h : m ≤ 1000) : P c m ≤ 100000000000 := by
  unfold P
  have h1 : m * c.bonus ≤ 1000 * 36000000 := Nat.mul_le_mul h hn
  have h2 : m / c.moves * c.more ≤ 1000 * 36000000 := Nat.mul_le_mul (Nat.le_trans (Nat.div_le_self _ _) h) hm
  split <;> split <;> omega
end Go.Proofs.YtlmgfikjkflffaaDoor
