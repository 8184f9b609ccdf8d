/- Plain laws of orders: the sign of a list (by pairs out of order), products, exchanges; sorting; no program in sight, no conditions. -/
import Derived.Test.YtkakggagaplaiaaNl
import Derived.Test.YtkakggagaplaiaaSrd
namespace Go.Proofs.Ytkakggagaplaiaa

/-- the product of f over all pairs of a list, the earlier one first. -/
def prodL (f : Nat → Int) : List Nat → Int
  | [] => 1
  | x :: xs => f x * prodL f xs
def pp (f : Nat → Nat → Int) : List Nat → Int
  | [] => 1
  | x :: xs => prodL (f x) xs * pp f xs
theorem prodL_perm {f : Nat → Int} {a b : List Nat} (h : a.Perm b) : prodL f a = prodL f b := by
  induction h with
  | nil => rfl
  | cons x _ ih => simp [prodL, ih]
  | swap x y l => simp [prodL, Int.mul_left_comm]
  | trans _ _ h1 h2 => rw [h1, h2]
theorem pp_perm {f : Nat → Nat → Int} (hs : ∀ x y, f x y = f y x) {a b : List Nat} (h : a.Perm b) : pp f a = pp f b := by
  induction h with
  | nil => rfl
  | cons x h ih => simp [pp, ih, prodL_perm h]
  | swap x y l =>
    simp only [pp, prodL, hs y x]
    simp only [Int.mul_assoc, Int.mul_left_comm, Int.mul_comm]
  | trans _ _ h1 h2 => rw [h1, h2]
theorem prodL_mul (f g : Nat → Int) (l : List Nat) : prodL (fun x => f x * g x) l = prodL f l * prodL g l := by
  induction l with
  | nil => rfl
  | cons x xs ih => simp only [prodL, ih]; simp only [Int.mul_assoc, Int.mul_left_comm]
theorem pp_mul (f g : Nat → Nat → Int) (l : List Nat) : pp (fun x y => f x y * g x y) l = pp f l * pp g l := by
  induction l with
  | nil => rfl
  | cons x xs ih => simp only [pp, ih, prodL_mul]; simp only [Int.mul_assoc, Int.mul_left_comm]
theorem prodL_congr {f g : Nat → Int} {l : List Nat} (h : ∀ x ∈ l, f x = g x) : prodL f l = prodL g l := by
  induction l with
  | nil => rfl
  | cons x xs ih => simp only [prodL]; rw [h x (by simp), ih fun y hy => h y (by simp [hy])]
theorem pp_congr {f g : Nat → Nat → Int} {l : List Nat} (hn : l.Nodup) (h : ∀ x ∈ l, ∀ y ∈ l, x ≠ y → f x y = g x y) : pp f l = pp g l := by
  induction l with
  | nil => rfl
  | cons x xs ih =>
    rw [List.nodup_cons] at hn
    simp only [pp]
    rw [ih hn.2 fun y hy z hz => h y (by simp [hy]) z (by simp [hz]), prodL_congr fun y hy => h x (by simp) y (by simp [hy]) (fun e => hn.1 (e ▸ hy))]
theorem pp_congr_lt {f g : Nat → Nat → Int} {l : List Nat} (hn : l.Pairwise (· < ·)) (h : ∀ x ∈ l, ∀ y ∈ l, x < y → f x y = g x y) : pp f l = pp g l := by
  induction l with
  | nil => rfl
  | cons x xs ih =>
    rw [List.pairwise_cons] at hn
    simp only [pp]
    rw [ih hn.2 fun y hy z hz => h y (by simp [hy]) z (by simp [hz]), prodL_congr fun y hy => h x (by simp) y (by simp [hy]) (hn.1 y hy)]
theorem prodL_map (f : Nat → Int) (g : Nat → Nat) (l : List Nat) : prodL f (l.map g) = prodL (fun x => f (g x)) l := by
  induction l with
  | nil => rfl
  | cons x xs ih => simp [prodL, ih]
theorem pp_map (f : Nat → Nat → Int) (g : Nat → Nat) (l : List Nat) : pp f (l.map g) = pp (fun x y => f (g x) (g y)) l := by
  induction l with
  | nil => rfl
  | cons x xs ih => simp [pp, ih, prodL_map]

/-- 1 where x is the less, else -1. -/
def sg (x y : Nat) : Int := if x < y then 1 else -1
/-- the sign of a list. -/
def sgn (l : List Nat) : Int := pp sg l
theorem sgn_pm (l : List Nat) : sgn l = 1 ∨ sgn l = -1 := by
  have h1 : ∀ (x : Nat) (l : List Nat), prodL (sg x) l = 1 ∨ prodL (sg x) l = -1 := fun x l => by
    induction l with
    | nil => exact .inl rfl
    | cons y ys ih =>
      simp only [prodL]
      have : sg x y = 1 ∨ sg x y = -1 := by unfold sg; split <;> simp
      rcases this with h | h <;> rcases ih with h2 | h2 <;> rw [h, h2] <;> simp
  unfold sgn
  induction l with
  | nil => exact .inl rfl
  | cons x xs ih =>
    simp only [pp]
    rcases h1 x xs with h | h <;> rcases ih with h2 | h2 <;> rw [h, h2] <;> simp
/-- an order of n things. -/
def IsOrd (n : Nat) (l : List Nat) : Prop := l.Perm (List.range n)
theorem IsOrd.len {n : Nat} {l : List Nat} (h : IsOrd n l) : l.length = n := by have := h.length_eq; simpa using this
theorem IsOrd.nodup {n : Nat} {l : List Nat} (h : IsOrd n l) : l.Nodup := (h.nodup_iff).2 List.nodup_range
theorem IsOrd.lt {n : Nat} {l : List Nat} (h : IsOrd n l) {x : Nat} (hx : x ∈ l) : x < n := by have := (h.mem_iff).1 hx; simpa using this
theorem IsOrd.mem {n : Nat} {l : List Nat} (h : IsOrd n l) {x : Nat} (hx : x < n) : x ∈ l := (h.mem_iff).2 (by simpa using hx)
theorem IsOrd.st_lt {n : Nat} {l : List Nat} (h : IsOrd n l) {i : Nat} (hi : i < n) : st l i < n := by
  have : i < l.length := by rw [h.len]; exact hi
  unfold st; rw [List.getElem?_eq_getElem this]; exact h.lt (List.getElem_mem this)
theorem IsOrd.inj {n : Nat} {l : List Nat} (h : IsOrd n l) {i j : Nat} (hi : i < n) (hj : j < n) (e : st l i = st l j) : i = j := by
  have h1 : i < l.length := by rw [h.len]; exact hi
  have h2 : j < l.length := by rw [h.len]; exact hj
  unfold st at e
  rw [List.getElem?_eq_getElem h1, List.getElem?_eq_getElem h2] at e
  exact (List.getElem_inj h.nodup).1 e
theorem sg_swap {x y : Nat} (h : x ≠ y) : sg y x = - sg x y := by
  unfold sg
  rcases Nat.lt_or_gt_of_ne h with h1 | h1
  · rw [if_neg (by omega), if_pos h1]
  · rw [if_pos h1, if_neg (by omega)]; rfl
/-- how g turns a pair, whichever is named first. -/
def tw (g : Nat → Nat) (x y : Nat) : Int := sg x y * sg (g x) (g y)
theorem tw_comm (g : Nat → Nat) {x y : Nat} (h : x ≠ y) (hg : g x ≠ g y) : tw g x y = tw g y x := by
  unfold tw
  rw [sg_swap h, sg_swap hg, Int.neg_mul_neg]
theorem sg_sq (x y : Nat) : sg x y * sg x y = 1 := by unfold sg; split <;> rfl
/-- the sign of an order whose things are named anew. -/
theorem sgn_map {n : Nat} {l : List Nat} (g : Nat → Nat) (h : IsOrd n l) (hg : ∀ x, x < n → ∀ y, y < n → x ≠ y → g x ≠ g y) : sgn (l.map g) = sgn l * sgn ((List.range n).map g) := by
  let t := fun x y => if x = y ∨ n ≤ x ∨ n ≤ y then (1 : Int) else tw g x y
  have ht : ∀ x y, t x y = t y x := fun x y => by
    show (if x = y ∨ n ≤ x ∨ n ≤ y then (1 : Int) else tw g x y) = if y = x ∨ n ≤ y ∨ n ≤ x then (1 : Int) else tw g y x
    by_cases hc : x = y ∨ n ≤ x ∨ n ≤ y
    · rw [if_pos hc, if_pos (by omega)]
    · rw [if_neg hc, if_neg (by omega)]; exact tw_comm g (by omega) (hg x (by omega) y (by omega) (by omega))
  have e1 : sgn (l.map g) = pp (fun x y => sg x y * t x y) l := by
    unfold sgn
    rw [pp_map]
    refine pp_congr h.nodup fun x hx y hy hne => ?_
    have h1 := h.lt hx
    have h2 := h.lt hy
    show sg (g x) (g y) = sg x y * (if x = y ∨ n ≤ x ∨ n ≤ y then (1 : Int) else tw g x y)
    rw [if_neg (by omega)]
    unfold tw
    rw [← Int.mul_assoc, sg_sq, Int.one_mul]
  have e2 : pp t (List.range n) = sgn ((List.range n).map g) := by
    unfold sgn
    rw [pp_map]
    refine pp_congr_lt (List.pairwise_lt_range) fun x hx y hy hlt => ?_
    have h1 : x < n := by simpa using hx
    have h2 : y < n := by simpa using hy
    show (if x = y ∨ n ≤ x ∨ n ≤ y then (1 : Int) else tw g x y) = _
    rw [if_neg (by omega)]
    unfold tw
    rw [show sg x y = 1 from if_pos hlt, Int.one_mul]
  rw [e1, pp_mul, pp_perm ht h, e2]
  rfl
theorem map_range {n : Nat} {a : List Nat} (h : a.length = n) : (List.range n).map (st a) = a := by
  apply List.ext_getElem
  · simp [h]
  · intro i h1 h2
    simp [st, h2]
/-- one order behind the other. -/
theorem sgn_comp {n : Nat} {a b : List Nat} (ha : IsOrd n a) (hb : IsOrd n b) : sgn (b.map (st a)) = sgn a * sgn b := by
  rw [sgn_map (st a) hb fun x hx y hy hne e => hne (ha.inj hx hy e), map_range ha.len, Int.mul_comm]
/-- two things change their names. -/
def xch (x y z : Nat) : Nat := if z = x then y else if z = y then x else z
theorem xch_ne {x y : Nat} (p q : Nat) (h : p ≠ q) : xch x y p ≠ xch x y q := by unfold xch; (repeat' split) <;> omega
def xchOk (n : Nat) : Bool := (List.range n).all fun x => (List.range n).all fun y => x == y || decide (sgn ((List.range n).map (xch x y)) = -1)
theorem xch_all : ((List.range 10).all fun n => xchOk n) = true := by decide +kernel
theorem sgn_xch {n : Nat} {l : List Nat} {x y : Nat} (hn : n ≤ 9) (h : IsOrd n l) (hx : x < n) (hy : y < n) (hne : x ≠ y) : sgn (l.map (xch x y)) = - sgn l := by
  rw [sgn_map (xch x y) h fun p _ q _ hpq => xch_ne p q hpq]
  have h1 := xch_all
  rw [List.all_eq_true] at h1
  have h2 := h1 n (by simp; omega)
  unfold xchOk at h2
  rw [List.all_eq_true] at h2
  have h3 := h2 x (by simpa using hx)
  rw [List.all_eq_true] at h3
  have h4 := h3 y (by simpa using hy)
  simp [hne] at h4
  rw [h4]
  simp
theorem IsOrd.xchg {n : Nat} {l : List Nat} {x y : Nat} (h : IsOrd n l) (hx : x < n) (hy : y < n) : IsOrd n (l.map (xch x y)) := by
  refine (List.perm_ext_iff_of_nodup ?_ List.nodup_range).2 fun z => ?_
  · refine List.Pairwise.map (xch x y) (fun p q hpq => xch_ne p q hpq) h.nodup
  · rw [List.mem_map]
    constructor
    · rintro ⟨p, hp, rfl⟩
      have := h.lt hp
      unfold xch
      simp only [List.mem_range]
      (repeat' split) <;> omega
    · intro hz
      have hz2 : z < n := by simpa using hz
      refine ⟨xch x y z, h.mem ?_, ?_⟩
      · unfold xch; (repeat' split) <;> omega
      · unfold xch; (repeat' split) <;> omega
/-- an exchange of two places is one of two names. -/
theorem set_xch {n : Nat} {c : List Nat} (h : IsOrd n c) {i k : Nat} (hi : i < n) (hk : k < n) (hne : i ≠ k) : (c.set i (st c k)).set k (st c i) = c.map (xch (st c i) (st c k)) := by
  have hl := h.len
  apply List.ext_getElem
  · simp
  · intro j h1 h2
    have hj : j < n := by simp at h2; omega
    have hjc : j < c.length := by omega
    have e : c[j] = st c j := by unfold st; simp [hjc]
    rw [List.getElem_map, e, List.getElem_set]
    unfold xch
    by_cases hjk : k = j
    · subst hjk
      rw [if_pos rfl]
      by_cases e2 : st c k = st c i
      · exact absurd (h.inj hk hi e2) (by omega)
      · rw [if_neg e2, if_pos rfl]
    · rw [if_neg hjk, List.getElem_set]
      by_cases hji : i = j
      · subst hji; rw [if_pos rfl, if_pos rfl]
      · rw [if_neg hji, if_neg fun e2 => hji (h.inj hi hj e2.symm), if_neg fun e2 => hjk (h.inj hk hj e2.symm), e]
theorem sgn_range (n : Nat) : sgn (List.range n) = 1 := by
  have h : ∀ l : List Nat, l.Pairwise (· < ·) → sgn l = 1 := fun l hl => by
    unfold sgn
    have e : pp sg l = pp (fun _ _ => 1) l := pp_congr_lt hl fun x _ y _ h => if_pos h
    rw [e]
    clear hl e
    have h1 : ∀ l : List Nat, prodL (fun _ => 1) l = 1 := fun l => by induction l with | nil => rfl | cons x xs ih => simp [prodL, ih]
    induction l with
    | nil => rfl
    | cons x xs ih => simp [pp, ih, h1]
  exact h _ List.pairwise_lt_range
/-- an order, sorted. -/
theorem srt_ord {n : Nat} {l : List Nat} (h : IsOrd n l) : srt (asI l) = asI (List.range n) := by
  refine List.Perm.eq_of_pairwise (le := fun a b => a ≤ b) (fun a b _ _ h1 h2 => Int.le_antisymm h1 h2) ?_ ?_ ((srt_perm (asI l)).trans (h.map _))
  · have := List.pairwise_mergeSort (le := fun x y : Int => decide (x ≤ y)) (fun a b c h1 h2 => by simp at *; omega) (fun a b => by simp; omega) (asI l)
    exact this.imp fun h => by simpa using h
  · unfold asI
    exact List.Pairwise.map _ (fun a b (hab : a < b) => by omega) List.pairwise_lt_range
end Go.Proofs.Ytkakggagaplaiaa
