/- What slices.Compare and slices.Equal tell, and what slices.SortFunc does to the row of ways; conditions stand in each. -/
import Derived.Test.YtelhpfhnmnaefaaDrC
namespace Go.Proofs.Ytelhpfhnmnaefaa
open Go.RowKit Go.Shelf Go.Lib Go.Sort

set_option maxHeartbeats 2000000 in
theorem compare_any (p q : Option Addr) (n m c d : Nat) (x y : List Nat) (W : World) (hn : n ≤ 1000000) (hm : m ≤ 1000000) (hx : IntsIn W p n (asI x)) (hy : IntsIn W q m (asI y)) :
    Calls Try.prog 19 #[.slice p n c, .slice q m d] W fun e W' => e = .returned (.int .i64 (cmpL x y)) ∧ W' = W := by
  have hlx : x.length = n := by have := hx.len; rwa [asI_len] at this
  have hly : y.length = m := by have := hy.len; rwa [asI_len] at this
  replace hlx := Lib.hid hlx; replace hly := Lib.hid hly
  obtain ⟨r, hr⟩ : ∃ r, cmpL x y = r := ⟨_, rfl⟩
  rw [hr]
  replace hr := Lib.hid hr
  go_enter Try.func19, Try.ntmps19
  go_wp2_with fail
  go_loopg [11] n (fun gk iv W' => ∃ i : Nat, i ≤ n ∧ i ≤ m ∧ gk = n - i ∧ iv = .int .i64 i ∧ cmpL (x.drop i) (y.drop i) = r ∧ W' = W)
  case atStart => exact ⟨0, by omega, by omega, by omega, rfl, by simpa using hr.out, rfl⟩
  case round =>
    obtain ⟨i, hin, him, hgk, rfl, hc, rfl⟩ := hrel
    replace hgk := Lib.hid hgk
    obtain ⟨W1, rfl⟩ : ∃ W1 : World, W1 = wr := ⟨_, rfl⟩
    by_cases h1 : i < n
    · obtain ⟨b1, o1, rfl, _, k1⟩ := hx.at (by omega)
      have a1 := k1 i h1
      rw [asI_at] at a1
      have e1 : x.drop i = st x i :: x.drop (i + 1) := by
        rw [List.drop_eq_getElem_cons (by rw [hlx.out]; exact h1)]
        congr 1
        unfold st
        rw [List.getElem?_eq_getElem (by rw [hlx.out]; exact h1)]; rfl
      rw [e1] at hc
      clear k1
      replace e1 := Lib.hid e1
      by_cases h2 : i < m
      · obtain ⟨b2, o2, rfl, _, k2⟩ := hy.at (by omega)
        have a2 := k2 i h2
        rw [asI_at] at a2
        have e2 : y.drop i = st y i :: y.drop (i + 1) := by
          rw [List.drop_eq_getElem_cons (by rw [hly.out]; exact h2)]
          congr 1
          unfold st
          rw [List.getElem?_eq_getElem (by rw [hly.out]; exact h2)]; rfl
        rw [e2] at hc
        clear k2
        replace e2 := Lib.hid e2
        have HC := Lib.hid (Sh.cmp_Compare_int (st x i : Int) (st y i : Int) W1)
        have hcd : compareInt (st x i : Int) (st y i : Int) = if st x i < st y i then -1 else if st y i < st x i then 1 else 0 := by
          unfold compareInt
          by_cases h : st x i < st y i
          · rw [if_pos (by omega), if_pos h]
          · rw [if_neg (by omega), if_neg h]
            by_cases h' : st y i < st x i
            · rw [if_pos (by omega), if_pos h']
            · rw [if_neg (by omega), if_neg h']
        rw [hcd] at HC
        unfold cmpL at hc
        clear hx hy hcd
        generalize st x i = u at *
        generalize st y i = v at *
        by_cases hlt : u < v
        · rw [if_pos hlt] at HC hc
          replace hlt := Lib.hid hlt; replace hc := Lib.hid hc
          go_wp2_with fail
          refine HC.out.mono ?_
          rintro e w' ⟨rfl, rfl⟩
          go_wp2_with fail
          go_ret
          exact ⟨by rw [← hc.out]; rfl, rfl⟩
        · rw [if_neg hlt] at HC hc
          by_cases hgt : v < u
          · rw [if_pos hgt] at HC hc
            replace hlt := Lib.hid hlt; replace hgt := Lib.hid hgt; replace hc := Lib.hid hc
            go_wp2_with fail
            refine HC.out.mono ?_
            rintro e w' ⟨rfl, rfl⟩
            go_wp2_with fail
            go_ret
            exact ⟨by rw [← hc.out]; rfl, rfl⟩
          · rw [if_neg hgt] at HC hc
            replace hlt := Lib.hid hlt; replace hgt := Lib.hid hgt; replace hc := Lib.hid hc
            go_wp2_with fail
            refine HC.out.mono ?_
            rintro e w' ⟨rfl, rfl⟩
            go_wp2_with fail
            have hgk := hgk.out
            go_roundg (n - (i + 1))
            case measure => omega
            case rel => exact ⟨i + 1, by omega, by omega, rfl, by go_num, hc.out, rfl⟩
      · have e2 : y.drop i = [] := List.drop_eq_nil_of_le (by rw [hly.out]; omega)
        rw [e2] at hc
        have hr1 : Hid (r = 1) := hc.symm
        have him2 : (m : Int) ≤ i := by omega
        clear hx hy hc
        replace e2 := Lib.hid e2
        generalize st x i = u at *
        go_wp2_with fail
        go_ret
        exact ⟨by rw [hr1.out]; rfl, rfl⟩
    · obtain rfl : n = i := by omega
      have e1 : x.drop n = [] := List.drop_eq_nil_of_le (by rw [hlx.out]; omega)
      rw [e1] at hc
      clear hx hy
      by_cases h2 : n < m
      · have e2 : y.drop n = st y n :: y.drop (n + 1) := by
          rw [List.drop_eq_getElem_cons (by rw [hly.out]; exact h2)]
          congr 1
          unfold st
          rw [List.getElem?_eq_getElem (by rw [hly.out]; exact h2)]; rfl
        rw [e2] at hc
        have hr1 : Hid (r = -1) := hc.symm
        clear hc
        replace e2 := Lib.hid e2; replace e1 := Lib.hid e1
        go_wp2_with fail
        go_ret
        exact ⟨by rw [hr1.out]; rfl, rfl⟩
      · have e2 : y.drop n = [] := List.drop_eq_nil_of_le (by rw [hly.out]; omega)
        rw [e2] at hc
        have hr1 : Hid (r = 0) := hc.symm
        clear hc
        replace e2 := Lib.hid e2; replace e1 := Lib.hid e1
        go_wp2_with fail
        go_ret
        exact ⟨by rw [hr1.out]; rfl, rfl⟩

theorem equal_any (p q : Option Addr) (n m c d : Nat) (x y : List Nat) (W : World) (hn : n ≤ 1000000) (hm : m ≤ 1000000) (hx : IntsIn W p n (asI x)) (hy : IntsIn W q m (asI y)) :
    Calls Try.prog 21 #[.slice p n c, .slice q m d] W fun e W' => e = .returned (.bool (decide (x = y))) ∧ ∃ k, W' = W.drewN k := by
  have hlx : x.length = n := by have := hx.len; rwa [asI_len] at this
  have hly : y.length = m := by have := hy.len; rwa [asI_len] at this
  by_cases h : n = m
  · subst h
    rcases Nat.eq_zero_or_pos n with h0 | h0
    · subst h0
      have e1 := List.eq_nil_of_length_eq_zero hlx
      have e2 := List.eq_nil_of_length_eq_zero hly
      subst e1 e2
      exact (Sh.slices_Equal_int_empty p q c 0 d W (by omega)).mono fun e W' h => ⟨by rw [h.1]; simp, 0, by rw [h.2]; rfl⟩
    · obtain ⟨b1, o1, rfl, _, k1⟩ := hx.at h0
      obtain ⟨b2, o2, rfl, _, k2⟩ := hy.at h0
      refine (Sh.slices_Equal_int b1 o1 n c b2 o2 n d (asI x) (asI y) W (by rw [asI_len]; omega) (by rw [asI_len]; omega) (by omega) (by omega) (fun j hj => ?_) (fun j hj => ?_)).mono fun e W' h => ⟨?_, h.2⟩
      · rw [asI_len, hlx] at hj; rw [k1 j hj]; rfl
      · rw [asI_len, hly] at hj; rw [k2 j hj]; rfl
      · rw [h.1, List.take_of_length_le (by rw [asI_len]; omega), List.take_of_length_le (by rw [asI_len]; omega)]
        congr 2
        rw [Bool.eq_iff_iff]
        simp only [beq_iff_eq, decide_eq_true_eq]
        exact ⟨fun h => asI_inj h, fun h => by rw [h]⟩
  · refine (Sh.slices_Equal_int_lens p q n c m d W h).mono fun e W' h2 => ⟨?_, 0, by rw [h2.2]; rfl⟩
    rw [h2.1]
    congr 2
    symm
    apply decide_eq_false
    rintro rfl
    exact h (hlx.symm.trans hly)

/-- cells 0 to n-1 of block g are slices that read as F tells, none of them in g. -/
structure RowF (g n : Nat) (F : Nat → List Nat) (W : World) : Prop where
  at_ : ∀ i, i < n → ∃ (p : Option Addr) (m c : Nat), W.cell? ⟨g, i, none⟩ = some (.slice p m c) ∧ IntsIn W p m (asI (F i)) ∧ m ≤ 1000000 ∧ ∀ a, p = some a → a.block ≠ g
  free : ∀ i, i < n → W.frozen? ⟨g, i, none⟩ = false
/-- all blocks but g are as they were. -/
structure Ob (g : Nat) (W W' : World) : Prop where
  os : W'.os = W.os
  tape : W'.tape = W.tape
  output : W'.output = W.output
  size : W.heap.size ≤ W'.heap.size
  block : ∀ k, k < W.heap.size → k ≠ g → W'.heap[k]? = W.heap[k]?
theorem Ob.refl (g : Nat) (W : World) : Ob g W W := ⟨rfl, rfl, rfl, Nat.le_refl _, fun _ _ _ => rfl⟩
theorem Ob.trans {g : Nat} {A B C : World} (h : Ob g A B) (k : Ob g B C) : Ob g A C := ⟨k.os.trans h.os, k.tape.trans h.tape, k.output.trans h.output, Nat.le_trans h.size k.size, fun i hi hne => (k.block i (Nat.lt_of_lt_of_le hi h.size) hne).trans (h.block i hi hne)⟩
theorem Ob.set {g : Nat} {A B : World} (h : Ob g A B) (i : Nat) (v : Value) : Ob g A (B.setCell ⟨g, i, none⟩ v) := ⟨h.os, h.tape, h.output, by simpa [World.setCell] using h.size, fun k hk hne => (Below.heap_setCell B _ _ k hne).trans (h.block k hk hne)⟩
theorem Ob.drewN {g : Nat} {A B : World} (h : Ob g A B) (k : Nat) : Ob g A (B.drewN k) := ⟨h.os, h.tape, h.output, h.size, h.block⟩

/-- a way in memory as the sort sees it: its value and what it reads as. -/
def Wy (g : Nat) (w : World) : Type := { v : Value × List Nat // ∃ p m c, v.1 = .slice p m c ∧ IntsIn w p m (asI v.2) ∧ m ≤ 1000000 ∧ ∀ a, p = some a → a.block ≠ g }
instance (g : Nat) (w : World) : Inhabited (Wy g w) := ⟨⟨(.slice none 0 0, []), none, 0, 0, rfl, IntsIn.nil _ _, by omega, fun a h => by cases h⟩⟩
def encW {g : Nat} {w : World} (x : Wy g w) : Value := x.1.1
def cfW {g : Nat} {w : World} (x y : Wy g w) : Int := cmpL x.1.2 y.1.2
theorem swoW (g : Nat) (w : World) : SWO (ltOf (cfW (g := g) (w := w))) where
  irrefl x := by unfold ltOf cfW; rw [cmpL_self]; rfl
  trans x y z h1 h2 := by
    unfold ltOf cfW at *
    have := of_decide_eq_true h1
    have := of_decide_eq_true h2
    exact decide_eq_true (cmp_lt_trans (by assumption) (by assumption))
  ntrans x y z h1 h2 := by
    unfold ltOf cfW at *
    have e1 := of_decide_eq_false h1
    have e2 := of_decide_eq_false h2
    apply decide_eq_false
    have n1 := cmpL_neg x.1.2 y.1.2
    have n2 := cmpL_neg y.1.2 z.1.2
    have n3 := cmpL_neg x.1.2 z.1.2
    have := (cmpL_trans z.1.2 y.1.2 x.1.2 (by omega) (by omega)).1
    omega
theorem oneW (g : Nat) (w : World) : OneCell (encW (g := g) (w := w)) := fun x => by
  unfold encW
  obtain ⟨p, m, c, e, _⟩ := x.2
  rw [e]; rfl

theorem sortWorld_ob {g : Nat} {w : World} (k : Nat) (d : Array (Wy g w)) (os : Array Obj) : Ob g w (sortWorld encW w g 0 k d os) := by
  unfold sortWorld
  refine ⟨rfl, rfl, rfl, ?_, fun i hi hne => ?_⟩
  · simp [grow, putRow, mapBlock, Sort.ahead]
  · show ((putRow encW (Sort.ahead w k) g 0 d).heap ++ os)[i]? = _
    rw [Array.getElem?_append_left (by simpa [putRow, mapBlock, Sort.ahead] using hi)]
    simp [putRow, mapBlock, Array.getElem?_modify, Ne.symm hne, Sort.ahead]
theorem IntsIn.ob {g : Nat} {W W' : World} {p : Option Addr} {n : Nat} {xs : List Int} (h : IntsIn W p n xs) (ho : Ob g W W') (hp : ∀ a, p = some a → a.block ≠ g) : IntsIn W' p n xs :=
  ⟨h.1, fun j hj => let ⟨b, o, e, hb, hc⟩ := h.2 j hj; ⟨b, o, e, Nat.lt_of_lt_of_le hb ho.size, (World.cell?_of_block (a := ⟨b, o + j, none⟩) (ho.block b hb (hp _ e))).trans hc⟩⟩

theorem RowF.ob {g n : Nat} {F : Nat → List Nat} {W W' : World} (h : RowF g n F W) (hb : W'.heap[g]? = W.heap[g]?) (ho : Ob g W W') : RowF g n F W' :=
  ⟨fun i hi => by
    obtain ⟨p, m, c, h1, h2, h3, h4⟩ := h.at_ i hi
    exact ⟨p, m, c, (World.cell?_of_block (a := ⟨g, i, none⟩) hb).trans h1, h2.ob ho h4, h3, h4⟩, fun i hi => by
    have := h.free i hi
    unfold World.frozen? at *
    simp only [hb] at *
    exact this⟩
theorem holds_sort {g : Nat} {w : World} (k : Nat) (d d' : Array (Wy g w)) (os : Array Obj) (hg : g < w.heap.size) (hH : Holds encW w g 0 d) (hs : d'.size = d.size) : Holds encW (sortWorld encW w g 0 k d' os) g 0 d' := by
  have h1 := holds_putRow encW (Sort.ahead w k) g 0 d d' (holds_ahead _ _ _ _ _ _ hH) hs
  have hb : (sortWorld encW w g 0 k d' os).heap[g]? = (putRow encW (Sort.ahead w k) g 0 d').heap[g]? := by
    unfold sortWorld grow
    rw [Array.getElem?_append_left (by simpa using hg)]
  intro j hj
  obtain ⟨a, b⟩ := h1 j hj
  refine ⟨(World.cell?_of_block (a := ⟨g, 0 + j, none⟩) hb).trans a, ?_⟩
  unfold World.frozen? at *
  simp only [hb] at *
  exact b

theorem sort_any (g n c : Nat) (F : Nat → List Nat) (w : World) (hn : n < 4000000000000) (hg : g < w.heap.size) (hR : RowF g n F w) :
    Calls Try.prog 18 #[.slice (some ⟨g, 0, none⟩) n c, .func (.func 19) #[] #[]] w fun e w' => e = .returned (.tuple #[]) ∧ Ob g w w' ∧
      ∃ F' : Nat → List Nat, RowF g n F' w' ∧
        (∀ i j : Nat, i < j → j < n → cmpL (F' i) (F' j) ≤ 0) ∧ (∀ x, (∃ i : Nat, i < n ∧ F' i = x) ↔ ∃ i : Nat, i < n ∧ F i = x) := by
  have hex : ∀ i : Fin n, ∃ x : Wy g w, w.cell? ⟨g, i.val, none⟩ = some (encW x) ∧ x.1.2 = F i.val := fun i => by
    obtain ⟨p, m, c, h1, h2, h3, h4⟩ := hR.at_ i.val i.isLt
    exact ⟨⟨(.slice p m c, F i.val), p, m, c, rfl, h2, h3, h4⟩, h1, rfl⟩
  obtain ⟨ch, hch⟩ : ∃ ch : Fin n → Wy g w, ∀ i, w.cell? ⟨g, i.val, none⟩ = some (encW (ch i)) ∧ (ch i).1.2 = F i.val := ⟨fun i => Classical.choose (hex i), fun i => Classical.choose_spec (hex i)⟩
  have hsz : (Array.ofFn ch).size = n := by simp
  have hget : ∀ (j : Nat) (hj : j < n), (Array.ofFn ch)[j]! = ch ⟨j, hj⟩ := fun j hj => by
    rw [getElem!_pos _ j (by simpa using hj)]; simp
  have hH : Holds encW w g 0 (Array.ofFn ch) := fun j hj => by
    rw [hsz] at hj
    rw [hget j hj, Nat.zero_add]
    exact ⟨(hch ⟨j, hj⟩).1, hR.free j hj⟩
  have eg : ∀ args W, (callFunc 19 args).run Try.prog W = .ok (.enter 19 args) W := enters_of Try.func19 (by kernel_rfl) rfl
  have hcmp : CmpLays1 Try.prog 19 #[] (encW (g := g) (w := w)) cfW g 0 (Array.ofFn ch).size w := fun m os dk _ x y => by
    obtain ⟨⟨v, l⟩, p, k, c, e1, h1, h2, h3⟩ := x
    obtain ⟨⟨v', l'⟩, p', k', c', e1', h1', h2', h3'⟩ := y
    simp only at e1 h1 e1' h1'
    subst e1 e1'
    have ho := sortWorld_ob (g := g) (w := w) m dk os
    exact (compare_any p p' k k' c c' l l' _ h2 h2' (h1.ob ho h3) (h1'.ob ho h3')).mono fun e W' h => ⟨h.1, 0, #[], by rw [h.2, grow_empty]; rfl⟩
  have hs := Sh.slices_SortFunc (encW (g := g) (w := w)) (oneW g w) cfW (swoW g w) 19 #[] g 0 c (Array.ofFn ch) w eg hcmp hH hg (by rw [hsz]; omega)
  rw [hsz] at hs
  refine hs.mono fun e w' ⟨he, d', k, os, hp, hso, hw⟩ => ?_
  have hd' : d'.size = n := by have := hp.1; rwa [hsz] at this
  have ho : Ob g w w' := by rw [hw]; exact sortWorld_ob k d' os
  have hH' : Holds encW w' g 0 d' := by rw [hw]; exact holds_sort k _ d' os hg hH (by rw [hd', hsz])
  refine ⟨he, ho, fun i => (d'[i]!).1.2, ⟨fun i hi => ?_, fun i hi => ?_⟩, fun i j hij hj => ?_, fun x => ?_⟩
  · obtain ⟨p, m, c, e, h1, h2, h3⟩ := (d'[i]!).2
    have := (hH' i (by omega)).1
    rw [Nat.zero_add] at this
    exact ⟨p, m, c, by rw [this]; exact congrArg some e, h1.ob ho h3, h2, h3⟩
  · have := (hH' i (by omega)).2
    rwa [Nat.zero_add] at this
  · have := hso i j (Nat.zero_le _) hij hj
    unfold ltOf cfW at this
    have := of_decide_eq_false this
    have hn := cmpL_neg (d'[j]!).1.2 (d'[i]!).1.2
    show cmpL (d'[i]!).1.2 (d'[j]!).1.2 ≤ 0
    omega
  · have hperm := hp.2.2
    have e1 : d'.extract 0 n = d' := Array.extract_eq_self_of_le (by omega)
    have e2 : (Array.ofFn ch).extract 0 n = Array.ofFn ch := Array.extract_eq_self_of_le (by omega)
    rw [e1, e2] at hperm
    have hm : ∀ y : Wy g w, y ∈ d'.toList ↔ y ∈ (Array.ofFn ch).toList := fun y => hperm.mem_iff
    constructor
    · rintro ⟨i, hi, rfl⟩
      have h1 : d'[i]! ∈ d'.toList := by rw [getElem!_pos _ i (by omega)]; simp
      obtain ⟨j, hj⟩ := (Array.mem_ofFn).1 (by simpa using (hm _).1 h1)
      exact ⟨j.val, j.isLt, by rw [← (hch j).2, hj]⟩
    · rintro ⟨i, hi, rfl⟩
      have h1 : ch ⟨i, hi⟩ ∈ (Array.ofFn ch).toList := by simp
      have h2 := (hm _).2 h1
      obtain ⟨j, hj, e⟩ := List.mem_iff_getElem.1 h2
      have hj' : j < d'.size := by simpa using hj
      refine ⟨j, by omega, ?_⟩
      show (d'[j]!).1.2 = F i
      rw [getElem!_pos _ j hj', ← (hch ⟨i, hi⟩).2, ← e]
      simp
end Go.Proofs.Ytelhpfhnmnaefaa
