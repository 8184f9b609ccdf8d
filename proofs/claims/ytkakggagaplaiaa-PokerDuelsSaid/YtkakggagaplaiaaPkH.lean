/- poker.Showdown of two players with four or five cards on the table; conditions stand in each. -/
import Derived.Test.YtkakggagaplaiaaPkE
namespace Go.Proofs.Ytkakggagaplaiaa
open Go.RowKit

/-! ### the plain law -/
theorem nodup_le {l K : List Nat} (hn : l.Nodup) (hs : ∀ x ∈ l, x ∈ K) : l.length ≤ K.length := by
  induction l generalizing K with
  | nil => exact Nat.zero_le _
  | cons a l ih =>
    have ha := hs a List.mem_cons_self
    have hn2 := List.nodup_cons.1 hn
    have := ih (K := K.erase a) hn2.2 fun x hx => (List.mem_erase_of_ne (fun e => hn2.1 (by rw [← e]; exact hx))).2 (hs x (List.mem_cons_of_mem _ hx))
    rw [List.length_erase_of_mem ha] at this
    have := List.length_pos_of_mem ha
    simp only [List.length_cons]
    omega
theorem frS_pos {K : List Nat} (h : K.length < 52) : 0 < (frS K 52).length := by
  rcases Nat.eq_zero_or_pos (frS K 52).length with h0 | h0
  · have he := List.eq_nil_of_length_eq_zero h0
    have hs : ∀ x ∈ List.range 52, x ∈ K := fun x hx => by
      unfold frS at he
      have := List.filter_eq_nil_iff.1 he x hx
      simpa using this
    have := nodup_le List.nodup_range hs
    simp at this
    omega
  · exact h0
theorem wi_all (A B T l : List Nat) : wiS A B T l + wiS B A T l + tiS A B T l = l.length := by
  induction l with
  | nil => rfl
  | cons c l ih =>
    unfold wiS tiS at *
    simp only [List.countP_cons, List.length_cons, decide_eq_true_eq]
    by_cases h1 : xS B (T ++ [c]) < xS A (T ++ [c])
    · have h2 : ¬ xS A (T ++ [c]) < xS B (T ++ [c]) := by omega
      have h3 : ¬ xS A (T ++ [c]) = xS B (T ++ [c]) := by omega
      simp only [h1, h2, h3, if_true, if_false]; omega
    · by_cases h2 : xS A (T ++ [c]) < xS B (T ++ [c])
      · have h3 : ¬ xS A (T ++ [c]) = xS B (T ++ [c]) := by omega
        simp only [h1, h2, h3, if_true, if_false]; omega
      · have h3 : xS A (T ++ [c]) = xS B (T ++ [c]) := by omega
        rw [if_neg h1, if_neg h2, if_pos h3]; omega
theorem ti_sym (A B T l : List Nat) : tiS A B T l = tiS B A T l := by
  unfold tiS; congr 1; funext c; simp only [eq_comm]
def sdW (A B T : List Nat) : Nat := if T.length = 5 then (if xS B T < xS A T then 1 else 0) else wiS A B T (frS (A ++ B ++ T) 52)
def sdT (A B T : List Nat) : Nat := if T.length = 5 then (if xS A T = xS B T then 1 else 0) else tiS A B T (frS (A ++ B ++ T) 52)
def sdN (A B T : List Nat) : Nat := if T.length = 5 then 1 else (frS (A ++ B ++ T) 52).length
theorem fr_sym (A B T : List Nat) : frS (A ++ B ++ T) 52 = frS (B ++ A ++ T) 52 := by
  unfold frS
  refine List.filter_congr fun c _ => ?_
  congr 1
  rw [Bool.eq_iff_iff, List.contains_iff_mem, List.contains_iff_mem]
  simp only [List.mem_append]
  exact ⟨fun h => h.elim (fun h => h.elim (fun h => .inl (.inr h)) (fun h => .inl (.inl h))) .inr, fun h => h.elim (fun h => h.elim (fun h => .inl (.inr h)) (fun h => .inl (.inl h))) .inr⟩
theorem sd_law {A B T : List Nat} (h : (A ++ B ++ T).length < 52) : sdN A B T = sdN B A T ∧ sdT A B T = sdT B A T ∧ sdW A B T + sdW B A T + sdT A B T = sdN A B T ∧ 0 < sdN A B T := by
  unfold sdN sdT sdW
  rw [fr_sym B A T]
  by_cases h5 : T.length = 5
  · simp only [h5, if_true]
    refine ⟨trivial, ?_, ?_, by omega⟩
    · simp only [eq_comm]
    · by_cases h1 : xS B T < xS A T
      · rw [if_pos h1, if_neg (show ¬ xS A T < xS B T by omega), if_neg (show ¬ xS A T = xS B T by omega)]
      · by_cases h2 : xS A T < xS B T
        · rw [if_neg h1, if_pos h2, if_neg (show ¬ xS A T = xS B T by omega)]
        · rw [if_neg h1, if_neg h2, if_pos (show xS A T = xS B T by omega)]
  · simp only [h5, if_false]
    exact ⟨trivial, ti_sym A B T _, wi_all A B T _, frS_pos h⟩
theorem sdN_le {A B T : List Nat} : sdN A B T ≤ 52 := by
  unfold sdN; split
  · omega
  · exact frS_le _ _

/-! ### the walk -/
theorem conc3_any (pa oa ca pb ob cb pt ot ct n c1 : Nat) (A B T : List Nat) (W : World) (hn : n ≤ 5) (hA : IntsIn W (some ⟨pa, oa, none⟩) 2 (asI A)) (hB : IntsIn W (some ⟨pb, ob, none⟩) 2 (asI B)) (hT : IntsIn W (some ⟨pt, ot, none⟩) n (asI T)) :
    Calls Try.prog 34 #[.slice (some ⟨W.heap.size, 0, none⟩) 3 c1] (W.alloc (.cells #[.slice (some ⟨pa, oa, none⟩) 2 ca, .slice (some ⟨pb, ob, none⟩) 2 cb, .slice (some ⟨pt, ot, none⟩) n ct] 22)) fun e w' => ∃ q c', e = .returned (.slice q (4 + n) c') ∧ Own 3 W.heap.size w' q (4 + n) c' (asI (A ++ B ++ T)) ∧ Below W.heap.size W w' := by
  have lA : A.length = 2 := by have := hA.len; rwa [asI_len] at this
  have lB : B.length = 2 := by have := hB.len; rwa [asI_len] at this
  have lT : T.length = n := by have := hT.len; rwa [asI_len] at this
  have h0 := heap_alloc_new W (.cells #[.slice (some ⟨pa, oa, none⟩) 2 ca, .slice (some ⟨pb, ob, none⟩) 2 cb, .slice (some ⟨pt, ot, none⟩) n ct] 22)
  have hb0 : Below W.heap.size W (W.alloc (.cells #[.slice (some ⟨pa, oa, none⟩) 2 ca, .slice (some ⟨pb, ob, none⟩) 2 cb, .slice (some ⟨pt, ot, none⟩) n ct] 22)) := (Below.refl _ _).alloc (Nat.le_refl _) _
  have hl7 : (catP (fun i => if i = 0 then A else if i = 1 then B else T) 3).length = 4 + n := by simp [catP, lA, lB, lT]; omega
  have hcat : catP (fun i => if i = 0 then A else if i = 1 then B else T) 3 = A ++ B ++ T := rfl
  have := concatP_any 3 W.heap.size 0 c1 (fun i => if i = 0 then pa else if i = 1 then pb else pt) (fun i => if i = 0 then oa else if i = 1 then ob else ot) (fun i => if i = 0 then 2 else if i = 1 then 2 else n) (fun i => if i = 0 then ca else if i = 1 then cb else ct) (fun i => if i = 0 then A else if i = 1 then B else T) _ (by omega) (by omega) (by omega)
    ⟨fun i hi => ⟨lt_of_heap h0, by match i, hi with
      | 0, _ => exact wcell (cs := [_, _, _]) h0 0
      | 1, _ => exact wcell (cs := [_, _, _]) h0 1
      | 2, _ => exact wcell (cs := [_, _, _]) h0 2⟩, fun i hi => by match i, hi with
      | 0, _ => exact hA.below hb0
      | 1, _ => exact hB.below hb0
      | 2, _ => exact hT.below hb0⟩
  rw [hl7, hcat] at this
  exact this.mono fun e w' ⟨q, c', h1, h2, h3⟩ => ⟨q, c', h1, OwnC.mono (k := 1) h2 hb0.size, hb0.trans (h3.mono hb0.size)⟩
/-- two players and what is counted, ahead of the rest. -/
structure SdI0 (S pa oa ca pb ob cb : Nat) (A B : List Nat) (wi ti al : Nat) (W : World) : Prop where
  a : W.cell? ⟨S, 0, none⟩ = some (.slice (some ⟨pa, oa, none⟩) 2 ca)
  b : W.cell? ⟨S + 1, 0, none⟩ = some (.slice (some ⟨pb, ob, none⟩) 2 cb)
  w : Nums W (S + 2) 3 [(wi : Int)]
  t : Nums W (S + 3) 3 [(ti : Int)]
  l : Nums W (S + 4) 3 [(al : Int)]
  ia : IntsIn W (some ⟨pa, oa, none⟩) 2 (asI A)
  ib : IntsIn W (some ⟨pb, ob, none⟩) 2 (asI B)
theorem SdI0.below {S pa oa ca pb ob cb : Nat} {A B : List Nat} {wi ti al : Nat} {W W' : World} (h : SdI0 S pa oa ca pb ob cb A B wi ti al W) (hb : Below W.heap.size W W') : SdI0 S pa oa ca pb ob cb A B wi ti al W' := by
  have l0 := h.l.lt
  exact ⟨(hb.cell (p := ⟨S, 0, none⟩) (by simp; omega)).trans h.a, (hb.cell (p := ⟨S + 1, 0, none⟩) (by simp; omega)).trans h.b, h.w.below hb h.w.lt, h.t.below hb h.t.lt, h.l.below hb h.l.lt, h.ia.below hb, h.ib.below hb⟩
theorem heap5 (w : World) (o0 o1 o2 o3 o4 : Obj) : ∀ W, W = ((((w.alloc o0).alloc o1).alloc o2).alloc o3).alloc o4 →
    W.heap[w.heap.size]? = some o0 ∧ W.heap[w.heap.size + 1]? = some o1 ∧ W.heap[w.heap.size + 2]? = some o2 ∧ W.heap[w.heap.size + 3]? = some o3 ∧ W.heap[w.heap.size + 4]? = some o4 ∧ W.heap.size = w.heap.size + 5 ∧ Below w.heap.size w W := by
  rintro W rfl
  have a0 := World.alloc_heap_new w o0
  have a1 := World.alloc_heap_new (w.alloc o0) o1
  have a2 := World.alloc_heap_new ((w.alloc o0).alloc o1) o2
  have a3 := World.alloc_heap_new (((w.alloc o0).alloc o1).alloc o2) o3
  have a4 := World.alloc_heap_new ((((w.alloc o0).alloc o1).alloc o2).alloc o3) o4
  simp only [World.size_alloc] at a1 a2 a3 a4
  refine ⟨?_, ?_, ?_, ?_, a4, by simp, ((((Below.refl _ w).alloc (Nat.le_refl _) _).alloc (by simp) _).alloc (by simp; omega) _).alloc (by simp; omega) _ |>.alloc (by simp; omega) _⟩
  · rw [Below.heap_alloc _ _ _ (by simp <;> omega), Below.heap_alloc _ _ _ (by simp <;> omega), Below.heap_alloc _ _ _ (by simp <;> omega), Below.heap_alloc _ _ _ (by simp)]; exact a0
  · rw [Below.heap_alloc _ _ _ (by simp <;> omega), Below.heap_alloc _ _ _ (by simp <;> omega), Below.heap_alloc _ _ _ (by simp)]; exact a1
  · rw [Below.heap_alloc _ _ _ (by simp <;> omega), Below.heap_alloc _ _ _ (by simp)]; exact a2
  · rw [Below.heap_alloc _ _ _ (by simp)]; exact a3
set_option maxRecDepth 100000 in
set_option maxHeartbeats 8000000 in
theorem show_any (pa oa ca pb ob cb pt ot ct n : Nat) (A B T : List Nat) (w : World) (hn : n = 4 ∨ n = 5) (hA : IntsIn w (some ⟨pa, oa, none⟩) 2 (asI A)) (hB : IntsIn w (some ⟨pb, ob, none⟩) 2 (asI B)) (hT : IntsIn w (some ⟨pt, ot, none⟩) n (asI T))
    (hd : (A ++ B ++ T).Nodup) (h52 : ∀ x ∈ A ++ B ++ T, x < 52) :
    Calls Try.prog 16 #[.slice (some ⟨pa, oa, none⟩) 2 ca, .slice (some ⟨pb, ob, none⟩) 2 cb, .slice (some ⟨pt, ot, none⟩) n ct] w fun e w' =>
      e = .returned (.tuple #[.int .i64 (sdW A B T : Nat), .int .i64 (sdT A B T : Nat), .int .i64 (sdN A B T : Nat), .int .i64 0]) ∧ Below w.heap.size w w' := by
  have lA : A.length = 2 := by have := hA.len; rwa [asI_len] at this
  have lB : B.length = 2 := by have := hB.len; rwa [asI_len] at this
  have lT : T.length = n := by have := hT.len; rwa [asI_len] at this
  have hpa : pa < w.heap.size := by obtain ⟨b, o, e, h, _⟩ := hA.at (by omega); cases e; exact h
  have hpb : pb < w.heap.size := by obtain ⟨b, o, e, h, _⟩ := hB.at (by omega); cases e; exact h
  have hpt : pt < w.heap.size := by obtain ⟨b, o, e, h, _⟩ := hT.at (by omega); cases e; exact h
  have d1 : decide ((n : Int) < 3) = false := decide_eq_false (by omega)
  have d2 : decide ((5 : Int) < (n : Int)) = false := decide_eq_false (by omega)
  go_enter Try.func16, Try.ntmps16
  go_upto_region 1 with fail
  obtain ⟨S, hS⟩ : ∃ S, S = w.heap.size := ⟨_, rfl⟩
  obtain ⟨W5, hW5⟩ : ∃ W5 : World, W5 = ((((w.alloc (.cells #[.slice (some ⟨pa, oa, none⟩) 2 ca] 22)).alloc (.cells #[.slice (some ⟨pb, ob, none⟩) 2 cb] 22)).alloc (.cells #[.int .i64 0] 3)).alloc (.cells #[.int .i64 0] 3)).alloc (.cells #[.int .i64 0] 3) := ⟨_, rfl⟩
  obtain ⟨h0, h1, h2, h3, h4, hs5, hB5⟩ := heap5 w _ _ _ _ _ W5 hW5
  rw [← hW5]
  rw [← hS] at h0 h1 h2 h3 h4 hs5 ⊢
  rw [show S + 1 + 1 + 1 + 1 = S + 4 from rfl, show S + 1 + 1 + 1 = S + 3 from rfl, show S + 1 + 1 = S + 2 from rfl]
  clear hW5
  have c0 : W5.cell? ⟨S, 0, none⟩ = some (.slice (some ⟨pa, oa, none⟩) 2 ca) := wcell (cs := [_]) h0 0
  have c1 : W5.cell? ⟨S + 1, 0, none⟩ = some (.slice (some ⟨pb, ob, none⟩) 2 cb) := wcell (cs := [_]) h1 0
  have hA5 := hA.below hB5
  have hB5' := hB.below hB5
  have hT5 := hT.below hB5
  have HC := Lib.hid (fun c => conc3_any pa oa ca pb ob cb pt ot ct n c A B T W5 (by omega) hA5 hB5' hT5)
  have hsd : Hid (SdI0 S pa oa ca pb ob cb A B 0 0 0 W5) := ⟨c0, c1, h2, h3, h4, hA5, hB5'⟩
  have hS5 : Hid (W5.heap.size = S + 5) := hs5
  have hWB := Lib.hid hB5
  replace hT5 := Lib.hid hT5
  replace hS := Lib.hid hS
  clear hA5 hB5' hA hB hT h0 h1 h2 h3 h4 hs5 hB5
  go_wp2_with fail
  refine (HC.out _).mono ?_
  rintro e w7 ⟨q, c7, rfl, hO7, hB7⟩
  clear HC
  obtain ⟨pk, rfl, hpk, hpkw, _⟩ := OwnC.where (k := 1) hO7 (by omega)
  obtain ⟨K, hK⟩ : ∃ K, K = A ++ B ++ T := ⟨_, rfl⟩
  rw [← hK] at hO7 hd h52
  have hKl : K.length = 4 + n := by rw [hK, List.length_append, List.length_append, lA, lB, lT]
  have hI7 := hO7.in
  have hsd7 := hsd.out.below hB7
  obtain ⟨m, hm⟩ : ∃ m, m = 4 + n := ⟨_, rfl⟩
  have hm9 : m ≤ 9 := by omega
  rw [← hm] at hI7 hO7 hKl ⊢
  -- the box of what is known
  have hb8 : Below w7.heap.size w7 (w7.alloc (.cells #[.slice (some ⟨pk, 0, none⟩) m c7] 22)) := (Below.refl _ _).alloc (Nat.le_refl _) _
  have h8 := heap_alloc_new w7 (.cells #[.slice (some ⟨pk, 0, none⟩) m c7] 22)
  have c8 : (w7.alloc (.cells #[.slice (some ⟨pk, 0, none⟩) m c7] 22)).cell? ⟨w7.heap.size, 0, none⟩ = some (.slice (some ⟨pk, 0, none⟩) m c7) := wcell (cs := [_]) h8 0
  have HCk := Lib.hid (checkP_any (some ⟨pk, 0, none⟩) m c7 K _ (by omega) (hI7.below hb8) h52 hd)
  have hz7 : S + 5 ≤ w7.heap.size := by have := hB7.size; have := hS5.out; omega
  obtain ⟨kb, hkb⟩ : ∃ kb, kb = w7.heap.size := ⟨_, rfl⟩
  replace hm := Lib.hid hm
  replace hK := Lib.hid hK
  replace hsd7 := Lib.hid hsd7
  replace hI7 := Lib.hid hI7
  replace hB7 := Lib.hid hB7
  replace hb8 := Lib.hid hb8
  replace h8 := Lib.hid h8
  replace hkb := Lib.hid hkb
  clear hO7 hsd hd
  go_wp2_with fail
  refine HCk.out.mono ?_
  rintro e w9 ⟨rfl, hB9⟩
  have hb79 := hb8.out.trans (hB9.mono (by simp))
  have hc9 : w9.cell? ⟨w7.heap.size, 0, none⟩ = some (.slice (some ⟨pk, 0, none⟩) m c7) := (hB9.cell (p := ⟨w7.heap.size, 0, none⟩) (by simp)).trans c8
  have hz9 : w7.heap.size < w9.heap.size := by have := hB9.size; simp at this; omega
  have hsd9 := hsd7.out.below hb79
  have hI9 := hI7.out.below hb79
  have hT9 := (hT5.out.below (hB7.out)).below hb79
  clear HCk hsd7 hI7 c8
  obtain ⟨W10, hW10⟩ : ∃ W10, W10 = w9.alloc (.cells #[fillV S w7.heap.size w9.heap.size] 65) := ⟨_, rfl⟩
  have hb10 : Below w9.heap.size w9 W10 := by rw [hW10]; exact (Below.refl _ _).alloc (Nat.le_refl _) _
  have hf10 : W10.cell? ⟨w9.heap.size, 0, none⟩ = some (fillV S w7.heap.size w9.heap.size) := by
    rw [hW10]; exact wcell (cs := [_]) (heap_alloc_new w9 _) 0
  have hs10 : W10.heap.size = w9.heap.size + 1 := by rw [hW10]; simp
  have hsdA := hsd9.below hb10
  have hSd : SdI S w7.heap.size w9.heap.size pa oa ca pb ob cb pk 0 m c7 A B K 0 0 0 W10 :=
    ⟨hsdA.a, hsdA.b, hsdA.w, hsdA.t, hsdA.l, (hb10.cell (p := ⟨w7.heap.size, 0, none⟩) hz9).trans hc9, hf10, hsdA.ia, hsdA.ib, hI9.below hb10, by omega, by omega⟩
  have hT10 := hT9.below hb10
  have h52k := h52
  rw [hK.out] at h52k
  have qa : ∀ x ∈ A, x < 52 := fun x hx => h52k x (List.mem_append_left _ (List.mem_append_left _ hx))
  have qb : ∀ x ∈ B, x < 52 := fun x hx => h52k x (List.mem_append_left _ (List.mem_append_right _ hx))
  have qt : ∀ x ∈ T, x < 52 := fun x hx => h52k x (List.mem_append_right _ hx)
  have rA : pa < S := by rw [hS.out]; exact hpa
  have rB : pb < S := by rw [hS.out]; exact hpb
  have rT : pt < S := by rw [hS.out]; exact hpt
  have rK : S + 4 < pk := by have := hS5.out; omega
  have HF : Calls Try.prog 36 #[.int .i64 0, .slice (some ⟨pt, ot, none⟩) n ct, .pointer (some ⟨S, 0, none⟩), .pointer (some ⟨S + 1, 0, none⟩), .pointer (some ⟨S + 4, 0, none⟩), .pointer (some ⟨S + 2, 0, none⟩), .pointer (some ⟨S + 3, 0, none⟩), .pointer (some ⟨w7.heap.size, 0, none⟩), .pointer (some ⟨w9.heap.size, 0, none⟩)] W10
      fun e W' => e = .returned (.tuple #[]) ∧ SdI S w7.heap.size w9.heap.size pa oa ca pb ob cb pk 0 m c7 A B K (sdW A B T) (sdT A B T) (sdN A B T) W' ∧ Thr S W10 W' := by
    rcases hn with hn | hn
    · have h5 : ¬ T.length = 5 := by omega
      rw [hn] at hT10 ⊢
      have := node_any S w7.heap.size w9.heap.size pa oa ca pb ob cb pk 0 m c7 pt ot ct A B K T W10 hSd (by omega) (by omega) (by omega) rA rB rK rT hT10 qa qb qt
      unfold sdW sdT sdN
      rw [if_neg h5, if_neg h5, if_neg h5, ← hK.out]
      exact this
    · have h5 : T.length = 5 := by omega
      rw [hn] at hT10 ⊢
      have := leaf_any S w7.heap.size w9.heap.size pa oa ca pb ob cb pk 0 m c7 pt ot ct 0 A B K T 0 0 0 W10 hSd (by omega) (by omega) rA rB rK hT10 qa qb qt (by omega)
      unfold sdW sdT sdN
      rw [if_pos h5, if_pos h5, if_pos h5]
      simp only [Nat.zero_add] at this
      exact this
  have hbel : Hid (Below w.heap.size w W10) := hWB.out.trans (((hB7.out.trans (hb79.mono hB7.out.size)).trans (hb10.mono (by have := hB7.out.size; have := hb79.size; omega))).mono hWB.out.size)
  unfold fillV at hf10
  have hf10' := Lib.hid hf10
  rw [hW10] at HF hf10 hbel
  unfold fillV at HF hf10
  replace HF := Lib.hid HF
  clear hsd9 hI9 hT9 hsdA hSd hT10 h52k qa qb qt hb10 hb79 hB9 hc9 hs10 hf10' hW10 h52
  replace hbel := Lib.hid hbel.out
  have hSs := hS.out
  replace hSs := Lib.hid hSs
  go_wp2_with fail
  refine HF.out.mono ?_
  rintro e W9 ⟨rfl, hSd, hTh⟩
  clear HF hf10
  have dw := hSd.w.cell (i := 0) (by simp)
  have fw := hSd.w.free 0
  have dt := hSd.t.cell (i := 0) (by simp)
  have ft := hSd.t.free 0
  have dl := hSd.l.cell (i := 0) (by simp)
  have fl := hSd.l.free 0
  simp only [List.getElem?_cons_zero, Option.getD_some] at dw dt dl
  have hbz : Hid (Below w.heap.size w W9) := ⟨hTh.os.trans hbel.out.os, hTh.tape.trans hbel.out.tape, hTh.output.trans hbel.out.output, Nat.le_trans hbel.out.size hTh.size, fun k hk => (hTh.block k (Nat.lt_of_lt_of_le hk hbel.out.size) (by have := hSs.out; omega) (by have := hSs.out; omega) (by have := hSs.out; omega)).trans (hbel.out.block k hk)⟩
  clear hSd hTh
  obtain ⟨x, hx⟩ : ∃ x, x = sdW A B T := ⟨_, rfl⟩
  obtain ⟨y, hy⟩ : ∃ y, y = sdT A B T := ⟨_, rfl⟩
  obtain ⟨z, hz⟩ : ∃ z, z = sdN A B T := ⟨_, rfl⟩
  rw [← hx] at dw
  rw [← hy] at dt
  rw [← hz] at dl
  replace hx := Lib.hid hx; replace hy := Lib.hid hy; replace hz := Lib.hid hz
  go_wp2_with fail
  have hle : w.heap.size ≤ S := by have := hSs.out; omega
  go_region_law (fail)
  all_goals
    go_wp2_with fail
    refine bodyPost_ret (v := .tuple #[.int .i64 (x : Nat), .int .i64 (y : Nat), .int .i64 (z : Nat), .int .i64 0]) (by simp [results, Try.results16, go_sem, dw, dt, dl]) rfl ⟨by rw [hx.out, hy.out, hz.out], ?_⟩
    repeat' (first | exact hbz.out | refine Below.drew ?_ | refine Below.setCell ?_ (by simp; omega) _)
end Go.Proofs.Ytkakggagaplaiaa
