/- What gameroomkeep.MancalaTurns computes; conditions: the board's numbers fit their kind. -/
import Derived.Test.YtehcelajmhclmaaMTop
import Derived.Test.YtehcelajmhclmaaStepA
namespace Go.Proofs.Ytehcelajmhclmaa
open Go.RowKit

theorem step_appendL {P : Program} {T E : TypeId} (hT : IntT P T E) {ops : Array Oper} {o : Oper} {a : Act} {K : Act → World → Prop} {Q : Exit → Act → World → Prop} {EE : Prop} (w : World) (hgd : o.guard = none) (s x : Operand)
    (hop : o.op = .call { callee := .builtin .append, args := #[s, x], argTypes := #[T, T] })
    (B : Nat) (p : Option Addr) (n c : Nat) (xs : List Int) (hs : a.eval s = .slice p n c) (own : Own E B w p n c xs) (ad : Addr) (m c2 : Nat) (ys : List Int) (hx : a.eval x = .slice (some ad) m c2) (hin : IntsIn w (some ad) m ys) (hm : 0 < m)
    (hn : n + m < 1099511627776) (hB : B ≤ w.heap.size)
    (hK : ∀ g c' w', Own E B w' (some ⟨g, 0, none⟩) (n + m) c' (xs ++ ys) → w.grownBy w' (p.map (·.block)) → K (a.put o.dst (.slice (some ⟨g, 0, none⟩) (n + m) c')) w') :
    if Region.wanted o (yielded ops a.tmps) = true then Oper.wp P o a w K Q else EE := by
  obtain ⟨i0, hi, hz0, hz1, hz2⟩ := info_parts hT.info
  have hyl := hin.len
  refine step_append_lies w hgd s x T hop B E i0 (.int .i64 0) 1 8 hT.under hi hz0 hz1 hz2 rfl (by omega) (.slice p n c) n _ hs own ad m c2 (ys.map (Value.int .i64)) hx (by simp [hyl])
    (fun j u hj => by
      have hj' : j < m := by
        have := (List.getElem?_eq_some_iff.1 hj).1
        simp at this; omega
      obtain ⟨b, o', e, _, hc⟩ := hin.2 j hj'
      cases e
      rw [Addr.add_lit, hc]
      rw [← hj]; simp [show j < ys.length by omega])
    (by intro u hu; simp at hu; obtain ⟨y, _, rfl⟩ := hu; rfl) hm (by unfold maxLen; omega) (by omega) hB w.heap.size rfl ?_
  intro g cap w' h1 h2 h3 h4
  refine hK g cap w' (by simpa [Own] using h1) ?_
  refine ⟨h2.os, h2.tape, h2.output, h2.size, fun k hk hne => h2.block k hk ?_⟩
  intro e; apply hne; rw [e]; cases p <;> rfl

set_option maxHeartbeats 400000 in
theorem ints_any (ad : Addr) (n c : Nat) (xs : List Int) (w : World) (hn : n ≤ 1000000) (hx : IntsIn w (some ad) n xs) :
    Calls Try.prog 7 #[.slice (some ad) n c] w fun e w' => ∃ p' c', e = .returned (.slice p' n c') ∧ Own 3 w.heap.size w' p' n c' xs ∧ Below w.heap.size w w' := by
  replace hx := Lib.hid hx
  go_enter Try.func7, Try.ntmps7
  go_wp2_with (at_builtin; refine wp_appendL int22 _ rfl _ _ rfl w.heap.size none 0 0 [] rfl (Own.nil _ _ _) ad n c xs rfl hx.out (by omega) (Nat.le_refl _) ?_; intro p' c' w2 hO hg _ hz)
  have hB : Below w.heap.size w w2 := (Below.refl _ w).grown hg (Nat.le_refl _) (fun x hx => by cases hx)
  replace hO := Lib.hid hO; replace hB := Lib.hid hB
  clear hg hz
  go_wp2
  go_ret
  exact ⟨p', c', by simp, by simpa using hO.out, hB.out⟩


def rotS (s : List Nat) (P : Nat) : List Nat := s.drop (P + 1) ++ s.take (P + 1)
theorem may_yes {xs : List Int} {t : Int} (h : mayF xs t = true) : ∃ (s : List Nat) (P u : Nat), xs = asI s ∧ s.sum ≤ 1000 ∧ s.length = 2 * P + 2 ∧ 1 ≤ P ∧ P ≤ 6 ∧ t = u ∧ u ≤ 1 := by
  unfold mayF at h
  rw [Bool.and_eq_true, decide_eq_true_iff] at h
  obtain ⟨⟨h1, h2, h3, h4, h5⟩, h6⟩ := h
  obtain ⟨s, rfl, hs⟩ := mayGo_nat xs 1000 (by simpa using h6)
  rw [asI_len] at h1 h2 h3
  exact ⟨s, s.length / 2 - 1, t.toNat, rfl, hs, by omega, by omega, by omega, by omega, by omega⟩
theorem turn_turn (s : List Nat) (P u : Nat) (hl : s.length = 2 * P + 2) (hu : u ≤ 1) : turnL (rotS s P) P (1 - u) = turnL s P u := by
  rcases (show u = 0 ∨ u = 1 by omega) with rfl | rfl
  · unfold turnL rotS
    rw [if_pos (by omega), if_neg (by omega)]
    have l1 : (s.drop (P + 1)).length = P + 1 := by simp; omega
    rw [List.drop_left' l1, List.take_left' l1, List.take_append_drop]
  · unfold turnL rotS
    rw [if_neg (by omega), if_pos rfl]
theorem top_turn (s : List Nat) (P u : Nat) (hl : s.length = 2 * P + 2) (hu : u ≤ 1) (hs : s.sum ≤ 1000) :
    (topV (rotS s P) P (1 - u)).1 = -(topV s P u).1 ∧ (topV (rotS s P) P (1 - u)).2.1 = (topV s P u).2.1 ∧ (topV (rotS s P) P (1 - u)).2.2 = (topV s P u).2.2 ∧ ((topV s P u).2.2 = 0 ∨ (topV s P u).2.2 = 2) ∧ -3000 ≤ (topV s P u).1 ∧ (topV s P u).1 ≤ 3000 := by
  have e := turn_turn s P u hl hu
  have hv := valV_small 3000 P 5005 (turnL s P u) (by rw [turnL_len]; exact hl) (by rw [turnL_sum]; omega)
  obtain ⟨v1, v2, _, _⟩ := hv
  unfold topV
  rw [e]
  generalize valV 5005 P (turnL s P u) = V at *
  split
  · simp
  · rcases (show u = 0 ∨ u = 1 by omega) with rfl | rfl
    · simp; omega
    · simp; omega
def Turned (w2 : World) (n : Nat) (s : List Nat) (t : Nat) (v : Value) (wx : World) : Prop := ∃ b9 p9 c9, v = .pointer (some ⟨b9, 0, none⟩) ∧ wx.heap[b9]? = some (.cells #[.slice p9 n c9, .int .i64 (1 - (t : Int))] 24) ∧ IntsIn wx p9 n (asI s) ∧ Below w2.heap.size w2 wx
theorem cell2_ne (w : World) {a b : Nat} (h : a ≠ b) (i : Nat) (u v : Value) : ((w.setCell ⟨b, 0, none⟩ u).setCell ⟨b, 1, none⟩ v).cell? ⟨a, i, none⟩ = w.cell? ⟨a, i, none⟩ :=
  World.cell?_of_block (a := ⟨a, i, none⟩) ((wset_ne _ _ h).trans (wset_ne _ _ h))
theorem turned_new {W w5 : World} {n u g5 c5 : Nat} {s : List Nat} (hO : Own 3 W.heap.size w5 (some ⟨g5, 0, none⟩) n c5 (asI s)) (hB : Below W.heap.size W w5) :
    Turned W n s u (.pointer (some ⟨w5.heap.size, 0, none⟩)) (w5.alloc (.cells #[.slice (some ⟨g5, 0, none⟩) n c5, .int .i64 (1 - (u : Int))] 24)) :=
  ⟨w5.heap.size, some ⟨g5, 0, none⟩, c5, rfl, heap_alloc_new w5 _, hO.in.alloc _, hB.alloc hB.size _⟩
theorem turned_set {W w5 : World} {n u g5 c5 b8 : Nat} {s : List Nat} (hO : Own 3 W.heap.size w5 (some ⟨g5, 0, none⟩) n c5 (asI s)) (hB : Below W.heap.size W w5) (h8 : w5.heap[b8]? = some (.cells #[.slice none 0 0, .int .i64 0] 24)) (hb : W.heap.size ≤ b8) (hn : 0 < n) :
    Turned W n s u (.pointer (some ⟨b8, 0, none⟩)) ((w5.setCell ⟨b8, 0, none⟩ (.slice (some ⟨g5, 0, none⟩) n c5)).setCell ⟨b8, 1, none⟩ (.int .i64 (1 - (u : Int)))) := by
  have hne : g5 ≠ b8 := by
    rintro rfl
    have h1 := hO.cell (i := 0) hn
    rw [wcell (cs := [_, _]) h8 0] at h1
    simp at h1
  refine ⟨b8, some ⟨g5, 0, none⟩, c5, rfl, ?_, hO.in.keep (by simp [World.setCell]) fun b o e => ?_, ?_⟩
  · simpa using wset (wset h8 0 (.slice (some ⟨g5, 0, none⟩) n c5)) 1 (.int .i64 (1 - (u : Int)))
  · cases e
    rw [wset_ne _ _ hne, wset_ne _ _ hne]
  · exact (hB.setCell (p := ⟨b8, 0, none⟩) hb _).setCell (p := ⟨b8, 1, none⟩) hb _
theorem top_unit : topV [1, 0, 1, 0] 1 0 = (0, 0, 0) := by decide +kernel

set_option maxRecDepth 20000 in
set_option maxHeartbeats 4000000 in
theorem turns_any (q : Option Addr) (n c : Nat) (t : Int) (xs : List Int) (w : World) (hn : n ≤ 9223372036854775807) (hcn : n ≤ c) (ht1 : -9223372036854775808 ≤ t) (ht2 : t ≤ 9223372036854775807) (hx : IntsIn w q n xs) :
    Calls Try.prog 3 #[.agg #[.slice q n c, .int .i64 t]] w fun e w' => e = .returned (.bool true) ∧ Below w.heap.size w w' := by
  have hxl := hx.len
  have e0 := (heap2 w (.cells #[.slice q n c, .int .i64 t] 24) (.cells #[.int .i64 1, .int .i64 0, .int .i64 1, .int .i64 0] 3)).1
  have hB0 := Lib.hid (below2 w (.cells #[.slice q n c, .int .i64 t] 24) (.cells #[.int .i64 1, .int .i64 0, .int .i64 1, .int .i64 0] 3))
  have hxa := (hx.alloc (.cells #[.slice q n c, .int .i64 t] 24)).alloc (.cells #[.int .i64 1, .int .i64 0, .int .i64 1, .int .i64 0] 3)
  have HU := top_yes (some ⟨w.heap.size + 1, 0, none⟩) 4 4 1 0 [1, 0, 1, 0] ((w.alloc (.cells #[.slice q n c, .int .i64 t] 24)).alloc (.cells #[.int .i64 1, .int .i64 0, .int .i64 1, .int .i64 0] 3)) (by omega) (by omega) rfl (by omega) (by decide) (IntsIn.new _ _ _ _ _ _ (by simp) rfl rfl)
  rw [top_unit] at HU
  have hsz : w.heap.size < ((w.alloc (.cells #[.slice q n c, .int .i64 t] 24)).alloc (.cells #[.int .i64 1, .int .i64 0, .int .i64 1, .int .i64 0] 3)).heap.size := by simp; omega
  replace HU := Lib.hid HU; replace hxl := Lib.hid hxl
  clear hx
  go_enter Try.func3, Try.ntmps3
  go_wp2_with fail
  generalize ((w.alloc (.cells #[.slice q n c, .int .i64 t] 24)).alloc (.cells #[.int .i64 1, .int .i64 0, .int .i64 1, .int .i64 0] 3)) = W at *
  refine HU.out.mono ?_
  rintro e w1 ⟨rfl, hB⟩
  have e1 := (hB.block _ hsz).trans e0
  have hx1 := hxa.below hB
  have hsz1 := Nat.lt_of_lt_of_le hsz hB.size
  have hB1 := Lib.hid (hB0.out.trans (hB.mono hB0.out.size))
  clear hB hB0 hxa e0 hsz HU
  have c0 : w1.cell? ⟨w.heap.size, 0, none⟩ = some (.slice q n c) := wcell (cs := [_, _]) e1 0
  have c1 : w1.cell? ⟨w.heap.size, 1, none⟩ = some (.int .i64 t) := wcell (cs := [_, _]) e1 1
  cases hm : mayF xs t with
  | false =>
    have HV := Lib.hid (top_no q n c t xs w1 hn ht1 ht2 hx1 hm)
    go_wp2_with fail
    refine HV.out.mono ?_
    rintro e w2 ⟨rfl, hB⟩
    have e2 := (hB.block _ hsz1).trans e1
    have hB2 := Lib.hid (hB1.out.trans (hB.mono hB1.out.size))
    have HM := may_any q n c t xs w2 hn ht1 ht2 (hx1.below hB)
    rw [hm] at HM
    replace HM := Lib.hid HM
    clear c0 c1 hB
    have c0 : w2.cell? ⟨w.heap.size, 0, none⟩ = some (.slice q n c) := wcell (cs := [_, _]) e2 0
    have c1 : w2.cell? ⟨w.heap.size, 1, none⟩ = some (.int .i64 t) := wcell (cs := [_, _]) e2 1
    go_wp2_with fail
    refine HM.out.mono ?_
    rintro e w3 ⟨rfl, hB⟩
    have hB3 := Lib.hid (hB2.out.trans (hB.mono hB2.out.size))
    clear c0 c1 hB
    go_wp2_with fail
    go_ret
    exact ⟨rfl, hB3.out⟩
  | true =>
    obtain ⟨s, P, u, rfl, hs, hsl, hP1, hP, rfl, hu⟩ := may_yes hm
    rw [asI_len] at hxl
    have hn2 : n = 2 * P + 2 := by have := hxl.out; omega
    have hnl : s.length = n := hxl.out
    have HV := Lib.hid (top_yes q n c P u s w1 hP1 hP hn2 hu hs hx1)
    have HM := Lib.hid (fun W hx => may_any q n c u (asI s) W hn ht1 ht2 hx)
    have hrs : Hid (rotS s P = s.drop (P + 1) ++ s.take (P + 1)) := rfl
    have HV2 := Lib.hid (fun q2 c2 W hx => top_yes q2 n c2 P (1 - u) (rotS s P) W hP1 hP hn2 (by omega) (by unfold rotS; rw [rot_sum]; exact hs) hx)
    obtain ⟨k1, k2, k3, k4, k5, k6⟩ := top_turn s P u hsl hu hs
    generalize rotS s P = s2 at *
    generalize topV s P u = T at *
    generalize topV s2 P (1 - u) = T2 at *
    have hu1 : ((1 - u : Nat) : Int) = 1 - (u : Int) := by omega
    rw [hu1, k1, k2, k3] at HV2
    have hd : (n : Int) / 2 = (P : Int) + 1 := by omega
    rw [hm] at HM
    replace hn2 := Lib.hid hn2; replace hnl := Lib.hid hnl; replace hu1 := Lib.hid hu1; replace hm := Lib.hid hm; replace hsl := Lib.hid hsl
    clear k1 k2 k3 T2
    go_wp2_with fail
    refine HV.out.mono ?_
    rintro e w2 ⟨rfl, hB⟩
    have e2 := (hB.block _ hsz1).trans e1
    have hB2 := Lib.hid (hB1.out.trans (hB.mono hB1.out.size))
    have hx2 := hx1.below hB
    have hsz2 := Nat.lt_of_lt_of_le hsz1 hB.size
    clear c0 c1 hB hx1 e1 hsz1 hB1 HV
    have c0 : w2.cell? ⟨w.heap.size, 0, none⟩ = some (.slice q n c) := wcell (cs := [_, _]) e2 0
    have c1 : w2.cell? ⟨w.heap.size, 1, none⟩ = some (.int .i64 (u : Int)) := wcell (cs := [_, _]) e2 1
    go_wp2_with fail
    refine (HM.out _ hx2).mono ?_
    rintro e w3 ⟨rfl, hB⟩
    have e3 := (hB.block _ hsz2).trans e2
    have hB3 := Lib.hid (hB2.out.trans (hB.mono hB2.out.size))
    have hx3 := Lib.hid (hx2.below hB)
    have hsz3 := Nat.lt_of_lt_of_le hsz2 hB.size
    clear c0 c1 hB hx2 e2 hsz2 hB2 HM
    have c0 : w3.cell? ⟨w.heap.size, 0, none⟩ = some (.slice q n c) := wcell (cs := [_, _]) e3 0
    have c1 : w3.cell? ⟨w.heap.size, 1, none⟩ = some (.int .i64 (u : Int)) := wcell (cs := [_, _]) e3 1
    replace e3 := Lib.hid e3
    go_wp2_with fail
    obtain ⟨b, o, rfl, hbl, _⟩ := hx3.out.at (by have := hn2.out; omega)
    have HIN := Lib.hid (fun (W : World) (h : Below w3.heap.size w3 W) => show IntsIn W (some ⟨b, o, none⟩) (P + 1) (asI (s.take (P + 1))) from by
      have := (hx3.out.below h).part 0 (P + 1) (by omega) (by have := hn2.out; omega) (some ⟨b, o, none⟩) (fun _ => by simp [Addr.add])
      rwa [List.drop_zero, ← asI_take, Nat.sub_zero] at this)
    have HID := Lib.hid (fun (W : World) (h : Below w3.heap.size w3 W) => show IntsIn W (some ⟨b, o + (P + 1), none⟩) (n - (P + 1)) (asI (s.drop (P + 1))) from by
      have := (hx3.out.below h).part (P + 1) n (by have := hn2.out; omega) (Nat.le_refl _) (some ⟨b, o + (P + 1), none⟩) (fun _ => by simp [Addr.add])
      rwa [List.take_of_length_le (by rw [asI_len]; have := hnl.out; omega), ← asI_drop] at this)
    have HI1 : Hid (∀ (W : World), Below w3.heap.size w3 W → W.heap[w3.heap.size]? = some (.cells #[.slice none 0 0, .int .i64 0] 24) → Calls Try.prog 7 #[.slice (some ⟨b, o + (P + 1), none⟩) (n - (P + 1)) (c - (P + 1))] W fun e w' => ∃ g4 c4, e = .returned (.slice (some ⟨g4, 0, none⟩) (n - (P + 1)) c4) ∧ Own 3 w3.heap.size w' (some ⟨g4, 0, none⟩) (n - (P + 1)) c4 (asI (s.drop (P + 1))) ∧ w3.heap.size < g4 ∧ Below w3.heap.size w3 w' ∧ w'.heap[w3.heap.size]? = some (.cells #[.slice none 0 0, .int .i64 0] 24)) := fun W h h8 =>
      (ints_any ⟨b, o + (P + 1), none⟩ (n - (P + 1)) (c - (P + 1)) _ W (by have := hn2.out; omega) (HID.out W h)).mono fun e w' hh => by
        obtain ⟨p', c', h1, h2, h3⟩ := hh
        obtain ⟨g4, rfl, h4, h5, _⟩ := h2.where (by have := hn2.out; omega)
        exact ⟨g4, c', h1, OwnC.mono (k := 1) h2 h.size, Nat.lt_of_lt_of_le (lt_of_heap h8) h4, h.trans (h3.mono h.size), (h3.block _ (lt_of_heap h8)).trans h8⟩
    have HI2 : Hid (∀ (W : World), Below w3.heap.size w3 W → Calls Try.prog 7 #[.slice (some ⟨b, o + (P + 1), none⟩) (n - (P + 1)) (c - (P + 1))] W fun e w' => ∃ g4 c4, e = .returned (.slice (some ⟨g4, 0, none⟩) (n - (P + 1)) c4) ∧ Own 3 w3.heap.size w' (some ⟨g4, 0, none⟩) (n - (P + 1)) c4 (asI (s.drop (P + 1))) ∧ w3.heap.size < g4 + 1 ∧ Below w3.heap.size w3 w') := fun W h =>
      (ints_any ⟨b, o + (P + 1), none⟩ (n - (P + 1)) (c - (P + 1)) _ W (by have := hn2.out; omega) (HID.out W h)).mono fun e w' hh => by
        obtain ⟨p', c', h1, h2, h3⟩ := hh
        obtain ⟨g4, rfl, h4, h5, _⟩ := h2.where (by have := hn2.out; omega)
        exact ⟨g4, c', h1, OwnC.mono (k := 1) h2 h.size, Nat.lt_succ_of_le (Nat.le_trans h.size h4), h.trans (h3.mono h.size)⟩
    have hz0 : 0 ≤ (P : Int) + 1 := by omega
    have hz1 : (P : Int) + 1 ≤ (n : Int) := by have := hn2.out; omega
    have hz2 : (P : Int) + 1 ≤ (c : Int) := by omega
    have hz3 : ¬ c = P + 1 := by have := hn2.out; omega
    have hnn : Hid (n - (P + 1) + (P + 1) = n) := by show _ = _; have := hn2.out; omega
    have hw1 : IntKind.i64.wrap (1 - (u : Int)) = 1 - (u : Int) := IntWalk.i64_in _ (by omega)
    clear hm hd hx3
    go_upto_region 9 with fail
    go_cut [9] (fun v wx => Turned w3 n s2 u v wx)
    case first =>
      go_region_held3 (fun w' => w'.cell? ⟨w.heap.size, 0, none⟩ = some (.slice (some ⟨b, o, none⟩) n c) ∧ w'.cell? ⟨w.heap.size, 1, none⟩ = some (.int .i64 (u : Int))) (first | exact ⟨c0'', c1''⟩ | exact ⟨(cell2_ne _ (Nat.ne_of_lt hsz4) _ _ _).trans c0'', (cell2_ne _ (Nat.ne_of_lt hsz4) _ _ _).trans c1''⟩ | exact ⟨(cell2_ne _ (Nat.ne_of_lt hsz3) _ _ _).trans c0'', (cell2_ne _ (Nat.ne_of_lt hsz3) _ _ _).trans c1''⟩ | exact ⟨c0', c1'⟩ | exact ⟨c0, c1⟩ | go_keep) (first | (go_at_call 7; refine (HI1.out _ ?_ ?_).mono ?_; (first | exact Below.refl _ _ | exact below_drewN (Below.refl _ _) 1 | exact (below_drewN (Below.refl _ _) 1).alloc (Nat.le_refl _) _ | exact below_drewN ((Below.refl _ _).alloc (Nat.le_refl _) _) 1); (first | exact heap_alloc_new w3 _ | exact heap_alloc_new w3.drew _); rintro e w4 ⟨g4, c4, rfl, hO4, hg4, hB4, x8⟩; replace x8 := Lib.hid x8; have hne8 := Lib.hid (Nat.ne_of_lt hg4); have c0' : w4.cell? ⟨w.heap.size, 0, none⟩ = some (.slice (some ⟨b, o, none⟩) n c) := wcell (cs := [_, _]) ((hB4.block _ hsz3).trans e3.out) 0; have c1' : w4.cell? ⟨w.heap.size, 1, none⟩ = some (.int .i64 (u : Int)) := wcell (cs := [_, _]) ((hB4.block _ hsz3).trans e3.out) 1; have hsz4 : w.heap.size < w4.heap.size := Nat.lt_of_lt_of_le hsz3 hB4.size; have hs34 := Lib.hid hB4.size; replace hO4 := Lib.hid hO4; replace hB4 := Lib.hid hB4; have hge := Lib.hid (show w3.heap.size ≤ g4 from by omega); replace hg4 := Lib.hid hg4) | (go_at_call 7; refine (HI2.out _ ?_).mono ?_; (first | exact Below.refl _ _ | exact below_drewN (Below.refl _ _) 1 | exact (below_drewN (Below.refl _ _) 1).alloc (Nat.le_refl _) _ | exact below_drewN ((Below.refl _ _).alloc (Nat.le_refl _) _) 1); rintro e w4 ⟨g4, c4, rfl, hO4, hg4, hB4⟩; have c0' : w4.cell? ⟨w.heap.size, 0, none⟩ = some (.slice (some ⟨b, o, none⟩) n c) := wcell (cs := [_, _]) ((hB4.block _ hsz3).trans e3.out) 0; have c1' : w4.cell? ⟨w.heap.size, 1, none⟩ = some (.int .i64 (u : Int)) := wcell (cs := [_, _]) ((hB4.block _ hsz3).trans e3.out) 1; have hsz4 : w.heap.size < w4.heap.size := Nat.lt_of_lt_of_le hsz3 hB4.size; have hs34 := Lib.hid hB4.size; replace hO4 := Lib.hid hO4; replace hB4 := Lib.hid hB4; have hge := Lib.hid (show w3.heap.size ≤ g4 from by omega); replace hg4 := Lib.hid hg4) | (refine step_appendL int22 _ (by rfl) _ _ (by rfl) w3.heap.size (some ⟨g4, 0, none⟩) _ c4 _ (by rfl) hO4.out ⟨b, o, none⟩ (P + 1) c _ (by rfl) (HIN.out _ hB4.out) (by omega) (by have := hn2.out; omega) hs34.out ?_; intro g5 c5 w5 hO5 hg5; have hB5 := hB4.out.grown hg5 hs34.out (fun x hx => by cases hx; exact hge.out); have c0'' : w5.cell? ⟨w.heap.size, 0, none⟩ = some (.slice (some ⟨b, o, none⟩) n c) := wcell (cs := [_, _]) ((hB5.block _ hsz3).trans e3.out) 0; have c1'' : w5.cell? ⟨w.heap.size, 1, none⟩ = some (.int .i64 (u : Int)) := wcell (cs := [_, _]) ((hB5.block _ hsz3).trans e3.out) 1; have hsz5 : w.heap.size < w5.heap.size := Nat.lt_of_lt_of_le hsz3 hB5.size; replace hB5 := Lib.hid hB5; rw [hnn.out] at hO5; rw [hnn.out]; rw [← asI_app, ← hrs.out] at hO5; replace hO5 := Lib.hid hO5; have x9 : w5.heap[w3.heap.size]? = some (.cells #[.slice none 0 0, .int .i64 0] 24) := (hg5.block _ (lt_of_heap x8.out) (fun h => hne8.out (by simpa using h))).trans x8.out; have y0 : w5.cell? ⟨w3.heap.size, 0, none⟩ = some (.slice none 0 0) := wcell (cs := [_, _]) x9 0; have y1 : w5.cell? ⟨w3.heap.size, 1, none⟩ = some (.int .i64 0) := wcell (cs := [_, _]) x9 1; have f0 : w5.frozen? ⟨w3.heap.size, 0, none⟩ = false := wfree x9 0; have f1 : w5.frozen? ⟨w3.heap.size, 1, none⟩ = false := wfree x9 1; replace x9 := Lib.hid x9; replace hg5 := Lib.hid hg5) | (refine step_appendL int22 _ (by rfl) _ _ (by rfl) w3.heap.size (some ⟨g4, 0, none⟩) _ c4 _ (by rfl) hO4.out ⟨b, o, none⟩ (P + 1) c _ (by rfl) (HIN.out _ hB4.out) (by omega) (by have := hn2.out; omega) hs34.out ?_; intro g5 c5 w5 hO5 hg5; have hB5 := hB4.out.grown hg5 hs34.out (fun x hx => by cases hx; exact hge.out); have c0'' : w5.cell? ⟨w.heap.size, 0, none⟩ = some (.slice (some ⟨b, o, none⟩) n c) := wcell (cs := [_, _]) ((hB5.block _ hsz3).trans e3.out) 0; have c1'' : w5.cell? ⟨w.heap.size, 1, none⟩ = some (.int .i64 (u : Int)) := wcell (cs := [_, _]) ((hB5.block _ hsz3).trans e3.out) 1; have hsz5 : w.heap.size < w5.heap.size := Nat.lt_of_lt_of_le hsz3 hB5.size; replace hB5 := Lib.hid hB5; rw [hnn.out] at hO5; rw [hnn.out]; rw [← asI_app, ← hrs.out] at hO5; replace hO5 := Lib.hid hO5; replace hg5 := Lib.hid hg5) | (refine step_appendL int22 _ (by rfl) _ _ (by rfl) w3.heap.size (some ⟨g4, 0, none⟩) _ c4 _ (by rfl) (hO4.out.alloc _) ⟨b, o, none⟩ (P + 1) c _ (by rfl) (HIN.out _ (hB4.out.alloc hs34.out _)) (by omega) (by have := hn2.out; omega) (by have := hs34.out; simp; omega) ?_; intro g5 c5 w5 hO5 hg5; have hB5 := (hB4.out.alloc hs34.out (.cells #[.slice none 0 0, .int .i64 0] 24)).grown hg5 (by have := hs34.out; simp; omega) (fun x hx => by cases hx; exact hge.out); have c0'' : w5.cell? ⟨w.heap.size, 0, none⟩ = some (.slice (some ⟨b, o, none⟩) n c) := wcell (cs := [_, _]) ((hB5.block _ hsz3).trans e3.out) 0; have c1'' : w5.cell? ⟨w.heap.size, 1, none⟩ = some (.int .i64 (u : Int)) := wcell (cs := [_, _]) ((hB5.block _ hsz3).trans e3.out) 1; have hsz5 : w.heap.size < w5.heap.size := Nat.lt_of_lt_of_le hsz3 hB5.size; replace hB5 := Lib.hid hB5; rw [hnn.out] at hO5; rw [hnn.out]; rw [← asI_app, ← hrs.out] at hO5; replace hO5 := Lib.hid hO5; have x9 : w5.heap[w4.heap.size]? = some (.cells #[.slice none 0 0, .int .i64 0] 24) := (hg5.block _ (by simp) (fun h => Nat.ne_of_gt hO4.out.lt (by simpa using h))).trans (heap_alloc_new w4 (.cells #[.slice none 0 0, .int .i64 0] 24)); have y0 : w5.cell? ⟨w4.heap.size, 0, none⟩ = some (.slice none 0 0) := wcell (cs := [_, _]) x9 0; have y1 : w5.cell? ⟨w4.heap.size, 1, none⟩ = some (.int .i64 0) := wcell (cs := [_, _]) x9 1; have f0 : w5.frozen? ⟨w4.heap.size, 0, none⟩ = false := wfree x9 0; have f1 : w5.frozen? ⟨w4.heap.size, 1, none⟩ = false := wfree x9 1; replace x9 := Lib.hid x9; replace hg5 := Lib.hid hg5))
      all_goals
        go_wp2_with fail
        go_meet
        first | exact turned_new hO5.out hB5.out | exact turned_set hO5.out hB5.out x9.out (Nat.le_refl _) (by have := hn2.out; omega) | exact turned_set hO5.out hB5.out x9.out hs34.out (by have := hn2.out; omega)
    case rest =>
      obtain ⟨b9, p9, c9, rfl, e9, hx9, hB9⟩ := hcut
      have d0 : wc.cell? ⟨b9, 0, none⟩ = some (.slice p9 n c9) := wcell (cs := [_, _]) e9 0
      have d1 : wc.cell? ⟨b9, 1, none⟩ = some (.int .i64 (1 - (u : Int))) := wcell (cs := [_, _]) e9 1
      have HZ := Lib.hid (HV2.out p9 c9 wc hx9)
      have hBz := Lib.hid (hB3.out.trans (hB9.mono hB3.out.size))
      clear HV2 hx9 hB9 c0 c1 e9 HI1 HI2 HIN HID
      go_wp2_with fail
      refine HZ.out.mono ?_
      rintro e w6 ⟨rfl, hB⟩
      have hB6 := Lib.hid (hBz.out.trans (hB.mono hBz.out.size))
      clear hB HZ d0 d1
      obtain ⟨T1, T2, T3⟩ := T
      simp only at k4 k5 k6
      rcases k4 with rfl | rfl
      · have z2 : (-T1 == -T1) = true := by simp
        have z3 : (T2 == T2) = true := by simp
        go_wp2_with fail
        go_ret
        exact ⟨rfl, hB6.out⟩
      · go_wp2_with fail
        go_ret
        exact ⟨rfl, hB6.out⟩
end Go.Proofs.Ytehcelajmhclmaa
