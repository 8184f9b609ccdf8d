/- The walk of poker.value: five cards below 52 have the value that PkP tells; conditions stand in it. -/
import Derived.Test.YtkakggagaplaiaaPkS
import Derived.Deep.Cut
import Derived.Deep.DeepCutAuto
import Derived.Deep.CutBlock
namespace Go.Proofs.Ytkakggagaplaiaa
open Go.RowKit

def A5 (L : List Nat) : Value := .agg #[.int .i64 (st L 0 : Nat), .int .i64 (st L 1 : Nat), .int .i64 (st L 2 : Nat), .int .i64 (st L 3 : Nat), .int .i64 (st L 4 : Nat)]
theorem A5_at (L : List Nat) {j : Nat} (hj : j < 5) (W : World) : (Instr.index 101 (A5 L) (.int .i64 (j : Int))).run Try.prog W = .ok (.int .i64 (st L j : Nat)) W := by
  rcases (show j = 0 ∨ j = 1 ∨ j = 2 ∨ j = 3 ∨ j = 4 by omega) with rfl | rfl | rfl | rfl | rfl <;> kernel_rfl
theorem five_is {L : List Nat} (hl : L.length = 5) : L = [st L 0, st L 1, st L 2, st L 3, st L 4] := by
  match L, hl with
  | [a, b, c, d, e], _ => rfl
/-- how many of each sign, of the first j cards. -/
def mnJ (L : List Nat) (j : Nat) : List Nat := (List.range 13).map (mnS (L.take j))
theorem mnJ_len (L : List Nat) (j : Nat) : (mnJ L j).length = 13 := by simp [mnJ]
theorem mnJ_at (L : List Nat) (j : Nat) {r : Nat} (h : r < 13) : st (mnJ L j) r = mnS (L.take j) r := by unfold st mnJ; simp [h]
theorem take_next {L : List Nat} {j : Nat} (h : j < L.length) : L.take (j + 1) = L.take j ++ [st L j] := by
  rw [List.take_add_one]; unfold st; simp [h]
theorem mnJ_succ {L : List Nat} {j : Nat} (h : j < L.length) : mnJ L (j + 1) = (mnJ L j).set (st L j / 4) (st (mnJ L j) (st L j / 4) + 1) := by
  apply List.ext_getElem
  · simp [mnJ]
  · intro i h1 h2
    have h13 : i < 13 := by simpa [mnJ] using h1
    rw [List.getElem_set]
    have e : (mnJ L (j + 1))[i]'h1 = mnS (L.take (j + 1)) i := by simp [mnJ]
    rw [e, take_next h]
    unfold mnS
    rw [List.countP_append]
    by_cases hx : st L j / 4 = i
    · rw [if_pos hx, mnJ_at L j (by omega)]
      unfold mnS
      simp [hx]
    · rw [if_neg hx]
      simp [mnJ, mnS, hx]
def fluJ (L : List Nat) (j : Nat) : Bool := (L.take j).all fun c => c % 4 == st L 0 % 4
theorem fluJ_succ {L : List Nat} {j : Nat} (h : j < L.length) : fluJ L (j + 1) = (fluJ L j && (st L j % 4 == st L 0 % 4)) := by
  unfold fluJ; rw [take_next h, List.all_append]; simp
theorem sgU_lt (m : Nat → Nat) (j : Nat) : ∀ x ∈ sgU m j, x < 13 := fun x hx => by
  unfold sgU at hx
  simp only [List.mem_filter, List.mem_map] at hx
  obtain ⟨⟨a, _, rfl⟩, _⟩ := hx
  omega
theorem sgU_congr {m m' : Nat → Nat} (h : ∀ r, r < 13 → m r = m' r) (j : Nat) : sgU m j = sgU m' j := by
  unfold sgU
  refine List.filter_congr fun x hx => ?_
  obtain ⟨a, _, rfl⟩ := List.mem_map.1 hx
  rw [h _ (by omega)]
theorem bub_congr {m m' : Nat → Nat} (h : ∀ r, r < 13 → m r = m' r) : ∀ j s, j < s.length → (∀ x ∈ s, x < 13) → bub m j s = bub m' j s
  | 0, _, _, _ => rfl
  | j + 1, s, hj, hs => by
    unfold bub
    rw [h _ (st_lt13 hs _), h _ (st_lt13 hs _)]
    split
    · exact bub_congr h j _ (by simp; omega) fun x hx => hs x ((swap_mem hj x).1 hx)
    · rfl
theorem isr_congr {m m' : Nat → Nat} (h : ∀ r, r < 13 → m r = m' r) (s : List Nat) (hs : ∀ x ∈ s, x < 13) : ∀ i, i ≤ s.length → isr m s i = isr m' s i
  | 0, _ => rfl
  | i + 1, hi => by
    rw [isr, isr, isr_congr h s hs i (by omega)]
    exact bub_congr h i _ (by rw [isr_len]; omega) fun x hx => hs x ((isr_mem m' s x i (by omega)).1 hx)
theorem agg5_cells (L : List Nat) : (asI [st L 0, st L 1, st L 2, st L 3, st L 4]).map (Value.int .i64) = [.int .i64 (st L 0 : Nat), .int .i64 (st L 1 : Nat), .int .i64 (st L 2 : Nat), .int .i64 (st L 3 : Nat), .int .i64 (st L 4 : Nat)] := rfl

theorem sgU_pos {m : Nat → Nat} (h : ∃ r, r < 13 ∧ 0 < m r) : 0 < (sgU m 13).length := by
  obtain ⟨r, h1, h2⟩ := h
  have := List.length_pos_of_mem ((srtP_mem m r).2 ⟨h1, h2⟩)
  unfold srtP at this
  rwa [isr_len] at this
theorem dgS_bound {s : List Nat} {c : Nat} (hs : ∀ i, st s i < 13) (hc : c ≤ 8) : ∀ j, dgS s c j < 9 * 13 ^ j
  | 0 => by simp [dgS]; omega
  | j + 1 => by
    have h1 := dgS_bound hs hc j
    have h2 := hs j
    rw [dgS, Nat.pow_succ]
    omega
theorem dgS_bound5 {s : List Nat} {c : Nat} (hs : ∀ i, st s i < 13) (hc : c ≤ 8) {j : Nat} (hj : j ≤ 5) : dgS s c j < 3341637 :=
  Nat.lt_of_lt_of_le (dgS_bound hs hc j) (Nat.le_trans (Nat.mul_le_mul_left 9 (Nat.pow_le_pow_right (by omega) hj)) (by decide))
theorem mod4_eq (a b : Nat) : ((a : Int) % 4 == (b : Int) % 4) = (a % 4 == b % 4) := by
  rw [Bool.eq_iff_iff]; simp only [beq_iff_eq]; omega
set_option maxRecDepth 100000 in
set_option maxHeartbeats 8000000 in
theorem value_any (L : List Nat) (hl : L.length = 5) (h52 : ∀ x ∈ L, x < 52) (w : World) :
    Calls Try.prog 60 #[A5 L] w fun e w' => e = .returned (.int .i64 (vlS L : Nat)) ∧ Below w.heap.size w w' := by
  have hix := Lib.hid (fun (j : Nat) (hj : j < 5) (W : World) => A5_at L hj W)
  have hL5 := Lib.hid (five_is hl)
  have hc52 : Hid (∀ j, j < 5 → st L j < 52) := fun j hj => h52 _ (st_mem_lt (by omega))
  replace hl := Lib.hid hl
  replace h52 := Lib.hid h52
  obtain ⟨V, hV⟩ : ∃ V, V = vlS L := ⟨_, rfl⟩
  rw [← hV]
  replace hV := Lib.hid hV
  have hmod2 : ∀ x : Nat, (x : Int).tmod 4 = ((x % 4 : Nat) : Int) := fun x => by rw [Int.tmod_eq_emod_of_nonneg (by omega)]; push_cast; rfl
  unfold A5 at *
  go_enter Try.func60, Try.ntmps60
  go_wp2_with fail
  have hN1 : Nums ((w.alloc (.cells #[.int .i64 (st L 0 : Nat), .int .i64 (st L 1 : Nat), .int .i64 (st L 2 : Nat), .int .i64 (st L 3 : Nat), .int .i64 (st L 4 : Nat)] 101)).alloc (.cells #[.int .i64 0, .int .i64 0, .int .i64 0, .int .i64 0, .int .i64 0, .int .i64 0, .int .i64 0, .int .i64 0, .int .i64 0, .int .i64 0, .int .i64 0, .int .i64 0, .int .i64 0] 118)) (w.heap.size + 1) 118 (asI (mnJ L 0)) := by
    have h := heap_alloc_new (w.alloc (.cells #[.int .i64 (st L 0 : Nat), .int .i64 (st L 1 : Nat), .int .i64 (st L 2 : Nat), .int .i64 (st L 3 : Nat), .int .i64 (st L 4 : Nat)] 101)) (.cells #[.int .i64 0, .int .i64 0, .int .i64 0, .int .i64 0, .int .i64 0, .int .i64 0, .int .i64 0, .int .i64 0, .int .i64 0, .int .i64 0, .int .i64 0, .int .i64 0, .int .i64 0] 118)
    rw [World.size_alloc] at h
    exact h
  have hN0 : Nums ((w.alloc (.cells #[.int .i64 (st L 0 : Nat), .int .i64 (st L 1 : Nat), .int .i64 (st L 2 : Nat), .int .i64 (st L 3 : Nat), .int .i64 (st L 4 : Nat)] 101)).alloc (.cells #[.int .i64 0, .int .i64 0, .int .i64 0, .int .i64 0, .int .i64 0, .int .i64 0, .int .i64 0, .int .i64 0, .int .i64 0, .int .i64 0, .int .i64 0, .int .i64 0, .int .i64 0] 118)) w.heap.size 101 (asI [st L 0, st L 1, st L 2, st L 3, st L 4]) := (Below.heap_alloc _ _ _ (by simp)).trans (heap_alloc_new w _)
  have hB0 : Below w.heap.size w ((w.alloc (.cells #[.int .i64 (st L 0 : Nat), .int .i64 (st L 1 : Nat), .int .i64 (st L 2 : Nat), .int .i64 (st L 3 : Nat), .int .i64 (st L 4 : Nat)] 101)).alloc (.cells #[.int .i64 0, .int .i64 0, .int .i64 0, .int .i64 0, .int .i64 0, .int .i64 0, .int .i64 0, .int .i64 0, .int .i64 0, .int .i64 0, .int .i64 0, .int .i64 0, .int .i64 0] 118)) := ((Below.refl _ _).alloc (Nat.le_refl _) _).alloc (by simp) _
  generalize ((w.alloc (.cells #[.int .i64 (st L 0 : Nat), .int .i64 (st L 1 : Nat), .int .i64 (st L 2 : Nat), .int .i64 (st L 3 : Nat), .int .i64 (st L 4 : Nat)] 101)).alloc (.cells #[.int .i64 0, .int .i64 0, .int .i64 0, .int .i64 0, .int .i64 0, .int .i64 0, .int .i64 0, .int .i64 0, .int .i64 0, .int .i64 0, .int .i64 0, .int .i64 0, .int .i64 0] 118)) = W0 at *
  replace hN1 := Lib.hid hN1; replace hN0 := Lib.hid hN0; replace hB0 := Lib.hid hB0
  go_loopg [4, 14] 5 (fun gk fv iv W' => ∃ j : Nat, j ≤ 5 ∧ gk = 5 - j ∧ iv = .int .i64 j ∧ fv = .bool (fluJ L j) ∧ Hid (Nums W' (w.heap.size + 1) 118 (asI (mnJ L j))) ∧ Hid (Nums W' w.heap.size 101 (asI [st L 0, st L 1, st L 2, st L 3, st L 4])) ∧ Hid (Below w.heap.size w W'))
  case atStart => exact ⟨0, by omega, by omega, rfl, rfl, hN1, hN0, hB0⟩
  case round =>
    clear hN1 hN0 hB0
    obtain ⟨j, hj, hgk, rfl, rfl, hM, hL, hB⟩ := hrel
    obtain ⟨W1, rfl⟩ : ∃ W1 : World, W1 = wr := ⟨_, rfl⟩
    replace hgk := Lib.hid hgk
    by_cases hlt : j < 5
    · have hi := hix.out j hlt
      have hb0 : W1.cell? ⟨w.heap.size, 0, none⟩ = some (.int .i64 (st L 0 : Nat)) := hL.out.cell (i := 0) (by simp [asI])
      have hc := hc52.out j hlt
      have hfs := Lib.hid (fluJ_succ (L := L) (j := j) (by rw [hl.out]; exact hlt))
      have hms := Lib.hid (mnJ_succ (L := L) (j := j) (by rw [hl.out]; exact hlt))
      obtain ⟨q, hq⟩ : ∃ q, q = st L j / 4 := ⟨_, rfl⟩
      have hq13 : q < 13 := by omega
      have t1' : ((st L j : Nat) : Int) / 4 = (q : Int) := by omega
      have t1 : ((st L j : Nat) : Int).tdiv 4 = (q : Int) := by rw [Int.tdiv_eq_ediv_of_nonneg (by omega)]; exact t1'
      have hcm := hM.out.cell (i := q) (by rw [asI_len, mnJ_len]; exact hq13)
      rw [asI_at] at hcm
      have hfm := hM.out.free q
      have hM2 := hM.out.set q ((st (mnJ L j) q + 1 : Nat) : Int)
      rw [← asI_set, hq, ← hms.out, ← hq] at hM2
      have hL2 := hL.out.far (p := ⟨w.heap.size + 1, q, none⟩) (by simp) (.int .i64 ((st (mnJ L j) q + 1 : Nat) : Int))
      have hB2 := hB.out.setCell (p := ⟨w.heap.size + 1, q, none⟩) (by simp) (.int .i64 ((st (mnJ L j) q + 1 : Nat) : Int))
      have hle : st (mnJ L j) q ≤ 5 := by
        rw [mnJ_at _ _ hq13]
        exact Nat.le_trans List.countP_le_length (by rw [List.length_take]; omega)
      replace hM2 := Lib.hid hM2; replace hL2 := Lib.hid hL2; replace hB2 := Lib.hid hB2
      have n1 : (0 : Int) ≤ (q : Int) := by omega
      have n2 : (q : Int) < 13 := by omega
      have e1 : ((st (mnJ L j) q : Nat) : Int) + 1 = ((st (mnJ L j) q + 1 : Nat) : Int) := by push_cast; rfl
      replace hq := Lib.hid hq
      clear hM hL hB hms
      generalize st (mnJ L j) q = x at *
      obtain ⟨y, hy⟩ : ∃ y, y = x + 1 := ⟨_, rfl⟩
      rw [← hy] at e1 hM2 hL2 hB2
      have hy6 : y ≤ 6 := by omega
      have e2 : IntKind.i64.wrap (y : Int) = y := IntWalk.i64_in _ (by omega)
      replace hy := Lib.hid hy
      generalize fluJ L j = fb at *
      cases fb
      · go_wp2_with fail
        have hgk := hgk.out
        go_roundg (5 - (j + 1))
        case measure => omega
        case rel => exact ⟨j + 1, by omega, rfl, by go_num, by rw [hfs.out, Bool.false_and], hM2, hL2, hB2⟩
      · go_wp2_with fail
        have hgk := hgk.out
        go_roundg (5 - (j + 1))
        case measure => omega
        case rel => exact ⟨j + 1, by omega, rfl, by go_num, by rw [hfs.out, mod4_eq, Bool.true_and], hM2, hL2, hB2⟩
    · obtain rfl : j = 5 := by omega
      have hfl : fluJ L 5 = fluS L := by unfold fluJ fluS; rw [List.take_of_length_le (by rw [hl.out]; omega)]
      rw [hfl]
      have hmr : Hid (∀ r, r < 13 → st (mnJ L 5) r = mnS L r) := fun r hr => by rw [mnJ_at L 5 hr, List.take_of_length_le (by rw [hl.out]; omega)]
      have hml : (mnJ L 5).length = 13 := mnJ_len L 5
      have hVm : V = vlF (mnS L) (fluS L) := hV.out
      replace hVm := Lib.hid hVm
      have hsz : w.heap.size + 2 ≤ W1.heap.size := by have := hM.out.lt; omega
      have hm0 : Hid (∃ r, r < 13 ∧ 0 < mnS L r) := ⟨st L 0 / 4, by have := hc52.out 0 (by omega); omega, List.countP_pos_iff.2 ⟨st L 0, st_mem_lt (by rw [hl.out]; omega), by simp⟩⟩
      have hsl : Hid (∀ j, j ≤ 13 → (sgU (mnS L) j).length ≤ 5) := fun j hj => by have := sgU_le_len L j hj; rw [hl.out] at this; exact this
      have hm5 : Hid (∀ r, mnS L r ≤ 5) := fun r => by have := List.countP_le_length (p := fun c => c / 4 == r) (l := L); rw [hl.out] at this; exact this
      clear hix hL5 hc52 hl h52 hfl hV hL
      generalize fluS L = fl at *
      generalize mnS L = m at *
      generalize mnJ L 5 = ms at *
      generalize st L 0 = l0 at *
      generalize st L 1 = l1 at *
      generalize st L 2 = l2 at *
      generalize st L 3 = l3 at *
      generalize st L 4 = l4 at *
      go_wp2_with fail
      go_loopg [7, 8] 13 (fun gk sv rv W' => ∃ (j : Nat) (r : Int) (q : Option Addr) (c len : Nat), j ≤ 13 ∧ gk = 13 - j ∧ rv = .int .i64 r ∧ r = 12 - (j : Int) ∧ sv = .slice q len c ∧ len = (sgU m j).length ∧ Hid (Own 3 (w.heap.size + 2) W' q len c (asI (sgU m j))) ∧ Hid (Nums W' (w.heap.size + 1) 118 (asI ms)) ∧ Hid (Below w.heap.size w W') ∧ w.heap.size + 2 ≤ W'.heap.size)
      case atStart => exact ⟨0, 12, none, 0, 0, by omega, by omega, rfl, by omega, rfl, rfl, OwnC.nil _ _ _ _, hM, hB, hsz⟩
      case round =>
        clear hM hB hsz
        obtain ⟨j, r, q, c, len, hj, hgk, rfl, hr, rfl, hlen, hS, hM, hB, hsz⟩ := hrel
        obtain ⟨W2, rfl⟩ : ∃ W2 : World, W2 = wr := ⟨_, rfl⟩
        replace hgk := Lib.hid hgk
        by_cases hlt : j < 13
        · obtain ⟨k, hk⟩ : ∃ k, k = 12 - j := ⟨_, rfl⟩
          obtain rfl : r = (k : Int) := by omega
          have hk13 : k < 13 := by omega
          have hcm := hM.out.cell (i := k) (by rw [asI_len, hml]; exact hk13)
          rw [asI_at, hmr.out k hk13] at hcm
          have hss := Lib.hid (sgU_succ m j)
          have hm5k := hm5.out k
          have hl5 := hsl.out j hj
          rw [← hk] at hss
          have n1 : (0 : Int) ≤ (k : Int) := by omega
          have n2 : (k : Int) < 13 := by omega
          replace hk := Lib.hid hk; replace hr := Lib.hid hr; replace hlen := Lib.hid hlen
          by_cases h0 : 0 < m k
          · have d1 : decide ((0 : Int) < ((m k : Nat) : Int)) = true := decide_eq_true (by omega)
            have hss2 : Hid (sgU m (j + 1) = sgU m j ++ [k]) := by have := hss.out; rw [if_pos h0] at this; exact this
            have hlen2 : len ≤ 5 := by rw [hlen.out]; exact hl5
            clear hss hl5
            generalize m k = mk at *
            go_wp2_with (at_builtin; refine wp_append1 intG W2 rfl _ _ rfl (w.heap.size + 2) q len c _ rfl hS.out (k : Int) rfl (by omega) hsz ?_; intro q2 c2 W3 hS2 hg2 hor2 hz2; replace hS2 := Lib.hid hS2; replace hg2 := Lib.hid hg2; replace hor2 := Lib.hid hor2)
            have hM3 := Lib.hid (hM.out.grown hg2.out (OwnC.apart (k := 1) hS.out _ (by omega)))
            have hB3 := Lib.hid (hB.out.grown hg2.out (by omega) (fun z e => by
              cases q with
              | none => cases e
              | some a => simp at e; subst e; have := (OwnC.block (k := 1) hS.out a rfl).1; omega))
            have hgk := hgk.out
            go_roundg (13 - (j + 1))
            case measure => omega
            case rel => exact ⟨j + 1, (k : Int) - 1, q2, c2, len + 1, by omega, rfl, rfl, by have := hr.out; omega, rfl, by rw [hss2.out, List.length_append, hlen.out]; rfl, by rw [hss2.out, asI_app]; exact hS2, hM3, hB3, by omega⟩
          · have h00 : m k = 0 := by omega
            rw [h00] at hcm
            have hss2 : Hid (sgU m (j + 1) = sgU m j) := by have := hss.out; rw [if_neg h0] at this; exact this
            clear hss hl5 h0 h00
            go_wp2_with fail
            have hgk := hgk.out
            go_roundg (13 - (j + 1))
            case measure => omega
            case rel => exact ⟨j + 1, (k : Int) - 1, q, c, len, by omega, rfl, rfl, by have := hr.out; omega, rfl, by rw [hss2.out]; exact hlen.out, by rw [hss2.out]; exact hS, hM, hB, hsz⟩
        · obtain rfl : j = 13 := by omega
          obtain rfl : r = -1 := by omega
          have hl0 : 0 < len := by rw [hlen]; exact sgU_pos hm0.out
          have hl5 : len ≤ 5 := by rw [hlen]; exact hsl.out 13 (by omega)
          obtain ⟨g, rfl, hgB, hgw, hlc⟩ := OwnC.where (k := 1) hS.out hl0
          have e0 : isr (st ms) (sgU m 13) len = srtP m := by
            rw [hlen, isr_congr hmr.out _ (sgU_lt m 13) _ (Nat.le_refl _)]; rfl
          have HS := sortS_any (w.heap.size + 2) g len c (w.heap.size + 1) ms (sgU m 13) W2 W2 hl5 hgB ⟨hS.out, Below.refl _ _, Oth.refl _ _⟩ (sgU_lt m 13) (by omega) hM.out hml
          rw [e0] at HS
          have hSl : (srtP m).length = len := by unfold srtP; rw [isr_len, hlen]
          have hS13 : ∀ x ∈ srtP m, x < 13 := fun x hx => ((srtP_mem m x).1 hx).1
          have hVm2 : Hid (V = dgS (ctS (srtP m)) (clS m fl (whl (srtP m) || rwS (srtP m)) (ctS (srtP m))) 5) := hVm.out
          replace HS := Lib.hid HS
          clear e0 hVm hsl hm0 hlen hS
          generalize srtP m = S at *
          replace hS13 := Lib.hid hS13
          go_wp2_with fail
          refine HS.out.mono ?_
          rintro e W4 ⟨rfl, hO4, hB4, hOt4⟩
          have hM4 : Hid (Nums W4 (w.heap.size + 1) 118 (asI ms)) := (hOt4.2 _ (by omega) (by omega)).trans hM.out
          have hBw4 := Lib.hid (hB.out.trans (hB4.mono (by omega)))
          replace hO4 := Lib.hid hO4
          clear hB4 hOt4 HS hM hB
          go_upto_region 17 with fail
          go_cut [10] (fun v wx => v = .bool (rwS S) ∧ ∃ k, wx = W4.drewN k)
          case first =>
            have kM := hM4.out
            by_cases h5 : len = 5
            · subst h5
              have k0 := Own.cell hO4.out (i := 0) (by omega)
              have k4 := Own.cell hO4.out (i := 4) (by omega)
              rw [asI_at] at k0 k4
              have hx := hS13.out
              have hq0 : st S 0 < 13 := st_lt13 hx 0
              have hq4 : st S 4 < 13 := st_lt13 hx 4
              have hrw : (((st S 0 : Nat) - (st S 4 : Nat) : Int) == 4) = rwS S := by
                unfold rwS
                rw [hSl, Bool.eq_iff_iff]
                simp
                omega
              go_quiet (fail)
              go_wp2_with fail
              go_meet
              exact ⟨rfl, _, rfl⟩
            · have i5 : decide ((len : Int) = 5) = false := decide_eq_false (by omega)
              have i5' : ((len : Int) == 5) = false := by simpa using i5
              have hrw : rwS S = false := by unfold rwS; rw [hSl]; simp [h5]
              go_quiet (fail)
              go_wp2_with fail
              go_meet
              exact ⟨by rw [hrw], _, rfl⟩
          case rest => 
            obtain ⟨rfl, kq, rfl⟩ := hcut
            have hO5 : Hid (Own 3 (w.heap.size + 2) (W4.drewN kq) (some ⟨g, 0, none⟩) len c (asI S)) := hO4.out
            have hM5 : Hid (Nums (W4.drewN kq) (w.heap.size + 1) 118 (asI ms)) := hM4.out
            have hB5 : Hid (Below w.heap.size w (W4.drewN kq)) := Lib.hid (below_drewN hBw4.out kq)
            clear hO4 hM4 hBw4
            generalize W4.drewN kq = W5 at *
            apply_assumption
            go_step
            go_cut [7, 10] (fun v u wx => ∃ o c', v = .slice (some ⟨g, o, none⟩) (ctS S).length c' ∧ u = .bool (whl S || rwS S) ∧ (ctS S).length ≤ len ∧ W5 = wx ∧ ∀ i, i < (ctS S).length → wx.cell? ⟨g, o + i, none⟩ = some (.int .i64 (st (ctS S) i : Nat)))
            case first =>
              have hO := hO5.out
              have hx := hS13.out
              have hq0 : st S 0 < 13 := st_lt13 hx 0
              have hq1 : st S 1 < 13 := st_lt13 hx 1
              have k0 := Own.cell hO (i := 0) (by omega)
              rw [asI_at] at k0
              have hall : Hid (∀ i, i < len → W5.cell? ⟨g, 0 + i, none⟩ = some (.int .i64 (st S i : Nat))) := fun i hi => by
                have := Own.cell hO (i := i) hi
                rw [asI_at] at this
                rw [Nat.zero_add]; exact this
              clear hx hO
              by_cases h5 : len = 5
              · subst h5
                have k1 := Own.cell hO5.out (i := 1) (by omega)
                rw [asI_at] at k1
                by_cases h12 : st S 0 = 12
                · rw [h12] at k0
                  by_cases h3 : st S 1 = 3
                  · have hw1 : whl S = true := by unfold whl; rw [hSl, h12, h3]; rfl
                    have hct : ctS S = [st S 1] := by unfold ctS; rw [hw1]; rfl
                    have hk1 := Lib.hid k1
                    rw [h3] at k1
                    go_wp2_with fail
                    go_meet
                    exact ⟨1, _, by rw [hct]; rfl, by rw [hw1]; rfl, by rw [hct]; simp, rfl, by
                      rw [hct]
                      intro i hi
                      obtain rfl : i = 0 := by simp at hi; omega
                      exact hk1.out⟩
                  · have hw1 : whl S = false := by unfold whl; rw [hSl, h12]; simp [h3]
                    have i3 : (((st S 1 : Nat) : Int) == 3) = false := by simp; omega
                    rcases (Bool.eq_false_or_eq_true (rwS S)).symm with hr | hr
                    · have hct : ctS S = S := by unfold ctS; rw [hw1, hr]; rfl
                      rw [hr]
                      go_wp2_with fail
                      go_meet
                      exact ⟨0, _, by rw [hct, hSl], by rw [hw1, hr]; rfl, by rw [hct, hSl]; exact Nat.le_refl _, rfl, by rw [hct, hSl]; exact hall.out⟩
                    · have hct : ctS S = [st S 0] := by unfold ctS; rw [hw1, hr]; rfl
                      rw [hr]
                      go_wp2_with fail
                      go_meet
                      exact ⟨0, _, by rw [hct]; rfl, by rw [hw1, hr]; rfl, by rw [hct]; simp, rfl, by
                        rw [hct]
                        intro i hi
                        obtain rfl : i = 0 := by simp at hi; omega
                        exact hall.out 0 (by omega)⟩
                · have hw1 : whl S = false := by unfold whl; simp [h12]
                  have i3 : (((st S 0 : Nat) : Int) == 12) = false := by simp; omega
                  rcases (Bool.eq_false_or_eq_true (rwS S)).symm with hr | hr
                  · have hct : ctS S = S := by unfold ctS; rw [hw1, hr]; rfl
                    rw [hr]
                    go_wp2_with fail
                    go_meet
                    exact ⟨0, _, by rw [hct, hSl], by rw [hw1, hr]; rfl, by rw [hct, hSl]; exact Nat.le_refl _, rfl, by rw [hct, hSl]; exact hall.out⟩
                  · have hct : ctS S = [st S 0] := by unfold ctS; rw [hw1, hr]; rfl
                    rw [hr]
                    go_wp2_with fail
                    go_meet
                    exact ⟨0, _, by rw [hct]; rfl, by rw [hw1, hr]; rfl, by rw [hct]; simp, rfl, by
                      rw [hct]
                      intro i hi
                      obtain rfl : i = 0 := by simp at hi; omega
                      exact hall.out 0 (by omega)⟩
              · have i5 : decide ((len : Int) = 5) = false := decide_eq_false (by omega)
                have i5' : ((len : Int) == 5) = false := by simpa using i5
                have hw1 : whl S = false := by unfold whl; rw [hSl]; simp [h5]
                have hr : rwS S = false := by unfold rwS; rw [hSl]; simp [h5]
                have hct : ctS S = S := by unfold ctS; rw [hw1, hr]; rfl
                rw [hr]
                go_wp2_with fail
                go_meet
                exact ⟨0, _, by rw [hct, hSl], by rw [hw1, hr]; rfl, by rw [hct, hSl]; exact Nat.le_refl _, rfl, by rw [hct, hSl]; exact hall.out⟩
            case rest =>
              obtain ⟨o, c2, rfl, rfl, hct, rfl, hcl⟩ := hcut
              have hpos : 1 ≤ (ctS S).length := by
                unfold ctS; split
                · simp
                · split
                  · simp
                  · omega
              have hT13 : Hid (∀ i, st (ctS S) i < 13) := fun i => by
                have hx := hS13.out
                unfold ctS; split
                · match i with
                  | 0 => exact st_lt13 hx 1
                  | i + 1 => exact Nat.zero_lt_succ _
                · split
                  · match i with
                    | 0 => exact st_lt13 hx 0
                    | i + 1 => exact Nat.zero_lt_succ _
                  · exact st_lt13 hx i
              generalize (whl S || rwS S) = row at *
              generalize ctS S = T at *
              obtain ⟨K, hK⟩ : ∃ K, K = T.length := ⟨_, rfl⟩
              rw [← hK] at hct hcl hpos ⊢
              have hcl' := Lib.hid hcl
              have k0 := hcl 0 (by omega)
              rw [Nat.add_zero] at k0
              clear hcl
              have hm0 : W5.cell? ⟨w.heap.size + 1, st T 0, none⟩ = some (.int .i64 (m (st T 0) : Nat)) := by
                have := hM5.out.cell (i := st T 0) (by rw [asI_len, hml]; exact hT13.out 0)
                rw [asI_at, hmr.out _ (hT13.out 0)] at this
                exact this
              have h130 := hT13.out 0
              have hm50 := hm5.out (st T 0)
              obtain ⟨cv, hcv⟩ : ∃ cv, cv = clS m fl row T := ⟨_, rfl⟩
              have hcl8 : cv ≤ 8 := by rw [hcv]; exact clS_le _ _ _ _
              have hVc : Hid (V = dgS T cv 5) := by rw [hcv]; exact hVm2.out
              replace hcv := Lib.hid hcv
              apply_assumption
              go_step
              go_cut [9] (fun v wx => v = .int .i64 (cv : Nat) ∧ W5 = wx)
              case first =>
                have hcw := hcv.out
                unfold clS at hcw
                rw [← hK] at hcw
                replace hcw := Lib.hid hcw; replace hK := Lib.hid hK
                clear hVc hcv hVm2
                generalize m (st T 0) = x at *
                generalize st T 0 = t0 at *
                cases row <;> cases fl <;> go_wp2_with fail
                all_goals
                  go_meet
                  refine ⟨congrArg (Value.int .i64) ?_, rfl⟩
                  have hc := hcw.out
                  clear hcw hcl' hS13 hT13 hm5 hmr
                  simp only [Bool.and_false, Bool.and_true, beq_iff_eq, Bool.and_eq_true, Bool.false_eq_true, if_false, if_true] at hc
                  try simp only [beq_iff_eq, beq_eq_false_iff_ne, ne_eq] at *
                  (repeat' split at hc) <;> omega
              case rest =>
                obtain ⟨rfl, rfl⟩ := hcut
                clear hcv hVm2 hm0 k0 hS13 hSl hmr hm5
                go_wp2_with fail
                go_loopg [11, 136] 5 (fun gk vv iv W' => ∃ j : Nat, j ≤ 5 ∧ gk = 5 - j ∧ iv = .int .i64 j ∧ vv = .int .i64 (dgS T cv j : Nat) ∧ W5 = W')
                case atStart => exact ⟨0, by omega, by omega, rfl, rfl, rfl⟩
                case round =>
                  obtain ⟨j, hj, hgk, rfl, rfl, rfl⟩ := hrel
                  replace hgk := Lib.hid hgk
                  by_cases hlt : j < 5
                  · have hb := dgS_bound5 hT13.out hcl8 (j := j) (by omega)
                    have hds : Hid (dgS T cv (j + 1) = dgS T cv j * 13 + st T j) := rfl
                    generalize dgS T cv j = z at *
                    obtain ⟨y, hy⟩ : ∃ y, y = z * 13 := ⟨_, rfl⟩
                    have hz1 : (z : Int) * 13 = (y : Int) := by omega
                    have hz3 : IntKind.i64.wrap (y : Int) = y := IntWalk.i64_in _ (by omega)
                    rw [← hy] at hds
                    have hy4 : y < 43441281 := by omega
                    replace hy := Lib.hid hy
                    have hjt := hT13.out j
                    by_cases hjk : j < K
                    · have kj := hcl'.out j hjk
                      have dj : decide ((j : Int) < (K : Int)) = true := decide_eq_true (by omega)
                      generalize st T j = tj at *
                      go_wp2_with fail
                      have hgk := hgk.out
                      go_roundg (5 - (j + 1))
                      case measure => omega
                      case rel => exact ⟨j + 1, by omega, rfl, by go_num, by rw [hds.out]; push_cast; rfl, rfl⟩
                    · have dj : decide ((j : Int) < (K : Int)) = false := decide_eq_false (by omega)
                      have h0 : st T j = 0 := by unfold st; rw [List.getElem?_eq_none (by omega)]; rfl
                      go_wp2_with fail
                      have hgk := hgk.out
                      go_roundg (5 - (j + 1))
                      case measure => omega
                      case rel => exact ⟨j + 1, by omega, rfl, by go_num, by rw [hds.out, h0]; push_cast; rfl, rfl⟩
                  · obtain rfl : j = 5 := by omega
                    rw [← hVc.out]
                    go_wp2_with fail
                    go_ret
                    exact ⟨rfl, hB5.out⟩
end Go.Proofs.Ytkakggagaplaiaa
