/- What slices.IndexFunc and slices.DeleteFunc compute where the function tells which places are seen; conditions: a row of the call's own. -/
import Derived.Test.YtebgliipeaelhaaDoorCns
import Derived.Lib.SliceRun
namespace Go.Proofs.YtebgliipeaelhaaDoor
open Go.RowKit

/-- the closure tells of each place whether it is seen, and changes nothing. -/
def Tells (B : Nat) (W : World) (sb : Nat) (f : Nat → Bool) (N : Nat) : Prop := ∀ W', Below B W W' → ∀ q, q < N → Calls Tryd.prog 18 #[.int .i64 (q : Int), .pointer (some ⟨sb, 0, none⟩)] W' fun r w' => r = .returned (.bool (f q)) ∧ W' = w'
theorem Tells.on {B : Nat} {W W' : World} {sb : Nat} {f : Nat → Bool} {N : Nat} (h : Tells B W sb f N) (hb : Below B W W') : Tells B W' sb f N := fun W'' hb2 q hq => h W'' (hb.trans hb2) q hq

set_option maxHeartbeats 1000000 in
theorem indexF_any (B sb N : Nat) (f : Nat → Bool) (p : Option Addr) (n c : Nat) (xs : List Nat) (w : World) (hn : n ≤ 1000) (hx : IntsIn w p n (asI xs)) (hN : ∀ j, j < n → st xs j < N) (HT : Tells B w sb f N) :
    Calls Tryd.prog 25 #[.slice p n c, .func (.func 18) #[] #[.pointer (some ⟨sb, 0, none⟩)]] w fun e w' => ((e = .returned (.int .i64 (-1)) ∧ ∀ j, j < n → f (st xs j) = false) ∨ ∃ i : Nat, e = .returned (.int .i64 i) ∧ i < n ∧ f (st xs i) = true ∧ ∀ j, j < i → f (st xs j) = false) ∧ w = w' := by
  replace HT := Lib.hid HT; replace hN := Lib.hid hN
  go_enter Tryd.func25, Tryd.ntmps25
  go_wp2_with fail
  go_loopg [8] n (fun k i W => ∃ j : Nat, j ≤ n ∧ k = n - j ∧ i = .int .i64 j ∧ (∀ t, t < j → f (st xs t) = false) ∧ w = W)
  case atStart => exact ⟨0, by omega, by omega, rfl, fun t ht => absurd ht (by omega), rfl⟩
  case round =>
    obtain ⟨j, hj, hk, rfl, hno, rfl⟩ := hrel
    replace hk := Lib.hid hk; replace hno := Lib.hid hno
    by_cases hlt : j < n
    · obtain ⟨b, o, rfl, hb, hc⟩ := hx.at (by omega)
      have hcj := hc j hlt
      rw [asI_at] at hcj
      have HO := Lib.hid (HT.out w (Below.refl _ _) (st xs j) (hN.out j hlt))
      obtain ⟨x, hxe⟩ : ∃ x, x = st xs j := ⟨_, rfl⟩
      rw [← hxe] at hcj HO
      replace hxe := Lib.hid hxe
      clear hx hc
      cases hf : f x with
      | true =>
        rw [hf] at HO
        have hf' : Hid (f x = true) := hf
        clear hf
        go_wp2_with fail
        refine HO.out.mono ?_
        rintro e w' ⟨rfl, rfl⟩
        go_wp2_with fail
        go_ret
        exact ⟨.inr ⟨j, rfl, hlt, by rw [← hxe.out]; exact hf'.out, hno.out⟩, rfl⟩
      | false =>
        rw [hf] at HO
        have hf' : Hid (f x = false) := hf
        clear hf
        go_wp2_with fail
        refine HO.out.mono ?_
        rintro e w' ⟨rfl, rfl⟩
        go_wp2_with fail
        have hk := hk.out
        go_roundg (n - (j + 1))
        case measure => omega
        case rel => exact ⟨j + 1, by omega, rfl, by go_num, fun t ht => by
          by_cases e : t = j
          · rw [e, ← hxe.out]; exact hf'.out
          · exact hno.out t (by omega), rfl⟩
    · obtain rfl : n = j := by omega
      go_wp2_with fail
      go_ret
      exact ⟨.inl ⟨rfl, hno.out⟩, rfl⟩

/-- what stays of the first j. -/
def kept (f : Nat → Bool) (xs : List Nat) (j : Nat) : List Nat := (xs.take j).filter fun x => !f x
theorem kept_succ (f : Nat → Bool) (xs : List Nat) (j : Nat) (hj : j < xs.length) : kept f xs (j + 1) = kept f xs j ++ if f (st xs j) then [] else [st xs j] := by
  unfold kept
  have hq : st xs j = xs[j] := by unfold st; rw [List.getElem?_eq_getElem hj]; rfl
  rw [List.take_add_one, List.getElem?_eq_getElem hj, List.filter_append, hq]
  cases h : f xs[j] <;> simp [h]
theorem kept_le (f : Nat → Bool) (xs : List Nat) (j : Nat) : (kept f xs j).length ≤ j := Nat.le_trans (List.length_filter_le _ _) (by rw [List.length_take]; omega)
theorem kept_all (f : Nat → Bool) (xs : List Nat) (j : Nat) (h : ∀ t, t < j → f (st xs t) = false) (hj : j ≤ xs.length) : kept f xs j = xs.take j := by
  unfold kept
  rw [List.filter_eq_self]
  intro x hx
  obtain ⟨t, ht, rfl⟩ := List.mem_iff_getElem.1 hx
  rw [List.length_take] at ht
  have h2 := h t (by omega)
  unfold st at h2
  rw [List.getElem?_eq_getElem (by omega)] at h2
  simp only [List.getElem_take]
  simpa using h2
theorem Own.cell1 {E B g n c : Nat} {w : World} {xs : List Nat} (h : Own E B w (some ⟨g, 0, none⟩) n c (asI xs)) {i : Nat} (hi : i < n) : w.cell? ⟨g, i, none⟩ = some (.int .i64 (st xs i : Nat)) := by
  have hl := h.len
  rw [asI_len] at hl
  have h2 := OwnC.cell (k := 1) h (i := i) (by omega)
  rw [h2, ← asI_at]
  simp [show i < (asI xs).length by rw [asI_len]; omega]
theorem Own.set1 {E B g n c : Nat} {w : World} {xs : List Nat} (h : Own E B w (some ⟨g, 0, none⟩) n c (asI xs)) (i v : Nat) : Own E B (w.setCell ⟨g, i, none⟩ (.int .i64 (v : Int))) (some ⟨g, 0, none⟩) n c (asI (xs.set i v)) := by
  have h2 := OwnC.set (k := 1) h i (.int .i64 (v : Int))
  unfold Own
  rw [asI_set, List.map_set]
  exact h2

theorem setCells_size (g : Nat) : ∀ (vs : List Value) (o : Nat) (w : World), (w.setCells g o vs).heap.size = w.heap.size
  | [], _, _ => rfl
  | v :: r, o, w => by rw [World.setCells, setCells_size g r]; simp [World.setCell]
theorem below_setCells {B g : Nat} (hg : B ≤ g) : ∀ (vs : List Value) (o : Nat) (w : World), Below B w (w.setCells g o vs)
  | [], _, w => Below.refl _ _
  | v :: r, o, w => by rw [World.setCells]; exact ((Below.refl B w).setCell (p := ⟨g, o, none⟩) hg v).trans (below_setCells hg r (o + 1) _)

set_option maxRecDepth 20000 in
set_option maxHeartbeats 2000000 in
theorem delF_any (B sb N : Nat) (f : Nat → Bool) (p : Option Addr) (n c : Nat) (xs : List Nat) (w : World) (hn : n ≤ 1000) (hO : Own 3 B w p n c (asI xs)) (hN : ∀ j, j < n → st xs j < N) (HT : Tells B w sb f N) :
    Calls Tryd.prog 16 #[.slice p n c, .func (.func 18) #[] #[.pointer (some ⟨sb, 0, none⟩)]] w fun e w' => ∃ c', e = .returned (.slice p (kept f xs n).length c') ∧ IntsIn w' p (kept f xs n).length (asI (kept f xs n)) ∧ Below B w w' := by
  have hlx := hO.len
  rw [asI_len] at hlx
  have HI := Lib.hid (indexF_any B sb N f p n c xs w hn hO.in hN HT)
  replace HT := Lib.hid HT; replace hN := Lib.hid hN; replace hlx := Lib.hid hlx
  replace hO := Lib.hid hO
  go_enter Tryd.func16, Tryd.ntmps16
  go_wp2_with fail
  refine HI.out.mono ?_
  rintro e w1 ⟨(⟨rfl, hno⟩ | ⟨i, rfl, hi, hfi, hno⟩), rfl⟩
  · have hk : Hid (kept f xs n = xs) := by show _ = _; rw [kept_all f xs n hno (by rw [hlx.out]; exact Nat.le_refl _), List.take_of_length_le (by rw [hlx.out]; exact Nat.le_refl _)]
    replace hno := Lib.hid hno
    clear HI
    go_wp2_with fail
    go_ret
    rw [hk.out, hlx.out]
    exact ⟨_, rfl, hO.out.in, Below.refl _ _⟩
  · obtain ⟨g, rfl, hgB, hgl, hnc⟩ := OwnC.where (k := 1) hO.out (by omega)
    have hk1 : Hid (kept f xs (i + 1) = xs.take i) := by
      show _ = _
      rw [kept_succ f xs i (by rw [hlx.out]; exact hi), hfi, kept_all f xs i hno (by rw [hlx.out]; omega)]; simp
    have hi1 : ¬ ((i : Int) = -1) := by omega
    have hi2 : ((i : Int) == -1) = false := by simp
    replace hno := Lib.hid hno; replace hfi := Lib.hid hfi
    clear HI
    go_wp2_with fail
    go_loopg [5, 6] (n - (i + 1)) (fun gk iv jv W' => ∃ (j k : Nat) (ys : List Nat), j ≤ n ∧ k < j ∧ gk = n - j ∧ iv = .int .i64 k ∧ jv = .int .i64 j ∧ Own 3 B W' (some ⟨g, 0, none⟩) n c (asI ys) ∧ ys.take k = kept f xs j ∧ k = (kept f xs j).length ∧ (∀ t, j ≤ t → st ys t = st xs t) ∧ Below B w W')
    case atStart => exact ⟨i + 1, i, xs, by omega, by omega, rfl, rfl, by go_num, hO.out, hk1.out.symm, by rw [hk1.out, List.length_take, hlx.out]; omega, fun t _ => rfl, Below.refl _ _⟩
    case round =>
      obtain ⟨j, k, ys, hj, hkj, hgk, rfl, rfl, hO2, ht, hkl, hun, hB⟩ := hrel
      obtain ⟨W1, rfl⟩ : ∃ W1 : World, W1 = wr := ⟨_, rfl⟩
      replace hgk := Lib.hid hgk
      clear hO
      by_cases hlt : j < n
      · have d1 := hO2.cell1 (i := j) hlt
        rw [hun j (Nat.le_refl _)] at d1
        have d2 := OwnC.free (k := 1) hO2 k
        have d3 := hO2.cell1 (i := k) (by omega)
        have HO := Lib.hid (HT.out W1 hB (st xs j) (hN.out j hlt))
        have hks := Lib.hid (kept_succ f xs j (by rw [hlx.out]; exact hlt))
        obtain ⟨x, hxe⟩ : ∃ x, x = st xs j := ⟨_, rfl⟩
        rw [← hxe] at d1 HO hks
        have hkl' := Lib.hid hkl
        have hyl := hO2.len
        rw [asI_len] at hyl
        clear hkl
        cases hf : f x with
        | true =>
          rw [hf] at HO hks
          replace hf := Lib.hid hf; replace hxe := Lib.hid hxe
          replace hO2 := Lib.hid hO2; replace ht := Lib.hid ht; replace hun := Lib.hid hun; replace hB := Lib.hid hB; replace hyl := Lib.hid hyl
          go_wp2_with fail
          refine HO.out.mono ?_
          rintro e w' ⟨rfl, rfl⟩
          go_wp2_with fail
          have hgk := hgk.out
          go_roundg (n - (j + 1))
          case measure => omega
          case rel =>
            have hks := hks.out
            simp only [if_true, List.append_nil] at hks
            exact ⟨j + 1, k, ys, by omega, by omega, rfl, rfl, by go_num, hO2.out, by rw [hks]; exact ht.out, by rw [hks]; exact hkl'.out, fun t h => hun.out t (by omega), hB.out⟩
        | false =>
          rw [hf] at HO hks
          have hO3 := Lib.hid (hO2.set1 k x)
          have hB3 : Hid (Below B w (W1.setCell ⟨g, k, none⟩ (.int .i64 (x : Int)))) := hB.setCell (p := ⟨g, k, none⟩) hgB _
          have ht3 : Hid ((ys.set k x).take (k + 1) = kept f xs (j + 1)) := by
            show _ = _
            rw [hks.out, ← ht, List.take_add_one, List.getElem?_set_self (by omega), List.take_set, List.set_eq_of_length_le (by rw [List.length_take]; omega)]
            simp
          have hkl3 : Hid (k + 1 = (kept f xs (j + 1)).length) := by
            show _ = _
            rw [hks.out, List.length_append, ← hkl'.out]; simp
          have hun3 : Hid (∀ t, j + 1 ≤ t → st (ys.set k x) t = st xs t) := fun t h => by
            rw [← hun t (by omega)]; unfold st; rw [List.getElem?_set_ne (by omega)]
          replace hf := Lib.hid hf; replace hxe := Lib.hid hxe
          clear hO2 ht hun hB
          replace hyl := Lib.hid hyl
          go_wp2_with fail
          refine HO.out.mono ?_
          rintro e w' ⟨rfl, rfl⟩
          go_wp2_with fail
          have hgk := hgk.out
          go_roundg (n - (j + 1))
          case measure => omega
          case rel => exact ⟨j + 1, k + 1, ys.set k x, by omega, by omega, rfl, by go_num, by go_num, hO3.out, ht3.out, hkl3.out, hun3.out, hB3.out⟩
      · obtain rfl : n = j := by omega
        have hck : ¬ c = k := by omega
        have hkn : k < n := by omega
        have hcl : ∀ ty, (Builtin.clear_ #[26] ty #[.slice (some ⟨g, k, none⟩) (n - k) (c - k)]).run Tryd.prog W1 = .ok (.tuple #[]) (W1.setCells g k (List.replicate (n - k) (.int .i64 0))) := fun ty =>
          Lib.run_clear_slice W1 26 3 ty (.int .i64 0) Tryd.underlying26 (fun w => by kernel_rfl) rfl rfl g k (n - k) (c - k) (by omega) (fun j hj => by rw [hO2.cell1 (i := k + j) (by omega)]; rfl) (fun j _ => OwnC.free (k := 1) hO2 _)
        have hres : Hid (IntsIn (W1.setCells g k (List.replicate (n - k) (.int .i64 0))) (some ⟨g, 0, none⟩) k (asI (kept f xs n))) := by
          refine IntsIn.mk' (by rw [asI_len]; exact hkl.symm) (by have := (OwnC.block (k := 1) hO2 _ rfl).2; simp only [setCells_size]; exact this) fun j hj => ?_
          rw [World.cell?_setCells_out _ _ _ _ _ (fun _ _ => .inl (by simp; exact hj)), Nat.zero_add, hO2.cell1 (i := j) (by omega), ← ht, asI_at]
          unfold st
          rw [List.getElem?_take_of_lt hj]
        have hB3 : Hid (Below B w (W1.setCells g k (List.replicate (n - k) (.int .i64 0)))) := hB.trans (below_setCells hgB _ _ _)
        replace hO2 := Lib.hid hO2; replace ht := Lib.hid ht; replace hun := Lib.hid hun; replace hB := Lib.hid hB; replace hkl := Lib.hid hkl
        go_wp2_with fail
        go_ret
        rw [← hkl.out]
        exact ⟨_, rfl, hres.out, hB3.out⟩
end Go.Proofs.YtebgliipeaelhaaDoor
