/- What hall.entry computes; conditions: the line has at most 255 bytes. -/
import Derived.Test.YtbniiglijmbfnaaCel
import Derived.Test.YtbniiglijmbfnaaPick
import Derived.Test.YtbniiglijmbfnaaHLaw
import Derived.IntWalk
import Derived.Deep.DeepCutAuto
namespace Go.Proofs.Ytbniiglijmbfnaa
open Go.RowKit

theorem el5 : ElT Try.prog 23 5 (.int .u8 0) 1 1 := ⟨Try.underlying23, by kernel_rfl, rfl, by omega, by omega⟩
def sumK (l : List Nat) : Nat → Nat
  | 0 => 0
  | j + 1 => sumK l j + (j + 1) * at_ l j
theorem wsum_app (l r : List Nat) : ∀ k, wsum (l ++ r) k = wsum l k + wsum r (k + l.length) := by
  induction l with
  | nil => intro k; simp [wsum]
  | cons x l ih =>
    intro k
    simp only [List.cons_append, wsum, ih, List.length_cons]
    rw [show k + 1 + l.length = k + (l.length + 1) by omega]; omega
theorem sumK_take (l : List Nat) : ∀ j, j ≤ l.length → sumK l j = wsum (l.take j) 1 := by
  intro j
  induction j with
  | zero => intro _; rfl
  | succ j ih =>
    intro h
    rw [List.take_succ_eq_append_getElem (by omega), wsum_app, ← ih (by omega)]
    have : at_ l j = l[j] := by unfold at_; simp [show j < l.length by omega]
    rw [sumK, this]
    have e : (l.take j).length = j := by simp; omega
    rw [e]
    simp only [wsum]
    rw [show 1 + j = j + 1 by omega]; rfl
theorem sumK_bd (l : List Nat) (hb : ∀ x ∈ l, x < 256) : ∀ j, j ≤ 255 → sumK l j ≤ j * 65280 := by
  intro j
  induction j with
  | zero => intro _; simp [sumK]
  | succ j ih =>
    intro h
    have h1 := ih (by omega)
    have h2 : at_ l j ≤ 255 := by
      unfold at_
      by_cases h : j < l.length
      · have := hb l[j] (List.getElem_mem h); simp [h]; omega
      · rw [List.getElem?_eq_none (by omega)]; simp
    have h3 := Nat.mul_le_mul (show j + 1 ≤ 256 by omega) h2
    show sumK l j + (j + 1) * at_ l j ≤ (j + 1) * 65280
    generalize (j + 1) * at_ l j = z at *
    omega

set_option maxRecDepth 100000 in
set_option maxHeartbeats 1000000 in
theorem entry_any (s : ByteArray) (w : World) (hs : s.size ≤ 255) : Calls Try.prog 8 #[.string s] w fun e w' => ∃ p c, e = .returned (.slice p (s.size + 4) c) ∧ OwnC 5 1 w.heap.size w' p (s.size + 4) c (bcs (enc (bs s))) ∧ Below w.heap.size w w' := by
  have hbd := Lib.hid (sumK_bd (bs s) (bs_lt s))
  have hbs := Lib.hid (bs_len s)
  have hfin : Hid (sumK (bs s) s.size % 65521 = chk (bs s)) := by show _ = _; rw [sumK_take _ _ (by rw [bs_len]; exact Nat.le_refl _)]; unfold chk; rw [List.take_of_length_le (by rw [bs_len]; exact Nat.le_refl _)]
  go_enter Try.func8, Try.ntmps8
  go_wp2_with fail
  go_loopg [4, 10] s.size (fun gk sv iv W' => ∃ j : Nat, j ≤ s.size ∧ gk = s.size - j ∧ iv = .int .i64 j ∧ sv = .int .i64 (sumK (bs s) j : Nat) ∧ w = W')
  case atStart => exact ⟨0, by omega, by omega, rfl, rfl, rfl⟩
  case round =>
    obtain ⟨j, hj, hgk, rfl, rfl, rfl⟩ := hrel
    replace hgk := Lib.hid hgk
    by_cases hlt : j < s.size
    · have h1 := hbd.out j (by omega)
      have h2 := hbd.out (j + 1) (by omega)
      have hsu : sumK (bs s) (j + 1) = sumK (bs s) j + (j + 1) * s[j].toNat := by rw [sumK, ← bs_get s j hlt]; rfl
      have hv : s[j].toNat < 256 := s[j].toNat_lt
      rw [hsu] at h2
      generalize sumK (bs s) j = A at *
      have hp : ((j : Int) + 1) * (s[j].toNat : Int) = (((j + 1) * s[j].toNat : Nat) : Int) := by push_cast; rfl
      obtain ⟨m, hm⟩ : ∃ m, (j + 1) * s[j].toNat = m := ⟨_, rfl⟩
      rw [hm] at hp hsu h2
      replace hsu := Lib.hid hsu; replace hm := Lib.hid hm
      go_wp2_with fail
      have hgk := hgk.out
      go_roundg (s.size - (j + 1))
      case measure => omega
      case rel => exact ⟨j + 1, by omega, rfl, by go_num, by rw [hsu.out]; first | go_num | (rw [hp]; go_num), rfl⟩
    · have hje : j = s.size := by omega
      subst hje
      have h1 := hbd.out s.size hs
      have hA : sumK (bs s) s.size < 16711681 := by omega
      generalize sumK (bs s) s.size = A at *
      have hc : (A : Int) % 65521 = ((chk (bs s) : Nat) : Int) := by have := hfin.out; omega
      have hck : chk (bs s) < 65521 := by rw [← hfin.out]; exact Nat.mod_lt _ (by omega)
      have henc : Hid (bcs (enc (bs s)) = ([Value.int .u8 ((s.size : Nat) : Int), .int .u8 ((255 - s.size : Nat) : Int)] ++ bcs (bs s)) ++ [Value.int .u8 ((chk (bs s) : Int) / 256), .int .u8 ((chk (bs s) : Int) % 256)]) := by
        show _ = _
        unfold enc
        rw [hbs.out]
        simp [bcs, bc]
      generalize chk (bs s) = C at *
      have h255 : (255 : Int) - (s.size : Int) = ((255 - s.size : Nat) : Int) := by omega
      clear h1 hbd hfin
      have hO1 := Lib.hid (OwnC.lit (E := 5) (k := 1) (n := 2) w [.int .u8 ((s.size : Nat) : Int), .int .u8 ((255 - s.size : Nat) : Int)] rfl (by omega))
      have hB1 := Lib.hid ((Below.refl w.heap.size w).alloc (Nat.le_refl _) (.cells #[.int .u8 ((s.size : Nat) : Int), .int .u8 ((255 - s.size : Nat) : Int)] 5))
      have hc3 : C / 256 < 256 := by omega
      have hnews : Hid (∀ (W1 : World) (j : Nat) (u : Value), [Value.int .u8 ((C : Int) / 256), .int .u8 ((C : Int) % 256)][j]? = some u → (W1.alloc (.cells #[.int .u8 ((C : Int) / 256), .int .u8 ((C : Int) % 256)] 5)).cell? ((⟨W1.heap.size, 0, none⟩ : Addr).add j) = some u) := by
        intro W1 j u hj
        rw [Addr.add_lit, Nat.zero_add, wcell (heap_alloc_new W1 _)]
        exact hj
      go_upto_region 10 with (at_builtin; refine wp_appendS el5 Try.underlying9 _ rfl (.tmp 30) (.tmp 31) rfl _ 2 2 _ rfl hO1.out s rfl (by omega) (by simp) ?_; intro p1 c1 w1 hO2 hg2 hz2; have hs1 : w.heap.size < w1.heap.size := (by simp at hz2; omega); have hB2 := Lib.hid (hB1.out.grown hg2 (by simp) (fun x hx => by cases hx; exact Nat.le_refl _)); replace hO2 := Lib.hid hO2; clear hg2 hz2)
      go_wp2_with (at_builtin; refine wp_appendLV el5 _ rfl (.tmp 33) (.tmp 39) rfl w.heap.size p1 (2 + s.size) c1 _ rfl (hO2.out.alloc _) ⟨w1.heap.size, 0, none⟩ 2 2 [.int .u8 ((C : Int) / 256), .int .u8 ((C : Int) % 256)] rfl rfl (hnews.out w1) rfl ?_ ?_ ?_; (omega); (simp; omega); intro p3 c3 w3 hO3 hg3 hr3 hz3)
      have hB3 : Below w.heap.size w w3 := (hB2.out.alloc (Nat.le_of_lt hs1) _).grown hg3 (by simp; omega) (fun x hx => by
        cases p1 with
        | none => cases hx
        | some a => simp at hx; subst hx; exact (hO2.out.block a rfl).1)
      replace hB3 := Lib.hid hB3
      replace hO3 := Lib.hid hO3
      clear hg3 hr3 hz3
      go_wp2_with fail
      go_ret
      have hn4 : 2 + s.size + 2 = s.size + 4 := by omega
      refine ⟨p3, c3, ?_, ?_, hB3.out⟩
      · show Ending.returned (.slice p3 (2 + s.size + 2) c3) = _; rw [hn4]
      rw [henc.out, show s.size + 4 = 2 + s.size + 2 by omega]
      exact hO3.out
end Go.Proofs.Ytbniiglijmbfnaa
