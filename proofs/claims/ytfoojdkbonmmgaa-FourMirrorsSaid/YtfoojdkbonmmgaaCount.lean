/- What the closure of four.Count tells with none and with one drop to come: 1, and the number of columns that are not full; conditions: the board's struct, cells and the captured variables are known. -/
import Derived.Test.YtfoojdkbonmmgaaFall
namespace Go.Proofs.Ytfoojdkbonmmgaa
open Go.RowKit

def St (W : World) (kb wb cb wl g wide h k n : Nat) : Prop :=
  W.heap[kb]? = some (.cells #[.int .i64 wide] 3 (0, 0)) ∧ W.heap[wb]? = some (.cells #[.pointer (some ⟨wl, 0, none⟩)] 39 (0, 0)) ∧
  W.heap[cb]? = some (.cells #[.func (.func 12) #[] #[.pointer (some ⟨kb, 0, none⟩), .pointer (some ⟨wb, 0, none⟩), .pointer (some ⟨cb, 0, none⟩)]] 22 (0, 0)) ∧
  W.heap[wl]? = some (.cells #[.int .i64 wide, .int .i64 h, .slice (some ⟨g, 0, none⟩) n n, .int .i64 k, .int .i64 0] 41 (0, 0)) ∧ kb ≠ g ∧ wb ≠ g ∧ cb ≠ g ∧ wl ≠ g
theorem St.grown {W W' : World} {kb wb cb wl g wide h k n : Nat} (s : St W kb wb cb wl g wide h k n) (hg : W.grownBy W' (some g)) : St W' kb wb cb wl g wide h k n := by
  obtain ⟨h1, h2, h3, h4, n1, n2, n3, n4⟩ := s
  exact ⟨(hg.block kb (lt_of_heap h1) (by simpa using n1)).trans h1, (hg.block wb (lt_of_heap h2) (by simpa using n2)).trans h2, (hg.block cb (lt_of_heap h3) (by simpa using n3)).trans h3, (hg.block wl (lt_of_heap h4) (by simpa using n4)).trans h4, n1, n2, n3, n4⟩

def opens (cs : List Int) (W H : Nat) : Nat → Nat
  | 0 => 0
  | c + 1 => opens cs W H c + if fallS cs W c H = -1 then 0 else 1
theorem opens_le (cs : List Int) (W H c : Nat) : opens cs W H c ≤ c := by
  induction c with
  | zero => simp [opens]
  | succ c ih => simp only [opens]; split <;> omega
theorem fall_cases (cs : List Int) (W c : Nat) : ∀ H, fallS cs W c H = -1 ∨ ∃ y, y < H ∧ fallS cs W c H = ((y * W + c : Nat) : Int) ∧ cs[y * W + c]?.getD 0 = 0 := by
  intro H
  induction H with
  | zero => exact .inl rfl
  | succ H ih =>
    simp only [fallS]
    by_cases h : cs[H * W + c]?.getD 0 = 0
    · rw [if_pos h]; exact .inr ⟨H, by omega, rfl, h⟩
    · rw [if_neg h]
      rcases ih with ih | ⟨y, h1, h2, h3⟩
      · exact .inl ih
      · exact .inr ⟨y, by omega, h2, h3⟩

theorem count0 (who : Int) (a b c : Value) (w : World) : Calls Try.prog 12 #[.int .i64 who, .int .i64 0, a, b, c] w fun e w' => e = .returned (.int .i64 1) ∧ w = w' := by
  go_enter Try.func12, Try.ntmps12
  go_wp2
  go_ret
  exact ⟨rfl, rfl⟩

theorem set_same {cs : List Int} {a : Nat} {v : Int} (h : a < cs.length) (e : cs[a]?.getD 0 = v) : cs.set a v = cs := by
  apply List.ext_getElem?
  intro j
  by_cases hj : a = j
  · subst hj; simp [h]; simpa [h] using e.symm
  · rw [List.getElem?_set_ne hj]

set_option maxHeartbeats 2000000 in
theorem count1 (kb wb cb wl g wide h k n : Nat) (cs : List Int) (w : World) (who : Int) (h1 : 1 ≤ wide) (h2 : wide ≤ 10) (h4 : h ≤ 10) (h6 : k ≤ 10) (hn : Hid (n = wide * h)) (hl : Hid (cs.length = n))
    (hS : Hid (St w kb wb cb wl g wide h k n)) (hN : Hid (Nums w g 3 cs)) (w1 : 1 ≤ who) (w2 : who ≤ 2) (hne : Hid (∀ j, j < n → cs[j]?.getD 0 ≠ who)) :
    Calls Try.prog 12 #[.int .i64 who, .int .i64 1, .pointer (some ⟨kb, 0, none⟩), .pointer (some ⟨wb, 0, none⟩), .pointer (some ⟨cb, 0, none⟩)] w fun e w' =>
      e = .returned (.int .i64 (opens cs wide h wide)) ∧ Nums w' g 3 cs ∧ w.grownBy w' (some g) := by
  have ck := cell_of_one hS.out.1
  have hn100 : n ≤ 100 := by rw [hn.out]; exact Nat.mul_le_mul h2 h4
  go_enter Try.func12, Try.ntmps12
  go_wp2
  clear ck
  go_loopg [8, 14] wide (fun kk nn i W => ∃ c : Nat, c ≤ wide ∧ kk = wide - c ∧ i = .int .i64 c ∧ nn = .int .i64 (opens cs wide h c) ∧ Nums W g 3 cs ∧ w.grownBy W (some g))
  case atStart => exact ⟨0, by omega, by omega, rfl, rfl, hN.out, World.grownBy.refl _ _⟩
  case round =>
    obtain ⟨c, hc, hgk, rfl, rfl, hNc, hgc⟩ := hrel
    replace hgk := Lib.hid hgk
    have hSc := hS.out.grown hgc
    have hop := opens_le cs wide h c
    by_cases hlt : c < wide
    · have cw := cell_of_one hSc.2.1
      have F := Lib.hid (fall_any wl g wide h k n c cs wr h1 h2 h4 hlt hn hl 0 hSc.2.2.2.1 hNc)
      replace hSc := Lib.hid hSc; replace hNc := Lib.hid hNc; replace hgc := Lib.hid hgc
      rcases fall_cases cs wide c h with hf | ⟨y, hy, hf, hz⟩
      · have hop1 : Hid (opens cs wide h (c + 1) = opens cs wide h c) := by show _ = _; simp [opens, hf]
        rw [hf] at F
        clear hf
        go_wp2_with fail
        refine F.out.mono ?_
        rintro e w' ⟨rfl, rfl⟩
        go_wp2_with fail
        have hgk := hgk.out
        go_roundg (wide - (c + 1))
        case measure => omega
        case rel => exact ⟨c + 1, by omega, rfl, by go_num, by rw [hop1.out], hNc.out, hgc.out⟩
      · have hop1 : Hid (opens cs wide h (c + 1) = opens cs wide h c + 1) := by show _ = _; simp only [opens, hf]; rw [if_neg (by omega)]
        rw [hf] at F
        have hat : y * wide + c < n := by
          rw [hn.out, Nat.mul_comm wide h]
          calc y * wide + c < y * wide + wide := by omega
            _ = (y + 1) * wide := by rw [Nat.add_mul, Nat.one_mul]
            _ ≤ h * wide := Nat.mul_le_mul_right _ hy
        obtain ⟨a, ha⟩ : ∃ a, a = y * wide + c := ⟨_, rfl⟩
        rw [← ha] at F hat hz
        have ca := hNc.out.cell (i := a) (by rw [hl.out]; exact hat)
        have fa := hNc.out.free a
        obtain ⟨c0, c1, c2, c3⟩ := wcells hSc.out.2.2.2.1
        have gset := grown_set (World.grownBy.refl wr (some g)) a (.int .i64 who)
        have hS1 := hSc.out.grown gset
        have hN1 := hNc.out.set a who
        have WN := Lib.hid (won_any wl g wide h k a c y n (cs.set a who) _ h1 h2 h4 hlt hy (Lib.hid ha) hn (by show _ = _; rw [List.length_set]; exact hl.out) h6 0 hS1.2.2.2.1 hN1 who (by show _ = _; simp [hl.out, hat]) (by
          intro j hj hja
          rw [List.getElem?_set_ne (by omega)]; exact hne.out j hj))
        have cw1 := cell_of_one hS1.2.1
        replace ha := Lib.hid ha; replace gset := Lib.hid gset; replace hS1 := Lib.hid hS1; replace hN1 := Lib.hid hN1; replace hz := Lib.hid hz
        clear hf
        go_wp2_with fail
        refine F.out.mono ?_
        rintro e w' ⟨rfl, rfl⟩
        go_wp2_with fail
        refine WN.out.mono ?_
        rintro e W2 ⟨rfl, hB2⟩
        have hS2 := hS1.out.grown (grown_below hB2 _)
        have hN2 := hN1.out.below hB2 hN1.out.lt
        have cw2 := cell_of_one hS2.2.1
        have cc2 := cell_of_one hS2.2.2.1
        obtain ⟨c0', c1', c2', c3'⟩ := wcells hS2.2.2.2.1
        have hg2 := Lib.hid (grown_below hB2 (some g))
        have ca2 := hN2.cell (i := a) (by rw [List.length_set, hl.out]; exact hat)
        have fa2 := hN2.free a
        replace hS2 := Lib.hid hS2; replace hN2 := Lib.hid hN2
        clear hB2 ca fa
        by_cases hk1 : k ≤ 1
        · have hd : decide (k ≤ 1) = true := by simpa using hk1
          go_wp2_with fail
          have hgk := hgk.out
          go_roundg (wide - (c + 1))
          case measure => omega
          case rel =>
            refine ⟨c + 1, by omega, rfl, by go_num, by rw [hop1.out]; go_num, ?_, grown_trans hgc.out (grown_set (grown_trans gset.out hg2.out) a _)⟩
            have hh := hN2.out.set a 0
            rwa [List.set_set, set_same (by rw [hl.out]; exact hat) hz.out] at hh
        · have hd : decide (k ≤ 1) = false := by simpa using hk1
          go_wp2_with fail
          refine (count0 _ _ _ _ _).mono ?_
          rintro e w' ⟨rfl, rfl⟩
          go_wp2_with fail
          have hgk := hgk.out
          go_roundg (wide - (c + 1))
          case measure => omega
          case rel =>
            refine ⟨c + 1, by omega, rfl, by go_num, by rw [hop1.out]; go_num, ?_, grown_trans hgc.out (grown_set (grown_trans gset.out hg2.out) a _)⟩
            have hh := hN2.out.set a 0
            rwa [List.set_set, set_same (by rw [hl.out]; exact hat) hz.out] at hh
    · replace hSc := Lib.hid hSc; replace hNc := Lib.hid hNc; replace hgc := Lib.hid hgc
      have hcw : c = wide := by omega
      subst hcw
      go_wp2
      go_ret
      exact ⟨rfl, hNc.out, hgc.out⟩
end Go.Proofs.Ytfoojdkbonmmgaa
