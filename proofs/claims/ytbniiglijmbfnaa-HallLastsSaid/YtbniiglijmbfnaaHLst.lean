/- What gameroomkeep.HallLasts computes; conditions: the arguments fit their kinds. -/
import Derived.Test.YtbniiglijmbfnaaHAdd
namespace Go.Proofs.Ytbniiglijmbfnaa
open Go.RowKit

theorem strs_bs (ss : List ByteArray) (m : Nat) : strs ((ss.map bs).take m) = (ss.take m).map Value.string := by
  unfold strs
  rw [List.map_take, List.map_map, List.map_take]
  congr 1
  apply List.map_congr_left
  intro s _
  show Value.string (strB (bs s)) = _
  rw [strB_bs]
theorem lines_bs (ss : List ByteArray) (h : ∀ s ∈ ss, s.size ≤ 255) : Lines (ss.map bs) := by
  intro x hx
  obtain ⟨s, hs, rfl⟩ := List.mem_map.1 hx
  refine ⟨by rw [bs_len]; exact h s hs, fun j => ?_⟩
  unfold at_
  by_cases hj : j < (bs s).length
  · simp [hj]; exact bs_lt s _ (List.getElem_mem hj)
  · rw [List.getElem?_eq_none (by omega)]; simp
theorem book_lt (ss : List ByteArray) (h : ∀ s ∈ ss, s.size ≤ 255) : ∀ x ∈ book (ss.map bs), x < 256 := by
  have hf : ∀ ls : List (List Nat), Lines ls → ∀ x ∈ flat ls, x < 256 := by
    intro ls
    induction ls with
    | nil => intro _ x hx; simp [flat] at hx
    | cons y r ih =>
      intro hl x hx
      simp only [flat, List.mem_append] at hx
      rcases hx with hx | hx
      · have hy := hl y (by simp)
        refine enc_lt y (fun z hz => ?_) hy.1 x hx
        obtain ⟨i, hi, rfl⟩ := List.mem_iff_getElem.1 hz
        have := hy.2 i
        unfold at_ at this
        simpa [hi] using this
      · exact ih (fun z hz => hl z (by simp [hz])) x hx
  intro x hx
  unfold book at hx
  rw [List.mem_append] at hx
  rcases hx with hx | hx
  · simp [hall] at hx; omega
  · exact hf _ (lines_bs ss h) x hx
theorem book_hall (ls : List (List Nat)) : (book ls).take 4 = hall := by rfl
theorem book_ge (ls : List (List Nat)) : 4 ≤ (book ls).length := by unfold book hall; simp
theorem book_a : (book ([⟨#[97]⟩].map bs)).length = 9 := by decide +kernel
theorem bset (l : List Nat) (p v : Nat) : bcs (l.set p v) = (bcs l).set p (bc v) := by unfold bcs; rw [List.map_set]
theorem set_same (l : List Nat) (p : Nat) (h : p < l.length) : l.set p (at_ l p) = l := by
  unfold at_
  simp [h]

set_option maxRecDepth 100000 in
set_option maxHeartbeats 0 in
theorem lasts_any (p : Option Addr) (n c : Nat) (ss : List ByteArray) (a1 a2 : Int) (v : Nat) (w : World) (hn : n ≤ 9223372036854775807) (hl : ss.length = n) (hx : CellsIn w p (ss.map Value.string)) (hsz : ∀ s ∈ ss, s.size ≤ 9223372036854775807)
    (x1 : -9223372036854775808 ≤ a1) (x2 : a1 ≤ 9223372036854775807) (y1 : -9223372036854775808 ≤ a2) (y2 : a2 ≤ 9223372036854775807) (hv : v < 256) :
    Calls Try.prog 3 #[.slice p n c, .int .i64 a1, .int .i64 a2, .int .u8 (v : Int)] w fun e w' => e = .returned (.bool true) ∧ Below w.heap.size w w' := by
  have HB := Lib.hid (book_any p n c ss w hn hl hx hsz)
  have HA := fun (W : World) => book_any (some ⟨W.heap.size, 0, none⟩) 1 1 [⟨#[97]⟩] (W.alloc (.cells #[.string ⟨#[97]⟩] 9)) (by omega) rfl (fun j u hj => ⟨W.heap.size, 0, rfl, by simp, by rw [Nat.zero_add, wcell (cs := [_]) (heap_alloc_new W _)]; exact hj⟩) (fun s hs => by simp at hs; subst hs; decide)
  have HA : Hid (∀ W : World, Calls Try.prog 4 #[.slice (some ⟨W.heap.size, 0, none⟩) 1 1] (W.alloc (.cells #[.string ⟨#[97]⟩] 9)) fun e w' => ∃ q c, e = .returned (.tuple #[.slice q 9 c, .int .i64 0]) ∧ Below (W.alloc (.cells #[.string ⟨#[97]⟩] 9)).heap.size (W.alloc (.cells #[.string ⟨#[97]⟩] 9)) w') := fun W =>
    (HA W).mono fun e w' h => by
      obtain ⟨hb, ⟨h1, _⟩ | ⟨_, _, q, c, h2, _⟩⟩ := h
      · exact absurd ⟨fun s hs => by simp at hs; subst hs; decide, by rw [book_a]; omega⟩ h1
      · rw [book_a] at h2; exact ⟨q, c, h2, hb⟩
  replace hx := Lib.hid hx; replace hsz := Lib.hid hsz; replace hl := Lib.hid hl
  go_enter Try.func3, Try.ntmps3
  go_wp2_with fail
  refine HB.out.mono ?_
  rintro e w1 ⟨hB1, ⟨_, er, her, rfl⟩ | ⟨h255, h4000, q, c1, rfl, hq, hqc⟩⟩
  · have hB2 := Lib.hid (hB1.alloc hB1.size (.cells #[.string ⟨#[97]⟩] 9))
    replace hB1 := Lib.hid hB1
    rcases her with rfl | rfl
    all_goals
      go_wp2_with fail
      refine (HA.out _).mono ?_
      rintro e w2 ⟨q2, c2, rfl, hB3⟩
      replace hB3 := Lib.hid (hB2.out.trans (hB3.mono hB2.out.size))
      go_wp2_with fail
      go_ret
      exact ⟨rfl, hB3.out⟩
  · have hge := book_ge (ss.map bs)
    have hh := book_hall (ss.map bs)
    have hlt := book_lt ss h255
    have hLs := lines_bs ss h255
    have hml : (ss.map bs).length = n := by rw [List.length_map]; exact hl.out
    have hoa := book_all (ss.map bs) hLs
    have hoc := book_cut (ss.map bs) hLs
    have hos := book_set (ss.map bs) hLs
    have hod := book_add (ss.map bs)
    generalize book (ss.map bs) = Bk at *
    obtain ⟨M, hM⟩ : ∃ M, Bk.length = M := ⟨_, rfl⟩
    rw [hM] at h4000 hqc hoa hoc hos hge
    rw [hM]
    obtain ⟨qb, qo, rfl, hqb, _⟩ := hq.at (by rw [bcs_len]; omega)
    have hB2 := Lib.hid (hB1.alloc hB1.size (.cells #[.string ⟨#[97]⟩] 9))
    have hq2 := Lib.hid (hq.alloc (.cells #[.string ⟨#[97]⟩] 9))
    have hz1 : w.heap.size ≤ w1.heap.size := hB1.size
    replace hoa := Lib.hid hoa; replace hoc := Lib.hid hoc; replace hos := Lib.hid hos; replace hod := Lib.hid hod
    replace hM := Lib.hid hM; replace hh := Lib.hid hh; replace hlt := Lib.hid hlt; replace hLs := Lib.hid hLs; replace hml := Lib.hid hml; replace h255 := Lib.hid h255
    clear hB1 hq HB
    go_wp2_with fail
    refine (HA.out _).mono ?_
    rintro e w3 ⟨q3, c3, rfl, hB3⟩
    have hB4 := Lib.hid (hB2.out.trans (hB3.mono hB2.out.size))
    have hq4 := Lib.hid (hq2.out.below hB3)
    clear hB3 hB2 hq2 HA
    have HO := open_any (some ⟨qb, qo, none⟩) M c1 Bk w3 h4000 hqc hM.out hh.out hlt.out hq4.out
    rw [hoa.out] at HO
    have es : strs (ss.map bs) = ss.map Value.string := by
      have := strs_bs ss ss.length
      rwa [List.take_of_length_le (by simp), List.take_of_length_le (Nat.le_refl _)] at this
    simp only [hml.out] at HO
    rw [es] at HO
    replace HO := Lib.hid HO; replace es := Lib.hid es
    have hdec0 : decide ((M : Int) = 0) = false := by simp; omega
    have hz0 : ((M : Int) == 0) = false := by simp; omega
    go_wp2_with fail
    refine HO.out.mono ?_
    rintro e w5 ⟨q5, k5, c5, rfl, hk5, hs5, hn5, hB⟩
    obtain rfl := hk5.symm
    have hB5 := Lib.hid (hB4.out.trans (hB.mono hB4.out.size))
    have hq5 := Lib.hid (hq4.out.below hB)
    have hx5 := Lib.hid (hx.out.below hB5.out)
    replace hs5 := Lib.hid hs5
    clear hB hB4 hq4 HO
    have zn : ((n : Int) != (n : Int)) = false := by simp
    have zM : ((M : Int) != (M : Int)) = false := by simp
    go_wp2_with fail
    go_loopg [15] n (fun gk iv W' => ∃ i r : Nat, i ≤ n ∧ gk = n - i ∧ iv = .int .i64 i ∧ w5.drewN r = W')
    case atStart => exact ⟨0, 0, by omega, by omega, rfl, rfl⟩
    case round =>
      obtain ⟨i, r, hi, hgk, rfl, rfl⟩ := hrel
      replace hgk := Lib.hid hgk
      by_cases hlt1 : i < n
      · have hil : i < ss.length := by have := hl.out; omega
        obtain ⟨b6, o6, rfl, hb6, hc6⟩ := hs5.out.at (by simp; omega)
        obtain ⟨b7, o7, rfl, hb7, hc7⟩ := hx5.out.at (by simp; omega)
        have f6 := hc6 i (.string ss[i]) (by simp [hil])
        have f7 := hc7 i (.string ss[i]) (by simp [hil])
        generalize ss[i] = s at *
        clear hc6 hc7
        go_wp2_with fail
        go_quiet (fail)
        go_wp2_with fail
        have hgk := hgk.out
        go_roundg (n - (i + 1))
        case measure => omega
        case rel => exact ⟨i + 1, _, by omega, rfl, by go_num, rfl⟩
      · have hie : n = i := by omega
        subst hie
        have hB6 := Lib.hid (below_drewN hB5.out r)
        have hq6 := Lib.hid (hq5.out.below (below_drewN (Below.refl w5.heap.size w5) r))
        clear hgk hB5 hq5 hx5 hs5
        generalize w5.drewN r = w6 at *
        clear hlt1
        have HP := Lib.hid (fun W => picked_any a1 (M - 3) W x1 x2 (by omega) (by omega) ((M : Int) - 3) (by show _ = _; omega))
        have hpl := pick_lt a1 (M - 3) (by omega)
        generalize pick a1 (M - 3) = k0 at *
        obtain ⟨k, hk⟩ : ∃ k, 4 + k0 = k := ⟨_, rfl⟩
        have hki : 4 + (k0 : Int) = (k : Int) := by omega
        have hk4 : 4 ≤ k := by omega
        have hkM : k ≤ M := by omega
        obtain ⟨m, hmn, hom, hofk, hmlt⟩ := hoc.out k hk4 hkM
        have htl : (Bk.take k).length = k := by rw [List.length_take, hM.out]; omega
        have hq7 : CellsIn w6 (some ⟨qb, qo, none⟩) (bcs (Bk.take k)) := by
          have := hq6.out.part 0 k (some ⟨qb, qo, none⟩) (fun _ => by rw [Option.map_some, Addr.add_lit]; rfl)
          rwa [bcs_sub, show sub Bk 0 k = Bk.take k by simp [sub]] at this
        have hh7 : (Bk.take k).take 4 = hall := by rw [List.take_take, show min 4 k = 4 by omega]; exact hh.out
        have HO := open_any (some ⟨qb, qo, none⟩) k c1 (Bk.take k) w6 (by omega) (by omega) htl hh7 (fun x hx => hlt.out x (List.mem_of_mem_take hx)) hq7
        rw [hom] at HO
        rw [hml.out] at hmn hmlt
        have hlm : ((ss.map bs).take m).length = m := by rw [List.length_take, hml.out]; omega
        simp only [hlm] at HO
        rw [strs_bs ss m] at HO
        obtain ⟨at0, hat0⟩ : ∃ at0, off (ss.map bs) 4 m = at0 := ⟨_, rfl⟩
        have hat4 : 4 ≤ at0 := by rw [← hat0]; exact off_ge _ _ _
        rw [hat0] at HO hofk
        replace HO := Lib.hid HO; replace hat0 := Lib.hid hat0; replace hom := Lib.hid hom; replace hk := Lib.hid hk; replace htl := Lib.hid htl; replace hh7 := Lib.hid hh7; replace hmlt := Lib.hid hmlt; replace hq7 := Lib.hid hq7
        clear hlm
        go_wp2_with fail
        refine (HP.out _).mono ?_
        rintro e w' ⟨rfl, rfl⟩
        go_wp2_with fail
        refine HO.out.mono ?_
        rintro e w7 ⟨q7, k7, c7, rfl, hk7, hs7, hn7, hB⟩
        obtain rfl := hk7.symm
        have hB7 := Lib.hid (hB6.out.trans (hB.mono hB6.out.size))
        have hq8 := Lib.hid (hq6.out.below hB)
        have hq9 := Lib.hid (hq7.out.below hB)
        have hx7 := Lib.hid (hx.out.below hB7.out)
        replace hs7 := Lib.hid hs7
        clear hB hB6 hq6 hq7 HO HP hpl
        go_upto_region 17 with fail
        go_cut [124] (fun s wx => s = .bool false ∧ w7 = wx)
        case first =>
          have hmlt := hmlt.out
          have hd1 : decide (k < at0) = false := by simp; omega
          have hd2 : decide (n < m) = false := by simp; omega
          by_cases hkM2 : k < M
          · have hm2 := hmlt hkM2
            clear hmlt
            have zz : ((m : Int) == (n : Int)) = false := by simp; omega
            go_wp2_with fail
            go_meet
            exact ⟨rfl, rfl⟩
          · clear hmlt
            have hkM3 : M ≤ k := by omega
            go_wp2_with fail
            go_meet
            exact ⟨rfl, rfl⟩
        case rest =>
          obtain ⟨rfl, rfl⟩ := hcut
          go_wp2_with fail
          go_loopg [18] m (fun gk iv W' => ∃ i r : Nat, i ≤ m ∧ gk = m - i ∧ iv = .int .i64 i ∧ w7.drewN r = W')
          case atStart => exact ⟨0, 0, by omega, by omega, rfl, rfl⟩
          case round =>
            obtain ⟨i, r, hi, hgk, rfl, rfl⟩ := hrel
            replace hgk := Lib.hid hgk
            by_cases hlt1 : i < m
            · have hil : i < ss.length := by have := hl.out; omega
              obtain ⟨b6, o6, rfl, hb6, hc6⟩ := hs7.out.at (by simp; omega)
              obtain ⟨b7, o7, rfl, hb7, hc7⟩ := hx7.out.at (by simp; omega)
              have f6 := hc6 i (.string ss[i]) (by simp [hil, hlt1])
              have f7 := hc7 i (.string ss[i]) (by simp [hil])
              generalize ss[i] = s at *
              clear hc6 hc7
              have hin : i < n := by omega
              go_wp2_with fail
              go_quiet (fail)
              go_wp2_with fail
              have hgk := hgk.out
              go_roundg (m - (i + 1))
              case measure => omega
              case rel => exact ⟨i + 1, _, by omega, rfl, by go_num, rfl⟩
            · have hie : m = i := by omega
              subst hie
              have hB8 := Lib.hid (below_drewN hB7.out r)
              have hq10 := Lib.hid (hq8.out.below (below_drewN (Below.refl w7.heap.size w7) r))
              have hq11 := Lib.hid (hq9.out.below (below_drewN (Below.refl w7.heap.size w7) r))
              have hx8 := Lib.hid (hx.out.below hB8.out)
              clear hgk hB7 hq8 hq9 hs7 hx7
              generalize w7.drewN r = w8 at *
              go_upto_if 144 with fail
              go_cut [] (fun wx => Below w8.heap.size w8 wx)
              case first =>
                as_aux_lemma =>
                  by_cases hmn2 : m < n
                  · have hms : m < ss.length := by have := hl.out; omega
                    obtain ⟨b7, o7, rfl, hb7, hc7⟩ := hx8.out.at (by simp; omega)
                    have f7 := hc7 m (.string ss[m]) (by simp [hms])
                    have hsm := h255.out _ (List.getElem_mem hms)
                    obtain ⟨e1, e2⟩ := hod.out m (bs ss[m]) (by simp [hms])
                    rw [hat0.out, bs_len] at e1 e2
                    rw [hM.out] at e2
                    generalize ss[m] = s at *
                    have hop2 : (opened (Bk.take k)).2 = at0 := by rw [hom.out]; exact hat0.out
                    have HAd := fun (W : World) (h : Below w8.heap.size w8 W) => add_any (some ⟨qb, qo, none⟩) k c1 (Bk.take k) s W (by omega) (by omega) htl.out hh7.out (fun x hx => hlt.out x (List.mem_of_mem_take hx)) (hq11.out.below h) hsm at0 hop2 (by omega) hofk hat4
                    have ett : (Bk.take k).take at0 = Bk.take at0 := by rw [List.take_take, show min at0 k = at0 by omega]
                    rw [ett, e1] at HAd
                    obtain ⟨E, hE⟩ : ∃ E, at0 + (s.size + 4) = E := ⟨_, rfl⟩
                    have hE2 : at0 + 4 + s.size = E := by omega
                    rw [hE2] at HAd e2
                    rw [hE] at HAd
                    have hE4 : 4 ≤ E := by omega
                    have hEl : (Bk.take E).length = E := by rw [List.length_take, hM.out]; omega
                    have hqE := Lib.hid (fun (W : World) (h : Below w8.heap.size w8 W) => show CellsIn W (some ⟨qb, qo, none⟩) (bcs (Bk.take E)) from by
                      have := (hq10.out.below h).part 0 E (some ⟨qb, qo, none⟩) (fun _ => by rw [Option.map_some, Addr.add_lit]; rfl)
                      rwa [bcs_sub, show sub Bk 0 E = Bk.take E by simp [sub]] at this)
                    replace HAd := Lib.hid HAd; replace e1 := Lib.hid e1; replace ett := Lib.hid ett; replace hE := Lib.hid hE; replace hE2 := Lib.hid hE2; replace hop2 := Lib.hid hop2; replace hEl := Lib.hid hEl
                    clear hc7
                    have hz8 : (k : Int) ≤ (c1 : Int) := by omega
                    go_wp2_with fail
                    go_upto_region 26 with fail
                    go_cut [19, 20] (fun xv ev wx => ∃ qx cx, xv = .slice qx E cx ∧ ev = .int .i64 0 ∧ CellsIn wx qx (bcs (Bk.take E)) ∧ Below w8.heap.size w8 wx)
                    case first =>
                      go_region_law (go_simp; refine (HAd.out _ ?_).mono ?_; (first | exact below_drewN (Below.refl _ _) 1 | exact Below.refl _ _); rintro e w9 ⟨qx, cx, rfl, hxq, hxc, hB9⟩; replace hB9 := Lib.hid ((below_drewN (Below.refl w8.heap.size w8) 1).trans hB9); replace hxq := Lib.hid hxq)
                      all_goals
                        go_wp2_with fail
                        go_meet
                        exact ⟨qx, cx, rfl, rfl, hxq.out, hB9.out⟩
                    case rest =>
                      obtain ⟨qx, cx, rfl, rfl, hxq, hBc⟩ := hcut
                      have k1 := fun r : Nat => run_conv Try.underlying23 Try.underlying5 Try.underlying9 (wc.drewN r) qx E cx (Bk.take E) hEl.out (hxq.below (below_drewN (Below.refl _ _) r))
                      have k2 := fun r : Nat => run_conv Try.underlying23 Try.underlying5 Try.underlying9 (wc.drewN r) (some ⟨qb, qo, none⟩) E c1 (Bk.take E) hEl.out (hqE.out _ (below_drewN hBc r))
                      have hd1 : decide (M < E) = false := by simp; omega
                      have hEc : (E : Int) ≤ (c1 : Int) := by omega
                      replace hxq := Lib.hid hxq; replace hBc := Lib.hid hBc
                      go_wp2_with fail
                      go_quiet (fail)
                      go_wp2_with fail
                      go_meet
                      exact below_drewN hBc.out _
                  · have hnm : n ≤ m := by omega
                    go_wp2_with fail
                    go_meet
                    exact Below.refl _ _
              case rest =>
                have hB9 := Lib.hid (hB8.out.trans (hcut.mono hB8.out.size))
                have hq12 := Lib.hid (hq10.out.below hcut)
                have hx9 := Lib.hid (hx.out.below hB9.out)
                clear hcut hB8 hq10 hq11 hx8
                by_cases hM4 : M = 4
                · have zM4 : ((M : Int) == 4) = true := by simp [hM4]
                  replace hM4 := Lib.hid hM4
                  go_wp2_with fail
                  go_ret
                  exact ⟨rfl, hB9.out⟩
                · have zM4 : ((M : Int) == 4) = false := by simp; omega
                  have HP := Lib.hid (fun W => picked_any a2 (M - 4) W y1 y2 (by omega) (by omega) ((M : Int) - 4) (by show _ = _; omega))
                  have hpl := pick_lt a2 (M - 4) (by omega)
                  generalize pick a2 (M - 4) = j0 at *
                  obtain ⟨j, hj⟩ : ∃ j, 4 + j0 = j := ⟨_, rfl⟩
                  have hji : 4 + (j0 : Int) = (j : Int) := by omega
                  have hj4 : 4 ≤ j := by omega
                  have hjM : j < M := by omega
                  replace hj := Lib.hid hj
                  clear hpl
                  go_wp2_with fail
                  refine (HP.out _).mono ?_
                  rintro e w' ⟨rfl, rfl⟩
                  have hwz : w.heap.size ≤ wc.heap.size := hB9.out.size
                  go_upto_region 32 with (at_builtin; refine wp_appendLV el5 wc rfl _ (.tmp 185) rfl w.heap.size none 0 0 [] rfl (OwnC.nil _ _ _ _) ⟨qb, qo, none⟩ M c1 (bcs Bk) ?_ (bcs_one _) hq12.out.news rfl ?_ hwz ?_; (rw [bcs_len, hM.out, Nat.mul_one]); (omega); intro p2 c2 w9 hO9 hg9 hr9 hz9; rw [List.nil_append, Nat.zero_add] at hO9)
                  obtain ⟨g9, rfl, hg9a, hg9b, _⟩ := hO9.where (by omega)
                  have hc9 := hO9.cap
                  have hB10 := Lib.hid (hB9.out.grown hg9 hwz (fun x hx => by cases hx))
                  have hq13 := Lib.hid (hq12.out.keep (w' := w9) hg9.size (fun b o e => hg9.block b (by
                    obtain ⟨b', o', e', hb', _⟩ := hq12.out.at (by rw [bcs_len, hM.out]; omega)
                    rw [e] at e'; cases e'; exact hb') (fun h => by cases h)))
                  have hx10 := Lib.hid (hx.out.below hB10.out)
                  have f9 : w9.cell? ⟨g9, j, none⟩ = some (.int .u8 ((Bk[j]?.getD 0 : Nat) : Int)) := by rw [hO9.cell (by omega)]; exact bcs_at Bk j (by rw [hM.out]; exact hjM)
                  have r9 := OwnC.free hO9 j
                  have hO10 := OwnC.set hO9 j (.int .u8 (v : Int))
                  have hbs : (bcs Bk).set j (.int .u8 (v : Int)) = bcs (Bk.set j v) := (bset Bk j v).symm
                  rw [hbs] at hO10
                  have hB11 := Lib.hid (hB10.out.setCell (p := ⟨g9, j, none⟩) hg9a (.int .u8 (v : Int)))
                  obtain ⟨m3, e3, hm3, ho3, hv3⟩ : ∃ m3 e3, m3 ≤ n ∧ opened (Bk.set j v) = ((ss.map bs).take m3, e3) ∧ (v ≠ at_ Bk j → m3 < n) := by
                    by_cases hve : v = at_ Bk j
                    · refine ⟨n, M, Nat.le_refl _, ?_, fun h => absurd hve h⟩
                      rw [hve, set_same Bk j (by rw [hM.out]; exact hjM), hoa.out, List.take_of_length_le (by rw [hml.out]; exact Nat.le_refl _)]
                    · obtain ⟨m3, h1, h2⟩ := hos.out j v hj4 hjM hv hve
                      rw [hml.out] at h1
                      exact ⟨m3, _, Nat.le_of_lt h1, h2, fun _ => h1⟩
                  have hO3 := open_any (some ⟨g9, 0, none⟩) M c2 (Bk.set j v) (w9.setCell ⟨g9, j, none⟩ (.int .u8 (v : Int))) h4000 hc9 (by rw [List.length_set]; exact hM.out) (by rw [List.take_set_of_le (by omega)]; exact hh.out) (fun x hx => by
                    rcases List.mem_or_eq_of_mem_set hx with h | h
                    · exact hlt.out x h
                    · omega) (OwnC.cells hO10)
                  rw [ho3] at hO3
                  have hlm3 : ((ss.map bs).take m3).length = m3 := by rw [List.length_take, hml.out]; omega
                  simp only [hlm3] at hO3
                  rw [strs_bs ss m3] at hO3
                  replace hO3 := Lib.hid hO3; replace hO9 := Lib.hid hO9; replace hbs := Lib.hid hbs; replace hO10 := Lib.hid hO10; replace ho3 := Lib.hid ho3; replace hlm3 := Lib.hid hlm3; replace hv3 := Lib.hid hv3
                  have hne9 : Hid (∀ b o, (some ⟨qb, qo, none⟩ : Option Addr) = some ⟨b, o, none⟩ → b ≠ g9) := by
                    intro b o e
                    cases e
                    obtain ⟨b', o', e', hb', _⟩ := hq12.out.at (by rw [bcs_len, hM.out]; omega)
                    cases e'
                    rcases hr9 with h | h
                    · cases h
                    · have := h _ rfl
                      simp only at this
                      omega
                  clear hg9 hr9 hz9 hq12 hx9
                  go_wp2_with fail
                  refine hO3.out.mono ?_
                  rintro e w11 ⟨q11, k11, c11, rfl, hk11, hs11, hn11, hB⟩
                  obtain rfl := hk11.symm
                  have hB12 := Lib.hid (hB11.out.trans (hB.mono hB11.out.size))
                  have f10 : w11.cell? ⟨g9, j, none⟩ = some (.int .u8 (v : Int)) := by
                    have h1 : (w9.setCell ⟨g9, j, none⟩ (.int .u8 (v : Int))).cell? ⟨g9, j, none⟩ = some (.int .u8 (v : Int)) := by
                      rw [hO10.out.cell (by omega), bcs_at _ j (by rw [List.length_set, hM.out]; exact hjM)]
                      rw [List.getElem?_set_self (by rw [hM.out]; exact hjM)]; rfl
                    exact (hB.cell (p := ⟨g9, j, none⟩) (by simpa [World.setCell] using hg9b)).trans h1
                  have hqs := hq13.out.keep (w' := w9.setCell ⟨g9, j, none⟩ (.int .u8 (v : Int))) (by simp [World.setCell]) (fun b o e => wset_ne _ _ (hne9.out b o e))
                  have f11 : w11.cell? ⟨qb, qo + j, none⟩ = some (.int .u8 ((at_ Bk j : Nat) : Int)) := by
                    obtain ⟨b', o', e', hb', hc'⟩ := hqs.at (by rw [bcs_len, hM.out]; omega)
                    cases e'
                    exact (hB.cell (p := ⟨qb, qo + j, none⟩) hb').trans (hc' j _ (bcs_at Bk j (by rw [hM.out]; exact hjM)))
                  have hx11 := Lib.hid (hx.out.below hB12.out)
                  replace hs11 := Lib.hid hs11
                  have hv3 := hv3.out
                  generalize at_ Bk j = x at *
                  clear hB hqs hO3 hO9 hO10 hbs ho3 hlm3 hq13 hne9 hB11 hB10 f9 r9 hx10 hB9
                  go_upto_region 34 with fail
                  go_cut [216] (fun s wx => s = .bool false ∧ Below w11.heap.size w11 wx)
                  case first =>
                    as_aux_lemma =>
                      have hjc1 : j < c2 := by omega
                      by_cases hvx : v = x
                      · have z1 : ((v : Int) != (x : Int)) = false := by simp [hvx]
                        replace hvx := Lib.hid hvx; replace hv3 := Lib.hid hv3
                        go_wp2_with fail
                        go_quiet (fail)
                        go_wp2_with fail
                        go_meet
                        exact ⟨rfl, below_drewN (Below.refl _ _) _⟩
                      · have z1 : ((v : Int) != (x : Int)) = true := by simp; omega
                        have z2 := hv3 hvx
                        have z3 : decide (n ≤ m3) = false := by simp; omega
                        replace hvx := Lib.hid hvx; replace hv3 := Lib.hid hv3
                        go_wp2_with fail
                        go_quiet (fail)
                        go_wp2_with fail
                        go_meet
                        exact ⟨rfl, below_drewN (Below.refl _ _) _⟩
                  case rest =>
                    obtain ⟨rfl, hBc⟩ := hcut
                    have hB13 := Lib.hid (hB12.out.trans (hBc.mono hB12.out.size))
                    have hs12 := Lib.hid (hs11.out.below hBc)
                    have hx12 := Lib.hid (hx.out.below hB13.out)
                    clear hBc hB12 hs11 hx11 f10 f11 hv3
                    go_wp2_with fail
                    go_loopg [25] m3 (fun gk iv W' => ∃ i r : Nat, i ≤ m3 ∧ gk = m3 - i ∧ iv = .int .i64 i ∧ wc.drewN r = W')
                    case atStart => exact ⟨0, 0, by omega, by omega, rfl, rfl⟩
                    case round =>
                      obtain ⟨i, r, hi, hgk, rfl, rfl⟩ := hrel
                      replace hgk := Lib.hid hgk
                      by_cases hlt1 : i < m3
                      · have hil : i < ss.length := by have := hl.out; omega
                        obtain ⟨b6, o6, rfl, hb6, hc6⟩ := hs12.out.at (by simp; omega)
                        obtain ⟨b7, o7, rfl, hb7, hc7⟩ := hx12.out.at (by simp; omega)
                        have f6 := hc6 i (.string ss[i]) (by simp [hil, hlt1])
                        have f7 := hc7 i (.string ss[i]) (by simp [hil])
                        generalize ss[i] = s at *
                        clear hc6 hc7
                        have hin : i < n := by omega
                        go_wp2_with fail
                        go_quiet (fail)
                        go_wp2_with fail
                        have hgk := hgk.out
                        go_roundg (m3 - (i + 1))
                        case measure => omega
                        case rel => exact ⟨i + 1, _, by omega, rfl, by go_num, rfl⟩
                      · have hie : m3 = i := by omega
                        subst hie
                        go_wp2_with fail
                        go_ret
                        exact ⟨rfl, below_drewN hB13.out _⟩
end Go.Proofs.Ytbniiglijmbfnaa
