import Derived.Test.YtcibkchfdiijfaaHxC
/- hex.Shortest's put: a place is put into a round, or not; conditions stand in it. -/
namespace Go.Proofs.Ytcibkchfdiijfaa
open Go.RowKit Go.Shelf

section
set_option maxRecDepth 100000 in
set_option maxHeartbeats 4000000 in
theorem put_any (n who N gc fc Gb Wb Fb F Rb p m : Nat) (gp : Option Addr) (s : List Nat) (Z : Nat → Prop) (far : Nat → Int) (R : List (List Nat)) (w : World) (h : Ps n who N gc fc gp s Gb Wb Fb F Rb Z w far R) (hp : p < N) (hN : N ≤ 100) (hw : who = 1 ∨ who = 2)
    (hm : m ≤ 200) (hR : R.length ≤ 200) (hlen : ∀ i, (Rm R i).length ≤ 100) (hZ : ∀ k, Z k → k < w.heap.size) :
    Calls Try.prog 19 #[.int .i64 (p : Int), .int .i64 (m : Int), .pointer (some ⟨Gb, 0, none⟩), .pointer (some ⟨Wb, 0, none⟩), .pointer (some ⟨Fb, 0, none⟩), .pointer (some ⟨Rb, 0, none⟩)] w fun e w' => e = .returned (.tuple #[]) ∧ Pk F Rb Z w w' ∧
      ((st s p = 3 - who ∨ (0 ≤ far p ∧ far p ≤ m)) → Ps n who N gc fc gp s Gb Wb Fb F Rb Z w' far R) ∧ (¬ (st s p = 3 - who ∨ (0 ≤ far p ∧ far p ≤ m)) → Ps n who N gc fc gp s Gb Wb Fb F Rb Z w' (fupd far p m) (addR R m p)) := by
  have c2 := wcell (cs := [_, _, _]) h.gb 2
  have cw := wcell (cs := [_]) h.wb 0
  have cf := wcell (cs := [_]) h.fb 0
  have cF := h.fr.cell (i := p) (by simpa using hp)
  rw [map_at hp] at cF
  obtain ⟨b, o, rfl, hb, hc⟩ := h.gs.at (by omega)
  have cp := hc p hp
  rw [asI_at] at cp
  simp only [List.getElem?_cons_zero, List.getElem?_cons_succ] at c2 cw cf
  obtain ⟨x, hx⟩ : ∃ x, x = st s p := ⟨_, rfl⟩
  obtain ⟨d, hd⟩ : ∃ d, d = far p := ⟨_, rfl⟩
  rw [← hx] at cp ⊢
  rw [← hd] at cF ⊢
  have hs : Hid (∀ r, Ps n who N gc fc (some ⟨b, o, none⟩) s Gb Wb Fb F Rb Z (w.drewN r) far R ∧ Pk F Rb Z w (w.drewN r)) := fun r => ⟨h.same rfl, (Pk.refl _ _ _ _).drewN r⟩
  replace hx := Lib.hid hx; replace hd := Lib.hid hd; replace h := Lib.hid h; replace hlen := Lib.hid hlen; replace hZ := Lib.hid hZ
  have hwr : IntKind.i64.wrap (3 - (who : Int)) = 3 - (who : Int) := IntWalk.i64_in _ (by omega)
  clear hc
  go_enter Try.func19, Try.ntmps19
  by_cases hA : x = 3 - who
  · have e1 : ((x : Int) == 3 - (who : Int)) = true := by rw [hA]; simp; omega
    replace hA := Lib.hid hA
    go_wp2_with fail
    go_quiet (fail)
    go_wp2_with fail
    refine bodyPost_ret (results_none rfl _ _ _) rfl ?_
    exact ⟨rfl, (hs.out _).2, fun _ => (hs.out _).1, fun hn => absurd (.inl hA.out) hn⟩
  · have e1 : ((x : Int) == 3 - (who : Int)) = false := by simp; omega
    by_cases hB : 0 ≤ d
    · have e2 : decide (0 ≤ d) = true := decide_eq_true hB
      by_cases hC : d ≤ (m : Int)
      · have e3 : decide (d ≤ (m : Int)) = true := decide_eq_true hC
        replace hA := Lib.hid hA
        go_wp2_with fail
        go_quiet (fail)
        go_wp2_with fail
        refine bodyPost_ret (results_none rfl _ _ _) rfl ?_
        exact ⟨rfl, (hs.out _).2, fun _ => (hs.out _).1, fun hn => absurd (.inr ⟨hB, hC⟩) hn⟩
      · have e3 : decide (d ≤ (m : Int)) = false := decide_eq_false hC
        have hno : Hid (¬ (x = 3 - who ∨ (0 ≤ d ∧ d ≤ (m : Int)))) := fun h => h.elim hA (fun h => hC h.2)
        have fF := h.out.fr.free p
        replace hA := Lib.hid hA
        go_wp2_with fail
        go_quiet (fail)
        obtain ⟨W1, hW1⟩ : ∃ W1, W1 = w.drewN nq := ⟨_, rfl⟩
        have hs1 := hs.out nq
        rw [← hW1] at hs1
        have cf1 : W1.cell? ⟨Fb, 0, none⟩ = some (.slice (some ⟨F, 0, none⟩) N fc) := by rw [hW1]; exact cf
        have cF1 : W1.cell? ⟨F, p, none⟩ = some (.int .i64 d) := by rw [hW1]; exact cF
        have fF1 : W1.frozen? ⟨F, p, none⟩ = false := by rw [hW1]; exact fF
        rw [← hW1]
        have h2 := hs1.1.setF p (m : Int)
        have hpk2 := hs1.2.trans h2.2
        have hps2 := h2.1
        clear h2
        replace hW1 := Lib.hid hW1; replace hs1 := Lib.hid hs1; replace hpk2 := Lib.hid hpk2; replace hps2 := Lib.hid hps2; replace hno := Lib.hid hno
        clear c2 cw cf cF cp fF e1
        go_wp2_with fail
        go_loopg [] (m + 1 - R.length) (fun g W => ∃ j : Nat, g = m + 1 - (R.length + j) ∧ (j = 0 ∨ R.length + j ≤ m + 1) ∧ Hid (Ps n who N gc fc (some ⟨b, o, none⟩) s Gb Wb Fb F Rb Z W (fupd far p m) (R ++ List.replicate j [])) ∧ Hid (Pk F Rb Z w W))
        case atStart => exact ⟨0, rfl, .inl rfl, by simpa using hps2, hpk2⟩
        case round =>
          clear hps2 hpk2 cf1 cF1 fF1
          obtain ⟨j, hgk, hj, hps, hpk⟩ := hrel
          obtain ⟨W2, rfl⟩ : ∃ W2 : World, W2 = wr := ⟨_, rfl⟩
          obtain ⟨q, l, c, P, C, hrb, hrd⟩ := hps.out.rd
          have cr := wcell (cs := [_]) hrb 0
          simp only [List.getElem?_cons_zero] at cr
          have hl : R.length + j = l := by have := hrd.len; simpa using this
          have hZ2 : ∀ k, Z k → k < W2.heap.size := fun k hk => Nat.lt_of_lt_of_le (hZ.out k hk) hpk.out.size
          replace hgk := Lib.hid hgk; replace hj := Lib.hid hj; replace hl := Lib.hid hl; replace hZ2 := Lib.hid hZ2
          have hl200 : l ≤ 201 + m := by have := hl.out; have := hj.out; omega
          by_cases hlm : l ≤ m
          · have hT : ElT Try.prog 46 22 (.slice none 0 0) 1 24 := ⟨Try.underlying46, by kernel_rfl, rfl, by decide, by decide⟩
            have hRb2 : Hid (¬ ∃ a, q = some a ∧ a.block = Rb) := fun ⟨a, ha, e⟩ => hrd.qz a ha (by rw [e]; exact hps.out.zs.2.2.2.2.1)
            replace hrd := Lib.hid hrd; replace hrb := Lib.hid hrb
            go_wp2_with (refine wp_appendVs hT W2 rfl _ _ rfl 0 q l c (rowsV (R ++ List.replicate j []) P C) rfl hrd.out.row #[.slice none 0 0] rfl rfl _ rfl rfl (by omega) (Nat.zero_le _) ?_; intro q' c' W3 hO hg hor hz; have hrb3 := (hg.block Rb (lt_of_heap hrb.out) (nmap fun a ha e => hRb2.out ⟨a, ha, e⟩)).trans hrb.out; have cr3 := wcell (cs := [_]) hrb3 0; have fr3 := wfree hrb3 0; simp only [List.getElem?_cons_zero] at cr3; replace hO := Lib.hid hO; replace hg := Lib.hid hg; replace hor := Lib.hid hor; replace hrb3 := Lib.hid hrb3)
            have hpush := hps.out.pushed (by omega) hZ2.out hrd.out hO.out hg.out hor.out
            have hgk := hgk.out
            have hl' := hl.out
            go_roundg (m + 1 - (l + 1))
            case measure => omega
            case rel =>
              refine ⟨j + 1, by omega, .inr (by omega), ?_, hpk.out.trans hpush.2⟩
              show Ps n who N gc fc (some ⟨b, o, none⟩) s Gb Wb Fb F Rb Z _ (fupd far p m) (R ++ List.replicate (j + 1) [])
              rw [List.replicate_succ', ← List.append_assoc]
              exact hpush.1
          · have hml : m < l := by omega
            have hjj : Hid (j = m + 1 - R.length) := by show _ = _; have := hl.out; rcases hj.out with h1 | h1 <;> omega
            obtain ⟨qg, hq, _, hqs, hqc⟩ := hrd.row.where (by omega)
            subst hq
            have hrm : Hid (Rm (R ++ List.replicate j []) m = Rm R m) := ext_get R j m
            have crow := hrd.row.cell (i := m) (by omega)
            rw [rowsV_get (by rw [hrd.len]; exact hml)] at crow
            have hown := hrd.own m hml
            rw [hrm.out] at crow hown
            have frow := hrd.row.free m
            have hln := hlen.out m
            obtain ⟨pm, hpm⟩ : ∃ pm, pm = P m := ⟨_, rfl⟩
            obtain ⟨cm, hcm⟩ : ∃ cm, cm = C m := ⟨_, rfl⟩
            obtain ⟨ln, hlnn⟩ : ∃ ln, ln = (Rm R m).length := ⟨_, rfl⟩
            rw [← hpm, ← hcm, ← hlnn] at crow hown
            rw [← hlnn] at hln
            have hqpm : Hid (∀ a, pm = some a → a.block ≠ qg) := fun a ha => by rw [hpm] at ha; exact hrd.pq hml ha rfl
            have hRbq : Hid (∀ a, pm = some a → a.block ≠ Rb) := fun a ha e => by rw [hpm] at ha; exact hrd.pz m a hml ha (by rw [e]; exact hps.out.zs.2.2.2.2.1)
            have hIn : (0 : Int) ≤ (m : Int) := by omega
            have hIl : (m : Int) < (l : Int) := by omega
            replace hrd := Lib.hid hrd; replace hrb := Lib.hid hrb; replace hown := Lib.hid hown; replace hpm := Lib.hid hpm; replace hcm := Lib.hid hcm; replace hlnn := Lib.hid hlnn
            go_wp2_with fail
            have hownA : Hid (Own 3 0 (W2.alloc (.cells #[.int .i64 (p : Int)] 3)).drew pm ln cm (asI (Rm R m))) := (hown.out.alloc _).keep fun _ _ => rfl
            have hcA : Hid ((W2.alloc (.cells #[.int .i64 (p : Int)] 3)).drew.cell? ⟨W2.heap.size, 0, none⟩ = some (.int .i64 (p : Int))) := wcell (cs := [_]) (heap_alloc_new W2 (.cells #[.int .i64 (p : Int)] 3)) 0
            have hkA : Hid (∀ k, k < W2.heap.size → (W2.alloc (.cells #[.int .i64 (p : Int)] 3)).drew.heap[k]? = W2.heap[k]?) := fun k hk => Below.heap_alloc W2 _ k hk
            have crA : (W2.alloc (.cells #[.int .i64 (p : Int)] 3)).cell? ⟨Rb, 0, none⟩ = some (.slice (some ⟨qg, 0, none⟩) l c) := (World.cell?_of_block (Below.heap_alloc W2 _ Rb (lt_of_heap hrb.out))).trans cr
            have crowA : (W2.alloc (.cells #[.int .i64 (p : Int)] 3)).cell? ⟨qg, m, none⟩ = some (.slice pm ln cm) := (World.cell?_of_block (a := ⟨qg, m, none⟩) (Below.heap_alloc W2 _ qg (hrd.out.row.block _ rfl).2)).trans crow
            have hfin : Hid (∀ g5 c5 W5, Own 3 0 W5 (some ⟨g5, 0, none⟩) (ln + 1) c5 (asI (Rm R m) ++ [(p : Int)]) → (W2.alloc (.cells #[.int .i64 (p : Int)] 3)).drew.grownBy W5 (pm.map (·.block)) → (pm.map (·.block) = some g5 ∨ g5 = (W2.alloc (.cells #[.int .i64 (p : Int)] 3)).drew.heap.size) →
                Pk F Rb Z w (W5.setCell ⟨qg, m, none⟩ (.slice (some ⟨g5, 0, none⟩) (ln + 1) c5)) ∧ Ps n who N gc fc (some ⟨b, o, none⟩) s Gb Wb Fb F Rb Z (W5.setCell ⟨qg, m, none⟩ (.slice (some ⟨g5, 0, none⟩) (ln + 1) c5)) (fupd far p m) (addR R m p)) := by
              intro g5 c5 W5 k1 k2 k3
              have hBA : Below W2.heap.size W2 (W2.alloc (.cells #[.int .i64 (p : Int)] 3)).drew := ((Below.refl _ W2).alloc (Nat.le_refl _) _).drew
              have hA := (hps.out.below hBA).app (by omega) (fun k hk => Nat.lt_of_lt_of_le (hZ2.out k hk) hBA.size) ((hkA.out Rb (lt_of_heap hrb.out)).trans hrb.out) (hrd.out.keep fun k hk _ => hkA.out k hk) hml (m := m) (g := g5) (c' := c5) (x := p) (W' := W5)
                (by rw [hrm.out, ← hlnn.out]; exact k1) (by rw [← hpm.out]; exact k2) (by rw [← hpm.out]; exact k3)
              rw [hrm.out, ← hlnn.out] at hA
              have he : (R ++ List.replicate j []).set m (Rm R m ++ [p]) = addR R m p := by rw [hjj.out]; rfl
              rw [he] at hA
              exact ⟨(hpk.out.trans ⟨hBA.os, hBA.tape, hBA.output, hBA.size, fun k hk _ _ => hBA.block k (hZ2.out k hk), hBA.size, fun k o h _ => (hBA.block k (lt_of_heap h)).trans h⟩).trans hA.2, hA.1⟩
            go_region_law (refine step_appendN intG (W2.alloc (.cells #[.int .i64 (p : Int)] 3)).drew (by rfl) _ _ (by rfl) 0 pm ln cm _ (by rfl) hownA.out (p : Int) W2.heap.size (by rfl) hcA.out (by omega) (Nat.zero_le _) ?_; intro g5 c5 W5 hO5 hg5 hor5; have hb5 := (hg5.block Rb (by simp; exact Nat.lt_succ_of_lt (lt_of_heap hrb.out)) (nmap hRbq.out)).trans ((hkA.out Rb (lt_of_heap hrb.out)).trans hrb.out); have cb5 := wcell (cs := [_]) hb5 0; simp only [List.getElem?_cons_zero] at cb5; have hq5 := (hg5.block qg (by simp; exact Nat.lt_succ_of_lt (hrd.out.row.block _ rfl).2) (nmap hqpm.out)).trans (hkA.out qg (hrd.out.row.block _ rfl).2); have cq5 := (World.cell?_of_block (a := ⟨qg, m, none⟩) hq5).trans crow; have fq5 : W5.frozen? ⟨qg, m, none⟩ = false := OwnC.free (k := 1) (hrd.out.row.keep (w' := W5) fun a ha => by injection ha with ha; subst ha; exact hq5) m; replace hb5 := Lib.hid hb5; replace hq5 := Lib.hid hq5; replace hO5 := Lib.hid hO5; replace hg5 := Lib.hid hg5; replace hor5 := Lib.hid hor5)
            all_goals
              refine bodyPost_end (results_none rfl _ _ _) rfl ?_
              have hF := hfin.out _ _ _ hO5.out hg5.out hor5.out
              exact ⟨rfl, hF.1, fun hn => absurd hn hno.out.out, fun _ => hF.2⟩
    · have e2 : decide (0 ≤ d) = false := decide_eq_false hB
      have hno : Hid (¬ (x = 3 - who ∨ (0 ≤ d ∧ d ≤ (m : Int)))) := fun h => h.elim hA (fun h => hB h.1)
      have fF := h.out.fr.free p
      replace hA := Lib.hid hA
      go_wp2_with fail
      go_quiet (fail)
      obtain ⟨W1, hW1⟩ : ∃ W1, W1 = w.drewN nq := ⟨_, rfl⟩
      have hs1 := hs.out nq
      rw [← hW1] at hs1
      have cf1 : W1.cell? ⟨Fb, 0, none⟩ = some (.slice (some ⟨F, 0, none⟩) N fc) := by rw [hW1]; exact cf
      have cF1 : W1.cell? ⟨F, p, none⟩ = some (.int .i64 d) := by rw [hW1]; exact cF
      have fF1 : W1.frozen? ⟨F, p, none⟩ = false := by rw [hW1]; exact fF
      rw [← hW1]
      have h2 := hs1.1.setF p (m : Int)
      have hpk2 := hs1.2.trans h2.2
      have hps2 := h2.1
      clear h2
      replace hW1 := Lib.hid hW1; replace hs1 := Lib.hid hs1; replace hpk2 := Lib.hid hpk2; replace hps2 := Lib.hid hps2; replace hno := Lib.hid hno
      clear c2 cw cf cF cp fF e1
      go_wp2_with fail
      go_loopg [] (m + 1 - R.length) (fun g W => ∃ j : Nat, g = m + 1 - (R.length + j) ∧ (j = 0 ∨ R.length + j ≤ m + 1) ∧ Hid (Ps n who N gc fc (some ⟨b, o, none⟩) s Gb Wb Fb F Rb Z W (fupd far p m) (R ++ List.replicate j [])) ∧ Hid (Pk F Rb Z w W))
      case atStart => exact ⟨0, rfl, .inl rfl, by simpa using hps2, hpk2⟩
      case round =>
        clear hps2 hpk2 cf1 cF1 fF1
        obtain ⟨j, hgk, hj, hps, hpk⟩ := hrel
        obtain ⟨W2, rfl⟩ : ∃ W2 : World, W2 = wr := ⟨_, rfl⟩
        obtain ⟨q, l, c, P, C, hrb, hrd⟩ := hps.out.rd
        have cr := wcell (cs := [_]) hrb 0
        simp only [List.getElem?_cons_zero] at cr
        have hl : R.length + j = l := by have := hrd.len; simpa using this
        have hZ2 : ∀ k, Z k → k < W2.heap.size := fun k hk => Nat.lt_of_lt_of_le (hZ.out k hk) hpk.out.size
        replace hgk := Lib.hid hgk; replace hj := Lib.hid hj; replace hl := Lib.hid hl; replace hZ2 := Lib.hid hZ2
        have hl200 : l ≤ 201 + m := by have := hl.out; have := hj.out; omega
        by_cases hlm : l ≤ m
        · have hT : ElT Try.prog 46 22 (.slice none 0 0) 1 24 := ⟨Try.underlying46, by kernel_rfl, rfl, by decide, by decide⟩
          have hRb2 : Hid (¬ ∃ a, q = some a ∧ a.block = Rb) := fun ⟨a, ha, e⟩ => hrd.qz a ha (by rw [e]; exact hps.out.zs.2.2.2.2.1)
          replace hrd := Lib.hid hrd; replace hrb := Lib.hid hrb
          go_wp2_with (refine wp_appendVs hT W2 rfl _ _ rfl 0 q l c (rowsV (R ++ List.replicate j []) P C) rfl hrd.out.row #[.slice none 0 0] rfl rfl _ rfl rfl (by omega) (Nat.zero_le _) ?_; intro q' c' W3 hO hg hor hz; have hrb3 := (hg.block Rb (lt_of_heap hrb.out) (nmap fun a ha e => hRb2.out ⟨a, ha, e⟩)).trans hrb.out; have cr3 := wcell (cs := [_]) hrb3 0; have fr3 := wfree hrb3 0; simp only [List.getElem?_cons_zero] at cr3; replace hO := Lib.hid hO; replace hg := Lib.hid hg; replace hor := Lib.hid hor; replace hrb3 := Lib.hid hrb3)
          have hpush := hps.out.pushed (by omega) hZ2.out hrd.out hO.out hg.out hor.out
          have hgk := hgk.out
          have hl' := hl.out
          go_roundg (m + 1 - (l + 1))
          case measure => omega
          case rel =>
            refine ⟨j + 1, by omega, .inr (by omega), ?_, hpk.out.trans hpush.2⟩
            show Ps n who N gc fc (some ⟨b, o, none⟩) s Gb Wb Fb F Rb Z _ (fupd far p m) (R ++ List.replicate (j + 1) [])
            rw [List.replicate_succ', ← List.append_assoc]
            exact hpush.1
        · have hml : m < l := by omega
          have hjj : Hid (j = m + 1 - R.length) := by show _ = _; have := hl.out; rcases hj.out with h1 | h1 <;> omega
          obtain ⟨qg, hq, _, hqs, hqc⟩ := hrd.row.where (by omega)
          subst hq
          have hrm : Hid (Rm (R ++ List.replicate j []) m = Rm R m) := ext_get R j m
          have crow := hrd.row.cell (i := m) (by omega)
          rw [rowsV_get (by rw [hrd.len]; exact hml)] at crow
          have hown := hrd.own m hml
          rw [hrm.out] at crow hown
          have frow := hrd.row.free m
          have hln := hlen.out m
          obtain ⟨pm, hpm⟩ : ∃ pm, pm = P m := ⟨_, rfl⟩
          obtain ⟨cm, hcm⟩ : ∃ cm, cm = C m := ⟨_, rfl⟩
          obtain ⟨ln, hlnn⟩ : ∃ ln, ln = (Rm R m).length := ⟨_, rfl⟩
          rw [← hpm, ← hcm, ← hlnn] at crow hown
          rw [← hlnn] at hln
          have hqpm : Hid (∀ a, pm = some a → a.block ≠ qg) := fun a ha => by rw [hpm] at ha; exact hrd.pq hml ha rfl
          have hRbq : Hid (∀ a, pm = some a → a.block ≠ Rb) := fun a ha e => by rw [hpm] at ha; exact hrd.pz m a hml ha (by rw [e]; exact hps.out.zs.2.2.2.2.1)
          have hIn : (0 : Int) ≤ (m : Int) := by omega
          have hIl : (m : Int) < (l : Int) := by omega
          replace hrd := Lib.hid hrd; replace hrb := Lib.hid hrb; replace hown := Lib.hid hown; replace hpm := Lib.hid hpm; replace hcm := Lib.hid hcm; replace hlnn := Lib.hid hlnn
          go_wp2_with fail
          have hownA : Hid (Own 3 0 (W2.alloc (.cells #[.int .i64 (p : Int)] 3)).drew pm ln cm (asI (Rm R m))) := (hown.out.alloc _).keep fun _ _ => rfl
          have hcA : Hid ((W2.alloc (.cells #[.int .i64 (p : Int)] 3)).drew.cell? ⟨W2.heap.size, 0, none⟩ = some (.int .i64 (p : Int))) := wcell (cs := [_]) (heap_alloc_new W2 (.cells #[.int .i64 (p : Int)] 3)) 0
          have hkA : Hid (∀ k, k < W2.heap.size → (W2.alloc (.cells #[.int .i64 (p : Int)] 3)).drew.heap[k]? = W2.heap[k]?) := fun k hk => Below.heap_alloc W2 _ k hk
          have crA : (W2.alloc (.cells #[.int .i64 (p : Int)] 3)).cell? ⟨Rb, 0, none⟩ = some (.slice (some ⟨qg, 0, none⟩) l c) := (World.cell?_of_block (Below.heap_alloc W2 _ Rb (lt_of_heap hrb.out))).trans cr
          have crowA : (W2.alloc (.cells #[.int .i64 (p : Int)] 3)).cell? ⟨qg, m, none⟩ = some (.slice pm ln cm) := (World.cell?_of_block (a := ⟨qg, m, none⟩) (Below.heap_alloc W2 _ qg (hrd.out.row.block _ rfl).2)).trans crow
          have hfin : Hid (∀ g5 c5 W5, Own 3 0 W5 (some ⟨g5, 0, none⟩) (ln + 1) c5 (asI (Rm R m) ++ [(p : Int)]) → (W2.alloc (.cells #[.int .i64 (p : Int)] 3)).drew.grownBy W5 (pm.map (·.block)) → (pm.map (·.block) = some g5 ∨ g5 = (W2.alloc (.cells #[.int .i64 (p : Int)] 3)).drew.heap.size) →
              Pk F Rb Z w (W5.setCell ⟨qg, m, none⟩ (.slice (some ⟨g5, 0, none⟩) (ln + 1) c5)) ∧ Ps n who N gc fc (some ⟨b, o, none⟩) s Gb Wb Fb F Rb Z (W5.setCell ⟨qg, m, none⟩ (.slice (some ⟨g5, 0, none⟩) (ln + 1) c5)) (fupd far p m) (addR R m p)) := by
            intro g5 c5 W5 k1 k2 k3
            have hBA : Below W2.heap.size W2 (W2.alloc (.cells #[.int .i64 (p : Int)] 3)).drew := ((Below.refl _ W2).alloc (Nat.le_refl _) _).drew
            have hA := (hps.out.below hBA).app (by omega) (fun k hk => Nat.lt_of_lt_of_le (hZ2.out k hk) hBA.size) ((hkA.out Rb (lt_of_heap hrb.out)).trans hrb.out) (hrd.out.keep fun k hk _ => hkA.out k hk) hml (m := m) (g := g5) (c' := c5) (x := p) (W' := W5)
              (by rw [hrm.out, ← hlnn.out]; exact k1) (by rw [← hpm.out]; exact k2) (by rw [← hpm.out]; exact k3)
            rw [hrm.out, ← hlnn.out] at hA
            have he : (R ++ List.replicate j []).set m (Rm R m ++ [p]) = addR R m p := by rw [hjj.out]; rfl
            rw [he] at hA
            exact ⟨(hpk.out.trans ⟨hBA.os, hBA.tape, hBA.output, hBA.size, fun k hk _ _ => hBA.block k (hZ2.out k hk), hBA.size, fun k o h _ => (hBA.block k (lt_of_heap h)).trans h⟩).trans hA.2, hA.1⟩
          go_region_law (refine step_appendN intG (W2.alloc (.cells #[.int .i64 (p : Int)] 3)).drew (by rfl) _ _ (by rfl) 0 pm ln cm _ (by rfl) hownA.out (p : Int) W2.heap.size (by rfl) hcA.out (by omega) (Nat.zero_le _) ?_; intro g5 c5 W5 hO5 hg5 hor5; have hb5 := (hg5.block Rb (by simp; exact Nat.lt_succ_of_lt (lt_of_heap hrb.out)) (nmap hRbq.out)).trans ((hkA.out Rb (lt_of_heap hrb.out)).trans hrb.out); have cb5 := wcell (cs := [_]) hb5 0; simp only [List.getElem?_cons_zero] at cb5; have hq5 := (hg5.block qg (by simp; exact Nat.lt_succ_of_lt (hrd.out.row.block _ rfl).2) (nmap hqpm.out)).trans (hkA.out qg (hrd.out.row.block _ rfl).2); have cq5 := (World.cell?_of_block (a := ⟨qg, m, none⟩) hq5).trans crow; have fq5 : W5.frozen? ⟨qg, m, none⟩ = false := OwnC.free (k := 1) (hrd.out.row.keep (w' := W5) fun a ha => by injection ha with ha; subst ha; exact hq5) m; replace hb5 := Lib.hid hb5; replace hq5 := Lib.hid hq5; replace hO5 := Lib.hid hO5; replace hg5 := Lib.hid hg5; replace hor5 := Lib.hid hor5)
          all_goals
            refine bodyPost_end (results_none rfl _ _ _) rfl ?_
            have hF := hfin.out _ _ _ hO5.out hg5.out hor5.out
            exact ⟨rfl, hF.1, fun hn => absurd hn hno.out.out, fun _ => hF.2⟩
end
end Go.Proofs.Ytcibkchfdiijfaa
