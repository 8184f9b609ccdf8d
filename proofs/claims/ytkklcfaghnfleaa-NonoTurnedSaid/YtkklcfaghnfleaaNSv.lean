/- What nono.Clue, Solve and Push answer; conditions: one to six rows and columns, and that there is a picture with these clues. -/
import Derived.Test.YtkklcfaghnfleaaNNq
import Derived.Test.YtkklcfaghnfleaaNClu
namespace Go.Proofs.Ytkklcfaghnfleaa
open Go.RowKit

set_option maxHeartbeats 2000000 in
theorem ClueO_any (n lc : Nat) (lq : Option Addr) (s : List Nat) (w : World) (hn : n ≤ 20) (hs : ∀ x ∈ s, x ≤ 1) (hx : IntsIn w lq n (asI s)) :
    Calls Try.prog 7 #[.slice lq n lc] w fun r w' => ∃ q m c, r = .returned (.tuple #[.slice q m c, .int .i64 0]) ∧ m = (runs s).length ∧ Own 3 w.heap.size w' q m c (asI (runs s)) ∧ Below w.heap.size w w' := by
  have HL := Lib.hid (checkLine_any n lc lq (asI s) w hn (fun j _ => bits_rng hs j) hx)
  have HC := Lib.hid (contains_any lq n lc (asI s) (-1) w (by omega) hx)
  rw [bits_no] at HC
  have HK := Lib.hid (clue_any n lc lq s w hn hs hx)
  clear hx hs
  go_enter Try.func7, Try.ntmps7
  go_wp2_with fail
  refine HL.out.mono ?_
  rintro r w' ⟨rfl, rfl⟩
  go_wp2_with fail
  refine HC.out.mono ?_
  rintro r w' ⟨rfl, rfl⟩
  go_wp2_with fail
  refine HK.out.mono ?_
  rintro r w' ⟨q, m, c, rfl, hm, hO, hB⟩
  replace hm := Lib.hid hm; replace hO := Lib.hid hO; replace hB := Lib.hid hB
  go_wp2_with fail
  go_ret2
  exact ⟨q, m, c, rfl, hm.out, hO.out, hB.out⟩
theorem clu_of_rows {B : Nat} {w : World} {q : Option Addr} {n c : Nat} {ls : List (List Int)} {R : Nat → List Nat} (h : OwnRows 22 B w q n c ls) (hls : ∀ y, y < n → ls[y]? = some (asI (R y))) (hk : ∀ y, y < n → (R y).length ≤ 20) : Clu w.heap.size w q n R := fun y hy => by
  obtain ⟨vs, hO, hl, hr⟩ := h
  obtain ⟨p, m, c', hv, hx, hp⟩ := hr y _ (hls y hy)
  obtain ⟨g, rfl, hgB, hg, _⟩ := hO.where (by omega)
  have hm : (R y).length = m := by have := hx.len; rwa [asI_len] at this
  exact ⟨g, 0, p, m, c', rfl, hg, by rw [Nat.zero_add, hO.cell (by omega)]; exact hv, by rw [← hm]; exact hk y hy, hx, fun a ha => (hp a ha).2.2⟩
theorem Clu.ptr {B : Nat} {W : World} {q : Option Addr} {n : Nat} {R : Nat → List Nat} (h : Clu B W q n R) (hn : 0 < n) : ∃ b o, q = some ⟨b, o, none⟩ := by
  obtain ⟨b, o, _, _, _, e, _⟩ := h 0 hn
  exact ⟨b, o, e⟩
/-- what nono.Solve leaves. -/
def SolvedEnd (w : World) (n m : Nat) (R C : Nat → List Nat) (e : Ending) (W' : World) : Prop :=
  Below w.heap.size w W' ∧ ∃ (v : Nat) (q : Option Addr) (len k : Nat), e = .returned (.tuple #[.int .i64 (v : Nat), .slice q len k, .int .i64 0]) ∧ v = min 9 (cntP n m R C open0) ∧ (v = 1 → len = n * m ∧ ∃ s, s ∈ bitsL (n * m) ∧ slv n m R C open0 s = true ∧ IntsIn W' q (n * m) (asI s))
set_option maxHeartbeats 2000000 in
theorem Solve_any {w : World} {rq cq : Option Addr} {rc n cc m : Nat} {R C : Nat → List Nat} (hcr : Clu w.heap.size w rq n R) (hcc : Clu w.heap.size w cq m C) (hn : 1 ≤ n ∧ n ≤ 6) (hm : 1 ≤ m ∧ m ≤ 6)
    (hR : ∀ y, y < n → ∀ k ∈ R y, 1 ≤ k ∧ k ≤ 20) (hC : ∀ x, x < m → ∀ k ∈ C x, 1 ≤ k ∧ k ≤ 20) :
    Calls Try.prog 11 #[.slice rq n rc, .slice cq m cc, .int .i64 9] w (SolvedEnd w n m R C) := by
  obtain ⟨rb, ro, rfl⟩ := hcr.ptr (by omega)
  obtain ⟨qb, qo, rfl⟩ := hcc.ptr (by omega)
  have HN := Lib.hid (newPicture_any (rc := rc) (cc := cc) hcr hcc hn hm hR hC)
  have hn2 : 1 ≤ n ∧ n ≤ 20 := ⟨hn.1, by omega⟩
  have hm2 : 1 ≤ m ∧ m ≤ 20 := ⟨hm.1, by omega⟩
  have HS := Lib.hid (fun W1 pb cb kc g kp (h1 : Pc w.heap.size W1 pb n m (some ⟨rb, ro, none⟩) rc (some ⟨qb, qo, none⟩) cc cb kc g kp open0) (hb : Below w.heap.size w W1) => solve_any hn2 hm2 hR hC (opn n m open0 + 1) w.heap.size W1 pb cb kc g kp open0 9 (Nat.lt_succ_self _) h1 (open_vld n m) (hcr.below hb) (hcc.below hb) (by omega))
  clear hcr hcc hR hC hn hm hn2 hm2
  go_enter Try.func11, Try.ntmps11
  go_wp2_with fail
  refine HN.out.mono ?_
  rintro e W1 ⟨pb, cb, kc, g, kp, rfl, hP, hb1⟩
  have H2 := Lib.hid (HS.out W1 pb cb kc g kp hP hb1)
  replace hb1 := Lib.hid hb1
  clear HN HS hP
  go_wp2_with fail
  refine H2.out.mono ?_
  rintro e W2 ⟨hb2, v, q, len, k, rfl, hv, hs⟩
  have hbf := Lib.hid (hb1.out.trans hb2)
  have hv9 : v ≤ 9 := by omega
  replace hv := Lib.hid hv; replace hs := Lib.hid hs
  clear H2 hb2
  by_cases h1 : v = 1
  · subst h1
    go_wp2_with fail
    refine bodyPost_ret (v := .tuple #[.int .i64 1, .slice q len k, .int .i64 0]) (by simp [results, Try.results11, go_sem]) rfl ?_
    exact ⟨hbf.out, 1, q, len, k, rfl, hv.out, fun _ => hs.out (Nat.le_refl _)⟩
  · have h1i : ¬ (v : Int) = 1 := by omega
    have h1d : decide ((v : Int) = 1) = false := decide_eq_false h1i
    go_wp2_with fail
    refine bodyPost_ret (v := .tuple #[.int .i64 (v : Nat), .slice none 0 0, .int .i64 0]) (by simp [results, Try.results11, go_sem]) rfl ?_
    exact ⟨hbf.out, v, none, 0, 0, rfl, hv.out, fun h => absurd h h1⟩
/-- what nono.Push leaves. -/
def PushedEnd (w : World) (n m : Nat) (R C : Nat → List Nat) (e : Ending) (W' : World) : Prop :=
  Below w.heap.size w W' ∧ ∃ (q : Option Addr) (k : Nat) (c1 : Pic), e = .returned (.tuple #[.slice q (n * m) k, .int .i64 0]) ∧ Ps n m R C open0 c1 ∧ LinesOk n m R C c1 ∧ IntsIn W' q (n * m) (flatI n m c1)
set_option maxHeartbeats 2000000 in
theorem Push_any {w : World} {rq cq : Option Addr} {rc n cc m : Nat} {R C : Nat → List Nat} (hcr : Clu w.heap.size w rq n R) (hcc : Clu w.heap.size w cq m C) (hn : 1 ≤ n ∧ n ≤ 6) (hm : 1 ≤ m ∧ m ≤ 6)
    (hR : ∀ y, y < n → ∀ k ∈ R y, 1 ≤ k ∧ k ≤ 20) (hC : ∀ x, x < m → ∀ k ∈ C x, 1 ≤ k ∧ k ≤ 20) (gp : Pic) (hg : Good n m R C gp) :
    Calls Try.prog 12 #[.slice rq n rc, .slice cq m cc] w (PushedEnd w n m R C) := by
  obtain ⟨rb, ro, rfl⟩ := hcr.ptr (by omega)
  obtain ⟨qb, qo, rfl⟩ := hcc.ptr (by omega)
  have HN := Lib.hid (newPicture_any (rc := rc) (cc := cc) hcr hcc hn hm hR hC)
  have hn2 : 1 ≤ n ∧ n ≤ 20 := ⟨hn.1, by omega⟩
  have hm2 : 1 ≤ m ∧ m ≤ 20 := ⟨hm.1, by omega⟩
  have HS := Lib.hid (fun W1 pb cb kc g kp (h1 : Pc w.heap.size W1 pb n m (some ⟨rb, ro, none⟩) rc (some ⟨qb, qo, none⟩) cc cb kc g kp open0) (hb : Below w.heap.size w W1) => push_any h1 (open_vld n m) (hcr.below hb) (hcc.below hb) hn2 hm2 hR hC)
  have HK : Hid (∀ {W1 : World} {pb cb kc : Nat} {g kp : Nat → Nat} {c : Pic}, Pc w.heap.size W1 pb n m (some ⟨rb, ro, none⟩) rc (some ⟨qb, qo, none⟩) cc cb kc g kp c → Calls Try.prog 23 #[.slice (some ⟨cb, 0, none⟩) n kc] W1 fun e w' => ∃ q c', e = .returned (.slice q (n * m) c') ∧ Own 3 W1.heap.size w' q (n * m) c' (catI (rowL m c) n) ∧ Below W1.heap.size W1 w') := fun h => concat_any _ n m _ _ _ _ _ hn2 hm2 h.rows
  replace hg := Lib.hid hg
  clear hcr hcc hR hC hn hm hn2 hm2
  go_enter Try.func12, Try.ntmps12
  go_wp2_with fail
  refine HN.out.mono ?_
  rintro e W1 ⟨pb, cb, kc, g, kp, rfl, hP, hb1⟩
  have H2 := Lib.hid (HS.out W1 pb cb kc g kp hP hb1)
  replace hb1 := Lib.hid hb1
  clear HN HS hP
  go_wp2_with fail
  refine H2.out.mono ?_
  rintro e W2 ⟨hb2, hr⟩
  have hbf := Lib.hid (hb1.out.trans hb2)
  clear H2 hb2
  rcases hr with ⟨rfl, hno⟩ | ⟨rfl, g, kp, c1, hP, hS, hL⟩
  · exact absurd (hno gp hg.out fun y x hy hx => .inr ⟨rfl, hg.out.1 y x hy hx⟩) id
  · have k2 := hP.k2
    have H3 := Lib.hid (HK.out hP)
    rw [catI_flat] at H3
    have hsz := Lib.hid hbf.out.size
    replace hS := Lib.hid hS; replace hL := Lib.hid hL
    clear hP HK
    go_wp2_with fail
    refine H3.out.mono ?_
    rintro e W3 ⟨q, k, rfl, hO3, hb3⟩
    have hb4 := Lib.hid (hbf.out.trans (hb3.mono hsz.out))
    have hin := Lib.hid hO3.in
    clear H3 hO3 hb3
    go_wp2_with fail
    go_ret2
    exact ⟨hb4.out, q, k, c1, rfl, hS.out, hL.out, hin.out⟩
end Go.Proofs.Ytkklcfaghnfleaa
