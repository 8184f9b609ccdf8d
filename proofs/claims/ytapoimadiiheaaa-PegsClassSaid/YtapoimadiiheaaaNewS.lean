/- What slices.Clone and pegs.newSearch make; conditions: a board of 1 to 10 by 1 to 10 places. -/
import Derived.Test.YtapoimadiiheaaaJms
import Derived.Test.YtapoimadiiheaaaGre
import Derived.Lib.LazyBuf
namespace Go.Proofs.Ytapoimadiiheaaa
open Go.RowKit Go.Maps

set_option maxHeartbeats 400000 in
theorem clone_any (p : Option Addr) (n c : Nat) (xs : List Int) (w : World) (hn : n < 1099511627776) (hx : IntsIn w p n xs) :
    Calls Try.prog 22 #[.slice p n c] w fun e w' => ∃ p' c', e = .returned (.slice p' n c') ∧ Own 3 w.heap.size w' p' n c' xs ∧ Below w.heap.size w w' := by
  have hl := hx.len
  have he := fun W : World => run_eql_slice_nil (P := Try.prog) W 22 3 p n c Try.underlying22
  cases p with
  | none =>
    have h0 : n = 0 := by
      rcases Nat.eq_zero_or_pos n with h | h
      · exact h
      · obtain ⟨b, o, e, _⟩ := hx.at h; cases e
    subst h0
    have hxs : Hid (xs = []) := List.eq_nil_of_length_eq_zero hl
    clear hx hl
    go_enter Try.func22, Try.ntmps22
    go_wp2
    go_ret
    exact ⟨none, 0, rfl, by rw [hxs.out]; exact Own.nil _ _ _, Below.refl _ _⟩
  | some ad =>
    have hin := Lib.hid (hx.alloc (.cells #[] 3))
    clear hx
    replace hl := Lib.hid hl
    go_enter Try.func22, Try.ntmps22
    go_wp2_with (at_builtin; refine wp_appendL intG _ rfl _ _ rfl w.heap.size _ 0 0 [] rfl (Own.empty 3 w) ad n c xs rfl hin.out (by omega) (by simp) ?_; intro p' c' w2 hO hg _ hz)
    have hB : Below w.heap.size w w2 := ((Below.refl _ w).alloc (Nat.le_refl _) _).grown hg (by simp) (fun x hx => by cases hx; exact Nat.le_refl _)
    replace hO := Lib.hid hO; replace hB := Lib.hid hB
    clear hg hz
    go_wp2
    go_ret
    exact ⟨p', c', by simp, by simpa using hO.out, hB.out⟩

/-- all blocks of w are as they were. -/
def Bw (w X : World) : Prop := Below w.heap.size w X
theorem Bw.refl (w : World) : Bw w w := Below.refl _ _
theorem Bw.trans {a b c : World} (h : Bw a b) (k : Bw b c) : Bw a c := Below.trans h (Below.mono k (Below.size h))
theorem Bw.alloc {w X : World} (h : Bw w X) (o : Obj) : Bw w (X.alloc o) := Below.alloc h (Below.size h) o
theorem Bw.drew {w X : World} (h : Bw w X) : Bw w X.drew := Below.drew h
theorem trd_of {n : Nat} {X : World} {mb : Nat} (h : X.heap[mb]? = some (.map #[] 0)) : TrdM n X mb [] := by
  obtain ⟨D, ⟨es, clock, hb, hr⟩, h2⟩ := trd_made n X
  refine ⟨D, ⟨es, clock, ?_, hr⟩, h2⟩
  rw [heap_alloc_new] at hb
  rw [h, hb]
/-- the parts of a search, each in blocks of its own from B on. -/
structure SrP (B : Nat) (w : World) (g cg : Nat) (n : Nat) (s : List Nat) (qa : Option Addr) (m : Nat) (J : List Jm) (mb : Nat) (ks : List (List Nat)) : Prop where
  own : Own 3 B w (some ⟨g, 0, none⟩) n cg (asI s)
  all : JIn B w qa m J
  trd : TrdM n w mb ks
  mbB : B ≤ mb
  ne1 : g ≠ mb
  ne2 : ∀ a, qa = some a → 0 < m → a.block ≠ g ∧ a.block ≠ mb
/-- what newSearch hands back. -/
def NewP (w X : World) (a b n : Nat) (s : List Nat) (v : Value) : Prop := ∃ sb g cg qa m ca J mb, v = .pointer (some ⟨sb, 0, none⟩) ∧
  X.heap[sb]? = some (.cells #[.slice (some ⟨g, 0, none⟩) n cg, .slice qa m ca, .map (some mb)] 52 (0, 0)) ∧ SrP w.heap.size X g cg n s qa m J mb [] ∧ g < sb ∧ mb < sb ∧ (∀ a, qa = some a → 0 < m → a.block < sb) ∧ J.Perm (allJ a b s n) ∧ m ≤ 400
theorem new_leaf {w w6 w7 X : World} {a b n c6 c7 m B6 B7 sb mb : Nat} {s : List Nat} {p6 p7 : Option Addr} {J : List Jm} (hn1 : 0 < n) (hO : Own 3 B6 w6 p6 n c6 (asI s)) (hB6 : w.heap.size ≤ B6) (h67 : Bw w6 w7) (hJ : JIn B7 w7 p7 m J) (hB7 : w6.heap.size ≤ B7) (h7X : Bw w7 X)
    (hsb : X.heap[sb]? = some (.cells #[.slice p6 n c6, .slice p7 m c7, .map (some mb)] 52 (0, 0))) (hsn : w7.heap.size ≤ sb) (hmb : X.heap[mb]? = some (.map #[] 0)) (hmB : w.heap.size ≤ mb) (hms : mb < sb) (hP : J.Perm (allJ a b s n)) (hm : m ≤ 400) : NewP w X a b n s (.pointer (some ⟨sb, 0, none⟩)) := by
  have hOX : Own 3 B6 X p6 n c6 (asI s) := hO.keep fun x hx => ((h67.trans h7X).block _ (hO.block x hx).2)
  obtain ⟨g, rfl, hgB, _, _⟩ := OwnC.where (k := 1) hO hn1
  have hg6 := (hO.block _ rfl).2
  simp only at hg6
  have hs67 := Below.size h67
  have hJX : JIn B7 X p7 m J := hJ.below h7X
  have ne1 : g ≠ mb := fun e => by
    subst e
    have := Own.cell hOX hn1
    simp [World.cell?, hmb] at this
  refine ⟨sb, g, c6, p7, m, c7, J, mb, rfl, hsb, ⟨?_, ?_, trd_of hmb, hmB, ne1, ?_⟩, by omega, hms, ?_, hP, hm⟩
  · exact OwnC.mono (k := 1) hOX hB6
  · refine ⟨hJX.1, fun i hi => ?_⟩
    obtain ⟨g2, j, h1, h2, h3⟩ := hJX.2 i hi
    have := (hO.block _ rfl).1
    exact ⟨g2, j, h1, by simp only at this; omega, h3⟩
  · intro x hx h0
    obtain ⟨g2, j, h1, h2, h3, _, k1, _⟩ := hJX.2 0 h0
    rw [h1] at hx
    cases hx
    refine ⟨by simp only; omega, fun e => ?_⟩
    simp only at e
    subst e
    simp [World.cell?, hmb] at k1
  · intro x hx h0
    obtain ⟨g2, j, h1, h2, h3, _⟩ := hJ.2 0 h0
    rw [h1] at hx
    cases hx
    simp only; omega
set_option maxHeartbeats 8000000 in
theorem new_any (a b n c : Nat) (q : Option Addr) (s : List Nat) (w : World) (ha1 : 1 ≤ a) (ha : a ≤ 10) (hb1 : 1 ≤ b) (hb : b ≤ 10) (hn : n = a * b) (hx : IntsIn w q n (asI s)) :
    Calls Try.prog 16 #[.agg #[.int .i64 (a : Int), .int .i64 (b : Int), .slice q n c]] w fun e w' => ∃ v, e = .returned v ∧ NewP w w' a b n s v ∧ Below w.heap.size w w' := by
  have hn100 : n ≤ 100 := by rw [hn]; exact Nat.mul_le_mul ha hb
  have hn1 : 0 < n := by rw [hn]; exact Nat.mul_pos (by omega) (by omega)
  have e0 := heap_alloc_new w (.cells #[.int .i64 (a : Int), .int .i64 (b : Int), .slice q n c] 24)
  have hB0 := ((Below.refl w.heap.size w).alloc (Nat.le_refl _) (.cells #[.int .i64 (a : Int), .int .i64 (b : Int), .slice q n c] 24))
  have hx0 := Lib.hid (hx.alloc (.cells #[.int .i64 (a : Int), .int .i64 (b : Int), .slice q n c] 24))
  obtain ⟨w0, hw0⟩ : ∃ w0, w0 = w.alloc (.cells #[.int .i64 (a : Int), .int .i64 (b : Int), .slice q n c] 24) := ⟨_, rfl⟩
  rw [← hw0] at e0 hB0 hx0
  have hs0 : w0.heap.size = w.heap.size + 1 := by rw [hw0]; simp
  have K1 : Hid (∀ W : World, Bw w0 W → Calls Try.prog 22 #[.slice q n c] W fun e w' => ∃ p' c', e = .returned (.slice p' n c') ∧ Own 3 W.heap.size w' p' n c' (asI s) ∧ Bw W w' ∧ Bw w0 w') := fun W hW =>
    (clone_any q n c (asI s) W (by omega) (hx0.out.below hW)).mono fun e w' ⟨p', c', h1, h2, h3⟩ => ⟨p', c', h1, h2, h3, hW.trans h3⟩
  have K2 : Hid (∀ W : World, Bw w0 W → Calls Try.prog 23 #[.agg #[.int .i64 (a : Int), .int .i64 (b : Int), .slice q n c]] W fun e w' => ∃ p m cc J, e = .returned (.slice p m cc) ∧ m ≤ 400 ∧ JIn (W.heap.size + 1) w' p m J ∧ J.Perm (allJ a b s n) ∧ Bw W w' ∧ Bw w0 w') := fun W hW =>
    (jumps_any a b n c q s W ha1 ha hb hn (hx0.out.below hW)).mono fun e w' ⟨p, m, cc, J, h1, h2, h3, h4, h5⟩ => ⟨p, m, cc, J, h1, h2, h3, h4, h5, hW.trans h5⟩
  have d0 : w0.cell? ⟨w.heap.size, 0, none⟩ = some (.int .i64 (a : Int)) := wcell (cs := [_, _, _]) e0 0
  have d1 : w0.cell? ⟨w.heap.size, 1, none⟩ = some (.int .i64 (b : Int)) := wcell (cs := [_, _, _]) e0 1
  have d2 : w0.cell? ⟨w.heap.size, 2, none⟩ = some (.slice q n c) := wcell (cs := [_, _, _]) e0 2
  have hlt : w.heap.size < w0.heap.size := by omega
  replace hn := Lib.hid hn; replace hs0 := Lib.hid hs0; replace hB0 := Lib.hid hB0; replace e0 := Lib.hid e0
  clear hx hx0
  have hmm := @run_makeMap Try.prog
  go_enter Try.func16, Try.ntmps16
  go_upto_region 1 with fail
  rw [← hw0]
  clear hw0
  have r0 : Bw w0 w0.drew := (Bw.refl w0).drew
  go_cut [2] (fun v X => NewP w X a b n s v ∧ Bw w0 X)
  case first =>
    go_region_held3 (fun w' => w'.cell? ⟨w.heap.size, 0, none⟩ = some (.int .i64 (a : Int)) ∧ w'.cell? ⟨w.heap.size, 1, none⟩ = some (.int .i64 (b : Int)) ∧ w'.cell? ⟨w.heap.size, 2, none⟩ = some (.slice q n c)) (first | with_reducible exact ⟨d0, d1, d2⟩ | with_reducible exact ⟨d0', d1', d2'⟩ | go_keep)
      (first
      | (go_at_call 22; (with_reducible refine (K1.out _ ?_).mono ?_); (with_reducible (repeat' (first | exact Bw.refl _ | exact hb7 | exact hb6 | refine Bw.alloc ?_ _ | refine Bw.drew ?_))); rintro e w6 ⟨p6, c6, rfl, hO6, hB6, hb6⟩; have d0' : w6.cell? ⟨w.heap.size, 0, none⟩ = some (.int .i64 (a : Int)) := (Below.cell (p := ⟨w.heap.size, 0, none⟩) hb6 hlt).trans d0; have d1' : w6.cell? ⟨w.heap.size, 1, none⟩ = some (.int .i64 (b : Int)) := (Below.cell (p := ⟨w.heap.size, 1, none⟩) hb6 hlt).trans d1; have d2' : w6.cell? ⟨w.heap.size, 2, none⟩ = some (.slice q n c) := (Below.cell (p := ⟨w.heap.size, 2, none⟩) hb6 hlt).trans d2; replace hO6 := Lib.hid hO6)
      | (go_at_call 23; (with_reducible refine (K2.out _ ?_).mono ?_); (with_reducible (repeat' (first | exact Bw.refl _ | exact hb6 | exact hb7 | refine Bw.alloc ?_ _ | refine Bw.drew ?_))); rintro e w7 ⟨p7, m7, c7, J7, rfl, hm7, hJ7, hP7, hB7, hb7⟩; have d0' : w7.cell? ⟨w.heap.size, 0, none⟩ = some (.int .i64 (a : Int)) := (Below.cell (p := ⟨w.heap.size, 0, none⟩) hb7 hlt).trans d0; have d1' : w7.cell? ⟨w.heap.size, 1, none⟩ = some (.int .i64 (b : Int)) := (Below.cell (p := ⟨w.heap.size, 1, none⟩) hb7 hlt).trans d1; have d2' : w7.cell? ⟨w.heap.size, 2, none⟩ = some (.slice q n c) := (Below.cell (p := ⟨w.heap.size, 2, none⟩) hb7 hlt).trans d2; replace hJ7 := Lib.hid hJ7; replace hP7 := Lib.hid hP7; replace hm7 := Lib.hid hm7))
    · go_wp2_with fail
      go_meet
      have hX : Bw w7 ((w7.alloc (.map #[] 0)).alloc (.cells #[.slice p6 n c6, .slice p7 m7 c7, .map (some w7.heap.size)] 52)) := ((Bw.refl w7).alloc _).alloc _
      have hs1 : w.heap.size ≤ w0.heap.size := by have := hs0.out; omega
      have hs2 : w0.heap.size ≤ w6.heap.size := Below.size hb6
      have h67 : Bw w6 w7 := hB7
      have hs3 : w6.heap.size ≤ w7.heap.size := Below.size h67
      exact ⟨new_leaf (c7 := c7) (mb := w7.heap.size) (sb := w7.heap.size + 1) hn1 hO6.out (hs1) h67 hJ7.out (Nat.le_succ _) hX (by have := heap_alloc_new (w7.alloc (.map #[] 0)) (.cells #[.slice p6 n c6, .slice p7 m7 c7, .map (some w7.heap.size)] 52); rw [World.size_alloc] at this; exact this) (by omega) ((Below.heap_alloc _ _ _ (by simp)).trans (heap_alloc_new w7 _)) (by omega) (by omega) hP7.out hm7.out, hb7.trans hX⟩
    · go_wp2_with fail
      go_meet
      have hX : Bw w7 (w7.alloc (.cells #[.slice p6 n c6, .slice p7 m7 c7, .map (some w6.heap.size)] 52)) := (Bw.refl w7).alloc _
      have hs1 : w.heap.size ≤ w0.heap.size := by have := hs0.out; omega
      have hs2 : w0.heap.size ≤ w6.heap.size := Below.size hb6
      have h67 : Bw w6 w7 := ((Bw.refl w6).alloc (.map #[] 0)).trans hB7
      have hs3 : w6.heap.size ≤ w7.heap.size := Below.size h67
      have hs4 : w6.heap.size + 1 ≤ w7.heap.size := by have := Below.size hB7; simpa using this
      exact ⟨new_leaf (c7 := c7) (mb := w6.heap.size) (sb := w7.heap.size) hn1 hO6.out (hs1) h67 hJ7.out (by first | omega | (simp; omega)) hX (heap_alloc_new w7 _) (by omega) ((Below.heap_alloc _ _ _ (by omega)).trans ((Below.block hB7 _ (by simp)).trans (heap_alloc_new w6 _))) (by omega) (by omega) hP7.out hm7.out, hb7.trans hX⟩
    · go_wp2_with fail
      go_meet
      have hX : Bw w7 (w7.alloc (.cells #[.slice p6 n c6, .slice p7 m7 c7, .map (some w0.heap.size)] 52)) := (Bw.refl w7).alloc _
      have hs1 : w.heap.size ≤ w0.heap.size := by have := hs0.out; omega
      have hs2 : w0.heap.size ≤ w6.heap.size := Below.size hb6
      have h67 : Bw w6 w7 := hB7
      have hs3 : w6.heap.size ≤ w7.heap.size := Below.size h67
      have hs4 : w0.heap.size + 1 ≤ w6.heap.size := by have := Below.size hB6; simpa using this
      exact ⟨new_leaf (c7 := c7) (mb := w0.heap.size) (sb := w7.heap.size) hn1 hO6.out (by first | (exact hs1) | (simp; omega)) h67 hJ7.out (Nat.le_succ _) hX (heap_alloc_new w7 _) (by omega) ((Below.heap_alloc _ _ _ (by omega)).trans ((Below.block hB7 _ (by omega)).trans ((Below.block hB6 _ (by simp)).trans (heap_alloc_new w0.drew _)))) (by omega) (by omega) hP7.out hm7.out, hb7.trans hX⟩
  case rest =>
    obtain ⟨hN, hB⟩ := hcut
    replace hN := Lib.hid hN; replace hB := Lib.hid hB
    go_wp2_with fail
    go_ret
    exact ⟨_, rfl, hN.out, hB0.out.trans (Below.mono hB.out (by have := hs0.out; omega))⟩
end Go.Proofs.Ytapoimadiiheaaa
