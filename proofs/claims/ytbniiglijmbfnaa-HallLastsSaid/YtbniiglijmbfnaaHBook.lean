/- What hall.Book computes, whatever the lines; conditions: the slice's length fits its kind. -/
import Derived.Test.YtbniiglijmbfnaaHEnt
import Derived.ArgAppend
import Derived.Lib.SlBytesConst
namespace Go.Proofs.Ytbniiglijmbfnaa
open Go.RowKit

/-- the book at work: a row of the call's own, or HALL alone as it was laid. -/
def BRow (B g0 : Nat) (w : World) (q : Option Addr) (N c : Nat) (l : List Nat) : Prop := OwnC 5 1 B w q N c (bcs l) ∨ (q = some ⟨g0, 0, none⟩ ∧ N = 4 ∧ c = 4 ∧ l = hall ∧ CellsIn w q (bcs hall) ∧ B ≤ g0)
theorem BRow.len {B g0 N c : Nat} {w : World} {q : Option Addr} {l : List Nat} (h : BRow B g0 w q N c l) : l.length = N := by
  rcases h with h | ⟨_, rfl, _, rfl, _⟩
  · have := h.len; rw [bcs_len] at this; omega
  · rfl
theorem BRow.cap {B g0 N c : Nat} {w : World} {q : Option Addr} {l : List Nat} (h : BRow B g0 w q N c l) : N ≤ c := by
  rcases h with h | ⟨_, rfl, rfl, rfl, _⟩
  · exact h.cap
  · exact Nat.le_refl _
theorem BRow.cells {B g0 N c : Nat} {w : World} {q : Option Addr} {l : List Nat} (h : BRow B g0 w q N c l) : CellsIn w q (bcs l) := by
  rcases h with h | ⟨_, rfl, rfl, rfl, h, _⟩
  · exact OwnC.cells h
  · exact h
theorem BRow.below {B g0 N c : Nat} {w w' : World} {q : Option Addr} {l : List Nat} (h : BRow B g0 w q N c l) (hb : Below w.heap.size w w') : BRow B g0 w' q N c l := by
  rcases h with h | ⟨rfl, rfl, rfl, rfl, h, hB⟩
  · exact .inl (h.below hb (Nat.le_refl _))
  · exact .inr ⟨rfl, rfl, rfl, rfl, h.below hb, hB⟩
theorem wp_appendB {ops : Array Oper} {rest : List Oper} {o : Oper} {a : Act} {Q : Exit → Act → World → Prop} (w : World)
    (hg : o.guard = none) (s x : Operand) (hop : o.op = Op.call { callee := Callee.builtin Builtin.append, args := #[s, x], argTypes := #[23, 23] })
    (B g0 : Nat) (q : Option Addr) (n c : Nat) (l : List Nat) (hs : a.eval s = .slice q n c) (hb : BRow B g0 w q n c l) (ad : Addr) (m c2 : Nat) (es : List Nat) (hel : es.length = m) (hm : 1 ≤ m) (hin : CellsIn w (some ad) (bcs es)) (hx : a.eval x = .slice (some ad) m c2)
    (hn : n + m < 1099511627776) (hB : B ≤ w.heap.size) (w0 : World) (hw0 : Below B w0 w)
    (hK : ∀ p' c' w', OwnC 5 1 B w' p' (n + m) c' (bcs (l ++ es)) → Below B w0 w' → w.heap.size ≤ w'.heap.size → wpList Try.prog ops Q rest (a.put o.dst (.slice p' (n + m) c')) w') :
    wpList Try.prog ops Q (o :: rest) a w := by
  have hc : ∀ j u, (bcs es)[j]? = some u → w.cell? (ad.add j) = some u := fun j u hj => by
    obtain ⟨b, o', e, _, h⟩ := hin j u hj
    cases e
    rw [Addr.add_lit]; exact h
  rcases hb with h | ⟨rfl, rfl, rfl, rfl, h, hBg⟩
  · refine wp_appendLV el5 w hg s x hop B q n c _ hs h ad m c2 (bcs es) (by rw [bcs_len]; omega) (bcs_one es) hc hx hn hB fun p' c' w' hO hgr _ hz => hK p' c' w' (by rw [bcs_app]; exact hO) ?_ hz
    exact hw0.grown hgr hB (fun x hx => by
      cases q with
      | none => cases hx
      | some y => simp at hx; subst hx; exact (h.block y rfl).1)
  · obtain ⟨i0, hi, hz0, hz1, hz2⟩ := info_parts el5.info
    refine wpList_append_grows w hg s x 23 hop 5 i0 _ 1 1 el5.under hi hz0 hz1 hz2 rfl (by omega) (some ⟨g0, 0, none⟩) 4 4 (bcs hall) hs (fun h => by cases h) rfl (fun b hb j u hj => ?_) ad m c2 (bcs es) hx (by rw [bcs_len]; omega) hc (fun u hu => List.all_eq_true.1 (bcs_one es) u hu) (by omega) (by unfold maxLen; omega) (by omega) ?_
    · cases hb
      obtain ⟨b, o', e, _, h2⟩ := h j u hj
      cases e
      rw [Addr.add_lit]; exact h2
    · intro v' w' hO hgr
      have hshape : ∃ p' c', v' = .slice p' (4 + m) c' := by
        rcases hO.2 with ⟨hv, h0⟩ | ⟨g, cap, cur, hv, _⟩
        · omega
        · exact ⟨_, _, hv⟩
      obtain ⟨p', c', rfl⟩ := hshape
      refine hK p' c' w' (by rw [bcs_app]; exact OwnC.mono (B := w.heap.size) hO hB) (hw0.grown hgr hB (fun x hx => by cases hx)) hgr.size

/-- what Book tells. -/
def BookPost (ss : List ByteArray) (w : World) (e : Ending) (w' : World) : Prop := Below w.heap.size w w' ∧
  ((¬ ((∀ s ∈ ss, s.size ≤ 255) ∧ (book (ss.map bs)).length ≤ 4000) ∧ ∃ er : Int, (er = 1 ∨ er = 2) ∧ e = .returned (.tuple #[.slice none 0 0, .int .i64 er])) ∨
   ((∀ s ∈ ss, s.size ≤ 255) ∧ (book (ss.map bs)).length ≤ 4000 ∧ ∃ q c, e = .returned (.tuple #[.slice q (book (ss.map bs)).length c, .int .i64 0]) ∧ CellsIn w' q (bcs (book (ss.map bs))) ∧ (book (ss.map bs)).length ≤ c))
theorem flat_app (l r : List (List Nat)) : flat (l ++ r) = flat l ++ flat r := by
  induction l with
  | nil => rfl
  | cons x l ih => simp only [List.cons_append, flat, ih, List.append_assoc]
theorem book_take (ss : List ByteArray) (j : Nat) (h : j < ss.length) : book ((ss.take (j + 1)).map bs) = book ((ss.take j).map bs) ++ enc (bs ss[j]) := by
  unfold book
  rw [List.take_succ_eq_append_getElem h, List.map_append, flat_app, List.append_assoc]
  simp [flat]

theorem book_le (ss : List ByteArray) (j : Nat) : (book ((ss.take j).map bs)).length ≤ (book (ss.map bs)).length := by
  have e : ss.map bs = (ss.take j).map bs ++ (ss.drop j).map bs := by rw [← List.map_append, List.take_append_drop]
  rw [e]
  unfold book
  rw [flat_app, ← List.append_assoc]
  generalize hall ++ flat (List.map bs (List.take j ss)) = A
  simp
set_option maxRecDepth 100000 in
set_option maxHeartbeats 4000000 in
theorem book_any (p : Option Addr) (n c : Nat) (ss : List ByteArray) (w : World) (hn : n ≤ 9223372036854775807) (hl : ss.length = n) (hx : CellsIn w p (ss.map Value.string)) (hsz : ∀ s ∈ ss, s.size ≤ 9223372036854775807) :
    Calls Try.prog 4 #[.slice p n c] w (BookPost ss w) := by
  have kc := fun (W : World) (C : Array Value) (n c : Nat) => Lib.run_convert_bytes_const (P := Try.prog) W 23 5 C n c Try.underlying23 Try.underlying5
  have hget : Hid (∀ j (h : j < n), (ss.map Value.string)[j]? = some (.string (ss[j]'(by omega)))) := fun j h => by simp [show j < ss.length by omega]
  replace hl := Lib.hid hl
  replace hsz := Lib.hid hsz
  go_enter Try.func4, Try.ntmps4
  go_wp2_with fail
  go_loopg [11] n (fun gk iv W' => ∃ j : Nat, j ≤ n ∧ gk = n - j ∧ iv = .int .i64 j ∧ (∀ i (h : i < ss.length), i < j → (ss[i]).size ≤ 255) ∧ w = W')
  case atStart => exact ⟨0, by omega, by omega, rfl, fun i h h2 => absurd h2 (by omega), rfl⟩
  case round =>
    obtain ⟨j, hj, hgk, rfl, hle, rfl⟩ := hrel
    replace hgk := Lib.hid hgk; replace hle := Lib.hid hle
    by_cases hlt : j < n
    · obtain ⟨b, o, rfl, hb, hc⟩ := hx.at (by simp [hl.out]; omega)
      have hcj := hc j _ (hget.out j hlt)
      have hjs : j < ss.length := by have := hl.out; omega
      have hsj := hsz.out _ (List.getElem_mem hjs)
      obtain ⟨s, hs⟩ : ∃ s, ss[j] = s := ⟨_, rfl⟩
      rw [hs] at hcj hsj
      replace hs := Lib.hid hs; replace hget := Lib.hid hget.out
      clear hc
      replace hx := Lib.hid hx
      by_cases hbig : 255 < s.size
      · go_wp2_with fail
        go_ret2
        exact ⟨Below.refl _ _, .inl ⟨fun h => by have := h.1 _ (List.getElem_mem hjs); rw [hs.out] at this; omega, 1, .inl rfl, rfl⟩⟩
      · have hle2 : s.size ≤ 255 := by omega
        go_wp2_with fail
        have hgk := hgk.out
        go_roundg (n - (j + 1))
        case measure => omega
        case rel => exact ⟨j + 1, by omega, rfl, by go_num, fun i h h2 => by
          by_cases e : i = j
          · subst e; rw [hs.out]; exact hle2
          · exact hle.out i h (by omega), rfl⟩
    · have hall255 : Hid (∀ s ∈ ss, s.size ≤ 255) := fun s hs => by
        obtain ⟨i, hi, rfl⟩ := List.mem_iff_getElem.1 hs
        exact hle.out i hi (by have := hl.out; omega)
      replace hx := Lib.hid hx
      clear hle hgk hj
      go_wp2_with fail
      have hS0 : BRow w.heap.size w.heap.size (w.alloc (.cells #[.int .u8 72, .int .u8 65, .int .u8 76, .int .u8 76] 5 (4, 5))) (some ⟨w.heap.size, 0, none⟩) 4 4 (book ((ss.take 0).map bs)) := by
        refine .inr ⟨rfl, rfl, rfl, rfl, fun j v hj => ⟨w.heap.size, 0, rfl, by simp, ?_⟩, Nat.le_refl _⟩
        have h8 : (w.alloc (.cells #[.int .u8 72, .int .u8 65, .int .u8 76, .int .u8 76] 5 (4, 5))).heap[w.heap.size]? = some (.cells #[.int .u8 72, .int .u8 65, .int .u8 76, .int .u8 76] 5 (4, 5)) := heap_alloc_new w _
        rw [Nat.zero_add, cell_of_row _ _ j _ _ _ h8]
        match j, hj with
        | 0, hj => exact hj
        | 1, hj => exact hj
        | 2, hj => exact hj
        | 3, hj => exact hj
        | j + 4, hj => simp [bcs, hall] at hj
      have hB0 := Lib.hid ((Below.refl w.heap.size w).alloc (Nat.le_refl _) (.cells #[.int .u8 72, .int .u8 65, .int .u8 76, .int .u8 76] 5 (4, 5)))
      replace hS0 := Lib.hid hS0
      go_loopg [6, 23] n (fun gk bv iv W' => ∃ (j : Nat) (q : Option Addr) (N c' : Nat), j ≤ n ∧ gk = n - j ∧ iv = .int .i64 j ∧ bv = .slice q N c' ∧ BRow w.heap.size w.heap.size W' q N c' (book ((ss.take j).map bs)) ∧ Below w.heap.size w W' ∧ N ≤ 4000)
      case atStart => exact ⟨0, _, 4, 4, by omega, by omega, rfl, rfl, hS0.out, hB0.out, by omega⟩
      case round =>
        clear hS0 hB0 kc
        obtain ⟨k, q, M, c', hk, hgk, rfl, rfl, hR, hB, hM⟩ := hrel
        obtain ⟨W1, rfl⟩ : ∃ W1 : World, W1 = wr := ⟨_, rfl⟩
        replace hgk := Lib.hid hgk
        by_cases hlt : k < n
        · obtain ⟨b, o, rfl, hb, hc⟩ := hx.out.at (by simp [hl.out]; omega)
          have hcj := (hB.cell (p := ⟨b, o + k, none⟩) hb).trans (hc k _ (hget.out k hlt))
          have hks : k < ss.length := by have := hl.out; omega
          have hsk := hall255.out _ (List.getElem_mem hks)
          have hbt := Lib.hid (book_take ss k hks)
          obtain ⟨s, hs⟩ : ∃ s, ss[k] = s := ⟨_, rfl⟩
          rw [hs] at hcj hsk hbt
          have HE := Lib.hid (entry_any s W1 hsk)
          have hR' := Lib.hid hR
          have hwz : w.heap.size ≤ W1.heap.size := hB.size
          replace hs := Lib.hid hs; replace hB := Lib.hid hB
          generalize book ((ss.take k).map bs) = L at *
          have hML := Lib.hid hR'.out.len
          have hel := Lib.hid (enc_len (bs s))
          have hbl := Lib.hid (bs_len s)
          clear hc hR
          go_wp2_with fail
          refine HE.out.mono ?_
          rintro e w2 ⟨p2, c2, rfl, hO2, hB2⟩
          obtain ⟨g2, rfl, _, _, _⟩ := hO2.where (by omega)
          have hin := Lib.hid (OwnC.cells hO2)
          have hR2 := Lib.hid (hR'.out.below hB2)
          have hBB := Lib.hid (hB.out.trans (hB2.mono hB.out.size))
          have hz2 := hB2.size
          clear hO2 hB2 HE hcj
          go_upto_region 12 with (at_builtin; refine wp_appendB w2 rfl (.tmp 27) (.tmp 29) rfl w.heap.size w.heap.size q M c' L rfl hR2.out ⟨g2, 0, none⟩ (s.size + 4) c2 (enc (bs s)) ?_ ?_ hin.out rfl ?_ ?_ w hBB.out ?_; (rw [hel.out, hbl.out]); (omega); (omega); (omega); intro p3 c3 w3 hO3 hB3 hz3; rw [← hbt.out] at hO3; replace hO3 := Lib.hid hO3; replace hB3 := Lib.hid hB3)
          by_cases hbig : 4000 < M + (s.size + 4)
          · go_wp2_with fail
            go_ret2
            exact ⟨hB3.out, .inl ⟨fun h => by have h3 := hO3.out.len; rw [bcs_len] at h3; have h2 := book_le ss (k + 1); omega, 2, .inr rfl, rfl⟩⟩
          · have hsm : M + (s.size + 4) ≤ 4000 := by omega
            go_wp2_with fail
            have hgk := hgk.out
            go_roundg (n - (k + 1))
            case measure => omega
            case rel => exact ⟨k + 1, p3, M + (s.size + 4), c3, by omega, rfl, by go_num, rfl, .inl hO3.out, hB3.out, hsm⟩
        · have hke : ss.take k = ss := List.take_of_length_le (by have := hl.out; omega)
          rw [hke] at hR
          have hlen := Lib.hid hR.len
          replace hR := Lib.hid hR; replace hke := Lib.hid hke; replace hB := Lib.hid hB
          go_wp2_with fail
          go_ret2
          exact ⟨hB.out, .inr ⟨hall255.out, by rw [hlen.out]; exact hM, q, c', by rw [hlen.out]; rfl, hR.out.cells, by rw [hlen.out]; exact hR.out.cap⟩⟩
end Go.Proofs.Ytbniiglijmbfnaa
