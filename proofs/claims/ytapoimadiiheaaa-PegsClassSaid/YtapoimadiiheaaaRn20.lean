/- What (search).run does with closure number 20: it goes through all that comes of jumps as the plain search does; conditions: at most 7 pegs, at most 100 places. -/
import Derived.Test.YtapoimadiiheaaaRnQ
namespace Go.Proofs.Ytapoimadiiheaaa
open Go.RowKit Go.Maps

set_option maxHeartbeats 8000000 in
set_option maxRecDepth 100000 in
theorem run20 {α : Type} (P : Pm) (eb : Nat → Prop) (env0 env1 : World → α → Prop) (D : List Nat → List Jm → α → α × Bool) (s0 : List Nat) (b7 b3 b6 b8 : Nat) (N : Nat) (ok : PmOk P eb)
    (H0 : ∀ W W' a, env0 W a → W.heap.size ≤ W'.heap.size → (∀ k, eb k → W'.heap[k]? = W.heap[k]?) → env0 W' a) (H1b : ∀ W W' a, env1 W a → Bw W W' → env1 W' a) (H1g : ∀ W W' a, env1 W a → P.R ≤ W.heap.size → W.grownBy W' (some P.g) → env1 W' a)
    (hdone : ∀ (W : World) (s : List Nat) (ks : List (List Nat)) (acc : α) (row : List Jm) (p : Option Addr) (nr cr : Nat), RS0 P W s ks → env0 W acc → OwnJ P.R W p nr cr row → Rch P.J s0 s → Bd P.n s → row.length + cnt1 s = N →
      Calls Try.prog 20 #[.slice p nr cr, .pointer (some ⟨b7, 0, none⟩), .pointer (some ⟨b3, 0, none⟩), .pointer (some ⟨b6, 0, none⟩), .pointer (some ⟨b8, 0, none⟩)] W fun e W' => e = .returned (.bool (D s row acc).2) ∧ ((D s row acc).2 = false → env0 W' (D s row acc).1) ∧ ((D s row acc).2 = true → env1 W' (D s row acc).1) ∧ Kept eb W W') (hN : N ≤ 1000) :
    ∀ (f : Nat) (s : List Nat) (ks : List (List Nat)) (acc : α) (row : List Jm) (p : Option Addr) (nr cr : Nat) (W : World), cnt1 s < f → Bd P.n s → RS0 P W s ks → env0 W acc → OwnJ P.R W p nr cr row → Rch P.J s0 s → row.length + cnt1 s = N → ks.length + Bc (cnt1 s) ≤ 2000000000000000000 →
      Calls Try.prog 17 #[.pointer (some ⟨P.sb, 0, none⟩), .slice p nr cr, .func (.func 20) #[] #[.pointer (some ⟨b7, 0, none⟩), .pointer (some ⟨b3, 0, none⟩), .pointer (some ⟨b6, 0, none⟩), .pointer (some ⟨b8, 0, none⟩)]] W fun e W' => e = .returned (.bool (runS D P.J f s row (ks, acc)).2) ∧ PostR P eb env0 env1 W W' s row p nr cr (runS D P.J f s row (ks, acc)) := by
  intro f
  induction f with
  | zero => intro s ks acc row p nr cr W hf; exact absurd hf (by omega)
  | succ f ih =>
    intro s ks acc row p nr cr W hf hbd hrs henv hrow hrch hcnt hbnd
    have hrun : runS D P.J (f + 1) s row (ks, acc) = if (D s row acc).2 then ((ks, (D s row acc).1), true) else if s ∈ ks then ((ks, (D s row acc).1), false) else runL (runS D P.J f) s row P.J (s :: ks, (D s row acc).1) := rfl
    have hnr : nr ≤ 1000 := by have := hrow.len; omega
    have hD := Lib.hid (hdone W s ks acc row p nr cr hrs henv hrow hrch hbd hcnt)
    have ih := Lib.hid ih
    obtain ⟨sb, g, cg, n, m, ca, mb, B, R, qa, J⟩ := P
    simp only at *
    have hok := Lib.hid ok
    have hn100 := ok.n100
    simp only at hn100
    clear hdone ok
    have hebR : ∀ k, eb k → k < R := hok.out.ebR
    replace hebR := Lib.hid hebR
    generalize hDe : D s row acc = de at *
    obtain ⟨acc1, dn⟩ := de
    simp only at hrun hD
    replace hDe := Lib.hid hDe
    replace H0 := Lib.hid H0; replace H1b := Lib.hid H1b; replace H1g := Lib.hid H1g
    replace hbd := Lib.hid hbd; replace hrs := Lib.hid hrs; replace henv := Lib.hid henv; replace hrow := Lib.hid hrow; replace hrch := Lib.hid hrch; replace hcnt := Lib.hid hcnt; replace hbnd := Lib.hid hbnd; replace hf := Lib.hid hf
    cases dn with
    | true =>
      rw [if_pos rfl] at hrun
      rw [hrun]
      clear hrun
      go_enter Try.func17, Try.ntmps17
      go_wp2_with (go_at_call 20; refine hD.out.mono ?_; rintro e w1 ⟨rfl, _, hy, hk⟩; replace hy := Lib.hid hy; replace hk := Lib.hid hk)
      go_ret
      refine ⟨rfl, ⟨hrs.out.far hok.out (fun k h _ => h) hk.out, fun h => by simp at h, fun _ => hy.out trivial, hk.out.weak fun k _ h => .inr (.inr (.inr h))⟩⟩
    | false =>
      rw [if_neg (by simp)] at hrun
      generalize runS D J (f + 1) s row (ks, acc) = r at *
      replace hrun := Lib.hid hrun
      go_enter Try.func17, Try.ntmps17
      go_upto_region 3 with (go_at_call 20; refine hD.out.mono ?_; rintro e w1 ⟨rfl, hy, _, hk⟩; replace hy := Lib.hid hy; replace hk := Lib.hid hk)
      have hrs1 : Hid (RS0 (⟨sb, g, cg, n, m, ca, mb, B, R, qa, J⟩ : Pm) w1 s ks) := hrs.out.far hok.out (fun k h _ => h) hk.out
      have henv1 : Hid (env0 w1 acc1) := hy.out trivial
      have hrow1 : Hid (OwnJ R w1 p nr cr row) := row_kept (P := (⟨sb, g, cg, n, m, ca, mb, B, R, qa, J⟩ : Pm)) hrow.out hk.out hebR.out
      have hkp1 : Hid (Kept (FrS (⟨sb, g, cg, n, m, ca, mb, B, R, qa, J⟩ : Pm) eb p) W w1) := hk.out.weak fun k _ h => .inr (.inr (.inr h))
      have c0 : w1.cell? ⟨sb, 0, none⟩ = some (.slice (some ⟨g, 0, none⟩) n cg) := wcell (cs := [_, _, _]) hrs1.out.hd 0
      have HN := Lib.hid (name_any n cg sb (some ⟨g, 0, none⟩) s w1 hn100 (lt_of_heap hrs1.out.hd) c0 hrs1.out.own.in hbd.out.2)
      clear hD hy hk hrs henv hrow c0
      go_upto_region 4 with (go_at_call 30; refine HN.out.mono ?_; rintro e w2 ⟨rfl, hB2⟩; replace hB2 := Lib.hid hB2)
      have hbw : Hid (Bw w1 w2) := hB2.out
      have hrs2 : Hid (RS0 (⟨sb, g, cg, n, m, ca, mb, B, R, qa, J⟩ : Pm) w2 s ks) := hrs1.out.bw hok.out hbw.out
      have henv2 : Hid (env0 w2 acc1) := H0.out _ _ _ henv1.out (Below.size hbw.out) fun k hk => Below.block hbw.out k (Nat.lt_of_lt_of_le (hebR.out k hk) hrs1.out.sz)
      have hrow2 : Hid (OwnJ R w2 p nr cr row) := row_bw (P := (⟨sb, g, cg, n, m, ca, mb, B, R, qa, J⟩ : Pm)) hrow1.out hbw.out
      have hkp2 : Hid (Kept (FrS (⟨sb, g, cg, n, m, ca, mb, B, R, qa, J⟩ : Pm) eb p) W w2) := hkp1.out.trans (Kept.ofBelow hbw.out)
      clear hrs1 henv1 hrow1 hkp1 HN hB2 hbw
      have c2 : w2.cell? ⟨sb, 2, none⟩ = some (.map (some mb)) := wcell (cs := [_, _, _]) hrs2.out.hd 2
      have hlook := hrs2.out.trd.look hn100 hbd.out
      by_cases hmem : s ∈ ks
      · rw [decide_eq_true hmem] at hlook
        have hre : Hid (r = ((ks, acc1), false)) := by show _ = _; rw [hrun.out, if_pos hmem]
        clear hrun
        replace hmem := Lib.hid hmem
        go_wp2_with fail
        go_ret
        rw [hre.out]
        exact ⟨rfl, ⟨hrs2.out, fun _ => ⟨henv2.out, hrow2.out⟩, fun h => by simp at h, hkp2.out⟩⟩
      · rw [decide_eq_false hmem] at hlook
        replace hrun : Hid (r = runL (runS D J f) s row J (s :: ks, acc1)) := by show _ = _; rw [hrun.out, if_neg hmem]
        have hks : Hid (ks.length + Bc (cnt1 s) ≤ 2000000000000000000) := hbnd.out
        obtain ⟨w3, hup, ht3, hg3⟩ := hrs2.out.trd.put hn100 hbd.out hmem (by have := hks.out; omega)
        replace ht3 := Lib.hid ht3; replace hg3 := Lib.hid hg3; replace hmem := Lib.hid hmem
        have hrs3 : Hid (RS0 (⟨sb, g, cg, n, m, ca, mb, B, R, qa, J⟩ : Pm) w3 s (s :: ks)) := hrs2.out.put hok.out ht3.out hg3.out
        have henv3 : Hid (env0 w3 acc1) := H0.out _ _ _ henv2.out hg3.out.size fun k hk => hg3.out.block k (Nat.lt_of_lt_of_le (hebR.out k hk) hrs2.out.sz) (by intro e; injection e with e; exact (hok.out.ebn k hk).2.2 e)
        have hrow3 : Hid (OwnJ R w3 p nr cr row) := row_grown (P := (⟨sb, g, cg, n, m, ca, mb, B, R, qa, J⟩ : Pm)) hrow2.out hg3.out hok.out.mbR
        have hkp3 : Hid (Kept (FrS (⟨sb, g, cg, n, m, ca, mb, B, R, qa, J⟩ : Pm) eb p) W w3) := hkp2.out.trans ((Kept.ofGrown hg3.out).weak fun k _ e => .inr (.inl (by injection e)))
        have c1 : w3.cell? ⟨sb, 1, none⟩ = some (.slice qa m ca) := wcell (cs := [_, _, _]) hrs3.out.hd 1
        clear hrs2 henv2 hrow2 hkp2 ht3 hg3
        have hJm : Hid (J.length = m) := hrs3.out.all.1
        have hm400 : m ≤ 400 := hok.out.m400
        go_wp2_with fail
        clear c2 hlook hup c1
        go_loopg [32] m (fun gk iv W' => ∃ (i : Nat) (z : List (List Nat) × α), i ≤ m ∧ gk = m - i ∧ iv = .int .i64 i ∧ RndR (⟨sb, g, cg, n, m, ca, mb, B, R, qa, J⟩ : Pm) eb env0 f D W W' s row p nr cr i ks.length (s :: ks, acc1) z)
        case atStart => exact ⟨0, (s :: ks, acc1), Nat.zero_le _, rfl, rfl, ⟨rfl, hrs3.out, henv3.out, hrow3.out, hkp3.out, by simp⟩⟩
        case round =>
          obtain ⟨i, z, him, hgk, rfl, hR⟩ := hrel
          obtain ⟨W4, rfl⟩ : ∃ W4 : World, W4 = wr := ⟨_, rfl⟩
          replace hgk := Lib.hid hgk; replace hR := Lib.hid hR
          clear hrs3 henv3 hrow3 hkp3
          by_cases hlt : i < m
          · obtain ⟨kz, az⟩ := z
            obtain ⟨ga, j, rfl, _, hga, hJi, k0, k1, k2⟩ := hR.out.rs.all.2 i hlt
            simp only at hga hJi
            have hstep := RndR.step hR.out hJi
            simp only at hstep
            have hjm : j ∈ J := List.mem_of_getElem? hJi
            have hw := hok.out.wf j hjm
            simp only at hw
            have hbl := hR.out.rs.sz
            simp only at hbl
            have k0' : W4.cell? ⟨ga, i * 3, none⟩ = some (.int .i64 (j.1 : Int)) := by rw [Nat.mul_comm]; exact k0
            have k1' : W4.cell? ⟨ga, i * 3 + 1, none⟩ = some (.int .i64 (j.2.1 : Int)) := by rw [Nat.mul_comm]; exact k1
            have k2' : W4.cell? ⟨ga, i * 3 + 2, none⟩ = some (.int .i64 (j.2.2 : Int)) := by rw [Nat.mul_comm]; exact k2
            replace hJi := Lib.hid hJi; replace hjm := Lib.hid hjm; replace hw := Lib.hid hw
            have hcanle : Hid (canJ s j = true → st s j.1 ≤ 1 ∧ st s j.2.1 ≤ 1 ∧ st s j.2.2 ≤ 1) := fun h => can_le h
            have e5 := heap_alloc_new W4 (.cells #[.int .i64 (j.1 : Int), .int .i64 (j.2.1 : Int), .int .i64 (j.2.2 : Int)] 54)
            have hbw5 : Hid (Bw W4 (W4.alloc (.cells #[.int .i64 (j.1 : Int), .int .i64 (j.2.1 : Int), .int .i64 (j.2.2 : Int)] 54))) := (Bw.refl W4).alloc _
            have hrs5 : Hid (RS0 (⟨sb, g, cg, n, m, ca, mb, B, R, some ⟨ga, 0, none⟩, J⟩ : Pm) (W4.alloc (.cells #[.int .i64 (j.1 : Int), .int .i64 (j.2.1 : Int), .int .i64 (j.2.2 : Int)] 54)) s kz) := hR.out.rs.bw hok.out hbw5.out
            have HC : Hid (∀ X : World, Bw (W4.alloc (.cells #[.int .i64 (j.1 : Int), .int .i64 (j.2.1 : Int), .int .i64 (j.2.2 : Int)] 54)) X → Calls Try.prog 26 #[.agg #[.int .i64 (j.1 : Int), .int .i64 (j.2.1 : Int), .int .i64 (j.2.2 : Int)], .slice (some ⟨g, 0, none⟩) n cg] X fun e X' => e = .returned (.bool (canJ s j)) ∧ Bw X X') := fun X hX =>
              can_any j n cg (some ⟨g, 0, none⟩) s X (by omega) (hrs5.out.bw hok.out hX).own.in hw.out
            have a0 : (W4.alloc (.cells #[.int .i64 (j.1 : Int), .int .i64 (j.2.1 : Int), .int .i64 (j.2.2 : Int)] 54)).cell? ⟨W4.heap.size, 0, none⟩ = some (.int .i64 (j.1 : Int)) := wcell (cs := [_, _, _]) e5 0
            have a1 : (W4.alloc (.cells #[.int .i64 (j.1 : Int), .int .i64 (j.2.1 : Int), .int .i64 (j.2.2 : Int)] 54)).cell? ⟨W4.heap.size, 1, none⟩ = some (.int .i64 (j.2.1 : Int)) := wcell (cs := [_, _, _]) e5 1
            have a2 : (W4.alloc (.cells #[.int .i64 (j.1 : Int), .int .i64 (j.2.1 : Int), .int .i64 (j.2.2 : Int)] 54)).cell? ⟨W4.heap.size, 2, none⟩ = some (.int .i64 (j.2.2 : Int)) := wcell (cs := [_, _, _]) e5 2
            have c0 : (W4.alloc (.cells #[.int .i64 (j.1 : Int), .int .i64 (j.2.1 : Int), .int .i64 (j.2.2 : Int)] 54)).cell? ⟨sb, 0, none⟩ = some (.slice (some ⟨g, 0, none⟩) n cg) := wcell (cs := [_, _, _]) hrs5.out.hd 0
            replace e5 := Lib.hid e5
            replace hstep := Lib.hid hstep
            obtain ⟨bc, hbc⟩ : ∃ bc, bc = canJ s j := ⟨_, rfl⟩
            rw [← hbc] at HC
            replace hbc := Lib.hid hbc
            obtain ⟨jf, jo, jt⟩ := j
            simp only at k0 k1 k2 k0' k1' k2' a0 a1 a2 c0 HC e5 hbw5 hrs5
            go_upto_region 10 with fail
            clear k0 k1 k2 k0' k1' k2'
            have hR5 : Hid (Bw (W4.alloc (.cells #[.int .i64 (jf : Int), .int .i64 (jo : Int), .int .i64 (jt : Int)] 54)) (W4.alloc (.cells #[.int .i64 (jf : Int), .int .i64 (jo : Int), .int .i64 (jt : Int)] 54)).drew) := (Bw.refl _).drew
            go_cut [42] (fun v X => v = .bool (!bc) ∧ Bw (W4.alloc (.cells #[.int .i64 (jf : Int), .int .i64 (jo : Int), .int .i64 (jt : Int)] 54)) X)
            case first =>
              go_region_with (go_at_call 26; (with_reducible refine (HC.out _ ?_).mono ?_); exact hR5.out; rintro e w6 ⟨rfl, hB6⟩)
              all_goals
                go_wp2_with fail
                go_meet
                exact ⟨rfl, hR5.out.trans hB6⟩
            case rest =>
              obtain ⟨rfl, hB6⟩ := hcut
              obtain ⟨W6, rfl⟩ : ∃ W6 : World, W6 = wc := ⟨_, rfl⟩
              have hB46 : Hid (Bw W4 W6) := hbw5.out.trans hB6
              have hrs6 : Hid (RS0 (⟨sb, g, cg, n, m, ca, mb, B, R, some ⟨ga, 0, none⟩, J⟩ : Pm) W6 s kz) := hR.out.rs.bw hok.out hB46.out
              have henv6 : Hid (env0 W6 az) := H0.out _ _ _ hR.out.env (Below.size hB46.out) fun k hk => Below.block hB46.out k (Nat.lt_of_lt_of_le (hebR.out k hk) hbl)
              have hrow6 : Hid (OwnJ R W6 p nr cr row) := row_bw (P := (⟨sb, g, cg, n, m, ca, mb, B, R, some ⟨ga, 0, none⟩, J⟩ : Pm)) hR.out.row hB46.out
              have hkp6 : Hid (Kept (FrS (⟨sb, g, cg, n, m, ca, mb, B, R, some ⟨ga, 0, none⟩, J⟩ : Pm) eb p) W W6) := hR.out.kept.trans (Kept.ofBelow hB46.out)
              have e6 : Hid (W6.heap[W4.heap.size]? = some (.cells #[.int .i64 (jf : Int), .int .i64 (jo : Int), .int .i64 (jt : Int)] 54 (0, 0))) := (Below.block hB6 _ (by simp)).trans e5.out
              have hrb : Hid (∀ a, p = some a → a.block < W4.heap.size) := fun a ha => (OwnC.block hR.out.row a ha).2
              have hlen : Hid (kz.length ≤ ks.length + 1 + i * Bc (cnt1 s - 1)) := hR.out.len
              have hsl6 : W4.heap.size < W6.heap.size := lt_of_heap e6.out
              clear e5 hrs5 HC hbw5 hB6 hB46 hR5 a0 a1 a2 c0 hR
              by_cases hcan : bc = true
              · subst hcan
                have hcj : Hid (canJ s (jf, jo, jt) = true) := hbc.out.symm
                have hcd : Hid (cnt1 (doJ s (jf, jo, jt)) + 1 = cnt1 s) := doJ_cnt (by rw [hbd.out.1]; exact hw.out) hcj.out
                have hle := hcanle.out hcj.out
                have hle2 := do_le hbd.out.1 hw.out
                have htd : Hid (trnS s (jf, jo, jt) = doJ s (jf, jo, jt)) := trn_do (by rw [hbd.out.1]; exact hw.out) hcj.out
                have htb : Hid (trnS (doJ s (jf, jo, jt)) (jf, jo, jt) = s) := trn_back (by rw [hbd.out.1]; exact hw.out) hcj.out
                have a0 : W6.cell? ⟨W4.heap.size, 0, none⟩ = some (.int .i64 (jf : Int)) := wcell (cs := [_, _, _]) e6.out 0
                have a1 : W6.cell? ⟨W4.heap.size, 1, none⟩ = some (.int .i64 (jo : Int)) := wcell (cs := [_, _, _]) e6.out 1
                have a2 : W6.cell? ⟨W4.heap.size, 2, none⟩ = some (.int .i64 (jt : Int)) := wcell (cs := [_, _, _]) e6.out 2
                have c0 : W6.cell? ⟨sb, 0, none⟩ = some (.slice (some ⟨g, 0, none⟩) n cg) := wcell (cs := [_, _, _]) hrs6.out.hd 0
                have HT : Hid (Calls Try.prog 27 #[.agg #[.int .i64 (jf : Int), .int .i64 (jo : Int), .int .i64 (jt : Int)], .slice (some ⟨g, 0, none⟩) n cg] W6.drew fun e X => e = .returned (.tuple #[]) ∧ Own 3 B X (some ⟨g, 0, none⟩) n cg (asI (doJ s (jf, jo, jt))) ∧ W6.grownBy X (some g)) :=
                  (turn_any (jf, jo, jt) n cg B (some ⟨g, 0, none⟩) s W6.drew (by omega) hrs6.out.own.drew hw.out hle.1 hle.2.1 hle.2.2).mono fun e X ⟨h1, h2, h3⟩ => ⟨h1, by rw [← htd.out]; exact h2, h3.os, h3.tape, h3.output, h3.size, h3.block⟩
                replace hle := Lib.hid hle; replace hle2 := Lib.hid hle2
                go_upto_region 11 with fail
                go_cut [48] (fun v X => v = .tuple #[] ∧ Own 3 B X (some ⟨g, 0, none⟩) n cg (asI (doJ s (jf, jo, jt))) ∧ W6.grownBy X (some g))
                case first =>
                  go_region_with (go_at_call 27; (with_reducible refine HT.out.mono ?_); rintro e w7 ⟨rfl, hO7, hg7⟩)
                  all_goals
                    go_wp2_with fail
                    go_meet
                    exact ⟨rfl, hO7, hg7⟩
                case rest =>
                  obtain ⟨rfl, hO7, hg7⟩ := hcut
                  obtain ⟨W7, rfl⟩ : ∃ W7 : World, W7 = wc := ⟨_, rfl⟩
                  have hrs7 : Hid (RS0 (⟨sb, g, cg, n, m, ca, mb, B, R, some ⟨ga, 0, none⟩, J⟩ : Pm) W7 (doJ s (jf, jo, jt)) kz) := hrs6.out.turn hok.out hO7 hg7
                  have henv7 : Hid (env0 W7 az) := H0.out _ _ _ henv6.out hg7.size fun k hk => hg7.block k (Nat.lt_of_lt_of_le (hebR.out k hk) hrs6.out.sz) (by intro e; injection e with e; exact (hok.out.ebn k hk).2.1 e)
                  have hrow7 : Hid (OwnJ R W7 p nr cr row) := row_grown (P := (⟨sb, g, cg, n, m, ca, mb, B, R, some ⟨ga, 0, none⟩, J⟩ : Pm)) hrow6.out hg7 hok.out.gR
                  have hkp7 : Hid (Kept (FrS (⟨sb, g, cg, n, m, ca, mb, B, R, some ⟨ga, 0, none⟩, J⟩ : Pm) eb p) W W7) := hkp6.out.trans ((Kept.ofGrown hg7).weak fun k _ e => .inl (by injection e))
                  have hb9 : Hid (W4.heap.size ≠ g ∧ W4.heap.size ≠ mb ∧ ¬ eb W4.heap.size) := by
                    have q1 := hok.out.gR
                    have q2 := hok.out.mbR
                    simp only at q1 q2
                    exact ⟨by omega, by omega, fun h => by have := hebR.out _ h; omega⟩
                  have e7 : Hid (W7.heap[W4.heap.size]? = some (.cells #[.int .i64 (jf : Int), .int .i64 (jo : Int), .int .i64 (jt : Int)] 54 (0, 0))) := (hg7.block _ hsl6 (by intro e; injection e with e; exact hb9.out.1 e)).trans e6.out
                  have hsl7 : W4.heap.size < W7.heap.size := lt_of_heap e7.out
                  have hR7 : R ≤ W7.heap.size := hrs7.out.sz
                  have hnr1 : nr < 1099511627776 := by omega
                  have hbdd : Hid (Bd n (doJ s (jf, jo, jt))) := bd_do hbd.out hw.out
                  have hrch2 : Hid (Rch J s0 (doJ s (jf, jo, jt))) := .step hrch.out hjm.out hcj.out
                  have hbc2 : Hid (kz.length + Bc (cnt1 (doJ s (jf, jo, jt))) ≤ ks.length + 1 + (i + 1) * Bc (cnt1 s - 1)) := by
                    have h1 := hlen.out
                    have h2 := hcd.out
                    rw [show cnt1 (doJ s (jf, jo, jt)) = cnt1 s - 1 by omega]
                    show _ ≤ _
                    rw [Nat.succ_mul]; omega
                  have hbnd2 : Hid (kz.length + Bc (cnt1 (doJ s (jf, jo, jt))) ≤ 2000000000000000000) := by
                    have h1 := hbc2.out
                    have h2 := hcd.out
                    have h3 := hbnd.out
                    obtain ⟨c, hc⟩ : ∃ c, cnt1 s = c + 1 := ⟨cnt1 s - 1, by omega⟩
                    rw [hc, Bc] at h3
                    rw [hc, Nat.add_sub_cancel] at h1
                    have h4 : (i + 1) * Bc c ≤ 400 * Bc c := Nat.mul_le_mul_right _ (by omega)
                    show _ ≤ _
                    omega
                  have hcnt2 : Hid ((row ++ [(jf, jo, jt)]).length + cnt1 (doJ s (jf, jo, jt)) = N) := by
                    have h1 := hcnt.out
                    have h2 := hcd.out
                    show _ = _
                    rw [List.length_append, List.length_singleton]; omega
                  have hf2 : Hid (cnt1 (doJ s (jf, jo, jt)) < f) := by have h1 := hf.out; have h2 := hcd.out; show _ < _; omega
                  have IH : Hid (∀ (p' : Option Addr) (c' : Nat) (w8 : World), OwnJ R w8 p' (nr + 1) c' (row ++ [(jf, jo, jt)]) → W7.grownBy w8 (p.map (·.block)) → _) := fun p' c' w8 hO8 hg8 =>
                    ih.out (doJ s (jf, jo, jt)) kz az (row ++ [(jf, jo, jt)]) p' (nr + 1) c' w8 hf2.out hbdd.out (hrs7.out.app hok.out hrow7.out hg8) (H0.out _ _ _ henv7.out hg8.size fun k hk => hg8.block k (Nat.lt_of_lt_of_le (hebR.out k hk) hR7) (by
                      intro e
                      cases p with
                      | none => cases e
                      | some x => simp at e; have := (OwnC.block hrow7.out x rfl).1; have := hebR.out k hk; omega)) hO8 hrch2.out hcnt2.out hbnd2.out
                  obtain ⟨r1, hr1⟩ : ∃ r1, r1 = runS D J f (doJ s (jf, jo, jt)) (row ++ [(jf, jo, jt)]) (kz, az) := ⟨_, rfl⟩
                  have hst2 : Hid (r = if r1.2 then (r1.1, true) else runL (runS D J f) s row (J.drop (i + 1)) r1.1) := by
                    show _ = _
                    rw [hrun.out, hstep.out, if_pos hcj.out, ← hr1]
                  simp only [← hr1] at IH
                  have hlen2 : Hid (r1.1.1.length ≤ ks.length + 1 + (i + 1) * Bc (cnt1 s - 1)) := by
                    have h1 := runS_len (D := D) (J := J) (n := n) hok.out.wf (by rw [hJm.out]; exact hm400) f (doJ s (jf, jo, jt)) (row ++ [(jf, jo, jt)]) (kz, az) hbdd.out.1
                    rw [← hr1] at h1
                    exact Nat.le_trans h1 hbc2.out
                  replace hr1 := Lib.hid hr1
                  have a0 : W7.cell? ⟨W4.heap.size, 0, none⟩ = some (.int .i64 (jf : Int)) := wcell (cs := [_, _, _]) e7.out 0
                  have a1 : W7.cell? ⟨W4.heap.size, 1, none⟩ = some (.int .i64 (jo : Int)) := wcell (cs := [_, _, _]) e7.out 1
                  have a2 : W7.cell? ⟨W4.heap.size, 2, none⟩ = some (.int .i64 (jt : Int)) := wcell (cs := [_, _, _]) e7.out 2
                  clear hrs6 henv6 hrow6 hkp6 e6 HT hO7 hg7 hsl6
                  go_upto_region 13 with (first
                    | (at_builtin; refine wp_appendJ W7 rfl _ _ rfl R p nr cr row rfl hrow7.out #[.int .i64 (jf : Int), .int .i64 (jo : Int), .int .i64 (jt : Int)] (jf, jo, jt) rfl W7.heap.size rfl rfl hnr1 hR7 ?_; intro p8 c8 w8 hO8 hg8 hor8 hz8; have HR := Lib.hid (IH.out p8 c8 w8 hO8 hg8); replace hO8 := Lib.hid hO8; replace hg8 := Lib.hid hg8; replace hor8 := Lib.hid hor8)
                    | (go_at_call 17; (with_reducible refine HR.out.mono ?_); rintro e w9 ⟨rfl, hP⟩; replace hP := Lib.hid hP))
                  have hkp9 : Hid (Kept (FrS (⟨sb, g, cg, n, m, ca, mb, B, R, some ⟨ga, 0, none⟩, J⟩ : Pm) eb p) W w9) := hkp7.out.trans (kept_app hg8.out (by
                    rcases hor8.out with h | h
                    · exact .inl h.1
                    · exact .inr h) hP.out.kept)
                  have hrs9 : Hid (RS0 (⟨sb, g, cg, n, m, ca, mb, B, R, some ⟨ga, 0, none⟩, J⟩ : Pm) w9 (doJ s (jf, jo, jt)) r1.1.1) := hP.out.rs
                  have e9 : Hid (w9.heap[W4.heap.size]? = some (.cells #[.int .i64 (jf : Int), .int .i64 (jo : Int), .int .i64 (jt : Int)] 54 (0, 0))) := by
                    have hps : ∀ x, p = some x → W4.heap.size ≠ x.block := fun x hx => by have := hrb.out x hx; omega
                    refine (hP.out.kept.block _ (Nat.lt_of_lt_of_le hsl7 hg8.out.size) ?_).trans ((hg8.out.block _ hsl7 ?_).trans e7.out)
                    · rintro (e | e | e | e)
                      · exact hb9.out.1 e
                      · exact hb9.out.2.1 e
                      · rcases hor8.out with ⟨rfl, _⟩ | ⟨_, h⟩
                        · cases p8 with
                          | none => cases e
                          | some x => simp at e; exact hps x rfl e
                        · cases p8 with
                          | none => cases e
                          | some x => simp at e; have := h x rfl; omega
                      · exact hb9.out.2.2 e
                    · intro e
                      cases p with
                      | none => cases e
                      | some x => simp at e; exact hps x rfl e
                  have hsl9 : W4.heap.size < w9.heap.size := lt_of_heap e9.out
                  have hgR : Hid (g < R) := hok.out.gR
                  clear a0 a1 a2
                  have a0 : w9.cell? ⟨W4.heap.size, 0, none⟩ = some (.int .i64 (jf : Int)) := wcell (cs := [_, _, _]) e9.out 0
                  have a1 : w9.cell? ⟨W4.heap.size, 1, none⟩ = some (.int .i64 (jo : Int)) := wcell (cs := [_, _, _]) e9.out 1
                  have a2 : w9.cell? ⟨W4.heap.size, 2, none⟩ = some (.int .i64 (jt : Int)) := wcell (cs := [_, _, _]) e9.out 2
                  have c0 : w9.cell? ⟨sb, 0, none⟩ = some (.slice (some ⟨g, 0, none⟩) n cg) := wcell (cs := [_, _, _]) hrs9.out.hd 0
                  have HT : Hid (Calls Try.prog 27 #[.agg #[.int .i64 (jf : Int), .int .i64 (jo : Int), .int .i64 (jt : Int)], .slice (some ⟨g, 0, none⟩) n cg] w9.drew fun e X => e = .returned (.tuple #[]) ∧ Own 3 B X (some ⟨g, 0, none⟩) n cg (asI s) ∧ w9.grownBy X (some g)) :=
                    (turn_any (jf, jo, jt) n cg B (some ⟨g, 0, none⟩) (doJ s (jf, jo, jt)) w9.drew (by omega) hrs9.out.own.drew hw.out hle2.out.1 hle2.out.2.1 hle2.out.2.2).mono fun e X ⟨h1, h2, h3⟩ => ⟨h1, by rw [← htb.out]; exact h2, h3.os, h3.tape, h3.output, h3.size, h3.block⟩
                  go_cut [61] (fun v X => v = .tuple #[] ∧ Own 3 B X (some ⟨g, 0, none⟩) n cg (asI s) ∧ w9.grownBy X (some g))
                  case first =>
                    go_region_with (go_at_call 27; (with_reducible refine HT.out.mono ?_); rintro e w7 ⟨rfl, hO7, hg7⟩)
                    all_goals
                      go_wp2_with fail
                      go_meet
                      exact ⟨rfl, hO7, hg7⟩
                  case rest =>
                    obtain ⟨rfl, hO10, hg10⟩ := hcut
                    obtain ⟨W10, rfl⟩ : ∃ W10 : World, W10 = wc := ⟨_, rfl⟩
                    have hrs10 : Hid (RS0 (⟨sb, g, cg, n, m, ca, mb, B, R, some ⟨ga, 0, none⟩, J⟩ : Pm) W10 s r1.1.1) := hrs9.out.turn hok.out hO10 hg10
                    have hkp10 : Hid (Kept (FrS (⟨sb, g, cg, n, m, ca, mb, B, R, some ⟨ga, 0, none⟩, J⟩ : Pm) eb p) W W10) := hkp9.out.trans ((Kept.ofGrown hg10).weak fun k _ e => .inl (by injection e))
                    have hrb10 : Hid (R ≤ w9.heap.size) := hrs9.out.sz
                    obtain ⟨⟨kz1, az1⟩, bz1⟩ := r1
                    clear a0 a1 a2 c0
                    cases bz1 with
                    | true =>
                      have hre : Hid (r = ((kz1, az1), true)) := by show _ = _; rw [hst2.out]; rfl
                      have henv10 : Hid (env1 W10 az1) := H1g.out _ _ _ (hP.out.yes rfl) hrb10.out hg10
                      replace hg10 := Lib.hid hg10; replace hO10 := Lib.hid hO10
                      go_wp2_with fail
                      go_ret
                      rw [hre.out]
                      exact ⟨rfl, ⟨hrs10.out, fun h => by simp at h, fun _ => henv10.out, hkp10.out⟩⟩
                    | false =>
                      have hre : Hid (r = runL (runS D J f) s row (J.drop (i + 1)) (kz1, az1)) := by show _ = _; rw [hst2.out]; rfl
                      have hno := hP.out.no rfl
                      have henv10 : Hid (env0 W10 az1) := H0.out _ _ _ hno.1 hg10.size fun k hk => hg10.block k (Nat.lt_of_lt_of_le (hebR.out k hk) hrb10.out) (by intro e; injection e with e; exact (hok.out.ebn k hk).2.1 e)
                      have hrow10 : Hid (OwnJ R W10 p nr cr row) := row_grown (P := (⟨sb, g, cg, n, m, ca, mb, B, R, some ⟨ga, 0, none⟩, J⟩ : Pm)) (row_back (P := (⟨sb, g, cg, n, m, ca, mb, B, R, some ⟨ga, 0, none⟩, J⟩ : Pm)) hok.out hrow7.out hor8.out hno.2 hP.out.kept) hg10 hgR.out
                      replace hg10 := Lib.hid hg10; replace hO10 := Lib.hid hO10; replace hno := Lib.hid hno
                      go_wp2_with fail
                      have hgk := hgk.out
                      go_roundg (m - (i + 1))
                      case measure => omega
                      case rel => exact ⟨i + 1, (kz1, az1), hlt, rfl, by go_num, ⟨by rw [← hrun.out]; exact hre.out, hrs10.out, henv10.out, hrow10.out, hkp10.out, hlen2.out⟩⟩
              · have hcf : Hid (canJ s (jf, jo, jt) = false) := by show _ = _; rw [← hbc.out]; simpa using hcan
                have hbf : bc = false := by simpa using hcan
                subst hbf
                have hre : Hid (r = runL (runS D J f) s row (J.drop (i + 1)) (kz, az)) := by
                  show _ = _
                  rw [hrun.out, hstep.out, hcf.out]; rfl
                have hlen2 : Hid (kz.length ≤ ks.length + 1 + (i + 1) * Bc (cnt1 s - 1)) := by
                  have := hlen.out
                  show _ ≤ _
                  rw [Nat.succ_mul]; omega
                clear hcan
                go_wp2_with fail
                have hgk := hgk.out
                go_roundg (m - (i + 1))
                case measure => omega
                case rel => exact ⟨i + 1, (kz, az), hlt, rfl, by go_num, ⟨by rw [← hrun.out]; exact hre.out, hrs6.out, henv6.out, hrow6.out, hkp6.out, hlen2.out⟩⟩
          · have hie : i = m := by omega
            subst hie
            have hii : ¬ (i : Int) < (i : Int) := by omega
            have hfin : Hid (r = (z, false)) := by
              show _ = _
              rw [hrun.out, hR.out.eq]
              show runL (runS D J f) s row (J.drop i) z = _
              rw [List.drop_of_length_le (by rw [hJm.out]; exact Nat.le_refl _), runL]
            go_wp2_with fail
            go_ret
            rw [hfin.out]
            exact ⟨rfl, ⟨hR.out.rs, fun _ => ⟨hR.out.env, hR.out.row⟩, fun h => by simp at h, hR.out.kept⟩⟩
end Go.Proofs.Ytapoimadiiheaaa
