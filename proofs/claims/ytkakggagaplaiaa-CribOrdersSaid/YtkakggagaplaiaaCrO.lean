/- No five unlike cards bring more than 29; no program in sight. -/
import Derived.Test.YtkakggagaplaiaaCrM
namespace Go.Proofs.Ytkakggagaplaiaa

theorem pip_inj {x y : Nat} (hx : x < 52) (hy : y < 52) (h : pipN x = pipN y) : x / 4 = y / 4 := by unfold pipN at h; omega
theorem five_same {a b c d e p : Nat} (ha : a < 52) (hb : b < 52) (hc : c < 52) (hd : d < 52) (he : e < 52) (pa : pipN a = p) (pb : pipN b = p) (pc : pipN c = p) (pd : pipN d = p) (pe : pipN e = p)
    (hn : [a, b, c, d, e].Nodup) : False := by
  have h1 := pip_inj ha hb (pa.trans pb.symm)
  have h2 := pip_inj ha hc (pa.trans pc.symm)
  have h3 := pip_inj ha hd (pa.trans pd.symm)
  have h4 := pip_inj ha he (pa.trans pe.symm)
  simp only [List.nodup_cons, List.mem_cons, List.not_mem_nil, or_false, not_or, List.nodup_nil, and_true, not_false_eq_true] at hn
  obtain ⟨⟨n1, n2, n3, n4⟩, ⟨n5, n6, n7⟩, ⟨n8, n9⟩, n10⟩ := hn
  obtain ⟨r, hr⟩ : ∃ r, a / 4 = r := ⟨_, rfl⟩
  have m1 : a % 4 < 4 := Nat.mod_lt _ (by omega)
  have m2 : b % 4 < 4 := Nat.mod_lt _ (by omega)
  have m3 : c % 4 < 4 := Nat.mod_lt _ (by omega)
  have m4 : d % 4 < 4 := Nat.mod_lt _ (by omega)
  have m5 : e % 4 < 4 := Nat.mod_lt _ (by omega)
  have q : ∀ x y : Nat, x / 4 = y / 4 → x ≠ y → x % 4 ≠ y % 4 := fun x y h1 h2 h3 => h2 (by omega)
  have k1 := q a b (by omega) n1
  have k2 := q a c (by omega) n2
  have k3 := q a d (by omega) n3
  have k4 := q a e (by omega) n4
  have k5 := q b c (by omega) n5
  have k6 := q b d (by omega) n6
  have k7 := q b e (by omega) n7
  have k8 := q c d (by omega) n8
  have k9 := q c e (by omega) n9
  have k10 := q d e (by omega) n10
  clear q h1 h2 h3 h4 hr n1 n2 n3 n4 n5 n6 n7 n8 n9 n10 pa pb pc pd pe ha hb hc hd he
  generalize a % 4 = A at *
  generalize b % 4 = B at *
  generalize c % 4 = C at *
  generalize d % 4 = D at *
  generalize e % 4 = E at *
  have hall : ((List.range 4).all fun A => (List.range 4).all fun B => (List.range 4).all fun C => (List.range 4).all fun D => (List.range 4).all fun E => A == B || A == C || A == D || A == E || B == C || B == D || B == E || C == D || C == E || D == E) = true := by decide +kernel
  have h1 := List.all_eq_true.1 hall A (by simpa using m1)
  have h2 := List.all_eq_true.1 h1 B (by simpa using m2)
  have h3 := List.all_eq_true.1 h2 C (by simpa using m3)
  have h4 := List.all_eq_true.1 h3 D (by simpa using m4)
  have h5 := List.all_eq_true.1 h4 E (by simpa using m5)
  simp only [Bool.or_eq_true, beq_iff_eq] at h5
  rcases h5 with ((((((((h | h) | h) | h) | h) | h) | h) | h) | h) | h
  · exact k1 h
  · exact k2 h
  · exact k3 h
  · exact k4 h
  · exact k5 h
  · exact k6 h
  · exact k7 h
  · exact k8 h
  · exact k9 h
  · exact k10 h
theorem show_29 {h : List Nat} {s : Nat} (hl : h.length = 4) (h52 : ∀ x ∈ h ++ [s], x < 52) (hd : (h ++ [s]).Nodup) : show5 (h ++ [s]) false ≤ 29 := by
  obtain ⟨a, b, c, d, rfl⟩ : ∃ a b c d, h = [a, b, c, d] := by
    match h, hl with
    | [a, b, c, d], _ => exact ⟨a, b, c, d, rfl⟩
  have ha := h52 a (by simp)
  have hb := h52 b (by simp)
  have hc := h52 c (by simp)
  have hd' := h52 d (by simp)
  have hs := h52 s (by simp)
  obtain ⟨h1, h2⟩ := pip_bd (l := [a, b, c, d] ++ [s]) (by simp)
  have h28 : pipV ([a, b, c, d] ++ [s]) ≤ 28 := by
    rcases h1 with ⟨p, hp⟩ | h1
    · exact (five_same ha hb hc hd' hs (hp a (by simp)) (hp b (by simp)) (hp c (by simp)) (hp d (by simp)) (hp s (by simp)) hd).elim
    · exact h1
  have hj : jkS ([a, b, c, d] ++ [s]) ≤ 1 := by unfold jkS; split <;> omega
  have hsum : show5 ([a, b, c, d] ++ [s]) false = pipV ([a, b, c, d] ++ [s]) + flS ([a, b, c, d] ++ [s]) false + jkS ([a, b, c, d] ++ [s]) := rfl
  rw [hsum]
  by_cases hf : fl4 ([a, b, c, d] ++ [s]) = false
  · have : flS ([a, b, c, d] ++ [s]) false = 0 := by unfold flS; rw [if_pos hf]
    omega
  · have hf2 := (fl4_iff (h := [a, b, c, d]) (s := s) rfl).1 (by simpa using hf)
    have hfl : flS ([a, b, c, d] ++ [s]) false ≤ 5 := by unfold flS; (repeat' split) <;> omega
    simp only [List.cons_append, List.nil_append, List.nodup_cons, List.mem_cons, List.not_mem_nil, or_false, not_or, List.nodup_nil, and_true, not_false_eq_true] at hd
    obtain ⟨⟨n1, n2, n3, _⟩, ⟨n5, n6, _⟩, ⟨n8, _⟩, _⟩ := hd
    have q : ∀ x y : Nat, x < 52 → y < 52 → x % 4 = y % 4 → x ≠ y → pipN x ≠ pipN y := fun x y hx hy h1 h2 h3 => h2 (by have := pip_inj hx hy h3; omega)
    have k1 := q a b ha hb (hf2 a (by simp) b (by simp)) n1
    have k2 := q a c ha hc (hf2 a (by simp) c (by simp)) n2
    have k3 := q a d ha hd' (hf2 a (by simp) d (by simp)) n3
    have k5 := q b c hb hc (hf2 b (by simp) c (by simp)) n5
    have k6 := q b d hb hd' (hf2 b (by simp) d (by simp)) n6
    have k8 := q c d hc hd' (hf2 c (by simp) d (by simp)) n8
    have hps : pS ([a, b, c, d] ++ [s]) 5 ≤ 1 := by
      show (0 + 0 + (0 + if pipN b = pipN a then 1 else 0) + ((0 + if pipN c = pipN a then 1 else 0) + if pipN c = pipN b then 1 else 0) + (((0 + if pipN d = pipN a then 1 else 0) + if pipN d = pipN b then 1 else 0) + if pipN d = pipN c then 1 else 0) + ((((0 + if pipN s = pipN a then 1 else 0) + if pipN s = pipN b then 1 else 0) + if pipN s = pipN c then 1 else 0) + if pipN s = pipN d then 1 else 0)) ≤ 1
      rw [if_neg (fun e => k1 e.symm), if_neg (fun e => k2 e.symm), if_neg (fun e => k5 e.symm), if_neg (fun e => k3 e.symm), if_neg (fun e => k6 e.symm), if_neg (fun e => k8 e.symm)]
      by_cases s1 : pipN s = pipN a
      · rw [if_pos s1, if_neg (by omega), if_neg (by omega), if_neg (by omega)]; omega
      · rw [if_neg s1]
        by_cases s2 : pipN s = pipN b
        · rw [if_pos s2, if_neg (by omega), if_neg (by omega)]; omega
        · rw [if_neg s2]
          by_cases s3 : pipN s = pipN c
          · rw [if_pos s3, if_neg (by omega)]; omega
          · rw [if_neg s3]; split <;> omega
    have := h2 hps
    omega
end Go.Proofs.Ytkakggagaplaiaa
