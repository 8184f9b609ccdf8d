/- A map of one piece to a number: what is looked up, and what '++' and '--' do to it; conditions: numbers up to 9. -/
import Derived.Test.YtgnchgkiijncbaaPly
import Derived.Maps.Own
import Derived.DeepKeys4
namespace Go.Proofs.Ytgnchgkiijncbaa
open Go.RowKit Go.Maps
open Go.ChangeMaps (setBlock)

def K2 (a b : Nat) : Value := .agg #[.int .i64 (a : Int), .int .i64 (b : Int)]
theorem klaidOut : laidOutB Try.prog = true := by kernel_rfl
theorem krow : (30 : TypeId) < Try.prog.types.size := of_decide_eq_true (by kernel_rfl)
theorem kwide : (match Try.prog.underlying 30 with | some (.array _ _) | some (.struct _) => true | _ => false) = true := by kernel_rfl
theorem kkt : Try.prog.keyTypeAt 2 30 = true := by kernel_rfl
theorem k30 : Keyed Try.prog 30 := Keyed.of_law (deep_law_laid klaidOut (m := 2) (by omega) krow kkt kwide)
theorem kall : ((List.range 10).all fun a => (List.range 10).all fun b => (keyOf Try.prog 30 (K2 a b)).isSome) = true := by decide +kernel
theorem kkey {a b : Nat} (ha : a ≤ 9) (hb : b ≤ 9) : ∃ l, keyOf Try.prog 30 (K2 a b) = some l :=
  Option.isSome_iff_exists.1 (List.all_eq_true.1 (List.all_eq_true.1 kall a (List.mem_range.2 (by omega))) b (List.mem_range.2 (by omega)))
theorem K2_inj {a b c d : Nat} (h : K2 a b = K2 c d) : a = c ∧ b = d := by
  unfold K2 at h
  simp at h
  omega
/-- the map of the one piece (0, 1). -/
def One (w : World) (r : Nat) (v : Int) : Prop := w.heap[r]? = some (.map #[⟨K2 0 1, .int .i64 v, 0⟩] 1)
theorem one_keys : ∀ (v : Value), ∀ e ∈ [(⟨K2 0 1, v, 0⟩ : MapEntry)], ∃ l, keyOf Try.prog 30 e.key = some l := fun v e he => by
  rw [List.mem_singleton.1 he]; exact kkey (by omega) (by omega)
theorem find_yes (w : World) (v : Value) : (Instr.findKey 30 (K2 0 1) [⟨K2 0 1, v, 0⟩]).run Try.prog w = .ok (some (0, v)) w := by
  obtain ⟨l, hl⟩ := kkey (a := 0) (b := 1) (by omega) (by omega)
  rcases k30.find w hl [⟨K2 0 1, v, 0⟩] (one_keys v) with ⟨_, h⟩ | ⟨j, e, h, hj, _⟩
  · exact absurd rfl (h _ (List.mem_singleton.2 rfl))
  · match j, hj with
    | 0, hj => simp at hj; subst hj; exact h
    | j + 1, hj => simp at hj
theorem find_no (w : World) (v : Value) {a b : Nat} (ha : a ≤ 9) (hb : b ≤ 9) (h01 : ¬ (a = 0 ∧ b = 1)) : (Instr.findKey 30 (K2 a b) [⟨K2 0 1, v, 0⟩]).run Try.prog w = .ok none w := by
  obtain ⟨l, hl⟩ := kkey ha hb
  rcases k30.find w hl [⟨K2 0 1, v, 0⟩] (one_keys v) with ⟨h, _⟩ | ⟨j, e, h, hj, hk⟩
  · exact h
  · match j, hj with
    | 0, hj =>
      simp at hj; subst hj
      have := K2_inj hk
      omega
    | j + 1, hj => simp at hj
theorem one_look {w : World} {r : Nat} {v : Int} (h : One w r v) {a b : Nat} (ha : a ≤ 9) (hb : b ≤ 9) : (Instr.lookup 46 (.map (some r)) (K2 a b) false).run Try.prog w = .ok (.int .i64 (if a = 0 ∧ b = 1 then v else 0)) w := by
  obtain ⟨l, hl⟩ := kkey ha hb
  have hz : (zeroValue 3).run Try.prog w = .ok (.int .i64 0) w := by kernel_rfl
  by_cases h01 : a = 0 ∧ b = 1
  · obtain ⟨rfl, rfl⟩ := h01
    simp [Instr.lookup, run_underlying Try.underlying46, MapKept.run_getObj_map h, k30.check w false hl, find_yes, Result.andThen]
  · simp [Instr.lookup, run_underlying Try.underlying46, MapKept.run_getObj_map h, k30.check w false hl, find_no w _ ha hb h01, hz, h01, Result.andThen]
theorem set_same (w : World) (r : Nat) (o : Obj) (h : w.heap[r]? = some o) : ({ w with heap := w.heap.setIfInBounds r o } : World) = w := by
  have : w.heap.setIfInBounds r o = w.heap := by
    apply Array.ext
    · simp
    · intro i h1 h2
      by_cases e : r = i
      · subst e
        have := (Array.getElem?_eq_some_iff.1 h).2
        simp [this]
      · exact Array.getElem_setIfInBounds_ne h2 e
  rw [this]
theorem one_entry {w : World} {r : Nat} {v : Int} (h : One w r v) : (Instr.mapEntry 46 (.map (some r)) (K2 0 1)).run Try.prog w = .ok (.tuple #[.int .i64 v, .int .i64 0]) w := by
  obtain ⟨l, hl⟩ := kkey (a := 0) (b := 1) (by omega) (by omega)
  have h2 := set_same w r _ h
  simp [Instr.mapEntry, run_underlying Try.underlying46, MapKept.run_getObj_map h, k30.check w false hl, find_yes, k30.stays w hl, MapKept.run_setObj_map _ h, Result.andThen]
  exact ⟨rfl, h2⟩
theorem one_store {w : World} {r : Nat} {v : Int} (h : One w r v) (x : Int) : (Instr.entryStore 46 (.map (some r)) (.int .i64 0) (.int .i64 x)).run Try.prog w = .ok () (setBlock w r (.map #[⟨K2 0 1, .int .i64 x, 0⟩] 1)) := by
  have ha : ∀ W : World, (asInt (.int .i64 0)).run Try.prog W = .ok 0 W := fun _ => rfl
  simp [Instr.entryStore, MapKept.run_getObj_map h, Result.andThen, ha, MapKept.run_setObj_map _ h, setBlock]
theorem no_look {w : World} {r : Nat} (h : w.heap[r]? = some (.map #[] 0)) : (Instr.lookup 46 (.map (some r)) (K2 0 1) false).run Try.prog w = .ok (.int .i64 0) w := by
  obtain ⟨l, hl⟩ := kkey (a := 0) (b := 1) (by omega) (by omega)
  have hz : (zeroValue 3).run Try.prog w = .ok (.int .i64 0) w := by kernel_rfl
  have hf : (Instr.findKey 30 (K2 0 1) []).run Try.prog w = .ok none w := by
    rcases k30.find w hl [] (fun e he => by simp at he) with ⟨h, _⟩ | ⟨j, e, h, hj, hk⟩
    · exact h
    · simp at hj
  simp [Instr.lookup, run_underlying Try.underlying46, MapKept.run_getObj_map h, k30.check w true hl, hf, hz, Result.andThen]
theorem no_entry {w : World} {r : Nat} (h : w.heap[r]? = some (.map #[] 0)) : (Instr.mapEntry 46 (.map (some r)) (K2 0 1)).run Try.prog w = .ok (.tuple #[.int .i64 0, .int .i64 0]) (setBlock w r (.map #[⟨K2 0 1, .int .i64 0, 0⟩] 1)) := by
  obtain ⟨l, hl⟩ := kkey (a := 0) (b := 1) (by omega) (by omega)
  have hz : (zeroValue 3).run Try.prog w = .ok (.int .i64 0) w := by kernel_rfl
  have hf : (Instr.findKey 30 (K2 0 1) []).run Try.prog w = .ok none w := by
    rcases k30.find w hl [] (fun e he => by simp at he) with ⟨h, _⟩ | ⟨j, e, h, hj, hk⟩
    · exact h
    · simp at hj
  simp [Instr.mapEntry, run_underlying Try.underlying46, MapKept.run_getObj_map h, k30.check w false hl, hf, hz, MapKept.run_setObj_map _ h, Result.andThen, setBlock]
  rfl
end Go.Proofs.Ytgnchgkiijncbaa
