/- What home.empty tells: whether there are no men; and the keys of states; conditions: at most three men. -/
import Derived.Test.YtgbollodgeemlaaGen
import Derived.Test.YtgbollodgeemlaaGPl
import Derived.Test.YtgbollodgeemlaaPick
import Derived.Maps.OwnSet
import Derived.DeepKeys4
namespace Go.Proofs.Ytgbollodgeemlaa
open Go.RowKit Go.Maps

/-- the six numbers of a state. -/
abbrev H6 (a b c d e f : Nat) : Value := .agg #[.int .i64 (a : Int), .int .i64 (b : Int), .int .i64 (c : Int), .int .i64 (d : Int), .int .i64 (e : Int), .int .i64 (f : Int)]
def hv (l : List Nat) : Value := .agg (l.map fun n : Nat => Value.int .i64 (n : Int)).toArray

theorem hlaidOut : laidOutB Try.prog = true := by kernel_rfl
theorem hrow : (40 : TypeId) < Try.prog.types.size := of_decide_eq_true (by kernel_rfl)
theorem hwide : (match Try.prog.underlying 40 with | some (.array _ _) | some (.struct _) => true | _ => false) = true := by kernel_rfl
theorem hkt : Try.prog.keyTypeAt 2 40 = true := by kernel_rfl
theorem hlaw : Keyed Try.prog 40 := Keyed.of_law (deep_law_laid hlaidOut (m := 2) (by omega) hrow hkt hwide)
theorem hkeys : gall (fun l => (keyOf Try.prog 40 (hv l)).isSome) = true := by decide +kernel
noncomputable def gkey (l : List Nat) : Lit := (keyOf Try.prog 40 (hv l)).getD (.bool false)
theorem hkey {l : List Nat} (hl : gst l) : keyOf Try.prog 40 (hv l) = some (gkey l) := by
  have h := gall_st hkeys l hl
  obtain ⟨x, hx⟩ := Option.isSome_iff_exists.1 h
  unfold gkey
  rw [hx]; rfl
theorem hv_inj {l l' : List Nat} (h : hv l = hv l') : l = l' := by
  unfold hv at h
  injection h with h
  have h := congrArg Array.toList h
  simp only at h
  have : ∀ l l' : List Nat, (l.map fun n : Nat => Value.int .i64 (n : Int)) = (l'.map fun n : Nat => Value.int .i64 (n : Int)) → l = l' := by
    intro l
    induction l with
    | nil => intro l' h; cases l' with
      | nil => rfl
      | cons y l' => simp at h
    | cons x l ih => intro l' h; cases l' with
      | nil => simp at h
      | cons y l' =>
        simp at h
        have h1 : x = y := by have := h.1; omega
        rw [h1, ih l' (by simpa using h.2)]
  exact this l l' h
theorem gkey_inj {l l' : List Nat} (hl : gst l) (hl' : gst l') (h : gkey l = gkey l') : l = l' :=
  hv_inj (hlaw.inj (hkey hl) (by rw [h]; exact hkey hl'))
theorem gempty_iff {l : List Nat} (hl : gst l) : gempty l = true ↔ l = [0, 0, 0, 0, 0, 0] := by
  obtain ⟨h6, _⟩ := hl
  match l, h6 with
  | [a, b, c, d, e, f], _ => simp [gempty]

theorem hzero (l : List Nat) (hl : gst l) (w : World) : (Op.equalIn 10000 40 (hv l) (hv [0, 0, 0, 0, 0, 0])).run Try.prog w = .ok (gempty l) w := by
  obtain ⟨r, hr, hi⟩ := run_equal_deep w (m := 2) (by omega) hkt hwide (hkey hl) (hkey (l := [0, 0, 0, 0, 0, 0]) (by simp [gst]))
  have e : r = gempty l := by
    rw [Bool.eq_iff_iff, hi, gempty_iff hl]
    constructor
    · exact fun h => gkey_inj hl (by simp [gst]) h
    · intro h; rw [h]
  rw [← e]
  exact hr
theorem gst6 {a b c d e f : Nat} (h : a + b + c + d + e + f ≤ 3) : gst [a, b, c, d, e, f] := by
  refine ⟨rfl, ?_⟩
  simp only [List.sum_cons, List.sum_nil]; omega

set_option maxHeartbeats 1000000 in
theorem empty_any (a b c d e f : Nat) (w : World) (h3 : a + b + c + d + e + f ≤ 3) : Calls Try.prog 24 #[H6 a b c d e f] w fun r w' => r = .returned (.bool (gempty [a, b, c, d, e, f])) ∧ Below w.heap.size w w' := by
  have hz : Hid (∀ W : World, (Op.equalIn 10000 40 (H6 a b c d e f) (H6 0 0 0 0 0 0)).run Try.prog W = .ok (gempty [a, b, c, d, e, f]) W) := fun W => hzero _ (gst6 h3) W
  go_enter Try.func24, Try.ntmps24
  go_wp2_with fail
  rw [show Sem.run Try.prog (Op.equalIn 10000 40 (Value.agg #[.int .i64 (a : Int), .int .i64 (b : Int), .int .i64 (c : Int), .int .i64 (d : Int), .int .i64 (e : Int), .int .i64 (f : Int)]) (Value.agg #[.int .i64 0, .int .i64 0, .int .i64 0, .int .i64 0, .int .i64 0, .int .i64 0])) (w.alloc (Obj.cells #[.int .i64 (a : Int), .int .i64 (b : Int), .int .i64 (c : Int), .int .i64 (d : Int), .int .i64 (e : Int), .int .i64 (f : Int)] 40)) = .ok (gempty [a, b, c, d, e, f]) _ from hz.out _]
  simp only [Result.andThen]
  go_wp2_with fail
  go_ret
  exact ⟨rfl, (Below.refl _ _).alloc (Nat.le_refl _) _⟩
end Go.Proofs.Ytgbollodgeemlaa
