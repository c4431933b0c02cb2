/-
  dec: Add, Sub, Cmp, Neg by the numbers' values.
-/
import Derived.Test.YtlfdelobjbdimaaDoorDecS
namespace Go.Proofs.YtlfdelobjbdimaaDoor
set_option linter.unusedSimpArgs false
set_option linter.unusedVariables false
open Go.RowKit

/-- The value of a sign and a magnitude. -/
def val (s : Bool) (m : Nat) : Int := if s then -(m : Int) else (m : Int)
def sgn (x y : Int) : Int := if x < y then -1 else if x = y then 0 else 1
theorem good_nz {s : Bool} {m : Nat} (h : goodB s m = true) : s = true → m ≠ 0 := by
  intro hs; unfold goodB at h; subst hs; simp at h; exact h.2
theorem good_mk {s : Bool} {m : Nat} (h : m < 1000000000000000000000000000000000000) (h' : s = true → m ≠ 0) : goodB s m = true := by
  unfold goodB; cases s <;> simp_all

theorem cmp_val (s : Bool) (m : Nat) (s' : Bool) (m' : Nat) (w : World) (h : goodB s m = true) (h' : goodB s' m' = true) :
    Calls Tryd.prog 38 #[(.agg #[.bool (s), .int .u64 ((hiN (m) : Nat) : Int), .int .u64 ((loN (m) : Nat) : Int)]), (.agg #[.bool (s'), .int .u64 ((hiN (m') : Nat) : Int), .int .u64 ((loN (m') : Nat) : Int)])] w fun e w' => e = .returned (.int .i64 (sgn (val s m) (val s' m'))) ∧ Ext w w' := by
  by_cases he : s = s' ∧ m = m'
  · obtain ⟨rfl, rfl⟩ := he
    have e : sgn (val s m) (val s m) = 0 := by simp [sgn]
    rw [e]; exact cmp_same s m w
  · have e : sgn (val s m) (val s' m') = cmpB s s' (decide (m < m')) := by
      have n1 := good_nz h; have n2 := good_nz h'
      unfold sgn val cmpB
      cases s <;> cases s' <;> by_cases hl : m < m' <;> simp [hl] at he n1 n2 ⊢ <;> (repeat' split) <;> first | rfl | omega
    rw [e]; exact cmp_other s m s' m' w (by rw [h, h']; rfl) he

theorem val_mk (s : Bool) (r : Nat) : val (s && decide (r ≠ 0)) r = if s = true then -(r : Int) else (r : Int) := by
  unfold val
  by_cases h : r = 0
  · subst h; cases s <;> simp
  · cases s <;> simp [h]

/-- What a sum comes to: the value's sign and magnitude, or that it is too great. -/
theorem add_val (s : Bool) (m : Nat) (s' : Bool) (m' : Nat) (h : goodB s m = true) (h' : goodB s' m' = true) :
    ∃ (t : Bool) (r : Nat) (er : Value), (∀ w, Calls Tryd.prog 55 #[(.agg #[.bool (s), .int .u64 ((hiN (m) : Nat) : Int), .int .u64 ((loN (m) : Nat) : Int)]), (.agg #[.bool (s'), .int .u64 ((hiN (m') : Nat) : Int), .int .u64 ((loN (m') : Nat) : Int)])] w fun e w' => e = .returned (.tuple #[(.agg #[.bool (t), .int .u64 ((hiN (r) : Nat) : Int), .int .u64 ((loN (r) : Nat) : Int)]), er]) ∧ Ext w w') ∧
      (er = .nilIface ∧ goodB t r = true ∧ val t r = val s m + val s' m' ∨ er = .iface 77 (.int .i64 2) ∧ t = false ∧ r = 0 ∧ 1000000000000000000000000000000000000 ≤ (val s m + val s' m').natAbs) := by
  have hm := good_lt h; have hm' := good_lt h'
  have n1 := good_nz h; have n2 := good_nz h'
  by_cases hs : s = s'
  · subst hs
    by_cases hlt : m + m' < 1000000000000000000000000000000000000
    · refine ⟨s && decide (m + m' ≠ 0), m + m', .nilIface, fun w => sum_same s m m' w hm hm' (by simpa using hlt) _ rfl, Or.inl ⟨rfl, good_mk hlt (fun hh => by simp only [Bool.and_eq_true, decide_eq_true_eq] at hh; exact hh.2), ?_⟩⟩
      rw [val_mk]; unfold val
      cases s <;> simp only [Bool.false_eq_true, ↓reduceIte] <;> omega
    · refine ⟨false, 0, _, fun w => sum_over s m m' w hm hm' (by simpa using hlt), Or.inr ⟨rfl, rfl, rfl, ?_⟩⟩
      unfold val; cases s <;> simp only [Bool.false_eq_true, ↓reduceIte] <;> omega
  · have es : (s == s') = false := by simpa using hs
    by_cases hlt : m < m'
    · refine ⟨s' && decide (m' - m ≠ 0), m' - m, .nilIface, fun w => sum_less s m s' m' w es hm' hlt _ rfl, Or.inl ⟨rfl, good_mk (by omega) (fun hh => by simp only [Bool.and_eq_true, decide_eq_true_eq] at hh; exact hh.2), ?_⟩⟩
      rw [val_mk]; unfold val
      cases s <;> cases s' <;> first | exact absurd rfl hs | (simp only [Bool.false_eq_true, ↓reduceIte]; omega)
    · refine ⟨s && decide (m - m' ≠ 0), m - m', .nilIface, fun w => sum_geq s m s' m' w es hm hlt _ rfl, Or.inl ⟨rfl, good_mk (by omega) (fun hh => by simp only [Bool.and_eq_true, decide_eq_true_eq] at hh; exact hh.2), ?_⟩⟩
      rw [val_mk]; unfold val
      cases s <;> cases s' <;> first | exact absurd rfl hs | (simp only [Bool.false_eq_true, ↓reduceIte]; omega)

theorem sgn_add (x y c : Int) : sgn (x + c) (y + c) = sgn x y := by
  unfold sgn
  repeat' split
  all_goals first | rfl | omega
end Go.Proofs.YtlfdelobjbdimaaDoor
