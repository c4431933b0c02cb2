/-
  The law DecUnits, proved: times 1, divided by 1, to the power of 1 a number is itself; to the power of 0 it is 1; divided by itself it is 1. For every input; no condition.
-/
import Derived.Test.YtnjhmlnmdnocmaaDecX
import Derived.Test.YtnjhmlnmdnocmaaDecY
namespace Go.Proofs.Ytnjhmlnmdnocmaa
set_option linter.unusedSimpArgs false
set_option linter.unusedVariables false
open Go.ChangeShapes Go.WideShapes Go.ChangeAt Go.RowKit Go.Joins

theorem one_lit : hiN 1000000 = 0 ∧ loN 1000000 = 1000000 := ⟨by decide, by decide⟩
theorem whole_one (w : World) : Calls Try.prog 11 #[.agg #[.bool false, .int .u64 0, .int .u64 1000000]] w fun e w' => e = .returned (.tuple #[.int .i64 ((1 : Nat) : Int), .bool true]) ∧ Ext w w' :=
  whole_d 1000000 0 1 0 1 w (Lib.hid fun w => good_any false 1000000 w true (by decide)) (Lib.hid fun w => div_mega 1000000 (by decide) w) (by decide) (by decide) (by decide)
theorem whole_zero (w : World) : Calls Try.prog 11 #[.agg #[.bool false, .int .u64 0, .int .u64 0]] w fun e w' => e = .returned (.tuple #[.int .i64 ((0 : Nat) : Int), .bool true]) ∧ Ext w w' :=
  whole_d 0 0 0 0 0 w (Lib.hid fun w => good_any false 0 w true (by decide)) (Lib.hid fun w => div_mega 0 (by decide) w) (by decide) (by decide) (by decide)
theorem trunc_one (w : World) : Calls Try.prog 13 #[.agg #[.bool false, .int .u64 0, .int .u64 1000000]] w fun e w' => e = .returned (.agg #[.bool false, .int .u64 0, .int .u64 1000000]) ∧ Ext w w' :=
  trunc_good false 1000000 w (by decide) false (by decide)
theorem trunc_zero (w : World) : Calls Try.prog 13 #[.agg #[.bool false, .int .u64 0, .int .u64 0]] w fun e w' => e = .returned (.agg #[.bool false, .int .u64 0, .int .u64 0]) ∧ Ext w w' :=
  trunc_good false 0 w (by decide) false (by decide)

theorem good_sign {s : Bool} {m : Nat} (h : goodB s m = true) : (s && decide (m ≠ 0)) = s := by
  have := good_nz h; cases s <;> simp_all

theorem mul_one (s : Bool) (m : Nat) (w : World) (h : goodB s m = true) :
    Calls Try.prog 25 #[(.agg #[.bool (s), .int .u64 ((hiN (m) : Nat) : Int), .int .u64 ((loN (m) : Nat) : Int)]), .agg #[.bool false, .int .u64 0, .int .u64 1000000]] w fun e w' => e = .returned (.tuple #[(.agg #[.bool (s), .int .u64 ((hiN (m) : Nat) : Int), .int .u64 ((loN (m) : Nat) : Int)]), .nilIface]) ∧ Ext w w' := by
  have hm := good_lt h
  have e : m * 1000000 / 1000000 = m := by omega
  have k := (mul_good s m false 1000000 w h (by decide)).1
  rw [e] at k
  exact k hm s (by rw [Bool.bne_false]; exact good_sign h)
theorem one_mul (s : Bool) (m : Nat) (w : World) (h : goodB s m = true) :
    Calls Try.prog 25 #[.agg #[.bool false, .int .u64 0, .int .u64 1000000], (.agg #[.bool (s), .int .u64 ((hiN (m) : Nat) : Int), .int .u64 ((loN (m) : Nat) : Int)])] w fun e w' => e = .returned (.tuple #[(.agg #[.bool (s), .int .u64 ((hiN (m) : Nat) : Int), .int .u64 ((loN (m) : Nat) : Int)]), .nilIface]) ∧ Ext w w' := by
  have hm := good_lt h
  have e : 1000000 * m / 1000000 = m := by omega
  have k := (mul_good false 1000000 s m w (by decide) h).1
  rw [e] at k
  exact k hm s (by rw [Bool.false_bne]; exact good_sign h)
theorem div_one (s : Bool) (m : Nat) (w : World) (h : goodB s m = true) :
    Calls Try.prog 26 #[(.agg #[.bool (s), .int .u64 ((hiN (m) : Nat) : Int), .int .u64 ((loN (m) : Nat) : Int)]), .agg #[.bool false, .int .u64 0, .int .u64 1000000]] w fun e w' => e = .returned (.tuple #[(.agg #[.bool (s), .int .u64 ((hiN (m) : Nat) : Int), .int .u64 ((loN (m) : Nat) : Int)]), .nilIface]) ∧ Ext w w' := by
  have hm := good_lt h
  have e : m * 1000000 / 1000000 = m := by omega
  have k := div_ok s m false 1000000 w h (by decide) (by decide)
  rw [e] at k
  exact k hm s (by rw [Bool.bne_false]; exact good_sign h)
theorem div_self (s : Bool) (m : Nat) (w : World) (h : goodB s m = true) (h0 : m ≠ 0) :
    Calls Try.prog 26 #[(.agg #[.bool (s), .int .u64 ((hiN (m) : Nat) : Int), .int .u64 ((loN (m) : Nat) : Int)]), (.agg #[.bool (s), .int .u64 ((hiN (m) : Nat) : Int), .int .u64 ((loN (m) : Nat) : Int)])] w fun e w' => e = .returned (.tuple #[.agg #[.bool false, .int .u64 0, .int .u64 1000000], .nilIface]) ∧ Ext w w' := by
  have e : m * 1000000 / m = 1000000 := Nat.mul_div_cancel_left _ (by omega)
  have k := div_ok s m s m w h h h0
  rw [e] at k
  exact k (by decide) false (by simp)
theorem pow_one (s : Bool) (m : Nat) (w : World) (h : goodB s m = true) :
    Calls Try.prog 27 #[(.agg #[.bool (s), .int .u64 ((hiN (m) : Nat) : Int), .int .u64 ((loN (m) : Nat) : Int)]), .agg #[.bool false, .int .u64 0, .int .u64 1000000]] w fun e w' => e = .returned (.tuple #[(.agg #[.bool (s), .int .u64 ((hiN (m) : Nat) : Int), .int .u64 ((loN (m) : Nat) : Int)]), .nilIface]) ∧ Ext w w' := by
  refine pow_walk s _ _ 0 1000000 1 (by omega) w (fun k => if k = 0 then (false, 0, 1000000) else (s, hiN m, loN m))
    (Lib.hid fun w => right_any s m false 1000000 w true (by rw [h]; decide)) (Lib.hid trunc_one) (Lib.hid fun w => of_any s m w) (Lib.hid whole_one) (Lib.hid int1) (Lib.hid ?_)
  intro k hk w
  obtain rfl : k = 0 := by omega
  exact one_mul s m w h
theorem pow_zero (s : Bool) (m : Nat) (w : World) (h : goodB s m = true) :
    Calls Try.prog 27 #[(.agg #[.bool (s), .int .u64 ((hiN (m) : Nat) : Int), .int .u64 ((loN (m) : Nat) : Int)]), .agg #[.bool false, .int .u64 0, .int .u64 0]] w fun e w' => e = .returned (.tuple #[.agg #[.bool false, .int .u64 0, .int .u64 1000000], .nilIface]) ∧ Ext w w' := by
  refine pow_walk s _ _ 0 0 0 (by omega) w (fun _ => (false, 0, 1000000))
    (Lib.hid fun w => right_any s m false 0 w true (by rw [h]; decide)) (Lib.hid trunc_zero) (Lib.hid fun w => of_any s m w) (Lib.hid whole_zero) (Lib.hid int1) (Lib.hid ?_)
  intro k hk w
  omega

theorem units_bad (s : Bool) (m : Nat) (w : World) (h : goodB s m = false) :
    Calls Try.prog 6 #[(.agg #[.bool (s), .int .u64 ((hiN (m) : Nat) : Int), .int .u64 ((loN (m) : Nat) : Int)])] w fun e w' => e = .returned (.bool true) ∧ Ext w w' := by
  have A := Lib.hid awake_any
  have H1 := Lib.hid fun w => good_any s m w false h
  clear h
  go_enter Try.func6, Try.ntmps6
  go_wp2_with (first | (go_at_call 9; (with_reducible refine (A.out _).mono ?_); rintro e w9 ⟨rfl, hx9⟩; (have s9 := hx9.size; (try simp only [World.size_alloc, World.size_drew, World.size_setCell] at s9)); (try (have z9 : w.heap.size < w9.heap.size := (by omega); have k9 := fun o => hx9.cell (p := ⟨w.heap.size, o, none⟩) (by (try simp only [World.size_alloc, World.size_drew, World.size_setCell]); omega); have f9 := fun o => hx9.frozen (p := ⟨w.heap.size, o, none⟩) (by (try simp only [World.size_alloc, World.size_drew, World.size_setCell]); omega)))) | (go_at_call 12; (with_reducible refine (H1.out _).mono ?_); rintro e w9 ⟨rfl, hx9⟩; (have s9 := hx9.size; (try simp only [World.size_alloc, World.size_drew, World.size_setCell] at s9)); (try (have z9 : w.heap.size < w9.heap.size := (by omega); have k9 := fun o => hx9.cell (p := ⟨w.heap.size, o, none⟩) (by (try simp only [World.size_alloc, World.size_drew, World.size_setCell]); omega); have f9 := fun o => hx9.frozen (p := ⟨w.heap.size, o, none⟩) (by (try simp only [World.size_alloc, World.size_drew, World.size_setCell]); omega)))))
  go_ret
  refine ⟨rfl, ?_⟩
  repeat (first | (with_reducible refine Ext.set ?_ (by dsimp only; omega)) | (with_reducible refine Ext.al ?_) | (with_reducible refine Ext.dr ?_) | (with_reducible exact Ext.refl _) | (with_reducible refine Ext.trans ?_ (by assumption)))

theorem units_walk (s : Bool) (m : Nat) (w : World) :
    Calls Try.prog 6 #[(.agg #[.bool (s), .int .u64 ((hiN (m) : Nat) : Int), .int .u64 ((loN (m) : Nat) : Int)])] w fun e w' => e = .returned (.bool true) ∧ Ext w w' := by
  cases ha : goodB s m
  · exact units_bad s m w ha
  by_cases h0 : m = 0
  · subst h0
    have hs : s = false := by cases s; rfl; exact absurd rfl (good_nz ha rfl)
    subst hs
    exact units_zero w (Lib.hid fun w => good_any false 0 w true (by decide)) (Lib.hid fun w => mul_one false 0 w (by decide)) (Lib.hid fun w => div_one false 0 w (by decide)) (Lib.hid fun w => pow_one false 0 w (by decide)) (Lib.hid fun w => pow_zero false 0 w (by decide)) (Lib.hid fun w => div_zero false 0 w (by decide))
  · exact units_more s _ _ (fun ⟨_, h1, h2⟩ => halves_ne h0 ⟨h1, h2⟩) w (Lib.hid fun w => good_any s m w true ha) (Lib.hid fun w => mul_one s m w ha) (Lib.hid fun w => div_one s m w ha) (Lib.hid fun w => pow_one s m w ha) (Lib.hid fun w => pow_zero s m w ha) (Lib.hid fun w => div_self s m w ha h0)

set_option maxRecDepth 100000 in
theorem units_lifted (os : Os) (started : os.Started) (H : Type) (enc : TypeId × Value → H) :
    ReturnsInHanded {} Try.checked os 6 .any (Rows.decUnitsSpec.pre6 enc Try.prog Try.f6 Rows.decUnitsRow.domain false) (Rows.decUnitsSpec.post enc Try.prog Try.f6 false true false false) := by
  refine returnsInHanded_of_change (C := Try.checked) dec_own started (by kernel_rfl) Try.func6
    (ChangeSpec.witness6 (enc := enc) (C := Try.checked) false ⟨#[], #[.agg #[.bool false, .int .u64 0, .int .u64 0]], []⟩ 8 (by kernel_rfl) (by kernel_rfl) (by kernel_rfl) (by kernel_rfl)) ?_
  intro W base args ds gs before hval0 hW _ _
  have hval : ∀ (j : Nat) t v, Try.f6.params[j]? = some t → args[j]? = some v → Value.okWide Try.prog W .any base t v := hval0
  have hW' := hW
  obtain ⟨p, q, hA0, hV, rfl, hfz, hnd⟩ := hW
  have hA : DataW.TrodAll enc Try.prog W 0 (fun _ => true) true Try.f6.params.toList args.toList ds p := hA0
  rw [Try.params6] at hA hval
  obtain ⟨v0, d0, rfl, rfl, h0⟩ := trodAll_one hA
  obtain ⟨rfl, rfl⟩ := trodVars_none hV
  obtain ⟨s0, m0, rfl, rfl, rfl, b0⟩ := dec_open (hval 0 24 v0 rfl rfl) h0
  clear hA0 hval0
  simp only [List.append_nil] at hW'
  refine (units_walk s0 m0 W).mono fun e W' ⟨he, hx⟩ => ?_
  subst he
  exact ⟨_, rfl, _, _, _, [], [], [], hW', trodAll_mk1 (shut_bool Try.underlying4 _), trodAll_mk1 (dec_shut _ _ s0 m0 b0), rfl, Below.frame hx _, fun h => by cases h⟩

theorem decUnits_holds : Rows.DecUnitsSaid :=
  OpenClaim.holds_of_wide 6 Try.f6 rfl rfl rfl rfl rfl rfl rfl ⟨rfl, rfl, rfl, rfl, rfl⟩ rfl rfl rfl rfl rfl (by kernel_rfl) Try.func6 (by kernel_rfl)
    (of_decide_eq_true (by kernel_rfl)) (by unfold Func.isWrapper; first | (rw [if_pos (by decide +kernel)]; kernel_rfl) | (rw [if_neg (by decide +kernel)]; exact ⟨rfl, rfl⟩))
    (fun os started H enc _ => units_lifted os started H enc)
end Go.Proofs.Ytnjhmlnmdnocmaa
