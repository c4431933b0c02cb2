/-
  The law's 'awake': what the document tells.
-/
import Derived.Test.YtnjhmlnmdnocmaaDecS
import Derived.Test.YtnjhmlnmdnocmaaDecR
namespace Go.Proofs.Ytnjhmlnmdnocmaa
set_option linter.unusedSimpArgs false
set_option linter.unusedVariables false
open Go.RowKit

theorem int2 (w : World) : Calls Try.prog 10 #[.int .i64 2] w fun e w' => e = .returned (.agg #[.bool false, .int .u64 0, .int .u64 2000000]) ∧ Ext w w' := int_pos 2 (by omega) w
theorem int3 (w : World) : Calls Try.prog 10 #[.int .i64 3] w fun e w' => e = .returned (.agg #[.bool false, .int .u64 0, .int .u64 3000000]) ∧ Ext w w' := int_pos 3 (by omega) w
theorem int10 (w : World) : Calls Try.prog 10 #[.int .i64 10] w fun e w' => e = .returned (.agg #[.bool false, .int .u64 0, .int .u64 10000000]) ∧ Ext w w' := int_pos 10 (by omega) w
theorem int1 (w : World) : Calls Try.prog 10 #[.int .i64 1] w fun e w' => e = .returned (.agg #[.bool false, .int .u64 0, .int .u64 1000000]) ∧ Ext w w' := int_pos 1 (by omega) w
theorem int1024 (w : World) : Calls Try.prog 10 #[.int .i64 1024] w fun e w' => e = .returned (.agg #[.bool false, .int .u64 0, .int .u64 1024000000]) ∧ Ext w w' := int_pos 1024 (by omega) w
theorem intN7 (w : World) : Calls Try.prog 10 #[.int .i64 (-7)] w fun e w' => e = .returned (.agg #[.bool true, .int .u64 0, .int .u64 7000000]) ∧ Ext w w' := int_neg 7 (by omega) (by omega) w
theorem intN1 (w : World) : Calls Try.prog 10 #[.int .i64 (-1)] w fun e w' => e = .returned (.agg #[.bool true, .int .u64 0, .int .u64 1000000]) ∧ Ext w w' := int_neg 1 (by omega) (by omega) w
theorem aw_div (w : World) : Calls Try.prog 26 #[.agg #[.bool false, .int .u64 0, .int .u64 2000000], .agg #[.bool false, .int .u64 0, .int .u64 3000000]] w fun e w' => e = .returned (.tuple #[.agg #[.bool false, .int .u64 0, .int .u64 666666], .nilIface]) ∧ Ext w w' :=
  div_ok false 2000000 false 3000000 w (by decide) (by decide) (by decide) (by decide) false (by decide)
theorem aw_mod (w : World) : Calls Try.prog 24 #[.agg #[.bool true, .int .u64 0, .int .u64 7000000], .agg #[.bool false, .int .u64 0, .int .u64 2000000]] w fun e w' => e = .returned (.tuple #[.agg #[.bool true, .int .u64 0, .int .u64 1000000], .nilIface]) ∧ Ext w w' :=
  mod_ok true 7000000 false 2000000 w (by decide) (by decide) (by decide) true (by decide)
theorem aw_cmp (w : World) : Calls Try.prog 22 #[.agg #[.bool true, .int .u64 0, .int .u64 1000000], .agg #[.bool false, .int .u64 0, .int .u64 1024000000]] w fun e w' => e = .returned (.int .i64 (-1)) ∧ Ext w w' :=
  cmp_other true 1000000 false 1024000000 w (by decide) (by decide)
theorem aw_whole (w : World) : Calls Try.prog 11 #[.agg #[.bool false, .int .u64 0, .int .u64 10000000]] w fun e w' => e = .returned (.tuple #[.int .i64 ((10 : Nat) : Int), .bool true]) ∧ Ext w w' :=
  whole_d 10000000 0 10 0 10 w (Lib.hid fun w => good_any false 10000000 w true (by decide)) (Lib.hid fun w => div_mega 10000000 (by decide) w) (by decide) (by decide) (by decide)
theorem aw_trunc (w : World) : Calls Try.prog 13 #[.agg #[.bool false, .int .u64 0, .int .u64 10000000]] w fun e w' => e = .returned (.agg #[.bool false, .int .u64 0, .int .u64 10000000]) ∧ Ext w w' :=
  trunc_good false 10000000 w (by decide) false (by decide)
theorem aw_pow (w : World) : Calls Try.prog 27 #[.agg #[.bool false, .int .u64 0, .int .u64 2000000], .agg #[.bool false, .int .u64 0, .int .u64 10000000]] w fun e w' => e = .returned (.tuple #[.agg #[.bool false, .int .u64 0, .int .u64 1024000000], .nilIface]) ∧ Ext w w' := by
  refine pow_walk false 0 2000000 0 10000000 10 (by omega) w (fun k => (false, hiN (2 ^ k * 1000000), loN (2 ^ k * 1000000)))
    (Lib.hid fun w => right_any false 2000000 false 10000000 w true (by decide)) (Lib.hid aw_trunc) (Lib.hid fun w => of_any false 2000000 w) (Lib.hid aw_whole) (Lib.hid int1) (Lib.hid ?_)
  intro k hk w
  have hp : 2 ^ k * 1000000 ≤ 512000000 := by
    have : 2 ^ k ≤ 2 ^ 9 := Nat.pow_le_pow_right (by omega) (by omega)
    omega
  have hg : goodB false (2 ^ k * 1000000) = true := by simp [goodB]; omega
  have hq : 2 ^ k * 1000000 * 2000000 / 1000000 = 2 ^ (k + 1) * 1000000 := by rw [Nat.pow_succ]; omega
  have h := (mul_good false (2 ^ k * 1000000) false 2000000 w hg (by decide)).1
  rw [hq] at h
  exact h (by rw [Nat.pow_succ]; omega) false (by simp)

set_option maxRecDepth 100000 in
set_option maxHeartbeats 2000000 in
theorem awake_any (w : World) : Calls Try.prog 9 #[] w fun e w' => e = .returned (.bool true) ∧ Ext w w' := by
  go_enter Try.func9, Try.ntmps9
  go_wp2_with fail
  refine (int2 _).mono ?_
  rintro e w1 ⟨rfl, hx⟩
  go_wp2_with fail
  refine (int3 _).mono ?_
  rintro e w2 ⟨rfl, hx9⟩
  replace hx := hx.trans hx9
  go_wp2_with fail
  refine (aw_div _).mono ?_
  rintro e w3 ⟨rfl, hx9⟩
  replace hx := hx.trans hx9
  go_wp2_with fail
  refine (intN7 _).mono ?_
  rintro e w4 ⟨rfl, hx9⟩
  have s9 := hx9.size
  (have s9 := hx9.size; (try simp only [World.size_alloc, World.size_drew, World.size_setCell] at s9)); (try (have z9 : w3.heap.size < w4.heap.size := (by omega); have k9 := fun o => hx9.cell (p := ⟨w3.heap.size, o, none⟩) (by (try simp only [World.size_alloc, World.size_drew, World.size_setCell]); omega); have f9 := fun o => hx9.frozen (p := ⟨w3.heap.size, o, none⟩) (by (try simp only [World.size_alloc, World.size_drew, World.size_setCell]); omega)))
  replace hx := (Ext.al hx).trans hx9
  go_wp2_with fail
  refine (int2 _).mono ?_
  rintro e w5 ⟨rfl, hx9⟩
  (have s9 := hx9.size; (try simp only [World.size_alloc, World.size_drew, World.size_setCell] at s9)); (try (have z9 : w3.heap.size < w5.heap.size := (by omega); have k9 := fun o => hx9.cell (p := ⟨w3.heap.size, o, none⟩) (by (try simp only [World.size_alloc, World.size_drew, World.size_setCell]); omega); have f9 := fun o => hx9.frozen (p := ⟨w3.heap.size, o, none⟩) (by (try simp only [World.size_alloc, World.size_drew, World.size_setCell]); omega)))
  replace hx := hx.trans hx9
  go_wp2_with fail
  refine (aw_mod _).mono ?_
  rintro e w6 ⟨rfl, hx9⟩
  (have s9 := hx9.size; (try simp only [World.size_alloc, World.size_drew, World.size_setCell] at s9)); (try (have z9 : w3.heap.size < w6.heap.size := (by omega); have k9 := fun o => hx9.cell (p := ⟨w3.heap.size, o, none⟩) (by (try simp only [World.size_alloc, World.size_drew, World.size_setCell]); omega); have f9 := fun o => hx9.frozen (p := ⟨w3.heap.size, o, none⟩) (by (try simp only [World.size_alloc, World.size_drew, World.size_setCell]); omega)))
  replace hx := hx.trans hx9
  go_wp2_with fail
  refine (int2 _).mono ?_
  rintro e w7 ⟨rfl, hx9⟩
  (have s9 := hx9.size; (try simp only [World.size_alloc, World.size_drew, World.size_setCell] at s9)); (try (have z9 : w3.heap.size < w7.heap.size := (by omega); have k9 := fun o => hx9.cell (p := ⟨w3.heap.size, o, none⟩) (by (try simp only [World.size_alloc, World.size_drew, World.size_setCell]); omega); have f9 := fun o => hx9.frozen (p := ⟨w3.heap.size, o, none⟩) (by (try simp only [World.size_alloc, World.size_drew, World.size_setCell]); omega))); (try (have z9 : w6.heap.size < w7.heap.size := (by omega); have k9 := fun o => hx9.cell (p := ⟨w6.heap.size, o, none⟩) (by (try simp only [World.size_alloc, World.size_drew, World.size_setCell]); omega); have f9 := fun o => hx9.frozen (p := ⟨w6.heap.size, o, none⟩) (by (try simp only [World.size_alloc, World.size_drew, World.size_setCell]); omega)))
  replace hx := (Ext.al hx).trans hx9
  go_wp2_with fail
  refine (int10 _).mono ?_
  rintro e w8 ⟨rfl, hx9⟩
  (have s9 := hx9.size; (try simp only [World.size_alloc, World.size_drew, World.size_setCell] at s9)); (try (have z9 : w3.heap.size < w8.heap.size := (by omega); have k9 := fun o => hx9.cell (p := ⟨w3.heap.size, o, none⟩) (by (try simp only [World.size_alloc, World.size_drew, World.size_setCell]); omega); have f9 := fun o => hx9.frozen (p := ⟨w3.heap.size, o, none⟩) (by (try simp only [World.size_alloc, World.size_drew, World.size_setCell]); omega))); (try (have z9 : w6.heap.size < w8.heap.size := (by omega); have k9 := fun o => hx9.cell (p := ⟨w6.heap.size, o, none⟩) (by (try simp only [World.size_alloc, World.size_drew, World.size_setCell]); omega); have f9 := fun o => hx9.frozen (p := ⟨w6.heap.size, o, none⟩) (by (try simp only [World.size_alloc, World.size_drew, World.size_setCell]); omega)))
  replace hx := hx.trans hx9
  go_wp2_with fail
  refine (aw_pow _).mono ?_
  rintro e w9 ⟨rfl, hx9⟩
  (have s9 := hx9.size; (try simp only [World.size_alloc, World.size_drew, World.size_setCell] at s9)); (try (have z9 : w3.heap.size < w9.heap.size := (by omega); have k9 := fun o => hx9.cell (p := ⟨w3.heap.size, o, none⟩) (by (try simp only [World.size_alloc, World.size_drew, World.size_setCell]); omega); have f9 := fun o => hx9.frozen (p := ⟨w3.heap.size, o, none⟩) (by (try simp only [World.size_alloc, World.size_drew, World.size_setCell]); omega))); (try (have z9 : w6.heap.size < w9.heap.size := (by omega); have k9 := fun o => hx9.cell (p := ⟨w6.heap.size, o, none⟩) (by (try simp only [World.size_alloc, World.size_drew, World.size_setCell]); omega); have f9 := fun o => hx9.frozen (p := ⟨w6.heap.size, o, none⟩) (by (try simp only [World.size_alloc, World.size_drew, World.size_setCell]); omega)))
  replace hx := hx.trans hx9
  go_wp2_with fail
  refine wp_region_M (fun w' => Ext _ w') (fun i => !([] : List Nat).contains i) (by kernel_rfl) (Ext.drew _) ?_
  refine takeV (v := ?_) 0 rfl (by kernel_rfl) (fun _ _ _ h => h) (by rfl) ?_ ?_; rotate_left
  · intro w' hS; (try have k9 := fun o => hS.cell (p := ⟨w3.heap.size, o, none⟩) (by (try simp only [World.size_alloc, World.size_drew, World.size_setCell]); omega)); (try have k9 := fun o => hS.cell (p := ⟨w6.heap.size, o, none⟩) (by (try simp only [World.size_alloc, World.size_drew, World.size_setCell]); omega)); (try have k9 := fun o => hS.cell (p := ⟨w9.heap.size, o, none⟩) (by (try simp only [World.size_alloc, World.size_drew, World.size_setCell]); omega)); go_simp; all_goals with_reducible rfl
  simp only [Act.put, List.setIfInBounds_toArray, List.set_cons_zero, List.set_cons_succ]
  refine takeV (v := ?_) 1 rfl (by kernel_rfl) (fun _ _ _ h => h) (by rfl) ?_ ?_; rotate_left
  · intro w' hS; (try have k9 := fun o => hS.cell (p := ⟨w3.heap.size, o, none⟩) (by (try simp only [World.size_alloc, World.size_drew, World.size_setCell]); omega)); (try have k9 := fun o => hS.cell (p := ⟨w6.heap.size, o, none⟩) (by (try simp only [World.size_alloc, World.size_drew, World.size_setCell]); omega)); (try have k9 := fun o => hS.cell (p := ⟨w9.heap.size, o, none⟩) (by (try simp only [World.size_alloc, World.size_drew, World.size_setCell]); omega)); go_simp; all_goals with_reducible rfl
  simp only [Act.put, List.setIfInBounds_toArray, List.set_cons_zero, List.set_cons_succ]
  refine takeV (v := ?_) 2 rfl (by kernel_rfl) (fun _ _ _ h => h) (by rfl) ?_ ?_; rotate_left
  · intro w' hS; (try have k9 := fun o => hS.cell (p := ⟨w3.heap.size, o, none⟩) (by (try simp only [World.size_alloc, World.size_drew, World.size_setCell]); omega)); (try have k9 := fun o => hS.cell (p := ⟨w6.heap.size, o, none⟩) (by (try simp only [World.size_alloc, World.size_drew, World.size_setCell]); omega)); (try have k9 := fun o => hS.cell (p := ⟨w9.heap.size, o, none⟩) (by (try simp only [World.size_alloc, World.size_drew, World.size_setCell]); omega)); go_simp; all_goals with_reducible rfl
  simp only [Act.put, List.setIfInBounds_toArray, List.set_cons_zero, List.set_cons_succ]
  refine takeV (v := ?_) 3 rfl (by kernel_rfl) (fun _ _ _ h => h) (by rfl) ?_ ?_; rotate_left
  · intro w' hS; (try have k9 := fun o => hS.cell (p := ⟨w3.heap.size, o, none⟩) (by (try simp only [World.size_alloc, World.size_drew, World.size_setCell]); omega)); (try have k9 := fun o => hS.cell (p := ⟨w6.heap.size, o, none⟩) (by (try simp only [World.size_alloc, World.size_drew, World.size_setCell]); omega)); (try have k9 := fun o => hS.cell (p := ⟨w9.heap.size, o, none⟩) (by (try simp only [World.size_alloc, World.size_drew, World.size_setCell]); omega)); go_simp; all_goals with_reducible rfl
  simp only [Act.put, List.setIfInBounds_toArray, List.set_cons_zero, List.set_cons_succ]
  refine takeV (v := ?_) 4 rfl (by kernel_rfl) (fun _ _ _ h => h) (by rfl) ?_ ?_; rotate_left
  · intro w' hS; (try have k9 := fun o => hS.cell (p := ⟨w3.heap.size, o, none⟩) (by (try simp only [World.size_alloc, World.size_drew, World.size_setCell]); omega)); (try have k9 := fun o => hS.cell (p := ⟨w6.heap.size, o, none⟩) (by (try simp only [World.size_alloc, World.size_drew, World.size_setCell]); omega)); (try have k9 := fun o => hS.cell (p := ⟨w9.heap.size, o, none⟩) (by (try simp only [World.size_alloc, World.size_drew, World.size_setCell]); omega)); go_simp; all_goals with_reducible rfl
  simp only [Act.put, List.setIfInBounds_toArray, List.set_cons_zero, List.set_cons_succ]
  refine takeV (v := ?_) 5 rfl (by kernel_rfl) (fun _ _ _ h => h) (by rfl) ?_ ?_; rotate_left
  · intro w' hS; (try have k9 := fun o => hS.cell (p := ⟨w3.heap.size, o, none⟩) (by (try simp only [World.size_alloc, World.size_drew, World.size_setCell]); omega)); (try have k9 := fun o => hS.cell (p := ⟨w6.heap.size, o, none⟩) (by (try simp only [World.size_alloc, World.size_drew, World.size_setCell]); omega)); (try have k9 := fun o => hS.cell (p := ⟨w9.heap.size, o, none⟩) (by (try simp only [World.size_alloc, World.size_drew, World.size_setCell]); omega)); go_simp; all_goals with_reducible rfl
  simp only [Act.put, List.setIfInBounds_toArray, List.set_cons_zero, List.set_cons_succ]
  refine takeV (v := ?_) 6 rfl (by kernel_rfl) (fun _ _ _ h => h) (by rfl) ?_ ?_; rotate_left
  · intro w' hS; (try have k9 := fun o => hS.cell (p := ⟨w3.heap.size, o, none⟩) (by (try simp only [World.size_alloc, World.size_drew, World.size_setCell]); omega)); (try have k9 := fun o => hS.cell (p := ⟨w6.heap.size, o, none⟩) (by (try simp only [World.size_alloc, World.size_drew, World.size_setCell]); omega)); (try have k9 := fun o => hS.cell (p := ⟨w9.heap.size, o, none⟩) (by (try simp only [World.size_alloc, World.size_drew, World.size_setCell]); omega)); go_simp; all_goals with_reducible rfl
  simp only [Act.put, List.setIfInBounds_toArray, List.set_cons_zero, List.set_cons_succ]
  refine takeV (v := ?_) 7 rfl (by kernel_rfl) (fun _ _ _ h => h) (by rfl) ?_ ?_; rotate_left
  · intro w' hS; (try have k9 := fun o => hS.cell (p := ⟨w3.heap.size, o, none⟩) (by (try simp only [World.size_alloc, World.size_drew, World.size_setCell]); omega)); (try have k9 := fun o => hS.cell (p := ⟨w6.heap.size, o, none⟩) (by (try simp only [World.size_alloc, World.size_drew, World.size_setCell]); omega)); (try have k9 := fun o => hS.cell (p := ⟨w9.heap.size, o, none⟩) (by (try simp only [World.size_alloc, World.size_drew, World.size_setCell]); omega)); go_simp; all_goals with_reducible rfl
  simp only [Act.put, List.setIfInBounds_toArray, List.set_cons_zero, List.set_cons_succ]
  refine takeV (v := ?_) 8 rfl (by kernel_rfl) (fun _ _ _ h => h) (by rfl) ?_ ?_; rotate_left
  · intro w' hS; (try have k9 := fun o => hS.cell (p := ⟨w3.heap.size, o, none⟩) (by (try simp only [World.size_alloc, World.size_drew, World.size_setCell]); omega)); (try have k9 := fun o => hS.cell (p := ⟨w6.heap.size, o, none⟩) (by (try simp only [World.size_alloc, World.size_drew, World.size_setCell]); omega)); (try have k9 := fun o => hS.cell (p := ⟨w9.heap.size, o, none⟩) (by (try simp only [World.size_alloc, World.size_drew, World.size_setCell]); omega)); go_simp; all_goals with_reducible rfl
  simp only [Act.put, List.setIfInBounds_toArray, List.set_cons_zero, List.set_cons_succ]
  refine takeC (v := ?_) 9 rfl (by kernel_rfl) (fun _ _ _ h => h) (by rfl) (fun _ => by go_simp; exact ⟨rfl, rfl⟩) ?_ ?_; rotate_left
  · intro w' hS; refine Calls.mono (intN1 _) fun e w2 hh => ⟨hh.1.trans ?_, hh.2, hS.trans hh.2⟩; with_reducible rfl
  simp only [Act.put, List.setIfInBounds_toArray, List.set_cons_zero, List.set_cons_succ]
  refine takeV (v := ?_) 10 rfl (by kernel_rfl) (fun _ _ _ h => h) (by rfl) ?_ ?_; rotate_left
  · intro w' hS; (try have k9 := fun o => hS.cell (p := ⟨w3.heap.size, o, none⟩) (by (try simp only [World.size_alloc, World.size_drew, World.size_setCell]); omega)); (try have k9 := fun o => hS.cell (p := ⟨w6.heap.size, o, none⟩) (by (try simp only [World.size_alloc, World.size_drew, World.size_setCell]); omega)); (try have k9 := fun o => hS.cell (p := ⟨w9.heap.size, o, none⟩) (by (try simp only [World.size_alloc, World.size_drew, World.size_setCell]); omega)); go_simp; all_goals with_reducible rfl
  simp only [Act.put, List.setIfInBounds_toArray, List.set_cons_zero, List.set_cons_succ]
  refine takeV (v := ?_) 11 rfl (by kernel_rfl) (fun _ _ _ h => h) (by rfl) ?_ ?_; rotate_left
  · intro w' hS; (try have k9 := fun o => hS.cell (p := ⟨w3.heap.size, o, none⟩) (by (try simp only [World.size_alloc, World.size_drew, World.size_setCell]); omega)); (try have k9 := fun o => hS.cell (p := ⟨w6.heap.size, o, none⟩) (by (try simp only [World.size_alloc, World.size_drew, World.size_setCell]); omega)); (try have k9 := fun o => hS.cell (p := ⟨w9.heap.size, o, none⟩) (by (try simp only [World.size_alloc, World.size_drew, World.size_setCell]); omega)); go_simp; all_goals with_reducible rfl
  simp only [Act.put, List.setIfInBounds_toArray, List.set_cons_zero, List.set_cons_succ]
  refine takeV (v := ?_) 12 rfl (by kernel_rfl) (fun _ _ _ h => h) (by rfl) ?_ ?_; rotate_left
  · intro w' hS; (try have k9 := fun o => hS.cell (p := ⟨w3.heap.size, o, none⟩) (by (try simp only [World.size_alloc, World.size_drew, World.size_setCell]); omega)); (try have k9 := fun o => hS.cell (p := ⟨w6.heap.size, o, none⟩) (by (try simp only [World.size_alloc, World.size_drew, World.size_setCell]); omega)); (try have k9 := fun o => hS.cell (p := ⟨w9.heap.size, o, none⟩) (by (try simp only [World.size_alloc, World.size_drew, World.size_setCell]); omega)); go_simp; all_goals with_reducible rfl
  simp only [Act.put, List.setIfInBounds_toArray, List.set_cons_zero, List.set_cons_succ]
  refine takeV (v := ?_) 13 rfl (by kernel_rfl) (fun _ _ _ h => h) (by rfl) ?_ ?_; rotate_left
  · intro w' hS; (try have k9 := fun o => hS.cell (p := ⟨w3.heap.size, o, none⟩) (by (try simp only [World.size_alloc, World.size_drew, World.size_setCell]); omega)); (try have k9 := fun o => hS.cell (p := ⟨w6.heap.size, o, none⟩) (by (try simp only [World.size_alloc, World.size_drew, World.size_setCell]); omega)); (try have k9 := fun o => hS.cell (p := ⟨w9.heap.size, o, none⟩) (by (try simp only [World.size_alloc, World.size_drew, World.size_setCell]); omega)); go_simp; all_goals with_reducible rfl
  simp only [Act.put, List.setIfInBounds_toArray, List.set_cons_zero, List.set_cons_succ]
  refine takeV (v := ?_) 14 rfl (by kernel_rfl) (fun _ _ _ h => h) (by rfl) ?_ ?_; rotate_left
  · intro w' hS; (try have k9 := fun o => hS.cell (p := ⟨w3.heap.size, o, none⟩) (by (try simp only [World.size_alloc, World.size_drew, World.size_setCell]); omega)); (try have k9 := fun o => hS.cell (p := ⟨w6.heap.size, o, none⟩) (by (try simp only [World.size_alloc, World.size_drew, World.size_setCell]); omega)); (try have k9 := fun o => hS.cell (p := ⟨w9.heap.size, o, none⟩) (by (try simp only [World.size_alloc, World.size_drew, World.size_setCell]); omega)); go_simp; all_goals with_reducible rfl
  simp only [Act.put, List.setIfInBounds_toArray, List.set_cons_zero, List.set_cons_succ]
  refine takeV (v := ?_) 15 rfl (by kernel_rfl) (fun _ _ _ h => h) (by rfl) ?_ ?_; rotate_left
  · intro w' hS; (try have k9 := fun o => hS.cell (p := ⟨w3.heap.size, o, none⟩) (by (try simp only [World.size_alloc, World.size_drew, World.size_setCell]); omega)); (try have k9 := fun o => hS.cell (p := ⟨w6.heap.size, o, none⟩) (by (try simp only [World.size_alloc, World.size_drew, World.size_setCell]); omega)); (try have k9 := fun o => hS.cell (p := ⟨w9.heap.size, o, none⟩) (by (try simp only [World.size_alloc, World.size_drew, World.size_setCell]); omega)); go_simp; all_goals with_reducible rfl
  simp only [Act.put, List.setIfInBounds_toArray, List.set_cons_zero, List.set_cons_succ]
  refine takeV (v := ?_) 16 rfl (by kernel_rfl) (fun _ _ _ h => h) (by rfl) ?_ ?_; rotate_left
  · intro w' hS; (try have k9 := fun o => hS.cell (p := ⟨w3.heap.size, o, none⟩) (by (try simp only [World.size_alloc, World.size_drew, World.size_setCell]); omega)); (try have k9 := fun o => hS.cell (p := ⟨w6.heap.size, o, none⟩) (by (try simp only [World.size_alloc, World.size_drew, World.size_setCell]); omega)); (try have k9 := fun o => hS.cell (p := ⟨w9.heap.size, o, none⟩) (by (try simp only [World.size_alloc, World.size_drew, World.size_setCell]); omega)); go_simp; all_goals with_reducible rfl
  simp only [Act.put, List.setIfInBounds_toArray, List.set_cons_zero, List.set_cons_succ]
  refine takeV (v := ?_) 17 rfl (by kernel_rfl) (fun _ _ _ h => h) (by rfl) ?_ ?_; rotate_left
  · intro w' hS; (try have k9 := fun o => hS.cell (p := ⟨w3.heap.size, o, none⟩) (by (try simp only [World.size_alloc, World.size_drew, World.size_setCell]); omega)); (try have k9 := fun o => hS.cell (p := ⟨w6.heap.size, o, none⟩) (by (try simp only [World.size_alloc, World.size_drew, World.size_setCell]); omega)); (try have k9 := fun o => hS.cell (p := ⟨w9.heap.size, o, none⟩) (by (try simp only [World.size_alloc, World.size_drew, World.size_setCell]); omega)); go_simp; all_goals with_reducible rfl
  simp only [Act.put, List.setIfInBounds_toArray, List.set_cons_zero, List.set_cons_succ]
  refine takeV (v := ?_) 18 rfl (by kernel_rfl) (fun _ _ _ h => h) (by rfl) ?_ ?_; rotate_left
  · intro w' hS; (try have k9 := fun o => hS.cell (p := ⟨w3.heap.size, o, none⟩) (by (try simp only [World.size_alloc, World.size_drew, World.size_setCell]); omega)); (try have k9 := fun o => hS.cell (p := ⟨w6.heap.size, o, none⟩) (by (try simp only [World.size_alloc, World.size_drew, World.size_setCell]); omega)); (try have k9 := fun o => hS.cell (p := ⟨w9.heap.size, o, none⟩) (by (try simp only [World.size_alloc, World.size_drew, World.size_setCell]); omega)); go_simp; all_goals with_reducible rfl
  simp only [Act.put, List.setIfInBounds_toArray, List.set_cons_zero, List.set_cons_succ]
  refine takeV (v := ?_) 19 rfl (by kernel_rfl) (fun _ _ _ h => h) (by rfl) ?_ ?_; rotate_left
  · intro w' hS; (try have k9 := fun o => hS.cell (p := ⟨w3.heap.size, o, none⟩) (by (try simp only [World.size_alloc, World.size_drew, World.size_setCell]); omega)); (try have k9 := fun o => hS.cell (p := ⟨w6.heap.size, o, none⟩) (by (try simp only [World.size_alloc, World.size_drew, World.size_setCell]); omega)); (try have k9 := fun o => hS.cell (p := ⟨w9.heap.size, o, none⟩) (by (try simp only [World.size_alloc, World.size_drew, World.size_setCell]); omega)); go_simp; all_goals with_reducible rfl
  simp only [Act.put, List.setIfInBounds_toArray, List.set_cons_zero, List.set_cons_succ]
  refine takeV (v := ?_) 20 rfl (by kernel_rfl) (fun _ _ _ h => h) (by rfl) ?_ ?_; rotate_left
  · intro w' hS; (try have k9 := fun o => hS.cell (p := ⟨w3.heap.size, o, none⟩) (by (try simp only [World.size_alloc, World.size_drew, World.size_setCell]); omega)); (try have k9 := fun o => hS.cell (p := ⟨w6.heap.size, o, none⟩) (by (try simp only [World.size_alloc, World.size_drew, World.size_setCell]); omega)); (try have k9 := fun o => hS.cell (p := ⟨w9.heap.size, o, none⟩) (by (try simp only [World.size_alloc, World.size_drew, World.size_setCell]); omega)); go_simp; all_goals with_reducible rfl
  simp only [Act.put, List.setIfInBounds_toArray, List.set_cons_zero, List.set_cons_succ]
  refine takeV (v := ?_) 21 rfl (by kernel_rfl) (fun _ _ _ h => h) (by rfl) ?_ ?_; rotate_left
  · intro w' hS; (try have k9 := fun o => hS.cell (p := ⟨w3.heap.size, o, none⟩) (by (try simp only [World.size_alloc, World.size_drew, World.size_setCell]); omega)); (try have k9 := fun o => hS.cell (p := ⟨w6.heap.size, o, none⟩) (by (try simp only [World.size_alloc, World.size_drew, World.size_setCell]); omega)); (try have k9 := fun o => hS.cell (p := ⟨w9.heap.size, o, none⟩) (by (try simp only [World.size_alloc, World.size_drew, World.size_setCell]); omega)); go_simp; all_goals with_reducible rfl
  simp only [Act.put, List.setIfInBounds_toArray, List.set_cons_zero, List.set_cons_succ]
  refine takeC (v := ?_) 22 rfl (by kernel_rfl) (fun _ _ _ h => h) (by rfl) (fun _ => by go_simp; exact ⟨rfl, rfl⟩) ?_ ?_; rotate_left
  · intro w' hS; refine Calls.mono (int1024 _) fun e w2 hh => ⟨hh.1.trans ?_, hh.2, hS.trans hh.2⟩; with_reducible rfl
  simp only [Act.put, List.setIfInBounds_toArray, List.set_cons_zero, List.set_cons_succ]
  refine takeV (v := ?_) 23 rfl (by kernel_rfl) (fun _ _ _ h => h) (by rfl) ?_ ?_; rotate_left
  · intro w' hS; (try have k9 := fun o => hS.cell (p := ⟨w3.heap.size, o, none⟩) (by (try simp only [World.size_alloc, World.size_drew, World.size_setCell]); omega)); (try have k9 := fun o => hS.cell (p := ⟨w6.heap.size, o, none⟩) (by (try simp only [World.size_alloc, World.size_drew, World.size_setCell]); omega)); (try have k9 := fun o => hS.cell (p := ⟨w9.heap.size, o, none⟩) (by (try simp only [World.size_alloc, World.size_drew, World.size_setCell]); omega)); go_simp; all_goals with_reducible rfl
  simp only [Act.put, List.setIfInBounds_toArray, List.set_cons_zero, List.set_cons_succ]
  refine takeV (v := ?_) 24 rfl (by kernel_rfl) (fun _ _ _ h => h) (by rfl) ?_ ?_; rotate_left
  · intro w' hS; (try have k9 := fun o => hS.cell (p := ⟨w3.heap.size, o, none⟩) (by (try simp only [World.size_alloc, World.size_drew, World.size_setCell]); omega)); (try have k9 := fun o => hS.cell (p := ⟨w6.heap.size, o, none⟩) (by (try simp only [World.size_alloc, World.size_drew, World.size_setCell]); omega)); (try have k9 := fun o => hS.cell (p := ⟨w9.heap.size, o, none⟩) (by (try simp only [World.size_alloc, World.size_drew, World.size_setCell]); omega)); go_simp; all_goals with_reducible rfl
  simp only [Act.put, List.setIfInBounds_toArray, List.set_cons_zero, List.set_cons_succ]
  refine takeV (v := ?_) 25 rfl (by kernel_rfl) (fun _ _ _ h => h) (by rfl) ?_ ?_; rotate_left
  · intro w' hS; (try have k9 := fun o => hS.cell (p := ⟨w3.heap.size, o, none⟩) (by (try simp only [World.size_alloc, World.size_drew, World.size_setCell]); omega)); (try have k9 := fun o => hS.cell (p := ⟨w6.heap.size, o, none⟩) (by (try simp only [World.size_alloc, World.size_drew, World.size_setCell]); omega)); (try have k9 := fun o => hS.cell (p := ⟨w9.heap.size, o, none⟩) (by (try simp only [World.size_alloc, World.size_drew, World.size_setCell]); omega)); go_simp; all_goals with_reducible rfl
  simp only [Act.put, List.setIfInBounds_toArray, List.set_cons_zero, List.set_cons_succ]
  refine takeV (v := ?_) 26 rfl (by kernel_rfl) (fun _ _ _ h => h) (by rfl) ?_ ?_; rotate_left
  · intro w' hS; (try have k9 := fun o => hS.cell (p := ⟨w3.heap.size, o, none⟩) (by (try simp only [World.size_alloc, World.size_drew, World.size_setCell]); omega)); (try have k9 := fun o => hS.cell (p := ⟨w6.heap.size, o, none⟩) (by (try simp only [World.size_alloc, World.size_drew, World.size_setCell]); omega)); (try have k9 := fun o => hS.cell (p := ⟨w9.heap.size, o, none⟩) (by (try simp only [World.size_alloc, World.size_drew, World.size_setCell]); omega)); go_simp; all_goals with_reducible rfl
  simp only [Act.put, List.setIfInBounds_toArray, List.set_cons_zero, List.set_cons_succ]
  refine takeV (v := ?_) 27 rfl (by kernel_rfl) (fun _ _ _ h => h) (by rfl) ?_ ?_; rotate_left
  · intro w' hS; (try have k9 := fun o => hS.cell (p := ⟨w3.heap.size, o, none⟩) (by (try simp only [World.size_alloc, World.size_drew, World.size_setCell]); omega)); (try have k9 := fun o => hS.cell (p := ⟨w6.heap.size, o, none⟩) (by (try simp only [World.size_alloc, World.size_drew, World.size_setCell]); omega)); (try have k9 := fun o => hS.cell (p := ⟨w9.heap.size, o, none⟩) (by (try simp only [World.size_alloc, World.size_drew, World.size_setCell]); omega)); go_simp; all_goals with_reducible rfl
  simp only [Act.put, List.setIfInBounds_toArray, List.set_cons_zero, List.set_cons_succ]
  refine takeV (v := ?_) 28 rfl (by kernel_rfl) (fun _ _ _ h => h) (by rfl) ?_ ?_; rotate_left
  · intro w' hS; (try have k9 := fun o => hS.cell (p := ⟨w3.heap.size, o, none⟩) (by (try simp only [World.size_alloc, World.size_drew, World.size_setCell]); omega)); (try have k9 := fun o => hS.cell (p := ⟨w6.heap.size, o, none⟩) (by (try simp only [World.size_alloc, World.size_drew, World.size_setCell]); omega)); (try have k9 := fun o => hS.cell (p := ⟨w9.heap.size, o, none⟩) (by (try simp only [World.size_alloc, World.size_drew, World.size_setCell]); omega)); go_simp; all_goals with_reducible rfl
  simp only [Act.put, List.setIfInBounds_toArray, List.set_cons_zero, List.set_cons_succ]
  refine takeV (v := ?_) 29 rfl (by kernel_rfl) (fun _ _ _ h => h) (by rfl) ?_ ?_; rotate_left
  · intro w' hS; (try have k9 := fun o => hS.cell (p := ⟨w3.heap.size, o, none⟩) (by (try simp only [World.size_alloc, World.size_drew, World.size_setCell]); omega)); (try have k9 := fun o => hS.cell (p := ⟨w6.heap.size, o, none⟩) (by (try simp only [World.size_alloc, World.size_drew, World.size_setCell]); omega)); (try have k9 := fun o => hS.cell (p := ⟨w9.heap.size, o, none⟩) (by (try simp only [World.size_alloc, World.size_drew, World.size_setCell]); omega)); go_simp; all_goals with_reducible rfl
  simp only [Act.put, List.setIfInBounds_toArray, List.set_cons_zero, List.set_cons_succ]
  refine takeV (v := ?_) 30 rfl (by kernel_rfl) (fun _ _ _ h => h) (by rfl) ?_ ?_; rotate_left
  · intro w' hS; (try have k9 := fun o => hS.cell (p := ⟨w3.heap.size, o, none⟩) (by (try simp only [World.size_alloc, World.size_drew, World.size_setCell]); omega)); (try have k9 := fun o => hS.cell (p := ⟨w6.heap.size, o, none⟩) (by (try simp only [World.size_alloc, World.size_drew, World.size_setCell]); omega)); (try have k9 := fun o => hS.cell (p := ⟨w9.heap.size, o, none⟩) (by (try simp only [World.size_alloc, World.size_drew, World.size_setCell]); omega)); go_simp; all_goals with_reducible rfl
  simp only [Act.put, List.setIfInBounds_toArray, List.set_cons_zero, List.set_cons_succ]
  refine takeV (v := ?_) 31 rfl (by kernel_rfl) (fun _ _ _ h => h) (by rfl) ?_ ?_; rotate_left
  · intro w' hS; (try have k9 := fun o => hS.cell (p := ⟨w3.heap.size, o, none⟩) (by (try simp only [World.size_alloc, World.size_drew, World.size_setCell]); omega)); (try have k9 := fun o => hS.cell (p := ⟨w6.heap.size, o, none⟩) (by (try simp only [World.size_alloc, World.size_drew, World.size_setCell]); omega)); (try have k9 := fun o => hS.cell (p := ⟨w9.heap.size, o, none⟩) (by (try simp only [World.size_alloc, World.size_drew, World.size_setCell]); omega)); go_simp; all_goals with_reducible rfl
  simp only [Act.put, List.setIfInBounds_toArray, List.set_cons_zero, List.set_cons_succ]
  refine takeC (v := ?_) 32 rfl (by kernel_rfl) (fun _ _ _ h => h) (by rfl) (fun _ => by go_simp; exact ⟨rfl, rfl⟩) ?_ ?_; rotate_left
  · intro w' hS; refine Calls.mono (aw_cmp _) fun e w2 hh => ⟨hh.1.trans ?_, hh.2, hS.trans hh.2⟩; with_reducible rfl
  simp only [Act.put, List.setIfInBounds_toArray, List.set_cons_zero, List.set_cons_succ]
  refine takeV (v := ?_) 33 rfl (by kernel_rfl) (fun _ _ _ h => h) (by rfl) ?_ ?_; rotate_left
  · intro w' hS; (try have k9 := fun o => hS.cell (p := ⟨w3.heap.size, o, none⟩) (by (try simp only [World.size_alloc, World.size_drew, World.size_setCell]); omega)); (try have k9 := fun o => hS.cell (p := ⟨w6.heap.size, o, none⟩) (by (try simp only [World.size_alloc, World.size_drew, World.size_setCell]); omega)); (try have k9 := fun o => hS.cell (p := ⟨w9.heap.size, o, none⟩) (by (try simp only [World.size_alloc, World.size_drew, World.size_setCell]); omega)); go_simp; all_goals with_reducible rfl
  simp only [Act.put, List.setIfInBounds_toArray, List.set_cons_zero, List.set_cons_succ]
  refine takeV (v := ?_) 34 rfl (by kernel_rfl) (fun _ _ _ h => h) (by rfl) ?_ ?_; rotate_left
  · intro w' hS; (try have k9 := fun o => hS.cell (p := ⟨w3.heap.size, o, none⟩) (by (try simp only [World.size_alloc, World.size_drew, World.size_setCell]); omega)); (try have k9 := fun o => hS.cell (p := ⟨w6.heap.size, o, none⟩) (by (try simp only [World.size_alloc, World.size_drew, World.size_setCell]); omega)); (try have k9 := fun o => hS.cell (p := ⟨w9.heap.size, o, none⟩) (by (try simp only [World.size_alloc, World.size_drew, World.size_setCell]); omega)); go_simp; all_goals with_reducible rfl
  simp only [Act.put, List.setIfInBounds_toArray, List.set_cons_zero, List.set_cons_succ]
  refine takeV (v := ?_) 35 rfl (by kernel_rfl) (fun _ _ _ h => h) (by rfl) ?_ ?_; rotate_left
  · intro w' hS; (try have k9 := fun o => hS.cell (p := ⟨w3.heap.size, o, none⟩) (by (try simp only [World.size_alloc, World.size_drew, World.size_setCell]); omega)); (try have k9 := fun o => hS.cell (p := ⟨w6.heap.size, o, none⟩) (by (try simp only [World.size_alloc, World.size_drew, World.size_setCell]); omega)); (try have k9 := fun o => hS.cell (p := ⟨w9.heap.size, o, none⟩) (by (try simp only [World.size_alloc, World.size_drew, World.size_setCell]); omega)); go_simp; all_goals with_reducible rfl
  simp only [Act.put, List.setIfInBounds_toArray, List.set_cons_zero, List.set_cons_succ]
  refine doneM (by kernel_rfl) fun w1 hx hS => ?_
  (have s9 := hS.size; (try simp only [World.size_alloc, World.size_drew, World.size_setCell] at s9)); (try (have z9 : w3.heap.size < w1.heap.size := (by omega); have k9 := fun o => hS.cell (p := ⟨w3.heap.size, o, none⟩) (by (try simp only [World.size_alloc, World.size_drew, World.size_setCell]); omega); have f9 := fun o => hS.frozen (p := ⟨w3.heap.size, o, none⟩) (by (try simp only [World.size_alloc, World.size_drew, World.size_setCell]); omega))); (try (have z9 : w6.heap.size < w1.heap.size := (by omega); have k9 := fun o => hS.cell (p := ⟨w6.heap.size, o, none⟩) (by (try simp only [World.size_alloc, World.size_drew, World.size_setCell]); omega); have f9 := fun o => hS.frozen (p := ⟨w6.heap.size, o, none⟩) (by (try simp only [World.size_alloc, World.size_drew, World.size_setCell]); omega))); (try (have z9 : w9.heap.size < w1.heap.size := (by omega); have k9 := fun o => hS.cell (p := ⟨w9.heap.size, o, none⟩) (by (try simp only [World.size_alloc, World.size_drew, World.size_setCell]); omega); have f9 := fun o => hS.frozen (p := ⟨w9.heap.size, o, none⟩) (by (try simp only [World.size_alloc, World.size_drew, World.size_setCell]); omega)))
  refine chainM [] (by kernel_rfl) rfl ?_
  go_wp2
  go_ret
  refine ⟨rfl, ?_⟩
  repeat (first | (with_reducible refine Ext.set ?_ (by dsimp only; omega)) | (with_reducible refine Ext.al ?_) | (with_reducible refine Ext.dr ?_) | (with_reducible exact Ext.refl _) | (with_reducible refine Ext.trans ?_ (by assumption)))
end Go.Proofs.Ytnjhmlnmdnocmaa
