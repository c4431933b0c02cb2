/-
  The walks of dec: Add, Sub, Int, Cmp.
-/
import Derived.Test.YtlfdelobjbdimaaDoorDecE
namespace Go.Proofs.YtlfdelobjbdimaaDoor
set_option linter.unusedSimpArgs false
set_option linter.unusedVariables false
open Go.RowKit

theorem mul64_ext (x y : Nat) (hx : x < 18446744073709551616) (hy : y < 18446744073709551616) (w : World) :
    Calls Tryd.prog 46 #[.int .u64 x, .int .u64 y] w fun e w' => e = .returned (.tuple #[.int .u64 ((hiN (x * y) : Nat) : Int), .int .u64 ((loN (x * y) : Nat) : Int)]) ∧ Ext w w' :=
  (mul64_any x y hx hy w).mono fun _ _ ⟨h1, h2⟩ => ⟨h1, h2 ▸ Ext.refl _⟩

set_option maxHeartbeats 1000000 in
theorem add_bad (s : Bool) (m : Nat) (s' : Bool) (m' : Nat) (w : World) (h : (goodB s m && goodB s' m') = false) :
    Calls Tryd.prog 75 #[(.agg #[.bool (s), .int .u64 ((hiN (m) : Nat) : Int), .int .u64 ((loN (m) : Nat) : Int)]), (.agg #[.bool (s'), .int .u64 ((hiN (m') : Nat) : Int), .int .u64 ((loN (m') : Nat) : Int)])] w fun e w' => e = .returned (.tuple #[.agg #[.bool false, .int .u64 0, .int .u64 0], .iface 77 (.int .i64 1)]) ∧ Ext w w' := by
  have H1 := Lib.hid fun w => right_any s m s' m' w false h
  clear h
  go_enter Tryd.func75, Tryd.ntmps75
  go_wp2_with (first | (go_at_call 54; (with_reducible refine (H1.out _).mono ?_); rintro e w9 ⟨rfl, hx9⟩; (have s9 := hx9.size; (try simp only [World.size_alloc, World.size_drew, World.size_setCell] at s9)); (try (have z9 : w.heap.size < w9.heap.size := (by omega); have k9 := fun o => hx9.cell (p := ⟨w.heap.size, o, none⟩) (by (try simp only [World.size_alloc, World.size_drew, World.size_setCell]); omega); have f9 := fun o => hx9.frozen (p := ⟨w.heap.size, o, none⟩) (by (try simp only [World.size_alloc, World.size_drew, World.size_setCell]); omega))); (try (have z9 : w.heap.size + 1 < w9.heap.size := (by omega); have k9 := fun o => hx9.cell (p := ⟨w.heap.size + 1, o, none⟩) (by (try simp only [World.size_alloc, World.size_drew, World.size_setCell]); omega); have f9 := fun o => hx9.frozen (p := ⟨w.heap.size + 1, o, none⟩) (by (try simp only [World.size_alloc, World.size_drew, World.size_setCell]); omega))); (try (have z9 : w.heap.size + 1 + 1 < w9.heap.size := (by omega); have k9 := fun o => hx9.cell (p := ⟨w.heap.size + 1 + 1, o, none⟩) (by (try simp only [World.size_alloc, World.size_drew, World.size_setCell]); omega); have f9 := fun o => hx9.frozen (p := ⟨w.heap.size + 1 + 1, o, none⟩) (by (try simp only [World.size_alloc, World.size_drew, World.size_setCell]); omega)))))
  refine bodyPost_ret (by simp only [results, Tryd.results75]; go_simp) rfl ⟨rfl, ?_⟩
  repeat (first | (with_reducible refine Ext.set ?_ (by dsimp only; omega)) | (with_reducible refine Ext.al ?_) | (with_reducible refine Ext.dr ?_) | (with_reducible exact Ext.refl _) | (with_reducible refine Ext.trans ?_ (by assumption)))

set_option maxHeartbeats 1000000 in
theorem add_good (s : Bool) (m : Nat) (s' : Bool) (m' : Nat) (w : World) (h : (goodB s m && goodB s' m') = true) (t : Bool) (x y : Nat) (er : Value)
    (hs : ∀ w, Calls Tryd.prog 55 #[(.agg #[.bool (s), .int .u64 ((hiN (m) : Nat) : Int), .int .u64 ((loN (m) : Nat) : Int)]), (.agg #[.bool (s'), .int .u64 ((hiN (m') : Nat) : Int), .int .u64 ((loN (m') : Nat) : Int)])] w fun e w' => e = .returned (.tuple #[.agg #[.bool t, .int .u64 x, .int .u64 y], er]) ∧ Ext w w') :
    Calls Tryd.prog 75 #[(.agg #[.bool (s), .int .u64 ((hiN (m) : Nat) : Int), .int .u64 ((loN (m) : Nat) : Int)]), (.agg #[.bool (s'), .int .u64 ((hiN (m') : Nat) : Int), .int .u64 ((loN (m') : Nat) : Int)])] w fun e w' => e = .returned (.tuple #[.agg #[.bool t, .int .u64 x, .int .u64 y], er]) ∧ Ext w w' := by
  have H1 := Lib.hid fun w => right_any s m s' m' w true h
  have H2 := Lib.hid hs
  clear h hs
  go_enter Tryd.func75, Tryd.ntmps75
  go_wp2_with (first | (go_at_call 54; (with_reducible refine (H1.out _).mono ?_); rintro e w9 ⟨rfl, hx9⟩; (have s9 := hx9.size; (try simp only [World.size_alloc, World.size_drew, World.size_setCell] at s9)); (try (have z9 : w.heap.size < w9.heap.size := (by omega); have k9 := fun o => hx9.cell (p := ⟨w.heap.size, o, none⟩) (by (try simp only [World.size_alloc, World.size_drew, World.size_setCell]); omega); have f9 := fun o => hx9.frozen (p := ⟨w.heap.size, o, none⟩) (by (try simp only [World.size_alloc, World.size_drew, World.size_setCell]); omega))); (try (have z9 : w.heap.size + 1 < w9.heap.size := (by omega); have k9 := fun o => hx9.cell (p := ⟨w.heap.size + 1, o, none⟩) (by (try simp only [World.size_alloc, World.size_drew, World.size_setCell]); omega); have f9 := fun o => hx9.frozen (p := ⟨w.heap.size + 1, o, none⟩) (by (try simp only [World.size_alloc, World.size_drew, World.size_setCell]); omega))); (try (have z9 : w.heap.size + 1 + 1 < w9.heap.size := (by omega); have k9 := fun o => hx9.cell (p := ⟨w.heap.size + 1 + 1, o, none⟩) (by (try simp only [World.size_alloc, World.size_drew, World.size_setCell]); omega); have f9 := fun o => hx9.frozen (p := ⟨w.heap.size + 1 + 1, o, none⟩) (by (try simp only [World.size_alloc, World.size_drew, World.size_setCell]); omega)))) | (go_at_call 55; (with_reducible refine (H2.out _).mono ?_); rintro e w9 ⟨rfl, hx9⟩; (have s9 := hx9.size; (try simp only [World.size_alloc, World.size_drew, World.size_setCell] at s9)); (try (have z9 : w.heap.size < w9.heap.size := (by omega); have k9 := fun o => hx9.cell (p := ⟨w.heap.size, o, none⟩) (by (try simp only [World.size_alloc, World.size_drew, World.size_setCell]); omega); have f9 := fun o => hx9.frozen (p := ⟨w.heap.size, o, none⟩) (by (try simp only [World.size_alloc, World.size_drew, World.size_setCell]); omega))); (try (have z9 : w.heap.size + 1 < w9.heap.size := (by omega); have k9 := fun o => hx9.cell (p := ⟨w.heap.size + 1, o, none⟩) (by (try simp only [World.size_alloc, World.size_drew, World.size_setCell]); omega); have f9 := fun o => hx9.frozen (p := ⟨w.heap.size + 1, o, none⟩) (by (try simp only [World.size_alloc, World.size_drew, World.size_setCell]); omega))); (try (have z9 : w.heap.size + 1 + 1 < w9.heap.size := (by omega); have k9 := fun o => hx9.cell (p := ⟨w.heap.size + 1 + 1, o, none⟩) (by (try simp only [World.size_alloc, World.size_drew, World.size_setCell]); omega); have f9 := fun o => hx9.frozen (p := ⟨w.heap.size + 1 + 1, o, none⟩) (by (try simp only [World.size_alloc, World.size_drew, World.size_setCell]); omega)))))
  refine bodyPost_ret (by simp only [results, Tryd.results75]; go_simp) rfl ⟨rfl, ?_⟩
  repeat (first | (with_reducible refine Ext.set ?_ (by dsimp only; omega)) | (with_reducible refine Ext.al ?_) | (with_reducible refine Ext.dr ?_) | (with_reducible exact Ext.refl _) | (with_reducible refine Ext.trans ?_ (by assumption)))

set_option maxHeartbeats 1000000 in
theorem sub_bad (s : Bool) (m : Nat) (s' : Bool) (m' : Nat) (w : World) (h : (goodB s m && goodB s' m') = false) :
    Calls Tryd.prog 31 #[(.agg #[.bool (s), .int .u64 ((hiN (m) : Nat) : Int), .int .u64 ((loN (m) : Nat) : Int)]), (.agg #[.bool (s'), .int .u64 ((hiN (m') : Nat) : Int), .int .u64 ((loN (m') : Nat) : Int)])] w fun e w' => e = .returned (.tuple #[.agg #[.bool false, .int .u64 0, .int .u64 0], .iface 77 (.int .i64 1)]) ∧ Ext w w' := by
  have H1 := Lib.hid fun w => right_any s m s' m' w false h
  clear h
  go_enter Tryd.func31, Tryd.ntmps31
  go_wp2_with (first | (go_at_call 54; (with_reducible refine (H1.out _).mono ?_); rintro e w9 ⟨rfl, hx9⟩; (have s9 := hx9.size; (try simp only [World.size_alloc, World.size_drew, World.size_setCell] at s9)); (try (have z9 : w.heap.size < w9.heap.size := (by omega); have k9 := fun o => hx9.cell (p := ⟨w.heap.size, o, none⟩) (by (try simp only [World.size_alloc, World.size_drew, World.size_setCell]); omega); have f9 := fun o => hx9.frozen (p := ⟨w.heap.size, o, none⟩) (by (try simp only [World.size_alloc, World.size_drew, World.size_setCell]); omega))); (try (have z9 : w.heap.size + 1 < w9.heap.size := (by omega); have k9 := fun o => hx9.cell (p := ⟨w.heap.size + 1, o, none⟩) (by (try simp only [World.size_alloc, World.size_drew, World.size_setCell]); omega); have f9 := fun o => hx9.frozen (p := ⟨w.heap.size + 1, o, none⟩) (by (try simp only [World.size_alloc, World.size_drew, World.size_setCell]); omega))); (try (have z9 : w.heap.size + 1 + 1 < w9.heap.size := (by omega); have k9 := fun o => hx9.cell (p := ⟨w.heap.size + 1 + 1, o, none⟩) (by (try simp only [World.size_alloc, World.size_drew, World.size_setCell]); omega); have f9 := fun o => hx9.frozen (p := ⟨w.heap.size + 1 + 1, o, none⟩) (by (try simp only [World.size_alloc, World.size_drew, World.size_setCell]); omega)))))
  refine bodyPost_ret (by simp only [results, Tryd.results31]; go_simp) rfl ⟨rfl, ?_⟩
  repeat (first | (with_reducible refine Ext.set ?_ (by dsimp only; omega)) | (with_reducible refine Ext.al ?_) | (with_reducible refine Ext.dr ?_) | (with_reducible exact Ext.refl _) | (with_reducible refine Ext.trans ?_ (by assumption)))

set_option maxHeartbeats 1000000 in
theorem sub_good (s : Bool) (m : Nat) (s' : Bool) (m' : Nat) (w : World) (h : (goodB s m && goodB s' m') = true) (u : Bool) (hu : (!s' && decide (m' ≠ 0)) = u) (t : Bool) (x y : Nat) (er : Value)
    (hs : ∀ w, Calls Tryd.prog 55 #[(.agg #[.bool (s), .int .u64 ((hiN (m) : Nat) : Int), .int .u64 ((loN (m) : Nat) : Int)]), (.agg #[.bool (u), .int .u64 ((hiN (m') : Nat) : Int), .int .u64 ((loN (m') : Nat) : Int)])] w fun e w' => e = .returned (.tuple #[.agg #[.bool t, .int .u64 x, .int .u64 y], er]) ∧ Ext w w') :
    Calls Tryd.prog 31 #[(.agg #[.bool (s), .int .u64 ((hiN (m) : Nat) : Int), .int .u64 ((loN (m) : Nat) : Int)]), (.agg #[.bool (s'), .int .u64 ((hiN (m') : Nat) : Int), .int .u64 ((loN (m') : Nat) : Int)])] w fun e w' => e = .returned (.tuple #[.agg #[.bool t, .int .u64 x, .int .u64 y], er]) ∧ Ext w w' := by
  have H1 := Lib.hid fun w => right_any s m s' m' w true h
  have H2 := Lib.hid fun w => neg_good s' m' w (by simp at h; exact h.2) u hu
  have H3 := Lib.hid hs
  clear h hs hu
  go_enter Tryd.func31, Tryd.ntmps31
  go_wp2_with (first | (go_at_call 54; (with_reducible refine (H1.out _).mono ?_); rintro e w9 ⟨rfl, hx9⟩; (have s9 := hx9.size; (try simp only [World.size_alloc, World.size_drew, World.size_setCell] at s9)); (try (have z9 : w.heap.size < w9.heap.size := (by omega); have k9 := fun o => hx9.cell (p := ⟨w.heap.size, o, none⟩) (by (try simp only [World.size_alloc, World.size_drew, World.size_setCell]); omega); have f9 := fun o => hx9.frozen (p := ⟨w.heap.size, o, none⟩) (by (try simp only [World.size_alloc, World.size_drew, World.size_setCell]); omega))); (try (have z9 : w.heap.size + 1 < w9.heap.size := (by omega); have k9 := fun o => hx9.cell (p := ⟨w.heap.size + 1, o, none⟩) (by (try simp only [World.size_alloc, World.size_drew, World.size_setCell]); omega); have f9 := fun o => hx9.frozen (p := ⟨w.heap.size + 1, o, none⟩) (by (try simp only [World.size_alloc, World.size_drew, World.size_setCell]); omega))); (try (have z9 : w.heap.size + 1 + 1 < w9.heap.size := (by omega); have k9 := fun o => hx9.cell (p := ⟨w.heap.size + 1 + 1, o, none⟩) (by (try simp only [World.size_alloc, World.size_drew, World.size_setCell]); omega); have f9 := fun o => hx9.frozen (p := ⟨w.heap.size + 1 + 1, o, none⟩) (by (try simp only [World.size_alloc, World.size_drew, World.size_setCell]); omega)))))
  refine wp_region_M (fun w' => Ext _ w') (fun i => !([6, 7] : List Nat).contains i) (by kernel_rfl) (Ext.drew _) ?_
  refine takeV (v := ?_) 0 rfl (by kernel_rfl) (fun _ _ _ h => h) (by rfl) ?_ ?_; rotate_left
  · intro w' hS; (try have k9 := fun o => hS.cell (p := ⟨w.heap.size, o, none⟩) (by (try simp only [World.size_alloc, World.size_drew, World.size_setCell]); omega)); (try have k9 := fun o => hS.cell (p := ⟨w.heap.size + 1, o, none⟩) (by (try simp only [World.size_alloc, World.size_drew, World.size_setCell]); omega)); (try have k9 := fun o => hS.cell (p := ⟨w.heap.size + 1 + 1, o, none⟩) (by (try simp only [World.size_alloc, World.size_drew, World.size_setCell]); omega)); go_simp; all_goals with_reducible rfl
  simp only [Act.put, List.setIfInBounds_toArray, List.set_cons_zero, List.set_cons_succ]
  refine takeV (v := ?_) 1 rfl (by kernel_rfl) (fun _ _ _ h => h) (by rfl) ?_ ?_; rotate_left
  · intro w' hS; (try have k9 := fun o => hS.cell (p := ⟨w.heap.size, o, none⟩) (by (try simp only [World.size_alloc, World.size_drew, World.size_setCell]); omega)); (try have k9 := fun o => hS.cell (p := ⟨w.heap.size + 1, o, none⟩) (by (try simp only [World.size_alloc, World.size_drew, World.size_setCell]); omega)); (try have k9 := fun o => hS.cell (p := ⟨w.heap.size + 1 + 1, o, none⟩) (by (try simp only [World.size_alloc, World.size_drew, World.size_setCell]); omega)); go_simp; all_goals with_reducible rfl
  simp only [Act.put, List.setIfInBounds_toArray, List.set_cons_zero, List.set_cons_succ]
  refine takeC (v := ?_) 2 rfl (by kernel_rfl) (fun _ _ _ h => h) (by rfl) (fun _ => by go_simp; exact ⟨rfl, rfl⟩) ?_ ?_; rotate_left
  · intro w' hS; refine Calls.mono (H2.out _) fun e w2 hh => ⟨hh.1.trans ?_, hh.2, hS.trans hh.2⟩; with_reducible rfl
  simp only [Act.put, List.setIfInBounds_toArray, List.set_cons_zero, List.set_cons_succ]
  refine takeC (v := ?_) 3 rfl (by kernel_rfl) (fun _ _ _ h => h) (by rfl) (fun _ => by go_simp; exact ⟨rfl, rfl⟩) ?_ ?_; rotate_left
  · intro w' hS; refine Calls.mono (H3.out _) fun e w2 hh => ⟨hh.1.trans ?_, hh.2, hS.trans hh.2⟩; with_reducible rfl
  simp only [Act.put, List.setIfInBounds_toArray, List.set_cons_zero, List.set_cons_succ]
  refine takeV (v := ?_) 4 rfl (by kernel_rfl) (fun _ _ _ h => h) (by rfl) ?_ ?_; rotate_left
  · intro w' hS; (try have k9 := fun o => hS.cell (p := ⟨w.heap.size, o, none⟩) (by (try simp only [World.size_alloc, World.size_drew, World.size_setCell]); omega)); (try have k9 := fun o => hS.cell (p := ⟨w.heap.size + 1, o, none⟩) (by (try simp only [World.size_alloc, World.size_drew, World.size_setCell]); omega)); (try have k9 := fun o => hS.cell (p := ⟨w.heap.size + 1 + 1, o, none⟩) (by (try simp only [World.size_alloc, World.size_drew, World.size_setCell]); omega)); go_simp; all_goals with_reducible rfl
  simp only [Act.put, List.setIfInBounds_toArray, List.set_cons_zero, List.set_cons_succ]
  refine takeV (v := ?_) 5 rfl (by kernel_rfl) (fun _ _ _ h => h) (by rfl) ?_ ?_; rotate_left
  · intro w' hS; (try have k9 := fun o => hS.cell (p := ⟨w.heap.size, o, none⟩) (by (try simp only [World.size_alloc, World.size_drew, World.size_setCell]); omega)); (try have k9 := fun o => hS.cell (p := ⟨w.heap.size + 1, o, none⟩) (by (try simp only [World.size_alloc, World.size_drew, World.size_setCell]); omega)); (try have k9 := fun o => hS.cell (p := ⟨w.heap.size + 1 + 1, o, none⟩) (by (try simp only [World.size_alloc, World.size_drew, World.size_setCell]); omega)); go_simp; all_goals with_reducible rfl
  simp only [Act.put, List.setIfInBounds_toArray, List.set_cons_zero, List.set_cons_succ]
  refine doneM (by kernel_rfl) fun w1 hx hS => ?_
  (have s9 := hS.size; (try simp only [World.size_alloc, World.size_drew, World.size_setCell] at s9)); (try (have z9 : w.heap.size < w1.heap.size := (by omega); have k9 := fun o => hS.cell (p := ⟨w.heap.size, o, none⟩) (by (try simp only [World.size_alloc, World.size_drew, World.size_setCell]); omega); have f9 := fun o => hS.frozen (p := ⟨w.heap.size, o, none⟩) (by (try simp only [World.size_alloc, World.size_drew, World.size_setCell]); omega))); (try (have z9 : w.heap.size + 1 < w1.heap.size := (by omega); have k9 := fun o => hS.cell (p := ⟨w.heap.size + 1, o, none⟩) (by (try simp only [World.size_alloc, World.size_drew, World.size_setCell]); omega); have f9 := fun o => hS.frozen (p := ⟨w.heap.size + 1, o, none⟩) (by (try simp only [World.size_alloc, World.size_drew, World.size_setCell]); omega))); (try (have z9 : w.heap.size + 1 + 1 < w1.heap.size := (by omega); have k9 := fun o => hS.cell (p := ⟨w.heap.size + 1 + 1, o, none⟩) (by (try simp only [World.size_alloc, World.size_drew, World.size_setCell]); omega); have f9 := fun o => hS.frozen (p := ⟨w.heap.size + 1 + 1, o, none⟩) (by (try simp only [World.size_alloc, World.size_drew, World.size_setCell]); omega)))
  refine chainM [6, 7] (by kernel_rfl) rfl ?_
  go_wp2
  refine bodyPost_ret (by simp only [results, Tryd.results31]; go_simp) rfl ⟨rfl, ?_⟩
  repeat (first | (with_reducible refine Ext.set ?_ (by dsimp only; omega)) | (with_reducible refine Ext.al ?_) | (with_reducible refine Ext.dr ?_) | (with_reducible exact Ext.refl _) | (with_reducible refine Ext.trans ?_ (by assumption)))

set_option maxHeartbeats 1000000 in
theorem int_pos (k : Nat) (hk : k < 9223372036854775808) (w : World) :
    Calls Tryd.prog 25 #[.int .i64 k] w fun e w' => e = .returned (.agg #[.bool (false), .int .u64 ((hiN (k * 1000000) : Nat) : Int), .int .u64 ((loN (k * 1000000) : Nat) : Int)]) ∧ Ext w w' := by
  have H1 := Lib.hid fun w => mul64_ext k 1000000 (by omega) (by omega) w
  have H2 := Lib.hid fun w => made_any false (k * 1000000) w false rfl
  have h0 : decide ((k : Int) < 0) = false := by simp
  have hw : IntKind.u64.wrap (k : Int) = (k : Int) := by rw [IntKind.wrap_u64]; omega
  go_enter Tryd.func25, Tryd.ntmps25
  go_wp2_with (first | (go_at_call 46; (refine (H1.out _).mono ?_); rintro e w9 ⟨rfl, hx9⟩; (have s9 := hx9.size; (try simp only [World.size_alloc, World.size_drew, World.size_setCell] at s9)); (try (have z9 : w.heap.size < w9.heap.size := (by omega); have k9 := fun o => hx9.cell (p := ⟨w.heap.size, o, none⟩) (by (try simp only [World.size_alloc, World.size_drew, World.size_setCell]); omega); have f9 := fun o => hx9.frozen (p := ⟨w.heap.size, o, none⟩) (by (try simp only [World.size_alloc, World.size_drew, World.size_setCell]); omega)))) | (go_at_call 47; (with_reducible refine (H2.out _).mono ?_); rintro e w9 ⟨rfl, hx9⟩; (have s9 := hx9.size; (try simp only [World.size_alloc, World.size_drew, World.size_setCell] at s9)); (try (have z9 : w.heap.size < w9.heap.size := (by omega); have k9 := fun o => hx9.cell (p := ⟨w.heap.size, o, none⟩) (by (try simp only [World.size_alloc, World.size_drew, World.size_setCell]); omega); have f9 := fun o => hx9.frozen (p := ⟨w.heap.size, o, none⟩) (by (try simp only [World.size_alloc, World.size_drew, World.size_setCell]); omega)))))
  refine bodyPost_ret (by simp only [results, Tryd.results25]; go_simp) rfl ⟨rfl, ?_⟩
  repeat (first | (with_reducible refine Ext.set ?_ (by dsimp only; omega)) | (with_reducible refine Ext.al ?_) | (with_reducible refine Ext.dr ?_) | (with_reducible exact Ext.refl _) | (with_reducible refine Ext.trans ?_ (by assumption)))

set_option maxHeartbeats 1000000 in
theorem int_neg (k : Nat) (h1 : 1 ≤ k) (hk : k ≤ 9223372036854775808) (w : World) :
    Calls Tryd.prog 25 #[.int .i64 (-(k : Int))] w fun e w' => e = .returned (.agg #[.bool (true), .int .u64 ((hiN (k * 1000000) : Nat) : Int), .int .u64 ((loN (k * 1000000) : Nat) : Int)]) ∧ Ext w w' := by
  have H1 := Lib.hid fun w => mul64_ext k 1000000 (by omega) (by omega) w
  have H2 := Lib.hid fun w => made_any true (k * 1000000) w true (by simp; omega)
  have h0 : decide (-(k : Int) < 0) = true := by simp; omega
  have hw : IntKind.u64.wrap (-(k : Int)) = 18446744073709551616 - (k : Int) := by rw [IntKind.wrap_u64]; omega
  have hw2 : IntKind.u64.wrap (-(18446744073709551616 - (k : Int))) = (k : Int) := by rw [IntKind.wrap_u64]; omega
  go_enter Tryd.func25, Tryd.ntmps25
  go_wp2_with (first | (go_at_call 46; (refine (H1.out _).mono ?_); rintro e w9 ⟨rfl, hx9⟩; (have s9 := hx9.size; (try simp only [World.size_alloc, World.size_drew, World.size_setCell] at s9)); (try (have z9 : w.heap.size < w9.heap.size := (by omega); have k9 := fun o => hx9.cell (p := ⟨w.heap.size, o, none⟩) (by (try simp only [World.size_alloc, World.size_drew, World.size_setCell]); omega); have f9 := fun o => hx9.frozen (p := ⟨w.heap.size, o, none⟩) (by (try simp only [World.size_alloc, World.size_drew, World.size_setCell]); omega)))) | (go_at_call 47; (with_reducible refine (H2.out _).mono ?_); rintro e w9 ⟨rfl, hx9⟩; (have s9 := hx9.size; (try simp only [World.size_alloc, World.size_drew, World.size_setCell] at s9)); (try (have z9 : w.heap.size < w9.heap.size := (by omega); have k9 := fun o => hx9.cell (p := ⟨w.heap.size, o, none⟩) (by (try simp only [World.size_alloc, World.size_drew, World.size_setCell]); omega); have f9 := fun o => hx9.frozen (p := ⟨w.heap.size, o, none⟩) (by (try simp only [World.size_alloc, World.size_drew, World.size_setCell]); omega)))))
  refine bodyPost_ret (by simp only [results, Tryd.results25]; go_simp) rfl ⟨rfl, ?_⟩
  repeat (first | (with_reducible refine Ext.set ?_ (by dsimp only; omega)) | (with_reducible refine Ext.al ?_) | (with_reducible refine Ext.dr ?_) | (with_reducible exact Ext.refl _) | (with_reducible refine Ext.trans ?_ (by assumption)))
end Go.Proofs.YtlfdelobjbdimaaDoor
