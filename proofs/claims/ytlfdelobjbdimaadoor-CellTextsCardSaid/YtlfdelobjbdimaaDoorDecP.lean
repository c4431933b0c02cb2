/-
  The walks of dec: Trunc, Whole.
-/
import Derived.Test.YtlfdelobjbdimaaDoorDecM
namespace Go.Proofs.YtlfdelobjbdimaaDoor
set_option linter.unusedSimpArgs false
set_option linter.unusedVariables false
open Go.RowKit

/-! ### Trunc, Whole -/
set_option maxHeartbeats 1000000 in
theorem trunc_bad (s : Bool) (m : Nat) (w : World) (h : goodB s m = false) :
    Calls Tryd.prog 30 #[(.agg #[.bool (s), .int .u64 ((hiN (m) : Nat) : Int), .int .u64 ((loN (m) : Nat) : Int)])] w fun e w' => e = .returned (.agg #[.bool false, .int .u64 0, .int .u64 0]) ∧ Ext w w' := by
  have H1 := Lib.hid fun w => good_any s m w false h
  clear h
  go_enter Tryd.func30, Tryd.ntmps30
  go_wp2_with (first | (go_at_call 19; (with_reducible refine (H1.out _).mono ?_); rintro e w9 ⟨rfl, hx9⟩; (have s9 := hx9.size; (try simp only [World.size_alloc, World.size_drew, World.size_setCell] at s9)); (try (have z9 : w.heap.size < w9.heap.size := (by omega); have k9 := fun o => hx9.cell (p := ⟨w.heap.size, o, none⟩) (by (try simp only [World.size_alloc, World.size_drew, World.size_setCell]); omega); have f9 := fun o => hx9.frozen (p := ⟨w.heap.size, o, none⟩) (by (try simp only [World.size_alloc, World.size_drew, World.size_setCell]); omega))); (try (have z9 : w.heap.size + 1 < w9.heap.size := (by omega); have k9 := fun o => hx9.cell (p := ⟨w.heap.size + 1, o, none⟩) (by (try simp only [World.size_alloc, World.size_drew, World.size_setCell]); omega); have f9 := fun o => hx9.frozen (p := ⟨w.heap.size + 1, o, none⟩) (by (try simp only [World.size_alloc, World.size_drew, World.size_setCell]); omega)))))
  refine bodyPost_ret (v := .agg #[.bool false, .int .u64 0, .int .u64 0]) ?_ rfl ⟨rfl, ?_⟩; focus (simp only [results, Tryd.results30]; go_simp)
  repeat (first | (with_reducible refine Ext.set ?_ (by dsimp only; omega)) | (with_reducible refine Ext.al ?_) | (with_reducible refine Ext.dr ?_) | (with_reducible exact Ext.refl _) | (with_reducible refine Ext.trans ?_ (by assumption)))
set_option maxHeartbeats 1000000 in
theorem whole_bad (s : Bool) (m : Nat) (w : World) (h : goodB s m = false) :
    Calls Tryd.prog 33 #[(.agg #[.bool (s), .int .u64 ((hiN (m) : Nat) : Int), .int .u64 ((loN (m) : Nat) : Int)])] w fun e w' => e = .returned (.tuple #[.int .i64 0, .bool false]) ∧ Ext w w' := by
  have H1 := Lib.hid fun w => good_any s m w false h
  clear h
  go_enter Tryd.func33, Tryd.ntmps33
  go_wp2_with (first | (go_at_call 19; (with_reducible refine (H1.out _).mono ?_); rintro e w9 ⟨rfl, hx9⟩; (have s9 := hx9.size; (try simp only [World.size_alloc, World.size_drew, World.size_setCell] at s9)); (try (have z9 : w.heap.size < w9.heap.size := (by omega); have k9 := fun o => hx9.cell (p := ⟨w.heap.size, o, none⟩) (by (try simp only [World.size_alloc, World.size_drew, World.size_setCell]); omega); have f9 := fun o => hx9.frozen (p := ⟨w.heap.size, o, none⟩) (by (try simp only [World.size_alloc, World.size_drew, World.size_setCell]); omega)))))
  go_ret2
  refine ⟨rfl, ?_⟩
  repeat (first | (with_reducible refine Ext.set ?_ (by dsimp only; omega)) | (with_reducible refine Ext.al ?_) | (with_reducible refine Ext.dr ?_) | (with_reducible exact Ext.refl _) | (with_reducible refine Ext.trans ?_ (by assumption)))

theorem div_mega (m : Nat) (hm : m < 1000000000000000000000000000000000000) (w : World) :
    Calls Tryd.prog 52 #[.agg #[.int .u64 (loN m : Nat), .int .u64 (hiN m : Nat), .int .u64 0], .agg #[.int .u64 0, .int .u64 1000000]] w fun e w' => e = .returned (.tuple #[(.agg #[.int .u64 ((hiN (m / 1000000) : Nat) : Int), .int .u64 ((loN (m / 1000000) : Nat) : Int)]), (.agg #[.int .u64 ((hiN (m % 1000000) : Nat) : Int), .int .u64 ((loN (m % 1000000) : Nat) : Int)]), .bool true]) ∧ Ext w w' := by
  have h := divide_any m 1000000 (by omega) (by omega) (by omega) w true (by simp; omega)
  rw [Nat.mod_eq_of_lt (show m / 1000000 < 340282366920938463463374607431768211456 by omega)] at h
  have e0 : lim 0 m = loN m := by rw [lim_zero]; rfl
  have e1 : lim 1 m = hiN m := by rw [lim_succ, lim_zero, Nat.mod_eq_of_lt]; · rfl
                                  · exact hiN_lt (by omega)
  have e2 : lim 2 m = 0 := by
    rw [lim_succ, lim_succ, lim_zero, Nat.div_eq_of_lt (show m / 18446744073709551616 < 18446744073709551616 from hiN_lt (by omega))]
  rw [e0, e1, e2] at h
  exact h

set_option maxRecDepth 100000 in
set_option maxHeartbeats 1000000 in
theorem trunc_good (s : Bool) (m : Nat) (w : World) (h : goodB s m = true) (t : Bool) (ht : (s && decide (m - m % 1000000 ≠ 0)) = t) :
    Calls Tryd.prog 30 #[(.agg #[.bool (s), .int .u64 ((hiN (m) : Nat) : Int), .int .u64 ((loN (m) : Nat) : Int)])] w fun e w' => e = .returned (.agg #[.bool (t), .int .u64 ((hiN (m - m % 1000000) : Nat) : Int), .int .u64 ((loN (m - m % 1000000) : Nat) : Int)]) ∧ Ext w w' := by
  have hm : m < 1000000000000000000000000000000000000 := by unfold goodB at h; simp at h; exact h.1
  have H1 := Lib.hid fun w => good_any s m w true h
  have H2 := Lib.hid fun w => div_mega m hm w
  have H3 := Lib.hid fun w => sub_any m (m % 1000000) (Nat.mod_le _ _) (by omega) w
  have H4 := Lib.hid fun w => made_any s (m - m % 1000000) w t ht
  clear h hm ht
  go_enter Tryd.func30, Tryd.ntmps30
  go_wp2_with (first | (go_at_call 19; (with_reducible refine (H1.out _).mono ?_); rintro e w9 ⟨rfl, hx9⟩; (have s9 := hx9.size; (try simp only [World.size_alloc, World.size_drew, World.size_setCell] at s9)); (try (have z9 : w.heap.size < w9.heap.size := (by omega); have k9 := fun o => hx9.cell (p := ⟨w.heap.size, o, none⟩) (by (try simp only [World.size_alloc, World.size_drew, World.size_setCell]); omega); have f9 := fun o => hx9.frozen (p := ⟨w.heap.size, o, none⟩) (by (try simp only [World.size_alloc, World.size_drew, World.size_setCell]); omega))); (try (have z9 : w.heap.size + 1 < w9.heap.size := (by omega); have k9 := fun o => hx9.cell (p := ⟨w.heap.size + 1, o, none⟩) (by (try simp only [World.size_alloc, World.size_drew, World.size_setCell]); omega); have f9 := fun o => hx9.frozen (p := ⟨w.heap.size + 1, o, none⟩) (by (try simp only [World.size_alloc, World.size_drew, World.size_setCell]); omega)))) | (go_at_call 52; (with_reducible refine (H2.out _).mono ?_); rintro e w9 ⟨rfl, hx9⟩; (have s9 := hx9.size; (try simp only [World.size_alloc, World.size_drew, World.size_setCell] at s9)); (try (have z9 : w.heap.size < w9.heap.size := (by omega); have k9 := fun o => hx9.cell (p := ⟨w.heap.size, o, none⟩) (by (try simp only [World.size_alloc, World.size_drew, World.size_setCell]); omega); have f9 := fun o => hx9.frozen (p := ⟨w.heap.size, o, none⟩) (by (try simp only [World.size_alloc, World.size_drew, World.size_setCell]); omega))); (try (have z9 : w.heap.size + 1 < w9.heap.size := (by omega); have k9 := fun o => hx9.cell (p := ⟨w.heap.size + 1, o, none⟩) (by (try simp only [World.size_alloc, World.size_drew, World.size_setCell]); omega); have f9 := fun o => hx9.frozen (p := ⟨w.heap.size + 1, o, none⟩) (by (try simp only [World.size_alloc, World.size_drew, World.size_setCell]); omega)))))
  refine wp_region_M (fun w' => Ext _ w') (fun i => !([7] : List Nat).contains i) (by kernel_rfl) (Ext.drew _) ?_
  refine takeV (v := ?_) 0 rfl (by kernel_rfl) (fun _ _ _ h => h) (by rfl) ?_ ?_; rotate_left
  · intro w' hS; (try have k9 := fun o => hS.cell (p := ⟨w.heap.size, o, none⟩) (by (try simp only [World.size_alloc, World.size_drew, World.size_setCell]); omega)); (try have k9 := fun o => hS.cell (p := ⟨w.heap.size + 1, o, none⟩) (by (try simp only [World.size_alloc, World.size_drew, World.size_setCell]); omega)); (try have k9 := fun o => hS.cell (p := ⟨w9.heap.size, o, none⟩) (by (try simp only [World.size_alloc, World.size_drew, World.size_setCell]); omega)); (try have k9 := fun o => hS.cell (p := ⟨w9.heap.size + 1, o, none⟩) (by (try simp only [World.size_alloc, World.size_drew, World.size_setCell]); omega)); go_simp; all_goals with_reducible rfl
  simp only [Act.put, List.setIfInBounds_toArray, List.set_cons_zero, List.set_cons_succ]
  refine takeV (v := ?_) 1 rfl (by kernel_rfl) (fun _ _ _ h => h) (by rfl) ?_ ?_; rotate_left
  · intro w' hS; (try have k9 := fun o => hS.cell (p := ⟨w.heap.size, o, none⟩) (by (try simp only [World.size_alloc, World.size_drew, World.size_setCell]); omega)); (try have k9 := fun o => hS.cell (p := ⟨w.heap.size + 1, o, none⟩) (by (try simp only [World.size_alloc, World.size_drew, World.size_setCell]); omega)); (try have k9 := fun o => hS.cell (p := ⟨w9.heap.size, o, none⟩) (by (try simp only [World.size_alloc, World.size_drew, World.size_setCell]); omega)); (try have k9 := fun o => hS.cell (p := ⟨w9.heap.size + 1, o, none⟩) (by (try simp only [World.size_alloc, World.size_drew, World.size_setCell]); omega)); go_simp; all_goals with_reducible rfl
  simp only [Act.put, List.setIfInBounds_toArray, List.set_cons_zero, List.set_cons_succ]
  refine takeV (v := ?_) 2 rfl (by kernel_rfl) (fun _ _ _ h => h) (by rfl) ?_ ?_; rotate_left
  · intro w' hS; (try have k9 := fun o => hS.cell (p := ⟨w.heap.size, o, none⟩) (by (try simp only [World.size_alloc, World.size_drew, World.size_setCell]); omega)); (try have k9 := fun o => hS.cell (p := ⟨w.heap.size + 1, o, none⟩) (by (try simp only [World.size_alloc, World.size_drew, World.size_setCell]); omega)); (try have k9 := fun o => hS.cell (p := ⟨w9.heap.size, o, none⟩) (by (try simp only [World.size_alloc, World.size_drew, World.size_setCell]); omega)); (try have k9 := fun o => hS.cell (p := ⟨w9.heap.size + 1, o, none⟩) (by (try simp only [World.size_alloc, World.size_drew, World.size_setCell]); omega)); go_simp; all_goals with_reducible rfl
  simp only [Act.put, List.setIfInBounds_toArray, List.set_cons_zero, List.set_cons_succ]
  refine takeC (v := ?_) 3 rfl (by kernel_rfl) (fun _ _ _ h => h) (by rfl) (fun _ => by go_simp; exact ⟨rfl, rfl⟩) ?_ ?_; rotate_left
  · intro w' hS; refine Calls.mono (of_any s m _) fun e w2 hh => ⟨hh.1.trans ?_, hh.2, hS.trans hh.2⟩; with_reducible rfl
  simp only [Act.put, List.setIfInBounds_toArray, List.set_cons_zero, List.set_cons_succ]
  refine takeV (v := ?_) 4 rfl (by kernel_rfl) (fun _ _ _ h => h) (by rfl) ?_ ?_; rotate_left
  · intro w' hS; (try have k9 := fun o => hS.cell (p := ⟨w.heap.size, o, none⟩) (by (try simp only [World.size_alloc, World.size_drew, World.size_setCell]); omega)); (try have k9 := fun o => hS.cell (p := ⟨w.heap.size + 1, o, none⟩) (by (try simp only [World.size_alloc, World.size_drew, World.size_setCell]); omega)); (try have k9 := fun o => hS.cell (p := ⟨w9.heap.size, o, none⟩) (by (try simp only [World.size_alloc, World.size_drew, World.size_setCell]); omega)); (try have k9 := fun o => hS.cell (p := ⟨w9.heap.size + 1, o, none⟩) (by (try simp only [World.size_alloc, World.size_drew, World.size_setCell]); omega)); go_simp; all_goals with_reducible rfl
  simp only [Act.put, List.setIfInBounds_toArray, List.set_cons_zero, List.set_cons_succ]
  refine takeC (v := ?_) 5 rfl (by kernel_rfl) (fun _ _ _ h => h) (by rfl) (fun _ => by go_simp; exact ⟨rfl, rfl⟩) ?_ ?_; rotate_left
  · intro w' hS; refine Calls.mono (H3.out _) fun e w2 hh => ⟨hh.1.trans ?_, hh.2, hS.trans hh.2⟩; with_reducible rfl
  simp only [Act.put, List.setIfInBounds_toArray, List.set_cons_zero, List.set_cons_succ]
  refine takeC (v := ?_) 6 rfl (by kernel_rfl) (fun _ _ _ h => h) (by rfl) (fun _ => by go_simp; exact ⟨rfl, rfl⟩) ?_ ?_; rotate_left
  · intro w' hS; refine Calls.mono (H4.out _) fun e w2 hh => ⟨hh.1.trans ?_, hh.2, hS.trans hh.2⟩; with_reducible rfl
  simp only [Act.put, List.setIfInBounds_toArray, List.set_cons_zero, List.set_cons_succ]
  refine doneM (by kernel_rfl) fun w1 hx hS => ?_
  (have s9 := hS.size; (try simp only [World.size_alloc, World.size_drew, World.size_setCell] at s9)); (try (have z9 : w.heap.size < w1.heap.size := (by omega); have k9 := fun o => hS.cell (p := ⟨w.heap.size, o, none⟩) (by (try simp only [World.size_alloc, World.size_drew, World.size_setCell]); omega); have f9 := fun o => hS.frozen (p := ⟨w.heap.size, o, none⟩) (by (try simp only [World.size_alloc, World.size_drew, World.size_setCell]); omega))); (try (have z9 : w.heap.size + 1 < w1.heap.size := (by omega); have k9 := fun o => hS.cell (p := ⟨w.heap.size + 1, o, none⟩) (by (try simp only [World.size_alloc, World.size_drew, World.size_setCell]); omega); have f9 := fun o => hS.frozen (p := ⟨w.heap.size + 1, o, none⟩) (by (try simp only [World.size_alloc, World.size_drew, World.size_setCell]); omega))); (try (have z9 : w9.heap.size < w1.heap.size := (by omega); have k9 := fun o => hS.cell (p := ⟨w9.heap.size, o, none⟩) (by (try simp only [World.size_alloc, World.size_drew, World.size_setCell]); omega); have f9 := fun o => hS.frozen (p := ⟨w9.heap.size, o, none⟩) (by (try simp only [World.size_alloc, World.size_drew, World.size_setCell]); omega))); (try (have z9 : w9.heap.size + 1 < w1.heap.size := (by omega); have k9 := fun o => hS.cell (p := ⟨w9.heap.size + 1, o, none⟩) (by (try simp only [World.size_alloc, World.size_drew, World.size_setCell]); omega); have f9 := fun o => hS.frozen (p := ⟨w9.heap.size + 1, o, none⟩) (by (try simp only [World.size_alloc, World.size_drew, World.size_setCell]); omega)))
  refine chainM [7] (by kernel_rfl) rfl ?_
  go_wp2
  refine bodyPost_ret (v := (.agg #[.bool (t), .int .u64 ((hiN (m - m % 1000000) : Nat) : Int), .int .u64 ((loN (m - m % 1000000) : Nat) : Int)])) ?_ rfl ⟨rfl, ?_⟩; focus (simp only [results, Tryd.results30]; go_simp)
  repeat (first | (with_reducible refine Ext.set ?_ (by dsimp only; omega)) | (with_reducible refine Ext.al ?_) | (with_reducible refine Ext.dr ?_) | (with_reducible exact Ext.refl _) | (with_reducible refine Ext.trans ?_ (by assumption)))

end Go.Proofs.YtlfdelobjbdimaaDoor
