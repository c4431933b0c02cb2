/-
  The walks of dec: Cmp.
-/
import Derived.Test.YtlfdelobjbdimaaDoorDecF
namespace Go.Proofs.YtlfdelobjbdimaaDoor
set_option linter.unusedSimpArgs false
set_option linter.unusedVariables false
open Go.RowKit

set_option maxHeartbeats 1000000 in
theorem cmp_bad (s : Bool) (m : Nat) (s' : Bool) (m' : Nat) (w : World) (h : (goodB s m && goodB s' m') = false) :
    Calls Tryd.prog 38 #[(.agg #[.bool (s), .int .u64 ((hiN (m) : Nat) : Int), .int .u64 ((loN (m) : Nat) : Int)]), (.agg #[.bool (s'), .int .u64 ((hiN (m') : Nat) : Int), .int .u64 ((loN (m') : Nat) : Int)])] w fun e w' => e = .returned (.int .i64 0) ∧ Ext w w' := by
  have H1 := Lib.hid fun w => right_any s m s' m' w false h
  clear h
  go_enter Tryd.func38, Tryd.ntmps38
  go_wp2_with (first | (go_at_call 54; (with_reducible refine (H1.out _).mono ?_); rintro e w9 ⟨rfl, hx9⟩; (have s9 := hx9.size; (try simp only [World.size_alloc, World.size_drew, World.size_setCell] at s9)); (try (have z9 : w.heap.size < w9.heap.size := (by omega); have k9 := fun o => hx9.cell (p := ⟨w.heap.size, o, none⟩) (by (try simp only [World.size_alloc, World.size_drew, World.size_setCell]); omega); have f9 := fun o => hx9.frozen (p := ⟨w.heap.size, o, none⟩) (by (try simp only [World.size_alloc, World.size_drew, World.size_setCell]); omega))); (try (have z9 : w.heap.size + 1 < w9.heap.size := (by omega); have k9 := fun o => hx9.cell (p := ⟨w.heap.size + 1, o, none⟩) (by (try simp only [World.size_alloc, World.size_drew, World.size_setCell]); omega); have f9 := fun o => hx9.frozen (p := ⟨w.heap.size + 1, o, none⟩) (by (try simp only [World.size_alloc, World.size_drew, World.size_setCell]); omega)))))
  go_ret
  refine ⟨rfl, ?_⟩
  repeat (first | (with_reducible refine Ext.set ?_ (by dsimp only; omega)) | (with_reducible refine Ext.al ?_) | (with_reducible refine Ext.dr ?_) | (with_reducible exact Ext.refl _) | (with_reducible refine Ext.trans ?_ (by assumption)))

set_option maxHeartbeats 1000000 in
theorem cmp_same (s : Bool) (m : Nat) (w : World) :
    Calls Tryd.prog 38 #[(.agg #[.bool (s), .int .u64 ((hiN (m) : Nat) : Int), .int .u64 ((loN (m) : Nat) : Int)]), (.agg #[.bool (s), .int .u64 ((hiN (m) : Nat) : Int), .int .u64 ((loN (m) : Nat) : Int)])] w fun e w' => e = .returned (.int .i64 0) ∧ Ext w w' := by
  by_cases h : (goodB s m && goodB s m) = true
  · have H1 := Lib.hid fun w => right_any s m s m w true h
    clear h
    go_enter Tryd.func38, Tryd.ntmps38
    go_wp2_with (first | (go_at_call 54; (with_reducible refine (H1.out _).mono ?_); rintro e w9 ⟨rfl, hx9⟩; (have s9 := hx9.size; (try simp only [World.size_alloc, World.size_drew, World.size_setCell] at s9)); (try (have z9 : w.heap.size < w9.heap.size := (by omega); have k9 := fun o => hx9.cell (p := ⟨w.heap.size, o, none⟩) (by (try simp only [World.size_alloc, World.size_drew, World.size_setCell]); omega); have f9 := fun o => hx9.frozen (p := ⟨w.heap.size, o, none⟩) (by (try simp only [World.size_alloc, World.size_drew, World.size_setCell]); omega))); (try (have z9 : w.heap.size + 1 < w9.heap.size := (by omega); have k9 := fun o => hx9.cell (p := ⟨w.heap.size + 1, o, none⟩) (by (try simp only [World.size_alloc, World.size_drew, World.size_setCell]); omega); have f9 := fun o => hx9.frozen (p := ⟨w.heap.size + 1, o, none⟩) (by (try simp only [World.size_alloc, World.size_drew, World.size_setCell]); omega)))))
    go_ret
    refine ⟨rfl, ?_⟩
    repeat (first | (with_reducible refine Ext.set ?_ (by dsimp only; omega)) | (with_reducible refine Ext.al ?_) | (with_reducible refine Ext.dr ?_) | (with_reducible exact Ext.refl _) | (with_reducible refine Ext.trans ?_ (by assumption)))
  · exact cmp_bad s m s m w (by simpa using h)

/-- What Cmp answers of two right ones that are not the same; b: is the first one's magnitude below the other's? -/
def cmpB (s s' b : Bool) : Int := if (s && !s') || ((if s then !b else b) && s == s') then -1 else 1

set_option maxHeartbeats 4000000 in
theorem cmp_walk (s s' : Bool) (x y x' y' : Nat) (w : World) (b : Bool) (hne : ¬ (s = s' ∧ x = x' ∧ y = y'))
    (H1 : Hid (∀ w, Calls Tryd.prog 54 #[.agg #[.bool s, .int .u64 x, .int .u64 y], .agg #[.bool s', .int .u64 x', .int .u64 y']] w fun e w' => e = .returned (.bool true) ∧ Ext w w'))
    (H2 : Hid (∀ w, Calls Tryd.prog 39 #[.agg #[.bool s, .int .u64 x, .int .u64 y]] w fun e w' => e = .returned (.agg #[.int .u64 x, .int .u64 y]) ∧ Ext w w'))
    (H3 : Hid (∀ w, Calls Tryd.prog 39 #[.agg #[.bool s', .int .u64 x', .int .u64 y']] w fun e w' => e = .returned (.agg #[.int .u64 x', .int .u64 y']) ∧ Ext w w'))
    (H4 : Hid (∀ w, Calls Tryd.prog 40 #[.agg #[.int .u64 x, .int .u64 y], .agg #[.int .u64 x', .int .u64 y']] w fun e w' => e = .returned (.bool b) ∧ Ext w w')) :
    Calls Tryd.prog 38 #[.agg #[.bool s, .int .u64 x, .int .u64 y], .agg #[.bool s', .int .u64 x', .int .u64 y']] w fun e w' => e = .returned (.int .i64 (cmpB s s' b)) ∧ Ext w w' := by
  by_cases hs : s = s'
  · subst hs
    by_cases hx0 : x = x'
    · subst hx0
      have hy0 : ¬ y = y' := fun e => hne ⟨rfl, rfl, e⟩
      clear hne
      cases s <;> cases b
      all_goals
        go_enter Tryd.func38, Tryd.ntmps38
        go_wp2_with (first | (go_at_call 54; (with_reducible refine (H1.out _).mono ?_); rintro e w9 ⟨rfl, hx9⟩; (have s9 := hx9.size; (try simp only [World.size_alloc, World.size_drew, World.size_setCell] at s9)); (try (have z9 : w.heap.size < w9.heap.size := (by omega); have k9 := fun o => hx9.cell (p := ⟨w.heap.size, o, none⟩) (by (try simp only [World.size_alloc, World.size_drew, World.size_setCell]); omega); have f9 := fun o => hx9.frozen (p := ⟨w.heap.size, o, none⟩) (by (try simp only [World.size_alloc, World.size_drew, World.size_setCell]); omega))); (try (have z9 : w.heap.size + 1 < w9.heap.size := (by omega); have k9 := fun o => hx9.cell (p := ⟨w.heap.size + 1, o, none⟩) (by (try simp only [World.size_alloc, World.size_drew, World.size_setCell]); omega); have f9 := fun o => hx9.frozen (p := ⟨w.heap.size + 1, o, none⟩) (by (try simp only [World.size_alloc, World.size_drew, World.size_setCell]); omega)))))
        refine wp_region_M (fun w' => Ext _ w') (fun i => !([] : List Nat).contains i) (by kernel_rfl) (Ext.drew _) ?_
        refine takeV (v := ?_) 0 rfl (by kernel_rfl) (fun _ _ _ h => h) (by rfl) ?_ ?_; rotate_left
        · intro w' hS; (try have k9 := fun o => hS.cell (p := ⟨w.heap.size, o, none⟩) (by (try simp only [World.size_alloc, World.size_drew, World.size_setCell]); omega)); (try have k9 := fun o => hS.cell (p := ⟨w.heap.size + 1, o, none⟩) (by (try simp only [World.size_alloc, World.size_drew, World.size_setCell]); omega)); go_simp; all_goals with_reducible rfl
        simp only [Act.put, List.setIfInBounds_toArray, List.set_cons_zero, List.set_cons_succ]
        refine takeC (v := ?_) 1 rfl (by kernel_rfl) (fun _ _ _ h => h) (by rfl) (fun _ => by go_simp; exact ⟨rfl, rfl⟩) ?_ ?_; rotate_left
        · intro w' hS; refine Calls.mono (H2.out _) fun e w2 hh => ⟨hh.1.trans ?_, hh.2, hS.trans hh.2⟩; with_reducible rfl
        simp only [Act.put, List.setIfInBounds_toArray, List.set_cons_zero, List.set_cons_succ]
        refine takeV (v := ?_) 2 rfl (by kernel_rfl) (fun _ _ _ h => h) (by rfl) ?_ ?_; rotate_left
        · intro w' hS; (try have k9 := fun o => hS.cell (p := ⟨w.heap.size, o, none⟩) (by (try simp only [World.size_alloc, World.size_drew, World.size_setCell]); omega)); (try have k9 := fun o => hS.cell (p := ⟨w.heap.size + 1, o, none⟩) (by (try simp only [World.size_alloc, World.size_drew, World.size_setCell]); omega)); go_simp; all_goals with_reducible rfl
        simp only [Act.put, List.setIfInBounds_toArray, List.set_cons_zero, List.set_cons_succ]
        refine takeC (v := ?_) 3 rfl (by kernel_rfl) (fun _ _ _ h => h) (by rfl) (fun _ => by go_simp; exact ⟨rfl, rfl⟩) ?_ ?_; rotate_left
        · intro w' hS; refine Calls.mono (H3.out _) fun e w2 hh => ⟨hh.1.trans ?_, hh.2, hS.trans hh.2⟩; with_reducible rfl
        simp only [Act.put, List.setIfInBounds_toArray, List.set_cons_zero, List.set_cons_succ]
        refine takeC (v := ?_) 4 rfl (by kernel_rfl) (fun _ _ _ h => h) (by rfl) (fun _ => by go_simp; exact ⟨rfl, rfl⟩) ?_ ?_; rotate_left
        · intro w' hS; refine Calls.mono (H4.out _) fun e w2 hh => ⟨hh.1.trans ?_, hh.2, hS.trans hh.2⟩; with_reducible rfl
        simp only [Act.put, List.setIfInBounds_toArray, List.set_cons_zero, List.set_cons_succ]
        refine takeV (v := ?_) 5 rfl (by kernel_rfl) (fun _ _ _ h => h) (by rfl) ?_ ?_; rotate_left
        · intro w' hS; (try have k9 := fun o => hS.cell (p := ⟨w.heap.size, o, none⟩) (by (try simp only [World.size_alloc, World.size_drew, World.size_setCell]); omega)); (try have k9 := fun o => hS.cell (p := ⟨w.heap.size + 1, o, none⟩) (by (try simp only [World.size_alloc, World.size_drew, World.size_setCell]); omega)); go_simp; all_goals with_reducible rfl
        simp only [Act.put, List.setIfInBounds_toArray, List.set_cons_zero, List.set_cons_succ]
        refine doneM (by kernel_rfl) fun w1 hx hS => ?_
        (have s9 := hS.size; (try simp only [World.size_alloc, World.size_drew, World.size_setCell] at s9)); (try (have z9 : w.heap.size < w1.heap.size := (by omega); have k9 := fun o => hS.cell (p := ⟨w.heap.size, o, none⟩) (by (try simp only [World.size_alloc, World.size_drew, World.size_setCell]); omega); have f9 := fun o => hS.frozen (p := ⟨w.heap.size, o, none⟩) (by (try simp only [World.size_alloc, World.size_drew, World.size_setCell]); omega))); (try (have z9 : w.heap.size + 1 < w1.heap.size := (by omega); have k9 := fun o => hS.cell (p := ⟨w.heap.size + 1, o, none⟩) (by (try simp only [World.size_alloc, World.size_drew, World.size_setCell]); omega); have f9 := fun o => hS.frozen (p := ⟨w.heap.size + 1, o, none⟩) (by (try simp only [World.size_alloc, World.size_drew, World.size_setCell]); omega)))
        refine chainM [] (by kernel_rfl) rfl ?_
        go_wp2
        go_ret
        refine ⟨rfl, ?_⟩
        repeat (first | (with_reducible refine Ext.set ?_ (by dsimp only; omega)) | (with_reducible refine Ext.al ?_) | (with_reducible refine Ext.dr ?_) | (with_reducible exact Ext.refl _) | (with_reducible refine Ext.trans ?_ (by assumption)))
    · clear hne
      cases s <;> cases b
      all_goals
        go_enter Tryd.func38, Tryd.ntmps38
        go_wp2_with (first | (go_at_call 54; (with_reducible refine (H1.out _).mono ?_); rintro e w9 ⟨rfl, hx9⟩; (have s9 := hx9.size; (try simp only [World.size_alloc, World.size_drew, World.size_setCell] at s9)); (try (have z9 : w.heap.size < w9.heap.size := (by omega); have k9 := fun o => hx9.cell (p := ⟨w.heap.size, o, none⟩) (by (try simp only [World.size_alloc, World.size_drew, World.size_setCell]); omega); have f9 := fun o => hx9.frozen (p := ⟨w.heap.size, o, none⟩) (by (try simp only [World.size_alloc, World.size_drew, World.size_setCell]); omega))); (try (have z9 : w.heap.size + 1 < w9.heap.size := (by omega); have k9 := fun o => hx9.cell (p := ⟨w.heap.size + 1, o, none⟩) (by (try simp only [World.size_alloc, World.size_drew, World.size_setCell]); omega); have f9 := fun o => hx9.frozen (p := ⟨w.heap.size + 1, o, none⟩) (by (try simp only [World.size_alloc, World.size_drew, World.size_setCell]); omega)))))
        refine wp_region_M (fun w' => Ext _ w') (fun i => !([] : List Nat).contains i) (by kernel_rfl) (Ext.drew _) ?_
        refine takeV (v := ?_) 0 rfl (by kernel_rfl) (fun _ _ _ h => h) (by rfl) ?_ ?_; rotate_left
        · intro w' hS; (try have k9 := fun o => hS.cell (p := ⟨w.heap.size, o, none⟩) (by (try simp only [World.size_alloc, World.size_drew, World.size_setCell]); omega)); (try have k9 := fun o => hS.cell (p := ⟨w.heap.size + 1, o, none⟩) (by (try simp only [World.size_alloc, World.size_drew, World.size_setCell]); omega)); go_simp; all_goals with_reducible rfl
        simp only [Act.put, List.setIfInBounds_toArray, List.set_cons_zero, List.set_cons_succ]
        refine takeC (v := ?_) 1 rfl (by kernel_rfl) (fun _ _ _ h => h) (by rfl) (fun _ => by go_simp; exact ⟨rfl, rfl⟩) ?_ ?_; rotate_left
        · intro w' hS; refine Calls.mono (H2.out _) fun e w2 hh => ⟨hh.1.trans ?_, hh.2, hS.trans hh.2⟩; with_reducible rfl
        simp only [Act.put, List.setIfInBounds_toArray, List.set_cons_zero, List.set_cons_succ]
        refine takeV (v := ?_) 2 rfl (by kernel_rfl) (fun _ _ _ h => h) (by rfl) ?_ ?_; rotate_left
        · intro w' hS; (try have k9 := fun o => hS.cell (p := ⟨w.heap.size, o, none⟩) (by (try simp only [World.size_alloc, World.size_drew, World.size_setCell]); omega)); (try have k9 := fun o => hS.cell (p := ⟨w.heap.size + 1, o, none⟩) (by (try simp only [World.size_alloc, World.size_drew, World.size_setCell]); omega)); go_simp; all_goals with_reducible rfl
        simp only [Act.put, List.setIfInBounds_toArray, List.set_cons_zero, List.set_cons_succ]
        refine takeC (v := ?_) 3 rfl (by kernel_rfl) (fun _ _ _ h => h) (by rfl) (fun _ => by go_simp; exact ⟨rfl, rfl⟩) ?_ ?_; rotate_left
        · intro w' hS; refine Calls.mono (H3.out _) fun e w2 hh => ⟨hh.1.trans ?_, hh.2, hS.trans hh.2⟩; with_reducible rfl
        simp only [Act.put, List.setIfInBounds_toArray, List.set_cons_zero, List.set_cons_succ]
        refine takeC (v := ?_) 4 rfl (by kernel_rfl) (fun _ _ _ h => h) (by rfl) (fun _ => by go_simp; exact ⟨rfl, rfl⟩) ?_ ?_; rotate_left
        · intro w' hS; refine Calls.mono (H4.out _) fun e w2 hh => ⟨hh.1.trans ?_, hh.2, hS.trans hh.2⟩; with_reducible rfl
        simp only [Act.put, List.setIfInBounds_toArray, List.set_cons_zero, List.set_cons_succ]
        refine takeV (v := ?_) 5 rfl (by kernel_rfl) (fun _ _ _ h => h) (by rfl) ?_ ?_; rotate_left
        · intro w' hS; (try have k9 := fun o => hS.cell (p := ⟨w.heap.size, o, none⟩) (by (try simp only [World.size_alloc, World.size_drew, World.size_setCell]); omega)); (try have k9 := fun o => hS.cell (p := ⟨w.heap.size + 1, o, none⟩) (by (try simp only [World.size_alloc, World.size_drew, World.size_setCell]); omega)); go_simp; all_goals with_reducible rfl
        simp only [Act.put, List.setIfInBounds_toArray, List.set_cons_zero, List.set_cons_succ]
        refine doneM (by kernel_rfl) fun w1 hx hS => ?_
        (have s9 := hS.size; (try simp only [World.size_alloc, World.size_drew, World.size_setCell] at s9)); (try (have z9 : w.heap.size < w1.heap.size := (by omega); have k9 := fun o => hS.cell (p := ⟨w.heap.size, o, none⟩) (by (try simp only [World.size_alloc, World.size_drew, World.size_setCell]); omega); have f9 := fun o => hS.frozen (p := ⟨w.heap.size, o, none⟩) (by (try simp only [World.size_alloc, World.size_drew, World.size_setCell]); omega))); (try (have z9 : w.heap.size + 1 < w1.heap.size := (by omega); have k9 := fun o => hS.cell (p := ⟨w.heap.size + 1, o, none⟩) (by (try simp only [World.size_alloc, World.size_drew, World.size_setCell]); omega); have f9 := fun o => hS.frozen (p := ⟨w.heap.size + 1, o, none⟩) (by (try simp only [World.size_alloc, World.size_drew, World.size_setCell]); omega)))
        refine chainM [] (by kernel_rfl) rfl ?_
        go_wp2
        go_ret
        refine ⟨rfl, ?_⟩
        repeat (first | (with_reducible refine Ext.set ?_ (by dsimp only; omega)) | (with_reducible refine Ext.al ?_) | (with_reducible refine Ext.dr ?_) | (with_reducible exact Ext.refl _) | (with_reducible refine Ext.trans ?_ (by assumption)))
  · clear hne
    cases s <;> cases s' <;> cases b <;> try exact absurd rfl hs
    all_goals
      clear hs
      go_enter Tryd.func38, Tryd.ntmps38
      go_wp2_with (first | (go_at_call 54; (with_reducible refine (H1.out _).mono ?_); rintro e w9 ⟨rfl, hx9⟩; (have s9 := hx9.size; (try simp only [World.size_alloc, World.size_drew, World.size_setCell] at s9)); (try (have z9 : w.heap.size < w9.heap.size := (by omega); have k9 := fun o => hx9.cell (p := ⟨w.heap.size, o, none⟩) (by (try simp only [World.size_alloc, World.size_drew, World.size_setCell]); omega); have f9 := fun o => hx9.frozen (p := ⟨w.heap.size, o, none⟩) (by (try simp only [World.size_alloc, World.size_drew, World.size_setCell]); omega))); (try (have z9 : w.heap.size + 1 < w9.heap.size := (by omega); have k9 := fun o => hx9.cell (p := ⟨w.heap.size + 1, o, none⟩) (by (try simp only [World.size_alloc, World.size_drew, World.size_setCell]); omega); have f9 := fun o => hx9.frozen (p := ⟨w.heap.size + 1, o, none⟩) (by (try simp only [World.size_alloc, World.size_drew, World.size_setCell]); omega)))))
      refine wp_region_M (fun w' => Ext _ w') (fun i => !([] : List Nat).contains i) (by kernel_rfl) (Ext.drew _) ?_
      refine takeV (v := ?_) 0 rfl (by kernel_rfl) (fun _ _ _ h => h) (by rfl) ?_ ?_; rotate_left
      · intro w' hS; (try have k9 := fun o => hS.cell (p := ⟨w.heap.size, o, none⟩) (by (try simp only [World.size_alloc, World.size_drew, World.size_setCell]); omega)); (try have k9 := fun o => hS.cell (p := ⟨w.heap.size + 1, o, none⟩) (by (try simp only [World.size_alloc, World.size_drew, World.size_setCell]); omega)); go_simp; all_goals with_reducible rfl
      simp only [Act.put, List.setIfInBounds_toArray, List.set_cons_zero, List.set_cons_succ]
      refine takeC (v := ?_) 1 rfl (by kernel_rfl) (fun _ _ _ h => h) (by rfl) (fun _ => by go_simp; exact ⟨rfl, rfl⟩) ?_ ?_; rotate_left
      · intro w' hS; refine Calls.mono (H2.out _) fun e w2 hh => ⟨hh.1.trans ?_, hh.2, hS.trans hh.2⟩; with_reducible rfl
      simp only [Act.put, List.setIfInBounds_toArray, List.set_cons_zero, List.set_cons_succ]
      refine takeV (v := ?_) 2 rfl (by kernel_rfl) (fun _ _ _ h => h) (by rfl) ?_ ?_; rotate_left
      · intro w' hS; (try have k9 := fun o => hS.cell (p := ⟨w.heap.size, o, none⟩) (by (try simp only [World.size_alloc, World.size_drew, World.size_setCell]); omega)); (try have k9 := fun o => hS.cell (p := ⟨w.heap.size + 1, o, none⟩) (by (try simp only [World.size_alloc, World.size_drew, World.size_setCell]); omega)); go_simp; all_goals with_reducible rfl
      simp only [Act.put, List.setIfInBounds_toArray, List.set_cons_zero, List.set_cons_succ]
      refine takeC (v := ?_) 3 rfl (by kernel_rfl) (fun _ _ _ h => h) (by rfl) (fun _ => by go_simp; exact ⟨rfl, rfl⟩) ?_ ?_; rotate_left
      · intro w' hS; refine Calls.mono (H3.out _) fun e w2 hh => ⟨hh.1.trans ?_, hh.2, hS.trans hh.2⟩; with_reducible rfl
      simp only [Act.put, List.setIfInBounds_toArray, List.set_cons_zero, List.set_cons_succ]
      refine takeC (v := ?_) 4 rfl (by kernel_rfl) (fun _ _ _ h => h) (by rfl) (fun _ => by go_simp; exact ⟨rfl, rfl⟩) ?_ ?_; rotate_left
      · intro w' hS; refine Calls.mono (H4.out _) fun e w2 hh => ⟨hh.1.trans ?_, hh.2, hS.trans hh.2⟩; with_reducible rfl
      simp only [Act.put, List.setIfInBounds_toArray, List.set_cons_zero, List.set_cons_succ]
      refine takeV (v := ?_) 5 rfl (by kernel_rfl) (fun _ _ _ h => h) (by rfl) ?_ ?_; rotate_left
      · intro w' hS; (try have k9 := fun o => hS.cell (p := ⟨w.heap.size, o, none⟩) (by (try simp only [World.size_alloc, World.size_drew, World.size_setCell]); omega)); (try have k9 := fun o => hS.cell (p := ⟨w.heap.size + 1, o, none⟩) (by (try simp only [World.size_alloc, World.size_drew, World.size_setCell]); omega)); go_simp; all_goals with_reducible rfl
      simp only [Act.put, List.setIfInBounds_toArray, List.set_cons_zero, List.set_cons_succ]
      refine doneM (by kernel_rfl) fun w1 hx hS => ?_
      (have s9 := hS.size; (try simp only [World.size_alloc, World.size_drew, World.size_setCell] at s9)); (try (have z9 : w.heap.size < w1.heap.size := (by omega); have k9 := fun o => hS.cell (p := ⟨w.heap.size, o, none⟩) (by (try simp only [World.size_alloc, World.size_drew, World.size_setCell]); omega); have f9 := fun o => hS.frozen (p := ⟨w.heap.size, o, none⟩) (by (try simp only [World.size_alloc, World.size_drew, World.size_setCell]); omega))); (try (have z9 : w.heap.size + 1 < w1.heap.size := (by omega); have k9 := fun o => hS.cell (p := ⟨w.heap.size + 1, o, none⟩) (by (try simp only [World.size_alloc, World.size_drew, World.size_setCell]); omega); have f9 := fun o => hS.frozen (p := ⟨w.heap.size + 1, o, none⟩) (by (try simp only [World.size_alloc, World.size_drew, World.size_setCell]); omega)))
      refine chainM [] (by kernel_rfl) rfl ?_
      go_wp2
      go_ret
      refine ⟨rfl, ?_⟩
      repeat (first | (with_reducible refine Ext.set ?_ (by dsimp only; omega)) | (with_reducible refine Ext.al ?_) | (with_reducible refine Ext.dr ?_) | (with_reducible exact Ext.refl _) | (with_reducible refine Ext.trans ?_ (by assumption)))

theorem cmp_other (s : Bool) (m : Nat) (s' : Bool) (m' : Nat) (w : World) (h : (goodB s m && goodB s' m') = true) (hne : ¬ (s = s' ∧ m = m')) :
    Calls Tryd.prog 38 #[(.agg #[.bool (s), .int .u64 ((hiN (m) : Nat) : Int), .int .u64 ((loN (m) : Nat) : Int)]), (.agg #[.bool (s'), .int .u64 ((hiN (m') : Nat) : Int), .int .u64 ((loN (m') : Nat) : Int)])] w fun e w' => e = .returned (.int .i64 (cmpB s s' (decide (m < m')))) ∧ Ext w w' :=
  cmp_walk s s' _ _ _ _ w _ (fun ⟨h1, h2, h3⟩ => hne ⟨h1, by have := hilo m; have := hilo m'; rw [h2, h3] at *; omega⟩)
    (Lib.hid fun w => right_any s m s' m' w true h) (Lib.hid fun w => of_any s m w) (Lib.hid fun w => of_any s' m' w) (Lib.hid fun w => below_any m m' w _ rfl)
end Go.Proofs.YtlfdelobjbdimaaDoor
