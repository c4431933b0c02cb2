/-
  The walks of dec: right, Neg, Int, sum.
-/
import Derived.Test.YtlfdelobjbdimaaDoorDecC
namespace Go.Proofs.YtlfdelobjbdimaaDoor
set_option linter.unusedSimpArgs false
set_option linter.unusedVariables false
open Go.RowKit

set_option maxHeartbeats 1000000 in
theorem right_any (s : Bool) (m : Nat) (s' : Bool) (m' : Nat) (w : World) (t : Bool) (ht : (goodB s m && goodB s' m') = t) :
    Calls Tryd.prog 54 #[(.agg #[.bool (s), .int .u64 ((hiN (m) : Nat) : Int), .int .u64 ((loN (m) : Nat) : Int)]), (.agg #[.bool (s'), .int .u64 ((hiN (m') : Nat) : Int), .int .u64 ((loN (m') : Nat) : Int)])] w fun e w' => e = .returned (.bool t) ∧ Ext w w' := by
  cases h : goodB s m
  · obtain rfl : t = false := by rw [← ht, h]; rfl
    have H1 := Lib.hid fun w => good_any s m w false h
    clear h ht
    go_enter Tryd.func54, Tryd.ntmps54
    go_wp2_with (first | (go_at_call 19; (with_reducible refine (H1.out _).mono ?_); rintro e w9 ⟨rfl, hx9⟩; (first | replace hx := Ext.trans hx hx9 | (have hx' := hx9; replace hx := Ext.trans (Ext.al hx) hx9; obtain ⟨hc', hf', hz', hy'⟩ := bcell hx') | have hx := hx9); obtain ⟨hc, hf, hz, hy⟩ := bcell hx))
    go_ret
    refine ⟨rfl, ?_⟩
    repeat (first | (with_reducible refine Ext.set ?_ (by dsimp only; omega)) | (with_reducible refine Ext.al ?_) | (with_reducible refine Ext.dr ?_) | (with_reducible exact Ext.refl _) | (with_reducible refine Ext.trans ?_ (by assumption)))
  · obtain rfl : t = goodB s' m' := by rw [← ht, h]; rfl
    have H1 := Lib.hid fun w => good_any s m w true h
    have H2 := Lib.hid fun w => good_any s' m' w _ rfl
    generalize goodB s' m' = t at *
    clear h ht
    go_enter Tryd.func54, Tryd.ntmps54
    go_wp2_with fail
    refine (H1.out _).mono ?_
    rintro e w1 ⟨rfl, hx⟩
    obtain ⟨hc, hf, hz, hy⟩ := bcell hx
    go_wp2_with fail
    refine (H2.out _).mono ?_
    rintro e w2 ⟨rfl, hx9⟩
    replace hx := hx.trans hx9
    go_wp2
    go_ret
    refine ⟨rfl, ?_⟩
    repeat (first | (with_reducible refine Ext.set ?_ (by dsimp only; omega)) | (with_reducible refine Ext.al ?_) | (with_reducible refine Ext.dr ?_) | (with_reducible exact Ext.refl _) | (with_reducible refine Ext.trans ?_ (by assumption)))

set_option maxHeartbeats 1000000 in
theorem neg_bad (s : Bool) (m : Nat) (w : World) (h : goodB s m = false) :
    Calls Tryd.prog 29 #[(.agg #[.bool (s), .int .u64 ((hiN (m) : Nat) : Int), .int .u64 ((loN (m) : Nat) : Int)])] w fun e w' => e = .returned (.agg #[.bool false, .int .u64 0, .int .u64 0]) ∧ Ext w w' := by
  have H1 := Lib.hid fun w => good_any s m w false h
  clear h
  go_enter Tryd.func29, Tryd.ntmps29
  go_wp2_with (first | (go_at_call 19; (with_reducible refine (H1.out _).mono ?_); rintro e w9 ⟨rfl, hx9⟩; (first | replace hx := Ext.trans hx hx9 | (have hx' := hx9; replace hx := Ext.trans (Ext.al hx) hx9; obtain ⟨hc', hf', hz', hy'⟩ := bcell hx') | have hx := hx9); obtain ⟨hc, hf, hz, hy⟩ := bcell hx))
  refine bodyPost_ret (by simp [results, Tryd.results29, go_sem, hc]) rfl ⟨rfl, ?_⟩
  repeat (first | (with_reducible refine Ext.set ?_ (by dsimp only; omega)) | (with_reducible refine Ext.al ?_) | (with_reducible refine Ext.dr ?_) | (with_reducible exact Ext.refl _) | (with_reducible refine Ext.trans ?_ (by assumption)))

set_option maxHeartbeats 1000000 in
theorem neg_good (s : Bool) (m : Nat) (w : World) (h : goodB s m = true) (t : Bool) (ht : (!s && decide (m ≠ 0)) = t) :
    Calls Tryd.prog 29 #[(.agg #[.bool (s), .int .u64 ((hiN (m) : Nat) : Int), .int .u64 ((loN (m) : Nat) : Int)])] w fun e w' => e = .returned (.agg #[.bool (t), .int .u64 ((hiN (m) : Nat) : Int), .int .u64 ((loN (m) : Nat) : Int)]) ∧ Ext w w' := by
  have H1 := Lib.hid fun w => good_any s m w true h
  have H2 := Lib.hid fun w => made_any (!s) m w t ht
  clear h ht
  go_enter Tryd.func29, Tryd.ntmps29
  go_wp2_with (first | (go_at_call 19; (with_reducible refine (H1.out _).mono ?_); rintro e w9 ⟨rfl, hx9⟩; (first | replace hx := Ext.trans hx hx9 | (have hx' := hx9; replace hx := Ext.trans (Ext.al hx) hx9; obtain ⟨hc', hf', hz', hy'⟩ := bcell hx') | have hx := hx9); obtain ⟨hc, hf, hz, hy⟩ := bcell hx))
  refine wp_region_M (fun w' => Ext _ w') (fun i => !([6] : List Nat).contains i) (by kernel_rfl) (Ext.dr hx) ?_
  refine takeV (v := ?_) 0 rfl (by kernel_rfl) (fun _ _ _ h => h) (by rfl) ?_ ?_; rotate_left
  · intro w' hS; have hc := (bcell hS).1; go_simp; all_goals with_reducible rfl
  simp only [Act.put, List.setIfInBounds_toArray, List.set_cons_zero, List.set_cons_succ]
  refine takeV (v := ?_) 1 rfl (by kernel_rfl) (fun _ _ _ h => h) (by rfl) ?_ ?_; rotate_left
  · intro w' hS; have hc := (bcell hS).1; go_simp; all_goals with_reducible rfl
  simp only [Act.put, List.setIfInBounds_toArray, List.set_cons_zero, List.set_cons_succ]
  refine takeV (v := ?_) 2 rfl (by kernel_rfl) (fun _ _ _ h => h) (by rfl) ?_ ?_; rotate_left
  · intro w' hS; have hc := (bcell hS).1; go_simp; all_goals with_reducible rfl
  simp only [Act.put, List.setIfInBounds_toArray, List.set_cons_zero, List.set_cons_succ]
  refine takeV (v := ?_) 3 rfl (by kernel_rfl) (fun _ _ _ h => h) (by rfl) ?_ ?_; rotate_left
  · intro w' hS; have hc := (bcell hS).1; go_simp; all_goals with_reducible rfl
  simp only [Act.put, List.setIfInBounds_toArray, List.set_cons_zero, List.set_cons_succ]
  refine takeC (v := ?_) 4 rfl (by kernel_rfl) (fun _ _ _ h => h) (by rfl) (fun _ => by go_simp; exact ⟨rfl, rfl⟩) ?_ ?_; rotate_left
  · intro w' hS; refine Calls.mono (of_any s m _) fun e w2 hh => ⟨hh.1.trans ?_, hh.2, hS.trans hh.2⟩; with_reducible rfl
  simp only [Act.put, List.setIfInBounds_toArray, List.set_cons_zero, List.set_cons_succ]
  refine takeC (v := ?_) 5 rfl (by kernel_rfl) (fun _ _ _ h => h) (by rfl) (fun _ => by go_simp; exact ⟨rfl, rfl⟩) ?_ ?_; rotate_left
  · intro w' hS; refine Calls.mono (H2.out _) fun e w2 hh => ⟨hh.1.trans ?_, hh.2, hS.trans hh.2⟩; with_reducible rfl
  simp only [Act.put, List.setIfInBounds_toArray, List.set_cons_zero, List.set_cons_succ]
  refine doneM (by kernel_rfl) fun w1 hx hS => ?_
  obtain ⟨hc, hf, hz, hy⟩ := bcell hS
  refine chainM [6] (by kernel_rfl) rfl ?_
  go_wp2
  refine bodyPost_ret (by simp [results, Tryd.results29, go_sem, hc]) rfl ⟨rfl, ?_⟩
  repeat (first | (with_reducible refine Ext.set ?_ (by dsimp only; omega)) | (with_reducible refine Ext.al ?_) | (with_reducible refine Ext.dr ?_) | (with_reducible exact Ext.refl _) | (with_reducible refine Ext.trans ?_ (by assumption)))
end Go.Proofs.YtlfdelobjbdimaaDoor
