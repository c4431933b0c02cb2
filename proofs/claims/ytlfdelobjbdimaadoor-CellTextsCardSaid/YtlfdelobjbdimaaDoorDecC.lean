/-
  The walks of dec: made, Good, right, Int, Neg, sum, Add, Sub, Cmp.
-/
import Derived.Test.YtlfdelobjbdimaaDoorDecB
namespace Go.Proofs.YtlfdelobjbdimaaDoor
set_option linter.unusedSimpArgs false
set_option linter.unusedVariables false
open Go.RowKit

set_option maxHeartbeats 2000000 in
theorem made_walk (s : Bool) (x y : Nat) (w : World) (t : Bool) (ht : (s && decide (¬ (x = 0 ∧ y = 0))) = t) :
    Calls Tryd.prog 47 #[.bool s, .agg #[.int .u64 x, .int .u64 y]] w fun e w' => e = .returned (.agg #[.bool t, .int .u64 x, .int .u64 y]) ∧ Ext w w' := by
  cases s
  · obtain rfl : t = false := by rw [← ht]; rfl
    clear ht
    go_enter Tryd.func47, Tryd.ntmps47
    go_wp2_with fail
    refine wp_region_M (fun w' => Ext _ w') (fun i => !([11] : List Nat).contains i) (by kernel_rfl) (Ext.drew _) ?_
    refine takeV (v := ?_) 0 rfl (by kernel_rfl) (fun _ _ _ h => h) (by rfl) ?_ ?_; rotate_left
    · intro w' hS; have hc := (bcell hS).1; go_simp; all_goals with_reducible rfl
    simp only [Act.put, List.setIfInBounds_toArray, List.set_cons_zero, List.set_cons_succ]
    refine takeV (v := ?_) 1 rfl (by kernel_rfl) (fun _ _ _ h => h) (by rfl) ?_ ?_; rotate_left
    · intro w' hS; have hc := (bcell hS).1; go_simp; all_goals with_reducible rfl
    simp only [Act.put, List.setIfInBounds_toArray, List.set_cons_zero, List.set_cons_succ]
    -- OFF 2 t7 := load 70 t3  [if #1 is true]
    refine takeN 2 rfl (by kernel_rfl) (fun _ _ _ h => h) (by rfl) ?_
    simp only [Act.put, List.setIfInBounds_toArray, List.set_cons_zero, List.set_cons_succ]
    -- OFF 3 t8 := build 70 []  [if #1 is true]
    refine takeN 3 rfl (by kernel_rfl) (fun _ _ _ h => h) (by rfl) ?_
    simp only [Act.put, List.setIfInBounds_toArray, List.set_cons_zero, List.set_cons_succ]
    -- OFF 4 t9 := binOp Binneq 70 t7 t8 70  [if #1 is true]
    refine takeN 4 rfl (by kernel_rfl) (fun _ _ _ h => h) (by rfl) ?_
    simp only [Act.put, List.setIfInBounds_toArray, List.set_cons_zero, List.set_cons_succ]
    refine takeV (v := ?_) 5 rfl (by kernel_rfl) (fun _ _ _ h => h) (by rfl) ?_ ?_; rotate_left
    · intro w' hS; have hc := (bcell hS).1; go_simp; all_goals with_reducible rfl
    simp only [Act.put, List.setIfInBounds_toArray, List.set_cons_zero, List.set_cons_succ]
    refine takeV (v := ?_) 6 rfl (by kernel_rfl) (fun _ _ _ h => h) (by rfl) ?_ ?_; rotate_left
    · intro w' hS; have hc := (bcell hS).1; go_simp; all_goals with_reducible rfl
    simp only [Act.put, List.setIfInBounds_toArray, List.set_cons_zero, List.set_cons_succ]
    refine takeV (v := ?_) 7 rfl (by kernel_rfl) (fun _ _ _ h => h) (by rfl) ?_ ?_; rotate_left
    · intro w' hS; have hc := (bcell hS).1; go_simp; all_goals with_reducible rfl
    simp only [Act.put, List.setIfInBounds_toArray, List.set_cons_zero, List.set_cons_succ]
    refine takeV (v := ?_) 8 rfl (by kernel_rfl) (fun _ _ _ h => h) (by rfl) ?_ ?_; rotate_left
    · intro w' hS; have hc := (bcell hS).1; go_simp; all_goals with_reducible rfl
    simp only [Act.put, List.setIfInBounds_toArray, List.set_cons_zero, List.set_cons_succ]
    refine takeV (v := ?_) 9 rfl (by kernel_rfl) (fun _ _ _ h => h) (by rfl) ?_ ?_; rotate_left
    · intro w' hS; have hc := (bcell hS).1; go_simp; all_goals with_reducible rfl
    simp only [Act.put, List.setIfInBounds_toArray, List.set_cons_zero, List.set_cons_succ]
    refine takeV (v := ?_) 10 rfl (by kernel_rfl) (fun _ _ _ h => h) (by rfl) ?_ ?_; rotate_left
    · intro w' hS; have hc := (bcell hS).1; go_simp; all_goals with_reducible rfl
    simp only [Act.put, List.setIfInBounds_toArray, List.set_cons_zero, List.set_cons_succ]
    refine doneM (by kernel_rfl) fun w1 hx hS => ?_
    obtain ⟨hc, hf, hz, hy⟩ := bcell hS
    refine chainM [11] (by kernel_rfl) rfl ?_
    go_wp2
    refine bodyPost_ret (by simp [results, Tryd.results47, go_sem, hc]) rfl ⟨rfl, ?_⟩
    repeat (first | (with_reducible refine Ext.set ?_ (by dsimp only; omega)) | (with_reducible refine Ext.al ?_) | (with_reducible refine Ext.dr ?_) | (with_reducible exact Ext.refl _) | (with_reducible refine Ext.trans ?_ (by assumption)))
  · by_cases h : x = 0
    · subst h
      by_cases h2 : y = 0
      · subst h2
        obtain rfl : t = false := by rw [← ht]; rfl
        clear ht
        go_enter Tryd.func47, Tryd.ntmps47
        go_wp2_with fail
        refine wp_region_M (fun w' => Ext _ w') (fun i => !([11] : List Nat).contains i) (by kernel_rfl) (Ext.drew _) ?_
        refine takeV (v := ?_) 0 rfl (by kernel_rfl) (fun _ _ _ h => h) (by rfl) ?_ ?_; rotate_left
        · intro w' hS; have hc := (bcell hS).1; go_simp; all_goals with_reducible rfl
        simp only [Act.put, List.setIfInBounds_toArray, List.set_cons_zero, List.set_cons_succ]
        refine takeV (v := ?_) 1 rfl (by kernel_rfl) (fun _ _ _ h => h) (by rfl) ?_ ?_; rotate_left
        · intro w' hS; have hc := (bcell hS).1; go_simp; all_goals with_reducible rfl
        simp only [Act.put, List.setIfInBounds_toArray, List.set_cons_zero, List.set_cons_succ]
        refine takeV (v := ?_) 2 rfl (by kernel_rfl) (fun _ _ _ h => h) (by rfl) ?_ ?_; rotate_left
        · intro w' hS; have hc := (bcell hS).1; go_simp; all_goals with_reducible rfl
        simp only [Act.put, List.setIfInBounds_toArray, List.set_cons_zero, List.set_cons_succ]
        refine takeV (v := ?_) 3 rfl (by kernel_rfl) (fun _ _ _ h => h) (by rfl) ?_ ?_; rotate_left
        · intro w' hS; have hc := (bcell hS).1; go_simp; all_goals with_reducible rfl
        simp only [Act.put, List.setIfInBounds_toArray, List.set_cons_zero, List.set_cons_succ]
        refine takeV (v := ?_) 4 rfl (by kernel_rfl) (fun _ _ _ h => h) (by rfl) ?_ ?_; rotate_left
        · intro w' hS; have hc := (bcell hS).1; go_simp; all_goals with_reducible rfl
        simp only [Act.put, List.setIfInBounds_toArray, List.set_cons_zero, List.set_cons_succ]
        refine takeV (v := ?_) 5 rfl (by kernel_rfl) (fun _ _ _ h => h) (by rfl) ?_ ?_; rotate_left
        · intro w' hS; have hc := (bcell hS).1; go_simp; all_goals with_reducible rfl
        simp only [Act.put, List.setIfInBounds_toArray, List.set_cons_zero, List.set_cons_succ]
        refine takeV (v := ?_) 6 rfl (by kernel_rfl) (fun _ _ _ h => h) (by rfl) ?_ ?_; rotate_left
        · intro w' hS; have hc := (bcell hS).1; go_simp; all_goals with_reducible rfl
        simp only [Act.put, List.setIfInBounds_toArray, List.set_cons_zero, List.set_cons_succ]
        refine takeV (v := ?_) 7 rfl (by kernel_rfl) (fun _ _ _ h => h) (by rfl) ?_ ?_; rotate_left
        · intro w' hS; have hc := (bcell hS).1; go_simp; all_goals with_reducible rfl
        simp only [Act.put, List.setIfInBounds_toArray, List.set_cons_zero, List.set_cons_succ]
        refine takeV (v := ?_) 8 rfl (by kernel_rfl) (fun _ _ _ h => h) (by rfl) ?_ ?_; rotate_left
        · intro w' hS; have hc := (bcell hS).1; go_simp; all_goals with_reducible rfl
        simp only [Act.put, List.setIfInBounds_toArray, List.set_cons_zero, List.set_cons_succ]
        refine takeV (v := ?_) 9 rfl (by kernel_rfl) (fun _ _ _ h => h) (by rfl) ?_ ?_; rotate_left
        · intro w' hS; have hc := (bcell hS).1; go_simp; all_goals with_reducible rfl
        simp only [Act.put, List.setIfInBounds_toArray, List.set_cons_zero, List.set_cons_succ]
        refine takeV (v := ?_) 10 rfl (by kernel_rfl) (fun _ _ _ h => h) (by rfl) ?_ ?_; rotate_left
        · intro w' hS; have hc := (bcell hS).1; go_simp; all_goals with_reducible rfl
        simp only [Act.put, List.setIfInBounds_toArray, List.set_cons_zero, List.set_cons_succ]
        refine doneM (by kernel_rfl) fun w1 hx hS => ?_
        obtain ⟨hc, hf, hz, hy⟩ := bcell hS
        refine chainM [11] (by kernel_rfl) rfl ?_
        go_wp2
        refine bodyPost_ret (by simp [results, Tryd.results47, go_sem, hc]) rfl ⟨rfl, ?_⟩
        repeat (first | (with_reducible refine Ext.set ?_ (by dsimp only; omega)) | (with_reducible refine Ext.al ?_) | (with_reducible refine Ext.dr ?_) | (with_reducible exact Ext.refl _) | (with_reducible refine Ext.trans ?_ (by assumption)))
      · obtain rfl : t = true := by rw [← ht]; simp [h2]
        clear ht
        go_enter Tryd.func47, Tryd.ntmps47
        go_wp2_with fail
        refine wp_region_M (fun w' => Ext _ w') (fun i => !([11] : List Nat).contains i) (by kernel_rfl) (Ext.drew _) ?_
        refine takeV (v := ?_) 0 rfl (by kernel_rfl) (fun _ _ _ h => h) (by rfl) ?_ ?_; rotate_left
        · intro w' hS; have hc := (bcell hS).1; go_simp; all_goals with_reducible rfl
        simp only [Act.put, List.setIfInBounds_toArray, List.set_cons_zero, List.set_cons_succ]
        refine takeV (v := ?_) 1 rfl (by kernel_rfl) (fun _ _ _ h => h) (by rfl) ?_ ?_; rotate_left
        · intro w' hS; have hc := (bcell hS).1; go_simp; all_goals with_reducible rfl
        simp only [Act.put, List.setIfInBounds_toArray, List.set_cons_zero, List.set_cons_succ]
        refine takeV (v := ?_) 2 rfl (by kernel_rfl) (fun _ _ _ h => h) (by rfl) ?_ ?_; rotate_left
        · intro w' hS; have hc := (bcell hS).1; go_simp; all_goals with_reducible rfl
        simp only [Act.put, List.setIfInBounds_toArray, List.set_cons_zero, List.set_cons_succ]
        refine takeV (v := ?_) 3 rfl (by kernel_rfl) (fun _ _ _ h => h) (by rfl) ?_ ?_; rotate_left
        · intro w' hS; have hc := (bcell hS).1; go_simp; all_goals with_reducible rfl
        simp only [Act.put, List.setIfInBounds_toArray, List.set_cons_zero, List.set_cons_succ]
        refine takeV (v := ?_) 4 rfl (by kernel_rfl) (fun _ _ _ h => h) (by rfl) ?_ ?_; rotate_left
        · intro w' hS; have hc := (bcell hS).1; go_simp; all_goals with_reducible rfl
        simp only [Act.put, List.setIfInBounds_toArray, List.set_cons_zero, List.set_cons_succ]
        refine takeV (v := ?_) 5 rfl (by kernel_rfl) (fun _ _ _ h => h) (by rfl) ?_ ?_; rotate_left
        · intro w' hS; have hc := (bcell hS).1; go_simp; all_goals with_reducible rfl
        simp only [Act.put, List.setIfInBounds_toArray, List.set_cons_zero, List.set_cons_succ]
        refine takeV (v := ?_) 6 rfl (by kernel_rfl) (fun _ _ _ h => h) (by rfl) ?_ ?_; rotate_left
        · intro w' hS; have hc := (bcell hS).1; go_simp; all_goals with_reducible rfl
        simp only [Act.put, List.setIfInBounds_toArray, List.set_cons_zero, List.set_cons_succ]
        refine takeV (v := ?_) 7 rfl (by kernel_rfl) (fun _ _ _ h => h) (by rfl) ?_ ?_; rotate_left
        · intro w' hS; have hc := (bcell hS).1; go_simp; all_goals with_reducible rfl
        simp only [Act.put, List.setIfInBounds_toArray, List.set_cons_zero, List.set_cons_succ]
        refine takeV (v := ?_) 8 rfl (by kernel_rfl) (fun _ _ _ h => h) (by rfl) ?_ ?_; rotate_left
        · intro w' hS; have hc := (bcell hS).1; go_simp; all_goals with_reducible rfl
        simp only [Act.put, List.setIfInBounds_toArray, List.set_cons_zero, List.set_cons_succ]
        refine takeV (v := ?_) 9 rfl (by kernel_rfl) (fun _ _ _ h => h) (by rfl) ?_ ?_; rotate_left
        · intro w' hS; have hc := (bcell hS).1; go_simp; all_goals with_reducible rfl
        simp only [Act.put, List.setIfInBounds_toArray, List.set_cons_zero, List.set_cons_succ]
        refine takeV (v := ?_) 10 rfl (by kernel_rfl) (fun _ _ _ h => h) (by rfl) ?_ ?_; rotate_left
        · intro w' hS; have hc := (bcell hS).1; go_simp; all_goals with_reducible rfl
        simp only [Act.put, List.setIfInBounds_toArray, List.set_cons_zero, List.set_cons_succ]
        refine doneM (by kernel_rfl) fun w1 hx hS => ?_
        obtain ⟨hc, hf, hz, hy⟩ := bcell hS
        refine chainM [11] (by kernel_rfl) rfl ?_
        go_wp2
        refine bodyPost_ret (by simp [results, Tryd.results47, go_sem, hc]) rfl ⟨rfl, ?_⟩
        repeat (first | (with_reducible refine Ext.set ?_ (by dsimp only; omega)) | (with_reducible refine Ext.al ?_) | (with_reducible refine Ext.dr ?_) | (with_reducible exact Ext.refl _) | (with_reducible refine Ext.trans ?_ (by assumption)))
    · obtain rfl : t = true := by rw [← ht]; simp [h]
      clear ht
      go_enter Tryd.func47, Tryd.ntmps47
      go_wp2_with fail
      refine wp_region_M (fun w' => Ext _ w') (fun i => !([11] : List Nat).contains i) (by kernel_rfl) (Ext.drew _) ?_
      refine takeV (v := ?_) 0 rfl (by kernel_rfl) (fun _ _ _ h => h) (by rfl) ?_ ?_; rotate_left
      · intro w' hS; have hc := (bcell hS).1; go_simp; all_goals with_reducible rfl
      simp only [Act.put, List.setIfInBounds_toArray, List.set_cons_zero, List.set_cons_succ]
      refine takeV (v := ?_) 1 rfl (by kernel_rfl) (fun _ _ _ h => h) (by rfl) ?_ ?_; rotate_left
      · intro w' hS; have hc := (bcell hS).1; go_simp; all_goals with_reducible rfl
      simp only [Act.put, List.setIfInBounds_toArray, List.set_cons_zero, List.set_cons_succ]
      refine takeV (v := ?_) 2 rfl (by kernel_rfl) (fun _ _ _ h => h) (by rfl) ?_ ?_; rotate_left
      · intro w' hS; have hc := (bcell hS).1; go_simp; all_goals with_reducible rfl
      simp only [Act.put, List.setIfInBounds_toArray, List.set_cons_zero, List.set_cons_succ]
      refine takeV (v := ?_) 3 rfl (by kernel_rfl) (fun _ _ _ h => h) (by rfl) ?_ ?_; rotate_left
      · intro w' hS; have hc := (bcell hS).1; go_simp; all_goals with_reducible rfl
      simp only [Act.put, List.setIfInBounds_toArray, List.set_cons_zero, List.set_cons_succ]
      refine takeV (v := ?_) 4 rfl (by kernel_rfl) (fun _ _ _ h => h) (by rfl) ?_ ?_; rotate_left
      · intro w' hS; have hc := (bcell hS).1; go_simp; all_goals with_reducible rfl
      simp only [Act.put, List.setIfInBounds_toArray, List.set_cons_zero, List.set_cons_succ]
      refine takeV (v := ?_) 5 rfl (by kernel_rfl) (fun _ _ _ h => h) (by rfl) ?_ ?_; rotate_left
      · intro w' hS; have hc := (bcell hS).1; go_simp; all_goals with_reducible rfl
      simp only [Act.put, List.setIfInBounds_toArray, List.set_cons_zero, List.set_cons_succ]
      refine takeV (v := ?_) 6 rfl (by kernel_rfl) (fun _ _ _ h => h) (by rfl) ?_ ?_; rotate_left
      · intro w' hS; have hc := (bcell hS).1; go_simp; all_goals with_reducible rfl
      simp only [Act.put, List.setIfInBounds_toArray, List.set_cons_zero, List.set_cons_succ]
      refine takeV (v := ?_) 7 rfl (by kernel_rfl) (fun _ _ _ h => h) (by rfl) ?_ ?_; rotate_left
      · intro w' hS; have hc := (bcell hS).1; go_simp; all_goals with_reducible rfl
      simp only [Act.put, List.setIfInBounds_toArray, List.set_cons_zero, List.set_cons_succ]
      refine takeV (v := ?_) 8 rfl (by kernel_rfl) (fun _ _ _ h => h) (by rfl) ?_ ?_; rotate_left
      · intro w' hS; have hc := (bcell hS).1; go_simp; all_goals with_reducible rfl
      simp only [Act.put, List.setIfInBounds_toArray, List.set_cons_zero, List.set_cons_succ]
      refine takeV (v := ?_) 9 rfl (by kernel_rfl) (fun _ _ _ h => h) (by rfl) ?_ ?_; rotate_left
      · intro w' hS; have hc := (bcell hS).1; go_simp; all_goals with_reducible rfl
      simp only [Act.put, List.setIfInBounds_toArray, List.set_cons_zero, List.set_cons_succ]
      refine takeV (v := ?_) 10 rfl (by kernel_rfl) (fun _ _ _ h => h) (by rfl) ?_ ?_; rotate_left
      · intro w' hS; have hc := (bcell hS).1; go_simp; all_goals with_reducible rfl
      simp only [Act.put, List.setIfInBounds_toArray, List.set_cons_zero, List.set_cons_succ]
      refine doneM (by kernel_rfl) fun w1 hx hS => ?_
      obtain ⟨hc, hf, hz, hy⟩ := bcell hS
      refine chainM [11] (by kernel_rfl) rfl ?_
      go_wp2
      refine bodyPost_ret (by simp [results, Tryd.results47, go_sem, hc]) rfl ⟨rfl, ?_⟩
      repeat (first | (with_reducible refine Ext.set ?_ (by dsimp only; omega)) | (with_reducible refine Ext.al ?_) | (with_reducible refine Ext.dr ?_) | (with_reducible exact Ext.refl _) | (with_reducible refine Ext.trans ?_ (by assumption)))
theorem made_any (s : Bool) (m : Nat) (w : World) (t : Bool) (ht : (s && decide (m ≠ 0)) = t) :
    Calls Tryd.prog 47 #[.bool s, (.agg #[.int .u64 ((hiN (m) : Nat) : Int), .int .u64 ((loN (m) : Nat) : Int)])] w fun e w' => e = .returned (.agg #[.bool (t), .int .u64 ((hiN (m) : Nat) : Int), .int .u64 ((loN (m) : Nat) : Int)]) ∧ Ext w w' :=
  made_walk s _ _ w t (by rw [← ht]; congr 1; rw [decide_eq_decide]; unfold hiN loN; omega)

/-- Is a number right? -/
def goodB (s : Bool) (m : Nat) : Bool := decide (m < 1000000000000000000000000000000000000) && !(s && decide (m = 0))

set_option maxHeartbeats 2000000 in
theorem good_any (s : Bool) (m : Nat) (w : World) (t : Bool) (ht : goodB s m = t) :
    Calls Tryd.prog 19 #[(.agg #[.bool (s), .int .u64 ((hiN (m) : Nat) : Int), .int .u64 ((loN (m) : Nat) : Int)])] w fun e w' => e = .returned (.bool t) ∧ Ext w w' := by
  by_cases h : m < 1000000000000000000000000000000000000
  · have Hb := Lib.hid fun w => below_lim m w true (by simpa using h)
    cases s
    · obtain rfl : t = true := by rw [← ht]; simp [goodB, h]
      clear ht h
      go_enter Tryd.func19, Tryd.ntmps19
      go_wp2_with (first | (go_at_call 39; (refine (of_any false m _).mono ?_); rintro e w9 ⟨rfl, hx9⟩; (first | replace hx := Ext.trans hx hx9 | (have hx' := hx9; replace hx := Ext.trans (Ext.al hx) hx9; obtain ⟨hc', hf', hz', hy'⟩ := bcell hx') | have hx := hx9); obtain ⟨hc, hf, hz, hy⟩ := bcell hx) | (go_at_call 41; (with_reducible refine (limit_walk _).mono ?_); rintro e w9 ⟨rfl, hx9⟩; (first | replace hx := Ext.trans hx hx9 | (have hx' := hx9; replace hx := Ext.trans (Ext.al hx) hx9; obtain ⟨hc', hf', hz', hy'⟩ := bcell hx') | have hx := hx9); obtain ⟨hc, hf, hz, hy⟩ := bcell hx) | (go_at_call 40; (refine (Hb.out _).mono ?_); rintro e w9 ⟨rfl, hx9⟩; (first | replace hx := Ext.trans hx hx9 | (have hx' := hx9; replace hx := Ext.trans (Ext.al hx) hx9; obtain ⟨hc', hf', hz', hy'⟩ := bcell hx') | have hx := hx9); obtain ⟨hc, hf, hz, hy⟩ := bcell hx))
      go_ret
      refine ⟨rfl, ?_⟩
      repeat (first | (with_reducible refine Ext.set ?_ (by dsimp only; omega)) | (with_reducible refine Ext.al ?_) | (with_reducible refine Ext.dr ?_) | (with_reducible exact Ext.refl _) | (with_reducible refine Ext.trans ?_ (by assumption)))
    · by_cases h0 : m = 0
      · subst h0
        obtain rfl : t = false := by rw [← ht]; rfl
        clear ht h
        have e1 : hiN 0 = 0 := rfl
        have e2 : loN 0 = 0 := rfl
        go_enter Tryd.func19, Tryd.ntmps19
        go_wp2_with (first | (go_at_call 39; (refine (of_any true 0 _).mono ?_); rintro e w9 ⟨rfl, hx9⟩; (first | replace hx := Ext.trans hx hx9 | (have hx' := hx9; replace hx := Ext.trans (Ext.al hx) hx9; obtain ⟨hc', hf', hz', hy'⟩ := bcell hx') | have hx := hx9); obtain ⟨hc, hf, hz, hy⟩ := bcell hx) | (go_at_call 41; (with_reducible refine (limit_walk _).mono ?_); rintro e w9 ⟨rfl, hx9⟩; (first | replace hx := Ext.trans hx hx9 | (have hx' := hx9; replace hx := Ext.trans (Ext.al hx) hx9; obtain ⟨hc', hf', hz', hy'⟩ := bcell hx') | have hx := hx9); obtain ⟨hc, hf, hz, hy⟩ := bcell hx) | (go_at_call 40; (refine (Hb.out _).mono ?_); rintro e w9 ⟨rfl, hx9⟩; (first | replace hx := Ext.trans hx hx9 | (have hx' := hx9; replace hx := Ext.trans (Ext.al hx) hx9; obtain ⟨hc', hf', hz', hy'⟩ := bcell hx') | have hx := hx9); obtain ⟨hc, hf, hz, hy⟩ := bcell hx))
        go_ret
        refine ⟨rfl, ?_⟩
        repeat (first | (with_reducible refine Ext.set ?_ (by dsimp only; omega)) | (with_reducible refine Ext.al ?_) | (with_reducible refine Ext.dr ?_) | (with_reducible exact Ext.refl _) | (with_reducible refine Ext.trans ?_ (by assumption)))
      · obtain rfl : t = true := by rw [← ht]; simp [goodB, h, h0]
        have e0 : hiN m = 0 → ¬ loN m = 0 := by unfold hiN loN; omega
        have Ho := Lib.hid fun w => of_any true m w
        generalize hiN m = x at *
        generalize loN m = y at *
        clear ht h h0
        by_cases hx0 : x = 0
        · have e1 : ¬ y = 0 := e0 hx0
          clear e0
          subst hx0
          go_enter Tryd.func19, Tryd.ntmps19
          go_wp2_with (first | (go_at_call 39; (refine (Ho.out _).mono ?_); rintro e w9 ⟨rfl, hx9⟩; (first | replace hx := Ext.trans hx hx9 | (have hx' := hx9; replace hx := Ext.trans (Ext.al hx) hx9; obtain ⟨hc', hf', hz', hy'⟩ := bcell hx') | have hx := hx9); obtain ⟨hc, hf, hz, hy⟩ := bcell hx) | (go_at_call 41; (with_reducible refine (limit_walk _).mono ?_); rintro e w9 ⟨rfl, hx9⟩; (first | replace hx := Ext.trans hx hx9 | (have hx' := hx9; replace hx := Ext.trans (Ext.al hx) hx9; obtain ⟨hc', hf', hz', hy'⟩ := bcell hx') | have hx := hx9); obtain ⟨hc, hf, hz, hy⟩ := bcell hx) | (go_at_call 40; (refine (Hb.out _).mono ?_); rintro e w9 ⟨rfl, hx9⟩; (first | replace hx := Ext.trans hx hx9 | (have hx' := hx9; replace hx := Ext.trans (Ext.al hx) hx9; obtain ⟨hc', hf', hz', hy'⟩ := bcell hx') | have hx := hx9); obtain ⟨hc, hf, hz, hy⟩ := bcell hx))
          go_ret
          refine ⟨rfl, ?_⟩
          repeat (first | (with_reducible refine Ext.set ?_ (by dsimp only; omega)) | (with_reducible refine Ext.al ?_) | (with_reducible refine Ext.dr ?_) | (with_reducible exact Ext.refl _) | (with_reducible refine Ext.trans ?_ (by assumption)))
        · clear e0
          go_enter Tryd.func19, Tryd.ntmps19
          go_wp2_with (first | (go_at_call 39; (refine (Ho.out _).mono ?_); rintro e w9 ⟨rfl, hx9⟩; (first | replace hx := Ext.trans hx hx9 | (have hx' := hx9; replace hx := Ext.trans (Ext.al hx) hx9; obtain ⟨hc', hf', hz', hy'⟩ := bcell hx') | have hx := hx9); obtain ⟨hc, hf, hz, hy⟩ := bcell hx) | (go_at_call 41; (with_reducible refine (limit_walk _).mono ?_); rintro e w9 ⟨rfl, hx9⟩; (first | replace hx := Ext.trans hx hx9 | (have hx' := hx9; replace hx := Ext.trans (Ext.al hx) hx9; obtain ⟨hc', hf', hz', hy'⟩ := bcell hx') | have hx := hx9); obtain ⟨hc, hf, hz, hy⟩ := bcell hx) | (go_at_call 40; (refine (Hb.out _).mono ?_); rintro e w9 ⟨rfl, hx9⟩; (first | replace hx := Ext.trans hx hx9 | (have hx' := hx9; replace hx := Ext.trans (Ext.al hx) hx9; obtain ⟨hc', hf', hz', hy'⟩ := bcell hx') | have hx := hx9); obtain ⟨hc, hf, hz, hy⟩ := bcell hx))
          go_ret
          refine ⟨rfl, ?_⟩
          repeat (first | (with_reducible refine Ext.set ?_ (by dsimp only; omega)) | (with_reducible refine Ext.al ?_) | (with_reducible refine Ext.dr ?_) | (with_reducible exact Ext.refl _) | (with_reducible refine Ext.trans ?_ (by assumption)))
  · have Hb := Lib.hid fun w => below_lim m w false (by simpa using h)
    obtain rfl : t = false := by rw [← ht]; simp [goodB, h]
    clear ht h
    go_enter Tryd.func19, Tryd.ntmps19
    go_wp2_with (first | (go_at_call 39; (refine (of_any s m _).mono ?_); rintro e w9 ⟨rfl, hx9⟩; (first | replace hx := Ext.trans hx hx9 | (have hx' := hx9; replace hx := Ext.trans (Ext.al hx) hx9; obtain ⟨hc', hf', hz', hy'⟩ := bcell hx') | have hx := hx9); obtain ⟨hc, hf, hz, hy⟩ := bcell hx) | (go_at_call 41; (with_reducible refine (limit_walk _).mono ?_); rintro e w9 ⟨rfl, hx9⟩; (first | replace hx := Ext.trans hx hx9 | (have hx' := hx9; replace hx := Ext.trans (Ext.al hx) hx9; obtain ⟨hc', hf', hz', hy'⟩ := bcell hx') | have hx := hx9); obtain ⟨hc, hf, hz, hy⟩ := bcell hx) | (go_at_call 40; (refine (Hb.out _).mono ?_); rintro e w9 ⟨rfl, hx9⟩; (first | replace hx := Ext.trans hx hx9 | (have hx' := hx9; replace hx := Ext.trans (Ext.al hx) hx9; obtain ⟨hc', hf', hz', hy'⟩ := bcell hx') | have hx := hx9); obtain ⟨hc, hf, hz, hy⟩ := bcell hx))
    go_ret
    refine ⟨rfl, ?_⟩
    repeat (first | (with_reducible refine Ext.set ?_ (by dsimp only; omega)) | (with_reducible refine Ext.al ?_) | (with_reducible refine Ext.dr ?_) | (with_reducible exact Ext.refl _) | (with_reducible refine Ext.trans ?_ (by assumption)))
end Go.Proofs.YtlfdelobjbdimaaDoor
