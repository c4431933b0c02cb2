/-
  The walks of dec's magnitudes: add, sub, of, made.
-/
import Derived.Test.YtlfdelobjbdimaaDoorDecA
namespace Go.Proofs.YtlfdelobjbdimaaDoor
set_option linter.unusedSimpArgs false
set_option linter.unusedVariables false
open Go.RowKit
/-- The upper and the lower half of a magnitude. -/
def hiN (m : Nat) : Nat := m / 18446744073709551616
def loN (m : Nat) : Nat := m % 18446744073709551616
theorem loN_lt (m : Nat) : loN m < 18446744073709551616 := Nat.mod_lt _ (by omega)
theorem hiN_lt {m : Nat} (h : m < 340282366920938463463374607431768211456) : hiN m < 18446744073709551616 := by unfold hiN; omega
theorem hilo (m : Nat) : hiN m * 18446744073709551616 + loN m = m := by unfold hiN loN; omega

/-- What a walk wants to know of a world that has grown, as rules. -/
theorem bcell {W w1 : World} (hb : Ext W w1) : (∀ b o, b < W.heap.size → w1.cell? ⟨b, o, none⟩ = W.cell? ⟨b, o, none⟩) ∧ (∀ b o, b < W.heap.size → w1.frozen? ⟨b, o, none⟩ = W.frozen? ⟨b, o, none⟩) ∧
    (∀ b, b < W.heap.size → b < w1.heap.size) ∧ (∀ b, b < W.heap.size → b ≤ w1.heap.size) :=
  ⟨fun b o h => hb.cell (p := ⟨b, o, none⟩) h, fun b o h => hb.frozen (p := ⟨b, o, none⟩) h, fun _ h => Nat.lt_of_lt_of_le h hb.size, fun _ h => Nat.le_of_lt (Nat.lt_of_lt_of_le h hb.size)⟩

/-- Of a new variable: its cells, that it may be written, that it is there. -/
theorem newcell {w0 w1 : World} {b : Nat} {cs : Array Value} {T : TypeId} (h2 : b < w0.heap.size) (h : w0.heap[b]? = some (.cells cs T (0, 0))) (hx : Ext w0 w1) :
    (∀ o, w1.cell? ⟨b, o, none⟩ = cs[o]?) ∧ (∀ o, w1.frozen? ⟨b, o, none⟩ = false) ∧ b < w1.heap.size := by
  have h' := (hx.block _ h2).trans h
  exact ⟨fun o => by simp [World.cell?, h'], fun o => by simp [World.frozen?, h'], Nat.lt_of_lt_of_le h2 hx.size⟩

theorem below_any (a b : Nat) (w : World) (t : Bool) (ht : decide (a < b) = t) :
    Calls Tryd.prog 40 #[(.agg #[.int .u64 ((hiN (a) : Nat) : Int), .int .u64 ((loN (a) : Nat) : Int)]), (.agg #[.int .u64 ((hiN (b) : Nat) : Int), .int .u64 ((loN (b) : Nat) : Int)])] w fun e w' => e = .returned (.bool t) ∧ Ext w w' :=
  below_walk _ _ _ _ w t (by
    rw [← ht, decide_eq_decide]; unfold hiN loN; omega)
theorem below_lim (a : Nat) (w : World) (t : Bool) (ht : decide (a < 1000000000000000000000000000000000000) = t) :
    Calls Tryd.prog 40 #[(.agg #[.int .u64 ((hiN (a) : Nat) : Int), .int .u64 ((loN (a) : Nat) : Int)]), .agg #[.int .u64 54210108624275221, .int .u64 12919594847110692864]] w fun e w' => e = .returned (.bool t) ∧ Ext w w' :=
  below_walk _ _ 54210108624275221 12919594847110692864 w t (by
    rw [← ht, decide_eq_decide]; unfold hiN loN; omega)

set_option maxHeartbeats 1000000 in
theorem add_any (a b : Nat) (ha : a < 1000000000000000000000000000000000000) (hb : b < 1000000000000000000000000000000000000) (w : World) (t : Bool)
    (ht : decide (a + b < 1000000000000000000000000000000000000) = t) :
    Calls Tryd.prog 67 #[(.agg #[.int .u64 ((hiN (a) : Nat) : Int), .int .u64 ((loN (a) : Nat) : Int)]), (.agg #[.int .u64 ((hiN (b) : Nat) : Int), .int .u64 ((loN (b) : Nat) : Int)])] w fun e w' => e = .returned (.tuple #[(.agg #[.int .u64 ((hiN (a + b) : Nat) : Int), .int .u64 ((loN (a + b) : Nat) : Int)]), .bool t]) ∧ Ext w w' := by
  have r1 := run_add64 (loN a) (loN b) 0 (by omega)
  rw [Nat.add_zero] at r1
  have r1' : ∀ w, (callFunc 68 #[.int .u64 (loN a : Nat), .int .u64 (loN b : Nat), .int .u64 0]).run Tryd.prog w = _ := r1
  clear r1
  have r2 := run_add64 (hiN a) (hiN b) ((loN a + loN b) / 18446744073709551616) (by have := loN_lt a; have := loN_lt b; omega)
  rw [show (hiN a + hiN b + (loN a + loN b) / 18446744073709551616) / 18446744073709551616 = 0 by unfold hiN loN; omega,
    show (hiN a + hiN b + (loN a + loN b) / 18446744073709551616) % 18446744073709551616 = hiN (a + b) by unfold hiN loN; omega] at r2
  rw [show (loN a + loN b) % 18446744073709551616 = loN (a + b) by unfold loN; omega] at r1'
  have Ht := Lib.hid ht; clear ht ha hb
  generalize (loN a + loN b) / 18446744073709551616 = cc at *
  go_enter Tryd.func67, Tryd.ntmps67
  go_wp2_with fail
  refine wp_region_M (fun w' => Ext _ w') (fun i => !([7, 8, 9] : List Nat).contains i) (by kernel_rfl) (Ext.drew _) ?_
  refine takeV (v := ?_) 0 rfl (by kernel_rfl) (fun _ _ _ h => h) (by rfl) ?_ ?_; rotate_left
  · intro w' hS; have hc := (bcell hS).1; go_simp; all_goals with_reducible rfl
  simp only [Act.put, List.setIfInBounds_toArray, List.set_cons_zero, List.set_cons_succ]
  refine takeV (v := ?_) 1 rfl (by kernel_rfl) (fun _ _ _ h => h) (by rfl) ?_ ?_; rotate_left
  · intro w' hS; have hc := (bcell hS).1; go_simp; all_goals with_reducible rfl
  simp only [Act.put, List.setIfInBounds_toArray, List.set_cons_zero, List.set_cons_succ]
  refine takeV (v := ?_) 2 rfl (by kernel_rfl) (fun _ _ _ h => h) (by rfl) ?_ ?_; rotate_left
  · intro w' hS; have hc := (bcell hS).1; go_simp; all_goals with_reducible rfl
  simp only [Act.put, List.setIfInBounds_toArray, List.set_cons_zero, List.set_cons_succ]
  refine takeV (v := ?_) 3 rfl (by kernel_rfl) (fun _ _ _ h => h) (by rfl) ?_ ?_; rotate_left
  · intro w' hS; have hc := (bcell hS).1; go_simp; all_goals with_reducible rfl
  simp only [Act.put, List.setIfInBounds_toArray, List.set_cons_zero, List.set_cons_succ]
  refine takeV (v := ?_) 4 rfl (by kernel_rfl) (fun _ _ _ h => h) (by rfl) ?_ ?_; rotate_left
  · intro w' hS; have hc := (bcell hS).1; go_simp; all_goals with_reducible rfl
  simp only [Act.put, List.setIfInBounds_toArray, List.set_cons_zero, List.set_cons_succ]
  refine takeC (v := ?_) 5 rfl (by kernel_rfl) (fun _ _ _ h => h) (by rfl) (fun _ => by go_simp; exact ⟨rfl, rfl⟩) ?_ ?_; rotate_left
  · intro w' hS; refine Calls.mono (limit_walk _) fun e w2 hh => ⟨hh.1.trans ?_, hh.2, hS.trans hh.2⟩; with_reducible rfl
  simp only [Act.put, List.setIfInBounds_toArray, List.set_cons_zero, List.set_cons_succ]
  refine takeC (v := ?_) 6 rfl (by kernel_rfl) (fun _ _ _ h => h) (by rfl) (fun _ => by go_simp; exact ⟨rfl, rfl⟩) ?_ ?_; rotate_left
  · intro w' hS; refine Calls.mono (below_lim (a + b) _ t Ht.out) fun e w2 hh => ⟨hh.1.trans ?_, hh.2, hS.trans hh.2⟩; with_reducible rfl
  simp only [Act.put, List.setIfInBounds_toArray, List.set_cons_zero, List.set_cons_succ]
  refine doneM (by kernel_rfl) fun w1 hx hS => ?_
  obtain ⟨hc, hf, hz, hy⟩ := bcell hS
  refine takeZ (v := ?_) 7 rfl (by kernel_rfl) (fun _ _ _ h => h) (by rfl) ?_ ?_; rotate_left
  · intro w'; go_simp; all_goals with_reducible rfl
  simp only [Act.put, List.setIfInBounds_toArray, List.set_cons_zero, List.set_cons_succ]
  refine chainM [8, 9] (by kernel_rfl) rfl ?_
  go_wp2
  refine bodyPost_ret (by simp [results, Tryd.results67, go_sem, hc]) rfl ⟨rfl, ?_⟩
  repeat (first | (with_reducible refine Ext.set ?_ (by dsimp only; omega)) | (with_reducible refine Ext.al ?_) | (with_reducible refine Ext.dr ?_) | (with_reducible exact Ext.refl _) | (with_reducible refine Ext.trans ?_ (by assumption)))

set_option maxHeartbeats 1000000 in
theorem sub_any (a b : Nat) (h : b ≤ a) (ha : a < 340282366920938463463374607431768211456) (w : World) :
    Calls Tryd.prog 53 #[(.agg #[.int .u64 ((hiN (a) : Nat) : Int), .int .u64 ((loN (a) : Nat) : Int)]), (.agg #[.int .u64 ((hiN (b) : Nat) : Int), .int .u64 ((loN (b) : Nat) : Int)])] w fun e w' => e = .returned (.agg #[.int .u64 ((hiN (a - b) : Nat) : Int), .int .u64 ((loN (a - b) : Nat) : Int)]) ∧ Ext w w' := by
  have r1 := run_sub64 (loN a) (loN b) 0 (by omega)
  rw [Nat.add_zero, Nat.sub_zero] at r1
  have r1' : ∀ w, (callFunc 66 #[.int .u64 (loN a : Nat), .int .u64 (loN b : Nat), .int .u64 0]).run Tryd.prog w = _ := r1
  clear r1
  have r2 := run_sub64 (hiN a) (hiN b) (if loN a < loN b then 1 else 0) (by split <;> omega)
  rw [show (hiN a + 18446744073709551616 - hiN b - (if loN a < loN b then 1 else 0)) % 18446744073709551616 = hiN (a - b) by unfold hiN loN; split <;> omega] at r2
  rw [show (loN a + 18446744073709551616 - loN b) % 18446744073709551616 = loN (a - b) by unfold loN; omega] at r1'
  generalize (if loN a < loN b then 1 else 0 : Nat) = cc at *
  generalize (if hiN a < hiN b + cc then 1 else 0 : Nat) = c2 at *
  clear h ha
  go_enter Tryd.func53, Tryd.ntmps53
  go_wp2
  refine bodyPost_ret (by simp [results, Tryd.results53, go_sem]) rfl ⟨rfl, ?_⟩
  repeat (first | (with_reducible refine Ext.set ?_ (by dsimp only; omega)) | (with_reducible refine Ext.al ?_) | (with_reducible refine Ext.dr ?_) | (with_reducible exact Ext.refl _) | (with_reducible refine Ext.trans ?_ (by assumption)))

set_option maxHeartbeats 400000 in
theorem of_any (s : Bool) (m : Nat) (w : World) :
    Calls Tryd.prog 39 #[(.agg #[.bool (s), .int .u64 ((hiN (m) : Nat) : Int), .int .u64 ((loN (m) : Nat) : Int)])] w fun e w' => e = .returned (.agg #[.int .u64 ((hiN (m) : Nat) : Int), .int .u64 ((loN (m) : Nat) : Int)]) ∧ Ext w w' := by
  go_enter Tryd.func39, Tryd.ntmps39
  go_wp2
  refine bodyPost_ret (by simp [results, Tryd.results39, go_sem]) rfl ⟨rfl, ?_⟩
  repeat (first | (with_reducible refine Ext.set ?_ (by dsimp only; omega)) | (with_reducible refine Ext.al ?_) | (with_reducible refine Ext.dr ?_) | (with_reducible exact Ext.refl _) | (with_reducible refine Ext.trans ?_ (by assumption)))

theorem mag_zero {m : Nat} (h : m = 0) : hiN m = 0 ∧ loN m = 0 := by subst h; exact ⟨rfl, rfl⟩

end Go.Proofs.YtlfdelobjbdimaaDoor
