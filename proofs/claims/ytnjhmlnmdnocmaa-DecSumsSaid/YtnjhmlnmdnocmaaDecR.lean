/-
  The walk of dec.Pow, to a power that is a whole number of at least 0 and at most 1000, where no product is too great.
-/
import Derived.Test.YtnjhmlnmdnocmaaDecK
import Derived.Test.YtnjhmlnmdnocmaaRow
namespace Go.Proofs.Ytnjhmlnmdnocmaa
set_option linter.unusedSimpArgs false
set_option linter.unusedVariables false
open Go.RowKit

set_option maxRecDepth 100000 in
set_option maxHeartbeats 2000000 in
theorem pow_walk (s : Bool) (x y : Int) (bx by_ : Int) (n : Nat) (hn : n ≤ 1000) (w : World) (P : Nat → Bool × Nat × Nat)
    (H1 : Hid (∀ w, Calls Try.prog 44 #[.agg #[.bool s, .int .u64 x, .int .u64 y], .agg #[.bool false, .int .u64 bx, .int .u64 by_]] w fun e w' => e = .returned (.bool true) ∧ Ext w w'))
    (H2 : Hid (∀ w, Calls Try.prog 13 #[.agg #[.bool false, .int .u64 bx, .int .u64 by_]] w fun e w' => e = .returned (.agg #[.bool false, .int .u64 bx, .int .u64 by_]) ∧ Ext w w'))
    (H3 : Hid (∀ w, Calls Try.prog 35 #[.agg #[.bool s, .int .u64 x, .int .u64 y]] w fun e w' => e = .returned (.agg #[.int .u64 x, .int .u64 y]) ∧ Ext w w'))
    (H4 : Hid (∀ w, Calls Try.prog 11 #[.agg #[.bool false, .int .u64 bx, .int .u64 by_]] w fun e w' => e = .returned (.tuple #[.int .i64 n, .bool true]) ∧ Ext w w'))
    (H5 : Hid (∀ w, Calls Try.prog 10 #[.int .i64 1] w fun e w' => e = .returned (.agg #[.bool (P 0).1, .int .u64 (P 0).2.1, .int .u64 (P 0).2.2]) ∧ Ext w w'))
    (H6 : Hid (∀ k, k < n → ∀ w, Calls Try.prog 25 #[.agg #[.bool (P k).1, .int .u64 (P k).2.1, .int .u64 (P k).2.2], .agg #[.bool s, .int .u64 x, .int .u64 y]] w fun e w' => e = .returned (.tuple #[.agg #[.bool (P (k + 1)).1, .int .u64 (P (k + 1)).2.1, .int .u64 (P (k + 1)).2.2], .nilIface]) ∧ Ext w w')) :
    Calls Try.prog 27 #[.agg #[.bool s, .int .u64 x, .int .u64 y], .agg #[.bool false, .int .u64 bx, .int .u64 by_]] w fun e w' => e = .returned (.tuple #[.agg #[.bool (P n).1, .int .u64 (P n).2.1, .int .u64 (P n).2.2], .nilIface]) ∧ Ext w w' := by
  by_cases hx : x = 0
  · subst hx
    by_cases hy : y = 0
    · subst hy
      go_enter Try.func27, Try.ntmps27
      go_wp2_with fail
      refine wp_region_M (fun w' => Ext _ w') (fun i => !([] : List Nat).contains i) (by kernel_rfl) (Ext.drew _) ?_
      refine takeV (v := ?_) 0 rfl (by kernel_rfl) (fun _ _ _ h => h) (by rfl) ?_ ?_; rotate_left
      · intro w' hS; (try have k9 := fun o => hS.cell (p := ⟨w.heap.size, o, none⟩) (by (try simp only [World.size_alloc, World.size_drew, World.size_setCell]); omega)); (try have k9 := fun o => hS.cell (p := ⟨w.heap.size + 1, o, none⟩) (by (try simp only [World.size_alloc, World.size_drew, World.size_setCell]); omega)); (try have k9 := fun o => hS.cell (p := ⟨w.heap.size + 1 + 1, o, none⟩) (by (try simp only [World.size_alloc, World.size_drew, World.size_setCell]); omega)); go_simp; all_goals with_reducible rfl
      simp only [Act.put, List.setIfInBounds_toArray, List.set_cons_zero, List.set_cons_succ]
      refine takeV (v := ?_) 1 rfl (by kernel_rfl) (fun _ _ _ h => h) (by rfl) ?_ ?_; rotate_left
      · intro w' hS; (try have k9 := fun o => hS.cell (p := ⟨w.heap.size, o, none⟩) (by (try simp only [World.size_alloc, World.size_drew, World.size_setCell]); omega)); (try have k9 := fun o => hS.cell (p := ⟨w.heap.size + 1, o, none⟩) (by (try simp only [World.size_alloc, World.size_drew, World.size_setCell]); omega)); (try have k9 := fun o => hS.cell (p := ⟨w.heap.size + 1 + 1, o, none⟩) (by (try simp only [World.size_alloc, World.size_drew, World.size_setCell]); omega)); go_simp; all_goals with_reducible rfl
      simp only [Act.put, List.setIfInBounds_toArray, List.set_cons_zero, List.set_cons_succ]
      refine takeC (v := ?_) 2 rfl (by kernel_rfl) (fun _ _ _ h => h) (by rfl) (fun _ => by go_simp; exact ⟨rfl, rfl⟩) ?_ ?_; rotate_left
      · intro w' hS; refine Calls.mono (H1.out _) fun e w2 hh => ⟨hh.1.trans ?_, hh.2, hS.trans hh.2⟩; with_reducible rfl
      simp only [Act.put, List.setIfInBounds_toArray, List.set_cons_zero, List.set_cons_succ]
      refine takeV (v := ?_) 3 rfl (by kernel_rfl) (fun _ _ _ h => h) (by rfl) ?_ ?_; rotate_left
      · intro w' hS; (try have k9 := fun o => hS.cell (p := ⟨w.heap.size, o, none⟩) (by (try simp only [World.size_alloc, World.size_drew, World.size_setCell]); omega)); (try have k9 := fun o => hS.cell (p := ⟨w.heap.size + 1, o, none⟩) (by (try simp only [World.size_alloc, World.size_drew, World.size_setCell]); omega)); (try have k9 := fun o => hS.cell (p := ⟨w.heap.size + 1 + 1, o, none⟩) (by (try simp only [World.size_alloc, World.size_drew, World.size_setCell]); omega)); go_simp; all_goals with_reducible rfl
      simp only [Act.put, List.setIfInBounds_toArray, List.set_cons_zero, List.set_cons_succ]
      refine takeV (v := ?_) 4 rfl (by kernel_rfl) (fun _ _ _ h => h) (by rfl) ?_ ?_; rotate_left
      · intro w' hS; (try have k9 := fun o => hS.cell (p := ⟨w.heap.size, o, none⟩) (by (try simp only [World.size_alloc, World.size_drew, World.size_setCell]); omega)); (try have k9 := fun o => hS.cell (p := ⟨w.heap.size + 1, o, none⟩) (by (try simp only [World.size_alloc, World.size_drew, World.size_setCell]); omega)); (try have k9 := fun o => hS.cell (p := ⟨w.heap.size + 1 + 1, o, none⟩) (by (try simp only [World.size_alloc, World.size_drew, World.size_setCell]); omega)); go_simp; all_goals with_reducible rfl
      simp only [Act.put, List.setIfInBounds_toArray, List.set_cons_zero, List.set_cons_succ]
      refine takeV (v := ?_) 5 rfl (by kernel_rfl) (fun _ _ _ h => h) (by rfl) ?_ ?_; rotate_left
      · intro w' hS; (try have k9 := fun o => hS.cell (p := ⟨w.heap.size, o, none⟩) (by (try simp only [World.size_alloc, World.size_drew, World.size_setCell]); omega)); (try have k9 := fun o => hS.cell (p := ⟨w.heap.size + 1, o, none⟩) (by (try simp only [World.size_alloc, World.size_drew, World.size_setCell]); omega)); (try have k9 := fun o => hS.cell (p := ⟨w.heap.size + 1 + 1, o, none⟩) (by (try simp only [World.size_alloc, World.size_drew, World.size_setCell]); omega)); go_simp; all_goals with_reducible rfl
      simp only [Act.put, List.setIfInBounds_toArray, List.set_cons_zero, List.set_cons_succ]
      refine takeC (v := ?_) 6 rfl (by kernel_rfl) (fun _ _ _ h => h) (by rfl) (fun _ => by go_simp; exact ⟨rfl, rfl⟩) ?_ ?_; rotate_left
      · intro w' hS; refine Calls.mono (H2.out _) fun e w2 hh => ⟨hh.1.trans ?_, hh.2, hS.trans hh.2⟩; with_reducible rfl
      simp only [Act.put, List.setIfInBounds_toArray, List.set_cons_zero, List.set_cons_succ]
      refine takeV (v := ?_) 7 rfl (by kernel_rfl) (fun _ _ _ h => h) (by rfl) ?_ ?_; rotate_left
      · intro w' hS; (try have k9 := fun o => hS.cell (p := ⟨w.heap.size, o, none⟩) (by (try simp only [World.size_alloc, World.size_drew, World.size_setCell]); omega)); (try have k9 := fun o => hS.cell (p := ⟨w.heap.size + 1, o, none⟩) (by (try simp only [World.size_alloc, World.size_drew, World.size_setCell]); omega)); (try have k9 := fun o => hS.cell (p := ⟨w.heap.size + 1 + 1, o, none⟩) (by (try simp only [World.size_alloc, World.size_drew, World.size_setCell]); omega)); go_simp; all_goals with_reducible rfl
      simp only [Act.put, List.setIfInBounds_toArray, List.set_cons_zero, List.set_cons_succ]
      refine takeV (v := ?_) 8 rfl (by kernel_rfl) (fun _ _ _ h => h) (by rfl) ?_ ?_; rotate_left
      · intro w' hS; (try have k9 := fun o => hS.cell (p := ⟨w.heap.size, o, none⟩) (by (try simp only [World.size_alloc, World.size_drew, World.size_setCell]); omega)); (try have k9 := fun o => hS.cell (p := ⟨w.heap.size + 1, o, none⟩) (by (try simp only [World.size_alloc, World.size_drew, World.size_setCell]); omega)); (try have k9 := fun o => hS.cell (p := ⟨w.heap.size + 1 + 1, o, none⟩) (by (try simp only [World.size_alloc, World.size_drew, World.size_setCell]); omega)); go_simp; all_goals with_reducible rfl
      simp only [Act.put, List.setIfInBounds_toArray, List.set_cons_zero, List.set_cons_succ]
      refine takeV (v := ?_) 9 rfl (by kernel_rfl) (fun _ _ _ h => h) (by rfl) ?_ ?_; rotate_left
      · intro w' hS; (try have k9 := fun o => hS.cell (p := ⟨w.heap.size, o, none⟩) (by (try simp only [World.size_alloc, World.size_drew, World.size_setCell]); omega)); (try have k9 := fun o => hS.cell (p := ⟨w.heap.size + 1, o, none⟩) (by (try simp only [World.size_alloc, World.size_drew, World.size_setCell]); omega)); (try have k9 := fun o => hS.cell (p := ⟨w.heap.size + 1 + 1, o, none⟩) (by (try simp only [World.size_alloc, World.size_drew, World.size_setCell]); omega)); go_simp; all_goals with_reducible rfl
      simp only [Act.put, List.setIfInBounds_toArray, List.set_cons_zero, List.set_cons_succ]
      refine doneM (by kernel_rfl) fun w1 hx hS => ?_
      (have s9 := hS.size; (try simp only [World.size_alloc, World.size_drew, World.size_setCell] at s9)); (try (have z9 : w.heap.size < w1.heap.size := (by omega); have k9 := fun o => hS.cell (p := ⟨w.heap.size, o, none⟩) (by (try simp only [World.size_alloc, World.size_drew, World.size_setCell]); omega); have f9 := fun o => hS.frozen (p := ⟨w.heap.size, o, none⟩) (by (try simp only [World.size_alloc, World.size_drew, World.size_setCell]); omega))); (try (have z9 : w.heap.size + 1 < w1.heap.size := (by omega); have k9 := fun o => hS.cell (p := ⟨w.heap.size + 1, o, none⟩) (by (try simp only [World.size_alloc, World.size_drew, World.size_setCell]); omega); have f9 := fun o => hS.frozen (p := ⟨w.heap.size + 1, o, none⟩) (by (try simp only [World.size_alloc, World.size_drew, World.size_setCell]); omega))); (try (have z9 : w.heap.size + 1 + 1 < w1.heap.size := (by omega); have k9 := fun o => hS.cell (p := ⟨w.heap.size + 1 + 1, o, none⟩) (by (try simp only [World.size_alloc, World.size_drew, World.size_setCell]); omega); have f9 := fun o => hS.frozen (p := ⟨w.heap.size + 1 + 1, o, none⟩) (by (try simp only [World.size_alloc, World.size_drew, World.size_setCell]); omega)))
      refine chainM [] (by kernel_rfl) rfl ?_
      go_wp2_with (first | (go_at_call 35; (with_reducible refine (H3.out _).mono ?_); rintro e w9 ⟨rfl, hx9⟩; (have s9 := hx9.size; (try simp only [World.size_alloc, World.size_drew, World.size_setCell] at s9)); (try (have z9 : w.heap.size < w9.heap.size := (by omega); have k9 := fun o => hx9.cell (p := ⟨w.heap.size, o, none⟩) (by (try simp only [World.size_alloc, World.size_drew, World.size_setCell]); omega); have f9 := fun o => hx9.frozen (p := ⟨w.heap.size, o, none⟩) (by (try simp only [World.size_alloc, World.size_drew, World.size_setCell]); omega))); (try (have z9 : w.heap.size + 1 < w9.heap.size := (by omega); have k9 := fun o => hx9.cell (p := ⟨w.heap.size + 1, o, none⟩) (by (try simp only [World.size_alloc, World.size_drew, World.size_setCell]); omega); have f9 := fun o => hx9.frozen (p := ⟨w.heap.size + 1, o, none⟩) (by (try simp only [World.size_alloc, World.size_drew, World.size_setCell]); omega))); (try (have z9 : w.heap.size + 1 + 1 < w9.heap.size := (by omega); have k9 := fun o => hx9.cell (p := ⟨w.heap.size + 1 + 1, o, none⟩) (by (try simp only [World.size_alloc, World.size_drew, World.size_setCell]); omega); have f9 := fun o => hx9.frozen (p := ⟨w.heap.size + 1 + 1, o, none⟩) (by (try simp only [World.size_alloc, World.size_drew, World.size_setCell]); omega)))) | (go_at_call 11; (with_reducible refine (H4.out _).mono ?_); rintro e w9 ⟨rfl, hx9⟩; (have s9 := hx9.size; (try simp only [World.size_alloc, World.size_drew, World.size_setCell] at s9)); (try (have z9 : w.heap.size < w9.heap.size := (by omega); have k9 := fun o => hx9.cell (p := ⟨w.heap.size, o, none⟩) (by (try simp only [World.size_alloc, World.size_drew, World.size_setCell]); omega); have f9 := fun o => hx9.frozen (p := ⟨w.heap.size, o, none⟩) (by (try simp only [World.size_alloc, World.size_drew, World.size_setCell]); omega))); (try (have z9 : w.heap.size + 1 < w9.heap.size := (by omega); have k9 := fun o => hx9.cell (p := ⟨w.heap.size + 1, o, none⟩) (by (try simp only [World.size_alloc, World.size_drew, World.size_setCell]); omega); have f9 := fun o => hx9.frozen (p := ⟨w.heap.size + 1, o, none⟩) (by (try simp only [World.size_alloc, World.size_drew, World.size_setCell]); omega))); (try (have z9 : w.heap.size + 1 + 1 < w9.heap.size := (by omega); have k9 := fun o => hx9.cell (p := ⟨w.heap.size + 1 + 1, o, none⟩) (by (try simp only [World.size_alloc, World.size_drew, World.size_setCell]); omega); have f9 := fun o => hx9.frozen (p := ⟨w.heap.size + 1 + 1, o, none⟩) (by (try simp only [World.size_alloc, World.size_drew, World.size_setCell]); omega)))) | (go_at_call 10; (with_reducible refine (H5.out _).mono ?_); rintro e w9 ⟨rfl, hx9⟩; (have s9 := hx9.size; (try simp only [World.size_alloc, World.size_drew, World.size_setCell] at s9)); (try (have z9 : w.heap.size < w9.heap.size := (by omega); have k9 := fun o => hx9.cell (p := ⟨w.heap.size, o, none⟩) (by (try simp only [World.size_alloc, World.size_drew, World.size_setCell]); omega); have f9 := fun o => hx9.frozen (p := ⟨w.heap.size, o, none⟩) (by (try simp only [World.size_alloc, World.size_drew, World.size_setCell]); omega))); (try (have z9 : w.heap.size + 1 < w9.heap.size := (by omega); have k9 := fun o => hx9.cell (p := ⟨w.heap.size + 1, o, none⟩) (by (try simp only [World.size_alloc, World.size_drew, World.size_setCell]); omega); have f9 := fun o => hx9.frozen (p := ⟨w.heap.size + 1, o, none⟩) (by (try simp only [World.size_alloc, World.size_drew, World.size_setCell]); omega))); (try (have z9 : w.heap.size + 1 + 1 < w9.heap.size := (by omega); have k9 := fun o => hx9.cell (p := ⟨w.heap.size + 1 + 1, o, none⟩) (by (try simp only [World.size_alloc, World.size_drew, World.size_setCell]); omega); have f9 := fun o => hx9.frozen (p := ⟨w.heap.size + 1 + 1, o, none⟩) (by (try simp only [World.size_alloc, World.size_drew, World.size_setCell]); omega)))))
      have hmax : (if (n : Int) < -(n : Int) then -(n : Int) else (n : Int)) = (n : Int) := by rw [if_neg (by omega)]
      go_loopw [5, 56] (fun er i wr => ∃ k : Nat, k ≤ n ∧ er = .nilIface ∧ i = .int .i64 k ∧ Hid (Ext w wr) ∧ Hid (Row wr w.heap.size #[.bool s, .int .u64 (0 : Int), .int .u64 (0 : Int)]) ∧ Hid (Row wr (w.heap.size + 1 + 1) #[.bool false, .int .u64 0, .int .u64 0]) ∧
        Hid (Row wr (w9.heap.size + 1) #[.bool (P k).1, .int .u64 (P k).2.1, .int .u64 (P k).2.2])) (fun _ i _ => n - (intOf i).toNat)
      case atStart =>
        refine ⟨0, Nat.zero_le _, rfl, rfl, Lib.hid ?_, Lib.hid ⟨fun o => ?_, fun o => ?_, ?_⟩, Lib.hid ⟨fun o => ?_, fun o => ?_, ?_⟩, Lib.hid ⟨fun o => ?_, fun o => ?_, ?_⟩⟩
        · repeat (first | (with_reducible refine Ext.set ?_ (by dsimp only; omega)) | (with_reducible refine Ext.al ?_) | (with_reducible refine Ext.dr ?_) | (with_reducible exact Ext.refl _) | (with_reducible refine Ext.trans ?_ (by assumption)))
        all_goals first | (go_simp; done) | (simp; omega)
      case round =>
        obtain ⟨k, hk, rfl, rfl, HE, HA, HR, HP⟩ := hrel
        obtain ⟨ka, fa, za⟩ := HA.out
        obtain ⟨kr, fr, zr⟩ := HR.out
        obtain ⟨kp, fp, zp⟩ := HP.out
        by_cases hlt : k < n
        · have Hm := Lib.hid (H6.out k hlt)
          go_wp2_with fail
          refine (Hm.out _).mono ?_
          rintro e w8 ⟨rfl, hx8⟩
          have HE' := Lib.hid (HE.out.trans hx8)
          have HA' := Lib.hid (HA.out.grow hx8)
          have HR' := Lib.hid (HR.out.grow hx8)
          have HP' := Lib.hid (HP.out.grow hx8)
          obtain ⟨ka', fa', za'⟩ := HA'.out
          obtain ⟨kr', fr', zr'⟩ := HR'.out
          obtain ⟨kp', fp', zp'⟩ := HP'.out
          go_wp2
          go_roundw
          case rel =>
            refine ⟨k + 1, hlt, rfl, by go_num, Lib.hid ?_, Lib.hid (((HA'.out.far _ ?_).far _ ?_).far _ ?_), Lib.hid (((HR'.out.far _ ?_).far _ ?_).far _ ?_), Lib.hid (((HP'.out.set 0 _ (by simp)).set 1 _ (by simp)).set 2 _ (by simp))⟩
            · exact Ext.set (Ext.set (Ext.set HE'.out (by dsimp only; omega)) (by dsimp only; omega)) (by dsimp only; omega)
            all_goals (dsimp only; omega)
          case measure => simp [intOf]; omega
        · obtain rfl : k = n := by omega
          have HE' := HE.out
          go_wp2
          refine bodyPost_ret (v := .tuple #[.agg #[.bool (P k).1, .int .u64 (P k).2.1, .int .u64 (P k).2.2], .nilIface]) ?_ rfl ⟨rfl, ?_⟩; focus (simp only [results, Try.results27]; go_simp)
          repeat (first | (with_reducible refine Ext.set ?_ (by dsimp only; omega)) | (with_reducible refine Ext.al ?_) | (with_reducible refine Ext.dr ?_) | (with_reducible exact Ext.refl _) | (with_reducible refine Ext.trans ?_ (by assumption)))
    · skip
      go_enter Try.func27, Try.ntmps27
      go_wp2_with fail
      refine wp_region_M (fun w' => Ext _ w') (fun i => !([] : List Nat).contains i) (by kernel_rfl) (Ext.drew _) ?_
      refine takeV (v := ?_) 0 rfl (by kernel_rfl) (fun _ _ _ h => h) (by rfl) ?_ ?_; rotate_left
      · intro w' hS; (try have k9 := fun o => hS.cell (p := ⟨w.heap.size, o, none⟩) (by (try simp only [World.size_alloc, World.size_drew, World.size_setCell]); omega)); (try have k9 := fun o => hS.cell (p := ⟨w.heap.size + 1, o, none⟩) (by (try simp only [World.size_alloc, World.size_drew, World.size_setCell]); omega)); (try have k9 := fun o => hS.cell (p := ⟨w.heap.size + 1 + 1, o, none⟩) (by (try simp only [World.size_alloc, World.size_drew, World.size_setCell]); omega)); go_simp; all_goals with_reducible rfl
      simp only [Act.put, List.setIfInBounds_toArray, List.set_cons_zero, List.set_cons_succ]
      refine takeV (v := ?_) 1 rfl (by kernel_rfl) (fun _ _ _ h => h) (by rfl) ?_ ?_; rotate_left
      · intro w' hS; (try have k9 := fun o => hS.cell (p := ⟨w.heap.size, o, none⟩) (by (try simp only [World.size_alloc, World.size_drew, World.size_setCell]); omega)); (try have k9 := fun o => hS.cell (p := ⟨w.heap.size + 1, o, none⟩) (by (try simp only [World.size_alloc, World.size_drew, World.size_setCell]); omega)); (try have k9 := fun o => hS.cell (p := ⟨w.heap.size + 1 + 1, o, none⟩) (by (try simp only [World.size_alloc, World.size_drew, World.size_setCell]); omega)); go_simp; all_goals with_reducible rfl
      simp only [Act.put, List.setIfInBounds_toArray, List.set_cons_zero, List.set_cons_succ]
      refine takeC (v := ?_) 2 rfl (by kernel_rfl) (fun _ _ _ h => h) (by rfl) (fun _ => by go_simp; exact ⟨rfl, rfl⟩) ?_ ?_; rotate_left
      · intro w' hS; refine Calls.mono (H1.out _) fun e w2 hh => ⟨hh.1.trans ?_, hh.2, hS.trans hh.2⟩; with_reducible rfl
      simp only [Act.put, List.setIfInBounds_toArray, List.set_cons_zero, List.set_cons_succ]
      refine takeV (v := ?_) 3 rfl (by kernel_rfl) (fun _ _ _ h => h) (by rfl) ?_ ?_; rotate_left
      · intro w' hS; (try have k9 := fun o => hS.cell (p := ⟨w.heap.size, o, none⟩) (by (try simp only [World.size_alloc, World.size_drew, World.size_setCell]); omega)); (try have k9 := fun o => hS.cell (p := ⟨w.heap.size + 1, o, none⟩) (by (try simp only [World.size_alloc, World.size_drew, World.size_setCell]); omega)); (try have k9 := fun o => hS.cell (p := ⟨w.heap.size + 1 + 1, o, none⟩) (by (try simp only [World.size_alloc, World.size_drew, World.size_setCell]); omega)); go_simp; all_goals with_reducible rfl
      simp only [Act.put, List.setIfInBounds_toArray, List.set_cons_zero, List.set_cons_succ]
      refine takeV (v := ?_) 4 rfl (by kernel_rfl) (fun _ _ _ h => h) (by rfl) ?_ ?_; rotate_left
      · intro w' hS; (try have k9 := fun o => hS.cell (p := ⟨w.heap.size, o, none⟩) (by (try simp only [World.size_alloc, World.size_drew, World.size_setCell]); omega)); (try have k9 := fun o => hS.cell (p := ⟨w.heap.size + 1, o, none⟩) (by (try simp only [World.size_alloc, World.size_drew, World.size_setCell]); omega)); (try have k9 := fun o => hS.cell (p := ⟨w.heap.size + 1 + 1, o, none⟩) (by (try simp only [World.size_alloc, World.size_drew, World.size_setCell]); omega)); go_simp; all_goals with_reducible rfl
      simp only [Act.put, List.setIfInBounds_toArray, List.set_cons_zero, List.set_cons_succ]
      refine takeV (v := ?_) 5 rfl (by kernel_rfl) (fun _ _ _ h => h) (by rfl) ?_ ?_; rotate_left
      · intro w' hS; (try have k9 := fun o => hS.cell (p := ⟨w.heap.size, o, none⟩) (by (try simp only [World.size_alloc, World.size_drew, World.size_setCell]); omega)); (try have k9 := fun o => hS.cell (p := ⟨w.heap.size + 1, o, none⟩) (by (try simp only [World.size_alloc, World.size_drew, World.size_setCell]); omega)); (try have k9 := fun o => hS.cell (p := ⟨w.heap.size + 1 + 1, o, none⟩) (by (try simp only [World.size_alloc, World.size_drew, World.size_setCell]); omega)); go_simp; all_goals with_reducible rfl
      simp only [Act.put, List.setIfInBounds_toArray, List.set_cons_zero, List.set_cons_succ]
      refine takeC (v := ?_) 6 rfl (by kernel_rfl) (fun _ _ _ h => h) (by rfl) (fun _ => by go_simp; exact ⟨rfl, rfl⟩) ?_ ?_; rotate_left
      · intro w' hS; refine Calls.mono (H2.out _) fun e w2 hh => ⟨hh.1.trans ?_, hh.2, hS.trans hh.2⟩; with_reducible rfl
      simp only [Act.put, List.setIfInBounds_toArray, List.set_cons_zero, List.set_cons_succ]
      refine takeV (v := ?_) 7 rfl (by kernel_rfl) (fun _ _ _ h => h) (by rfl) ?_ ?_; rotate_left
      · intro w' hS; (try have k9 := fun o => hS.cell (p := ⟨w.heap.size, o, none⟩) (by (try simp only [World.size_alloc, World.size_drew, World.size_setCell]); omega)); (try have k9 := fun o => hS.cell (p := ⟨w.heap.size + 1, o, none⟩) (by (try simp only [World.size_alloc, World.size_drew, World.size_setCell]); omega)); (try have k9 := fun o => hS.cell (p := ⟨w.heap.size + 1 + 1, o, none⟩) (by (try simp only [World.size_alloc, World.size_drew, World.size_setCell]); omega)); go_simp; all_goals with_reducible rfl
      simp only [Act.put, List.setIfInBounds_toArray, List.set_cons_zero, List.set_cons_succ]
      refine takeV (v := ?_) 8 rfl (by kernel_rfl) (fun _ _ _ h => h) (by rfl) ?_ ?_; rotate_left
      · intro w' hS; (try have k9 := fun o => hS.cell (p := ⟨w.heap.size, o, none⟩) (by (try simp only [World.size_alloc, World.size_drew, World.size_setCell]); omega)); (try have k9 := fun o => hS.cell (p := ⟨w.heap.size + 1, o, none⟩) (by (try simp only [World.size_alloc, World.size_drew, World.size_setCell]); omega)); (try have k9 := fun o => hS.cell (p := ⟨w.heap.size + 1 + 1, o, none⟩) (by (try simp only [World.size_alloc, World.size_drew, World.size_setCell]); omega)); go_simp; all_goals with_reducible rfl
      simp only [Act.put, List.setIfInBounds_toArray, List.set_cons_zero, List.set_cons_succ]
      refine takeV (v := ?_) 9 rfl (by kernel_rfl) (fun _ _ _ h => h) (by rfl) ?_ ?_; rotate_left
      · intro w' hS; (try have k9 := fun o => hS.cell (p := ⟨w.heap.size, o, none⟩) (by (try simp only [World.size_alloc, World.size_drew, World.size_setCell]); omega)); (try have k9 := fun o => hS.cell (p := ⟨w.heap.size + 1, o, none⟩) (by (try simp only [World.size_alloc, World.size_drew, World.size_setCell]); omega)); (try have k9 := fun o => hS.cell (p := ⟨w.heap.size + 1 + 1, o, none⟩) (by (try simp only [World.size_alloc, World.size_drew, World.size_setCell]); omega)); go_simp; all_goals with_reducible rfl
      simp only [Act.put, List.setIfInBounds_toArray, List.set_cons_zero, List.set_cons_succ]
      refine doneM (by kernel_rfl) fun w1 hx hS => ?_
      (have s9 := hS.size; (try simp only [World.size_alloc, World.size_drew, World.size_setCell] at s9)); (try (have z9 : w.heap.size < w1.heap.size := (by omega); have k9 := fun o => hS.cell (p := ⟨w.heap.size, o, none⟩) (by (try simp only [World.size_alloc, World.size_drew, World.size_setCell]); omega); have f9 := fun o => hS.frozen (p := ⟨w.heap.size, o, none⟩) (by (try simp only [World.size_alloc, World.size_drew, World.size_setCell]); omega))); (try (have z9 : w.heap.size + 1 < w1.heap.size := (by omega); have k9 := fun o => hS.cell (p := ⟨w.heap.size + 1, o, none⟩) (by (try simp only [World.size_alloc, World.size_drew, World.size_setCell]); omega); have f9 := fun o => hS.frozen (p := ⟨w.heap.size + 1, o, none⟩) (by (try simp only [World.size_alloc, World.size_drew, World.size_setCell]); omega))); (try (have z9 : w.heap.size + 1 + 1 < w1.heap.size := (by omega); have k9 := fun o => hS.cell (p := ⟨w.heap.size + 1 + 1, o, none⟩) (by (try simp only [World.size_alloc, World.size_drew, World.size_setCell]); omega); have f9 := fun o => hS.frozen (p := ⟨w.heap.size + 1 + 1, o, none⟩) (by (try simp only [World.size_alloc, World.size_drew, World.size_setCell]); omega)))
      refine chainM [] (by kernel_rfl) rfl ?_
      go_wp2_with (first | (go_at_call 35; (with_reducible refine (H3.out _).mono ?_); rintro e w9 ⟨rfl, hx9⟩; (have s9 := hx9.size; (try simp only [World.size_alloc, World.size_drew, World.size_setCell] at s9)); (try (have z9 : w.heap.size < w9.heap.size := (by omega); have k9 := fun o => hx9.cell (p := ⟨w.heap.size, o, none⟩) (by (try simp only [World.size_alloc, World.size_drew, World.size_setCell]); omega); have f9 := fun o => hx9.frozen (p := ⟨w.heap.size, o, none⟩) (by (try simp only [World.size_alloc, World.size_drew, World.size_setCell]); omega))); (try (have z9 : w.heap.size + 1 < w9.heap.size := (by omega); have k9 := fun o => hx9.cell (p := ⟨w.heap.size + 1, o, none⟩) (by (try simp only [World.size_alloc, World.size_drew, World.size_setCell]); omega); have f9 := fun o => hx9.frozen (p := ⟨w.heap.size + 1, o, none⟩) (by (try simp only [World.size_alloc, World.size_drew, World.size_setCell]); omega))); (try (have z9 : w.heap.size + 1 + 1 < w9.heap.size := (by omega); have k9 := fun o => hx9.cell (p := ⟨w.heap.size + 1 + 1, o, none⟩) (by (try simp only [World.size_alloc, World.size_drew, World.size_setCell]); omega); have f9 := fun o => hx9.frozen (p := ⟨w.heap.size + 1 + 1, o, none⟩) (by (try simp only [World.size_alloc, World.size_drew, World.size_setCell]); omega)))) | (go_at_call 11; (with_reducible refine (H4.out _).mono ?_); rintro e w9 ⟨rfl, hx9⟩; (have s9 := hx9.size; (try simp only [World.size_alloc, World.size_drew, World.size_setCell] at s9)); (try (have z9 : w.heap.size < w9.heap.size := (by omega); have k9 := fun o => hx9.cell (p := ⟨w.heap.size, o, none⟩) (by (try simp only [World.size_alloc, World.size_drew, World.size_setCell]); omega); have f9 := fun o => hx9.frozen (p := ⟨w.heap.size, o, none⟩) (by (try simp only [World.size_alloc, World.size_drew, World.size_setCell]); omega))); (try (have z9 : w.heap.size + 1 < w9.heap.size := (by omega); have k9 := fun o => hx9.cell (p := ⟨w.heap.size + 1, o, none⟩) (by (try simp only [World.size_alloc, World.size_drew, World.size_setCell]); omega); have f9 := fun o => hx9.frozen (p := ⟨w.heap.size + 1, o, none⟩) (by (try simp only [World.size_alloc, World.size_drew, World.size_setCell]); omega))); (try (have z9 : w.heap.size + 1 + 1 < w9.heap.size := (by omega); have k9 := fun o => hx9.cell (p := ⟨w.heap.size + 1 + 1, o, none⟩) (by (try simp only [World.size_alloc, World.size_drew, World.size_setCell]); omega); have f9 := fun o => hx9.frozen (p := ⟨w.heap.size + 1 + 1, o, none⟩) (by (try simp only [World.size_alloc, World.size_drew, World.size_setCell]); omega)))) | (go_at_call 10; (with_reducible refine (H5.out _).mono ?_); rintro e w9 ⟨rfl, hx9⟩; (have s9 := hx9.size; (try simp only [World.size_alloc, World.size_drew, World.size_setCell] at s9)); (try (have z9 : w.heap.size < w9.heap.size := (by omega); have k9 := fun o => hx9.cell (p := ⟨w.heap.size, o, none⟩) (by (try simp only [World.size_alloc, World.size_drew, World.size_setCell]); omega); have f9 := fun o => hx9.frozen (p := ⟨w.heap.size, o, none⟩) (by (try simp only [World.size_alloc, World.size_drew, World.size_setCell]); omega))); (try (have z9 : w.heap.size + 1 < w9.heap.size := (by omega); have k9 := fun o => hx9.cell (p := ⟨w.heap.size + 1, o, none⟩) (by (try simp only [World.size_alloc, World.size_drew, World.size_setCell]); omega); have f9 := fun o => hx9.frozen (p := ⟨w.heap.size + 1, o, none⟩) (by (try simp only [World.size_alloc, World.size_drew, World.size_setCell]); omega))); (try (have z9 : w.heap.size + 1 + 1 < w9.heap.size := (by omega); have k9 := fun o => hx9.cell (p := ⟨w.heap.size + 1 + 1, o, none⟩) (by (try simp only [World.size_alloc, World.size_drew, World.size_setCell]); omega); have f9 := fun o => hx9.frozen (p := ⟨w.heap.size + 1 + 1, o, none⟩) (by (try simp only [World.size_alloc, World.size_drew, World.size_setCell]); omega)))))
      have hmax : (if (n : Int) < -(n : Int) then -(n : Int) else (n : Int)) = (n : Int) := by rw [if_neg (by omega)]
      go_loopw [5, 56] (fun er i wr => ∃ k : Nat, k ≤ n ∧ er = .nilIface ∧ i = .int .i64 k ∧ Hid (Ext w wr) ∧ Hid (Row wr w.heap.size #[.bool s, .int .u64 0, .int .u64 y]) ∧ Hid (Row wr (w.heap.size + 1 + 1) #[.bool false, .int .u64 0, .int .u64 0]) ∧
        Hid (Row wr (w9.heap.size + 1) #[.bool (P k).1, .int .u64 (P k).2.1, .int .u64 (P k).2.2])) (fun _ i _ => n - (intOf i).toNat)
      case atStart =>
        refine ⟨0, Nat.zero_le _, rfl, rfl, Lib.hid ?_, Lib.hid ⟨fun o => ?_, fun o => ?_, ?_⟩, Lib.hid ⟨fun o => ?_, fun o => ?_, ?_⟩, Lib.hid ⟨fun o => ?_, fun o => ?_, ?_⟩⟩
        · repeat (first | (with_reducible refine Ext.set ?_ (by dsimp only; omega)) | (with_reducible refine Ext.al ?_) | (with_reducible refine Ext.dr ?_) | (with_reducible exact Ext.refl _) | (with_reducible refine Ext.trans ?_ (by assumption)))
        all_goals first | (go_simp; done) | (simp; omega)
      case round =>
        obtain ⟨k, hk, rfl, rfl, HE, HA, HR, HP⟩ := hrel
        obtain ⟨ka, fa, za⟩ := HA.out
        obtain ⟨kr, fr, zr⟩ := HR.out
        obtain ⟨kp, fp, zp⟩ := HP.out
        by_cases hlt : k < n
        · have Hm := Lib.hid (H6.out k hlt)
          go_wp2_with fail
          refine (Hm.out _).mono ?_
          rintro e w8 ⟨rfl, hx8⟩
          have HE' := Lib.hid (HE.out.trans hx8)
          have HA' := Lib.hid (HA.out.grow hx8)
          have HR' := Lib.hid (HR.out.grow hx8)
          have HP' := Lib.hid (HP.out.grow hx8)
          obtain ⟨ka', fa', za'⟩ := HA'.out
          obtain ⟨kr', fr', zr'⟩ := HR'.out
          obtain ⟨kp', fp', zp'⟩ := HP'.out
          go_wp2
          go_roundw
          case rel =>
            refine ⟨k + 1, hlt, rfl, by go_num, Lib.hid ?_, Lib.hid (((HA'.out.far _ ?_).far _ ?_).far _ ?_), Lib.hid (((HR'.out.far _ ?_).far _ ?_).far _ ?_), Lib.hid (((HP'.out.set 0 _ (by simp)).set 1 _ (by simp)).set 2 _ (by simp))⟩
            · exact Ext.set (Ext.set (Ext.set HE'.out (by dsimp only; omega)) (by dsimp only; omega)) (by dsimp only; omega)
            all_goals (dsimp only; omega)
          case measure => simp [intOf]; omega
        · obtain rfl : k = n := by omega
          have HE' := HE.out
          go_wp2
          refine bodyPost_ret (v := .tuple #[.agg #[.bool (P k).1, .int .u64 (P k).2.1, .int .u64 (P k).2.2], .nilIface]) ?_ rfl ⟨rfl, ?_⟩; focus (simp only [results, Try.results27]; go_simp)
          repeat (first | (with_reducible refine Ext.set ?_ (by dsimp only; omega)) | (with_reducible refine Ext.al ?_) | (with_reducible refine Ext.dr ?_) | (with_reducible exact Ext.refl _) | (with_reducible refine Ext.trans ?_ (by assumption)))
  · skip
    go_enter Try.func27, Try.ntmps27
    go_wp2_with fail
    refine wp_region_M (fun w' => Ext _ w') (fun i => !([] : List Nat).contains i) (by kernel_rfl) (Ext.drew _) ?_
    refine takeV (v := ?_) 0 rfl (by kernel_rfl) (fun _ _ _ h => h) (by rfl) ?_ ?_; rotate_left
    · intro w' hS; (try have k9 := fun o => hS.cell (p := ⟨w.heap.size, o, none⟩) (by (try simp only [World.size_alloc, World.size_drew, World.size_setCell]); omega)); (try have k9 := fun o => hS.cell (p := ⟨w.heap.size + 1, o, none⟩) (by (try simp only [World.size_alloc, World.size_drew, World.size_setCell]); omega)); (try have k9 := fun o => hS.cell (p := ⟨w.heap.size + 1 + 1, o, none⟩) (by (try simp only [World.size_alloc, World.size_drew, World.size_setCell]); omega)); go_simp; all_goals with_reducible rfl
    simp only [Act.put, List.setIfInBounds_toArray, List.set_cons_zero, List.set_cons_succ]
    refine takeV (v := ?_) 1 rfl (by kernel_rfl) (fun _ _ _ h => h) (by rfl) ?_ ?_; rotate_left
    · intro w' hS; (try have k9 := fun o => hS.cell (p := ⟨w.heap.size, o, none⟩) (by (try simp only [World.size_alloc, World.size_drew, World.size_setCell]); omega)); (try have k9 := fun o => hS.cell (p := ⟨w.heap.size + 1, o, none⟩) (by (try simp only [World.size_alloc, World.size_drew, World.size_setCell]); omega)); (try have k9 := fun o => hS.cell (p := ⟨w.heap.size + 1 + 1, o, none⟩) (by (try simp only [World.size_alloc, World.size_drew, World.size_setCell]); omega)); go_simp; all_goals with_reducible rfl
    simp only [Act.put, List.setIfInBounds_toArray, List.set_cons_zero, List.set_cons_succ]
    refine takeC (v := ?_) 2 rfl (by kernel_rfl) (fun _ _ _ h => h) (by rfl) (fun _ => by go_simp; exact ⟨rfl, rfl⟩) ?_ ?_; rotate_left
    · intro w' hS; refine Calls.mono (H1.out _) fun e w2 hh => ⟨hh.1.trans ?_, hh.2, hS.trans hh.2⟩; with_reducible rfl
    simp only [Act.put, List.setIfInBounds_toArray, List.set_cons_zero, List.set_cons_succ]
    refine takeV (v := ?_) 3 rfl (by kernel_rfl) (fun _ _ _ h => h) (by rfl) ?_ ?_; rotate_left
    · intro w' hS; (try have k9 := fun o => hS.cell (p := ⟨w.heap.size, o, none⟩) (by (try simp only [World.size_alloc, World.size_drew, World.size_setCell]); omega)); (try have k9 := fun o => hS.cell (p := ⟨w.heap.size + 1, o, none⟩) (by (try simp only [World.size_alloc, World.size_drew, World.size_setCell]); omega)); (try have k9 := fun o => hS.cell (p := ⟨w.heap.size + 1 + 1, o, none⟩) (by (try simp only [World.size_alloc, World.size_drew, World.size_setCell]); omega)); go_simp; all_goals with_reducible rfl
    simp only [Act.put, List.setIfInBounds_toArray, List.set_cons_zero, List.set_cons_succ]
    refine takeV (v := ?_) 4 rfl (by kernel_rfl) (fun _ _ _ h => h) (by rfl) ?_ ?_; rotate_left
    · intro w' hS; (try have k9 := fun o => hS.cell (p := ⟨w.heap.size, o, none⟩) (by (try simp only [World.size_alloc, World.size_drew, World.size_setCell]); omega)); (try have k9 := fun o => hS.cell (p := ⟨w.heap.size + 1, o, none⟩) (by (try simp only [World.size_alloc, World.size_drew, World.size_setCell]); omega)); (try have k9 := fun o => hS.cell (p := ⟨w.heap.size + 1 + 1, o, none⟩) (by (try simp only [World.size_alloc, World.size_drew, World.size_setCell]); omega)); go_simp; all_goals with_reducible rfl
    simp only [Act.put, List.setIfInBounds_toArray, List.set_cons_zero, List.set_cons_succ]
    refine takeV (v := ?_) 5 rfl (by kernel_rfl) (fun _ _ _ h => h) (by rfl) ?_ ?_; rotate_left
    · intro w' hS; (try have k9 := fun o => hS.cell (p := ⟨w.heap.size, o, none⟩) (by (try simp only [World.size_alloc, World.size_drew, World.size_setCell]); omega)); (try have k9 := fun o => hS.cell (p := ⟨w.heap.size + 1, o, none⟩) (by (try simp only [World.size_alloc, World.size_drew, World.size_setCell]); omega)); (try have k9 := fun o => hS.cell (p := ⟨w.heap.size + 1 + 1, o, none⟩) (by (try simp only [World.size_alloc, World.size_drew, World.size_setCell]); omega)); go_simp; all_goals with_reducible rfl
    simp only [Act.put, List.setIfInBounds_toArray, List.set_cons_zero, List.set_cons_succ]
    refine takeC (v := ?_) 6 rfl (by kernel_rfl) (fun _ _ _ h => h) (by rfl) (fun _ => by go_simp; exact ⟨rfl, rfl⟩) ?_ ?_; rotate_left
    · intro w' hS; refine Calls.mono (H2.out _) fun e w2 hh => ⟨hh.1.trans ?_, hh.2, hS.trans hh.2⟩; with_reducible rfl
    simp only [Act.put, List.setIfInBounds_toArray, List.set_cons_zero, List.set_cons_succ]
    refine takeV (v := ?_) 7 rfl (by kernel_rfl) (fun _ _ _ h => h) (by rfl) ?_ ?_; rotate_left
    · intro w' hS; (try have k9 := fun o => hS.cell (p := ⟨w.heap.size, o, none⟩) (by (try simp only [World.size_alloc, World.size_drew, World.size_setCell]); omega)); (try have k9 := fun o => hS.cell (p := ⟨w.heap.size + 1, o, none⟩) (by (try simp only [World.size_alloc, World.size_drew, World.size_setCell]); omega)); (try have k9 := fun o => hS.cell (p := ⟨w.heap.size + 1 + 1, o, none⟩) (by (try simp only [World.size_alloc, World.size_drew, World.size_setCell]); omega)); go_simp; all_goals with_reducible rfl
    simp only [Act.put, List.setIfInBounds_toArray, List.set_cons_zero, List.set_cons_succ]
    refine takeV (v := ?_) 8 rfl (by kernel_rfl) (fun _ _ _ h => h) (by rfl) ?_ ?_; rotate_left
    · intro w' hS; (try have k9 := fun o => hS.cell (p := ⟨w.heap.size, o, none⟩) (by (try simp only [World.size_alloc, World.size_drew, World.size_setCell]); omega)); (try have k9 := fun o => hS.cell (p := ⟨w.heap.size + 1, o, none⟩) (by (try simp only [World.size_alloc, World.size_drew, World.size_setCell]); omega)); (try have k9 := fun o => hS.cell (p := ⟨w.heap.size + 1 + 1, o, none⟩) (by (try simp only [World.size_alloc, World.size_drew, World.size_setCell]); omega)); go_simp; all_goals with_reducible rfl
    simp only [Act.put, List.setIfInBounds_toArray, List.set_cons_zero, List.set_cons_succ]
    refine takeV (v := ?_) 9 rfl (by kernel_rfl) (fun _ _ _ h => h) (by rfl) ?_ ?_; rotate_left
    · intro w' hS; (try have k9 := fun o => hS.cell (p := ⟨w.heap.size, o, none⟩) (by (try simp only [World.size_alloc, World.size_drew, World.size_setCell]); omega)); (try have k9 := fun o => hS.cell (p := ⟨w.heap.size + 1, o, none⟩) (by (try simp only [World.size_alloc, World.size_drew, World.size_setCell]); omega)); (try have k9 := fun o => hS.cell (p := ⟨w.heap.size + 1 + 1, o, none⟩) (by (try simp only [World.size_alloc, World.size_drew, World.size_setCell]); omega)); go_simp; all_goals with_reducible rfl
    simp only [Act.put, List.setIfInBounds_toArray, List.set_cons_zero, List.set_cons_succ]
    refine doneM (by kernel_rfl) fun w1 hx hS => ?_
    (have s9 := hS.size; (try simp only [World.size_alloc, World.size_drew, World.size_setCell] at s9)); (try (have z9 : w.heap.size < w1.heap.size := (by omega); have k9 := fun o => hS.cell (p := ⟨w.heap.size, o, none⟩) (by (try simp only [World.size_alloc, World.size_drew, World.size_setCell]); omega); have f9 := fun o => hS.frozen (p := ⟨w.heap.size, o, none⟩) (by (try simp only [World.size_alloc, World.size_drew, World.size_setCell]); omega))); (try (have z9 : w.heap.size + 1 < w1.heap.size := (by omega); have k9 := fun o => hS.cell (p := ⟨w.heap.size + 1, o, none⟩) (by (try simp only [World.size_alloc, World.size_drew, World.size_setCell]); omega); have f9 := fun o => hS.frozen (p := ⟨w.heap.size + 1, o, none⟩) (by (try simp only [World.size_alloc, World.size_drew, World.size_setCell]); omega))); (try (have z9 : w.heap.size + 1 + 1 < w1.heap.size := (by omega); have k9 := fun o => hS.cell (p := ⟨w.heap.size + 1 + 1, o, none⟩) (by (try simp only [World.size_alloc, World.size_drew, World.size_setCell]); omega); have f9 := fun o => hS.frozen (p := ⟨w.heap.size + 1 + 1, o, none⟩) (by (try simp only [World.size_alloc, World.size_drew, World.size_setCell]); omega)))
    refine chainM [] (by kernel_rfl) rfl ?_
    go_wp2_with (first | (go_at_call 35; (with_reducible refine (H3.out _).mono ?_); rintro e w9 ⟨rfl, hx9⟩; (have s9 := hx9.size; (try simp only [World.size_alloc, World.size_drew, World.size_setCell] at s9)); (try (have z9 : w.heap.size < w9.heap.size := (by omega); have k9 := fun o => hx9.cell (p := ⟨w.heap.size, o, none⟩) (by (try simp only [World.size_alloc, World.size_drew, World.size_setCell]); omega); have f9 := fun o => hx9.frozen (p := ⟨w.heap.size, o, none⟩) (by (try simp only [World.size_alloc, World.size_drew, World.size_setCell]); omega))); (try (have z9 : w.heap.size + 1 < w9.heap.size := (by omega); have k9 := fun o => hx9.cell (p := ⟨w.heap.size + 1, o, none⟩) (by (try simp only [World.size_alloc, World.size_drew, World.size_setCell]); omega); have f9 := fun o => hx9.frozen (p := ⟨w.heap.size + 1, o, none⟩) (by (try simp only [World.size_alloc, World.size_drew, World.size_setCell]); omega))); (try (have z9 : w.heap.size + 1 + 1 < w9.heap.size := (by omega); have k9 := fun o => hx9.cell (p := ⟨w.heap.size + 1 + 1, o, none⟩) (by (try simp only [World.size_alloc, World.size_drew, World.size_setCell]); omega); have f9 := fun o => hx9.frozen (p := ⟨w.heap.size + 1 + 1, o, none⟩) (by (try simp only [World.size_alloc, World.size_drew, World.size_setCell]); omega)))) | (go_at_call 11; (with_reducible refine (H4.out _).mono ?_); rintro e w9 ⟨rfl, hx9⟩; (have s9 := hx9.size; (try simp only [World.size_alloc, World.size_drew, World.size_setCell] at s9)); (try (have z9 : w.heap.size < w9.heap.size := (by omega); have k9 := fun o => hx9.cell (p := ⟨w.heap.size, o, none⟩) (by (try simp only [World.size_alloc, World.size_drew, World.size_setCell]); omega); have f9 := fun o => hx9.frozen (p := ⟨w.heap.size, o, none⟩) (by (try simp only [World.size_alloc, World.size_drew, World.size_setCell]); omega))); (try (have z9 : w.heap.size + 1 < w9.heap.size := (by omega); have k9 := fun o => hx9.cell (p := ⟨w.heap.size + 1, o, none⟩) (by (try simp only [World.size_alloc, World.size_drew, World.size_setCell]); omega); have f9 := fun o => hx9.frozen (p := ⟨w.heap.size + 1, o, none⟩) (by (try simp only [World.size_alloc, World.size_drew, World.size_setCell]); omega))); (try (have z9 : w.heap.size + 1 + 1 < w9.heap.size := (by omega); have k9 := fun o => hx9.cell (p := ⟨w.heap.size + 1 + 1, o, none⟩) (by (try simp only [World.size_alloc, World.size_drew, World.size_setCell]); omega); have f9 := fun o => hx9.frozen (p := ⟨w.heap.size + 1 + 1, o, none⟩) (by (try simp only [World.size_alloc, World.size_drew, World.size_setCell]); omega)))) | (go_at_call 10; (with_reducible refine (H5.out _).mono ?_); rintro e w9 ⟨rfl, hx9⟩; (have s9 := hx9.size; (try simp only [World.size_alloc, World.size_drew, World.size_setCell] at s9)); (try (have z9 : w.heap.size < w9.heap.size := (by omega); have k9 := fun o => hx9.cell (p := ⟨w.heap.size, o, none⟩) (by (try simp only [World.size_alloc, World.size_drew, World.size_setCell]); omega); have f9 := fun o => hx9.frozen (p := ⟨w.heap.size, o, none⟩) (by (try simp only [World.size_alloc, World.size_drew, World.size_setCell]); omega))); (try (have z9 : w.heap.size + 1 < w9.heap.size := (by omega); have k9 := fun o => hx9.cell (p := ⟨w.heap.size + 1, o, none⟩) (by (try simp only [World.size_alloc, World.size_drew, World.size_setCell]); omega); have f9 := fun o => hx9.frozen (p := ⟨w.heap.size + 1, o, none⟩) (by (try simp only [World.size_alloc, World.size_drew, World.size_setCell]); omega))); (try (have z9 : w.heap.size + 1 + 1 < w9.heap.size := (by omega); have k9 := fun o => hx9.cell (p := ⟨w.heap.size + 1 + 1, o, none⟩) (by (try simp only [World.size_alloc, World.size_drew, World.size_setCell]); omega); have f9 := fun o => hx9.frozen (p := ⟨w.heap.size + 1 + 1, o, none⟩) (by (try simp only [World.size_alloc, World.size_drew, World.size_setCell]); omega)))))
    have hmax : (if (n : Int) < -(n : Int) then -(n : Int) else (n : Int)) = (n : Int) := by rw [if_neg (by omega)]
    go_loopw [5, 56] (fun er i wr => ∃ k : Nat, k ≤ n ∧ er = .nilIface ∧ i = .int .i64 k ∧ Hid (Ext w wr) ∧ Hid (Row wr w.heap.size #[.bool s, .int .u64 x, .int .u64 y]) ∧ Hid (Row wr (w.heap.size + 1 + 1) #[.bool false, .int .u64 0, .int .u64 0]) ∧
      Hid (Row wr (w9.heap.size + 1) #[.bool (P k).1, .int .u64 (P k).2.1, .int .u64 (P k).2.2])) (fun _ i _ => n - (intOf i).toNat)
    case atStart =>
      refine ⟨0, Nat.zero_le _, rfl, rfl, Lib.hid ?_, Lib.hid ⟨fun o => ?_, fun o => ?_, ?_⟩, Lib.hid ⟨fun o => ?_, fun o => ?_, ?_⟩, Lib.hid ⟨fun o => ?_, fun o => ?_, ?_⟩⟩
      · repeat (first | (with_reducible refine Ext.set ?_ (by dsimp only; omega)) | (with_reducible refine Ext.al ?_) | (with_reducible refine Ext.dr ?_) | (with_reducible exact Ext.refl _) | (with_reducible refine Ext.trans ?_ (by assumption)))
      all_goals first | (go_simp; done) | (simp; omega)
    case round =>
      obtain ⟨k, hk, rfl, rfl, HE, HA, HR, HP⟩ := hrel
      obtain ⟨ka, fa, za⟩ := HA.out
      obtain ⟨kr, fr, zr⟩ := HR.out
      obtain ⟨kp, fp, zp⟩ := HP.out
      by_cases hlt : k < n
      · have Hm := Lib.hid (H6.out k hlt)
        go_wp2_with fail
        refine (Hm.out _).mono ?_
        rintro e w8 ⟨rfl, hx8⟩
        have HE' := Lib.hid (HE.out.trans hx8)
        have HA' := Lib.hid (HA.out.grow hx8)
        have HR' := Lib.hid (HR.out.grow hx8)
        have HP' := Lib.hid (HP.out.grow hx8)
        obtain ⟨ka', fa', za'⟩ := HA'.out
        obtain ⟨kr', fr', zr'⟩ := HR'.out
        obtain ⟨kp', fp', zp'⟩ := HP'.out
        go_wp2
        go_roundw
        case rel =>
          refine ⟨k + 1, hlt, rfl, by go_num, Lib.hid ?_, Lib.hid (((HA'.out.far _ ?_).far _ ?_).far _ ?_), Lib.hid (((HR'.out.far _ ?_).far _ ?_).far _ ?_), Lib.hid (((HP'.out.set 0 _ (by simp)).set 1 _ (by simp)).set 2 _ (by simp))⟩
          · exact Ext.set (Ext.set (Ext.set HE'.out (by dsimp only; omega)) (by dsimp only; omega)) (by dsimp only; omega)
          all_goals (dsimp only; omega)
        case measure => simp [intOf]; omega
      · obtain rfl : k = n := by omega
        have HE' := HE.out
        go_wp2
        refine bodyPost_ret (v := .tuple #[.agg #[.bool (P k).1, .int .u64 (P k).2.1, .int .u64 (P k).2.2], .nilIface]) ?_ rfl ⟨rfl, ?_⟩; focus (simp only [results, Try.results27]; go_simp)
        repeat (first | (with_reducible refine Ext.set ?_ (by dsimp only; omega)) | (with_reducible refine Ext.al ?_) | (with_reducible refine Ext.dr ?_) | (with_reducible exact Ext.refl _) | (with_reducible refine Ext.trans ?_ (by assumption)))
end Go.Proofs.Ytnjhmlnmdnocmaa
