/-
  The walks of dec: Whole.
-/
import Derived.Test.YtlfdelobjbdimaaDoorDecP
namespace Go.Proofs.YtlfdelobjbdimaaDoor
set_option linter.unusedSimpArgs false
set_option linter.unusedVariables false
open Go.RowKit

set_option maxRecDepth 100000 in
set_option maxHeartbeats 1000000 in
theorem whole_a (s : Bool) (m : Nat) (qh ql : Nat) (g z : Int) (w : World)
    (H1 : Hid (∀ w, Calls Tryd.prog 19 #[(.agg #[.bool (s), .int .u64 ((hiN (m) : Nat) : Int), .int .u64 ((loN (m) : Nat) : Int)])] w fun e w' => e = .returned (.bool true) ∧ Ext w w'))
    (H2 : Hid (∀ w, Calls Tryd.prog 52 #[.agg #[.int .u64 (loN m : Nat), .int .u64 (hiN m : Nat), .int .u64 0], .agg #[.int .u64 0, .int .u64 1000000]] w fun e w' => e = .returned (.tuple #[.agg #[.int .u64 qh, .int .u64 ql], .agg #[.int .u64 (hiN (m % 1000000) : Nat), .int .u64 (loN (m % 1000000) : Nat)], .bool true]) ∧ Ext w w'))
    (hq : ((qh : Int) != 0) = true) :
    Calls Tryd.prog 33 #[(.agg #[.bool (s), .int .u64 ((hiN (m) : Nat) : Int), .int .u64 ((loN (m) : Nat) : Int)])] w fun e w' => e = .returned (.tuple #[.int .i64 0, .bool false]) ∧ Ext w w' := by
  go_enter Tryd.func33, Tryd.ntmps33
  go_wp2_with (first | (go_at_call 19; (with_reducible refine (H1.out _).mono ?_); rintro e w9 ⟨rfl, hx9⟩; (have s9 := hx9.size; (try simp only [World.size_alloc, World.size_drew, World.size_setCell] at s9)); (try (have z9 : w.heap.size < w9.heap.size := (by omega); have k9 := fun o => hx9.cell (p := ⟨w.heap.size, o, none⟩) (by (try simp only [World.size_alloc, World.size_drew, World.size_setCell]); omega); have f9 := fun o => hx9.frozen (p := ⟨w.heap.size, o, none⟩) (by (try simp only [World.size_alloc, World.size_drew, World.size_setCell]); omega)))) | (go_at_call 52; (with_reducible refine (H2.out _).mono ?_); rintro e w9 ⟨rfl, hx9⟩; (have s9 := hx9.size; (try simp only [World.size_alloc, World.size_drew, World.size_setCell] at s9)); (try (have z9 : w.heap.size < w9.heap.size := (by omega); have k9 := fun o => hx9.cell (p := ⟨w.heap.size, o, none⟩) (by (try simp only [World.size_alloc, World.size_drew, World.size_setCell]); omega); have f9 := fun o => hx9.frozen (p := ⟨w.heap.size, o, none⟩) (by (try simp only [World.size_alloc, World.size_drew, World.size_setCell]); omega)))))
  go_ret2
  refine ⟨rfl, ?_⟩
  repeat (first | (with_reducible refine Ext.set ?_ (by dsimp only; omega)) | (with_reducible refine Ext.al ?_) | (with_reducible refine Ext.dr ?_) | (with_reducible exact Ext.refl _) | (with_reducible refine Ext.trans ?_ (by assumption)))

set_option maxRecDepth 100000 in
set_option maxHeartbeats 1000000 in
theorem whole_b (m : Nat) (qh ql : Nat) (g z : Int) (w : World)
    (H1 : Hid (∀ w, Calls Tryd.prog 19 #[(.agg #[.bool (true), .int .u64 ((hiN (m) : Nat) : Int), .int .u64 ((loN (m) : Nat) : Int)])] w fun e w' => e = .returned (.bool true) ∧ Ext w w'))
    (H2 : Hid (∀ w, Calls Tryd.prog 52 #[.agg #[.int .u64 (loN m : Nat), .int .u64 (hiN m : Nat), .int .u64 0], .agg #[.int .u64 0, .int .u64 1000000]] w fun e w' => e = .returned (.tuple #[.agg #[.int .u64 qh, .int .u64 ql], .agg #[.int .u64 (hiN (m % 1000000) : Nat), .int .u64 (loN (m % 1000000) : Nat)], .bool true]) ∧ Ext w w'))
    (hq : ((qh : Int) != 0) = false) (hl : decide ((ql : Int) ≤ 9223372036854775808) = true) (hz1 : IntKind.u64.wrap (-(ql : Int)) = g) (hz2 : IntKind.i64.wrap g = z) :
    Calls Tryd.prog 33 #[(.agg #[.bool (true), .int .u64 ((hiN (m) : Nat) : Int), .int .u64 ((loN (m) : Nat) : Int)])] w fun e w' => e = .returned (.tuple #[.int .i64 z, .bool true]) ∧ Ext w w' := by
  go_enter Tryd.func33, Tryd.ntmps33
  go_wp2_with (first | (go_at_call 19; (with_reducible refine (H1.out _).mono ?_); rintro e w9 ⟨rfl, hx9⟩; (have s9 := hx9.size; (try simp only [World.size_alloc, World.size_drew, World.size_setCell] at s9)); (try (have z9 : w.heap.size < w9.heap.size := (by omega); have k9 := fun o => hx9.cell (p := ⟨w.heap.size, o, none⟩) (by (try simp only [World.size_alloc, World.size_drew, World.size_setCell]); omega); have f9 := fun o => hx9.frozen (p := ⟨w.heap.size, o, none⟩) (by (try simp only [World.size_alloc, World.size_drew, World.size_setCell]); omega)))) | (go_at_call 52; (with_reducible refine (H2.out _).mono ?_); rintro e w9 ⟨rfl, hx9⟩; (have s9 := hx9.size; (try simp only [World.size_alloc, World.size_drew, World.size_setCell] at s9)); (try (have z9 : w.heap.size < w9.heap.size := (by omega); have k9 := fun o => hx9.cell (p := ⟨w.heap.size, o, none⟩) (by (try simp only [World.size_alloc, World.size_drew, World.size_setCell]); omega); have f9 := fun o => hx9.frozen (p := ⟨w.heap.size, o, none⟩) (by (try simp only [World.size_alloc, World.size_drew, World.size_setCell]); omega)))))
  go_ret2
  refine ⟨rfl, ?_⟩
  repeat (first | (with_reducible refine Ext.set ?_ (by dsimp only; omega)) | (with_reducible refine Ext.al ?_) | (with_reducible refine Ext.dr ?_) | (with_reducible exact Ext.refl _) | (with_reducible refine Ext.trans ?_ (by assumption)))

set_option maxRecDepth 100000 in
set_option maxHeartbeats 1000000 in
theorem whole_c (m : Nat) (qh ql : Nat) (g z : Int) (w : World)
    (H1 : Hid (∀ w, Calls Tryd.prog 19 #[(.agg #[.bool (true), .int .u64 ((hiN (m) : Nat) : Int), .int .u64 ((loN (m) : Nat) : Int)])] w fun e w' => e = .returned (.bool true) ∧ Ext w w'))
    (H2 : Hid (∀ w, Calls Tryd.prog 52 #[.agg #[.int .u64 (loN m : Nat), .int .u64 (hiN m : Nat), .int .u64 0], .agg #[.int .u64 0, .int .u64 1000000]] w fun e w' => e = .returned (.tuple #[.agg #[.int .u64 qh, .int .u64 ql], .agg #[.int .u64 (hiN (m % 1000000) : Nat), .int .u64 (loN (m % 1000000) : Nat)], .bool true]) ∧ Ext w w'))
    (hq : ((qh : Int) != 0) = false) (hl : decide ((ql : Int) ≤ 9223372036854775808) = false) :
    Calls Tryd.prog 33 #[(.agg #[.bool (true), .int .u64 ((hiN (m) : Nat) : Int), .int .u64 ((loN (m) : Nat) : Int)])] w fun e w' => e = .returned (.tuple #[.int .i64 0, .bool false]) ∧ Ext w w' := by
  go_enter Tryd.func33, Tryd.ntmps33
  go_wp2_with (first | (go_at_call 19; (with_reducible refine (H1.out _).mono ?_); rintro e w9 ⟨rfl, hx9⟩; (have s9 := hx9.size; (try simp only [World.size_alloc, World.size_drew, World.size_setCell] at s9)); (try (have z9 : w.heap.size < w9.heap.size := (by omega); have k9 := fun o => hx9.cell (p := ⟨w.heap.size, o, none⟩) (by (try simp only [World.size_alloc, World.size_drew, World.size_setCell]); omega); have f9 := fun o => hx9.frozen (p := ⟨w.heap.size, o, none⟩) (by (try simp only [World.size_alloc, World.size_drew, World.size_setCell]); omega)))) | (go_at_call 52; (with_reducible refine (H2.out _).mono ?_); rintro e w9 ⟨rfl, hx9⟩; (have s9 := hx9.size; (try simp only [World.size_alloc, World.size_drew, World.size_setCell] at s9)); (try (have z9 : w.heap.size < w9.heap.size := (by omega); have k9 := fun o => hx9.cell (p := ⟨w.heap.size, o, none⟩) (by (try simp only [World.size_alloc, World.size_drew, World.size_setCell]); omega); have f9 := fun o => hx9.frozen (p := ⟨w.heap.size, o, none⟩) (by (try simp only [World.size_alloc, World.size_drew, World.size_setCell]); omega)))))
  go_ret2
  refine ⟨rfl, ?_⟩
  repeat (first | (with_reducible refine Ext.set ?_ (by dsimp only; omega)) | (with_reducible refine Ext.al ?_) | (with_reducible refine Ext.dr ?_) | (with_reducible exact Ext.refl _) | (with_reducible refine Ext.trans ?_ (by assumption)))

set_option maxRecDepth 100000 in
set_option maxHeartbeats 1000000 in
theorem whole_d (m : Nat) (qh ql : Nat) (g z : Int) (w : World)
    (H1 : Hid (∀ w, Calls Tryd.prog 19 #[(.agg #[.bool (false), .int .u64 ((hiN (m) : Nat) : Int), .int .u64 ((loN (m) : Nat) : Int)])] w fun e w' => e = .returned (.bool true) ∧ Ext w w'))
    (H2 : Hid (∀ w, Calls Tryd.prog 52 #[.agg #[.int .u64 (loN m : Nat), .int .u64 (hiN m : Nat), .int .u64 0], .agg #[.int .u64 0, .int .u64 1000000]] w fun e w' => e = .returned (.tuple #[.agg #[.int .u64 qh, .int .u64 ql], .agg #[.int .u64 (hiN (m % 1000000) : Nat), .int .u64 (loN (m % 1000000) : Nat)], .bool true]) ∧ Ext w w'))
    (hq : ((qh : Int) != 0) = false) (hl : decide ((ql : Int) ≤ 9223372036854775807) = true) (hz2 : IntKind.i64.wrap (ql : Int) = z) :
    Calls Tryd.prog 33 #[(.agg #[.bool (false), .int .u64 ((hiN (m) : Nat) : Int), .int .u64 ((loN (m) : Nat) : Int)])] w fun e w' => e = .returned (.tuple #[.int .i64 z, .bool true]) ∧ Ext w w' := by
  go_enter Tryd.func33, Tryd.ntmps33
  go_wp2_with (first | (go_at_call 19; (with_reducible refine (H1.out _).mono ?_); rintro e w9 ⟨rfl, hx9⟩; (have s9 := hx9.size; (try simp only [World.size_alloc, World.size_drew, World.size_setCell] at s9)); (try (have z9 : w.heap.size < w9.heap.size := (by omega); have k9 := fun o => hx9.cell (p := ⟨w.heap.size, o, none⟩) (by (try simp only [World.size_alloc, World.size_drew, World.size_setCell]); omega); have f9 := fun o => hx9.frozen (p := ⟨w.heap.size, o, none⟩) (by (try simp only [World.size_alloc, World.size_drew, World.size_setCell]); omega)))) | (go_at_call 52; (with_reducible refine (H2.out _).mono ?_); rintro e w9 ⟨rfl, hx9⟩; (have s9 := hx9.size; (try simp only [World.size_alloc, World.size_drew, World.size_setCell] at s9)); (try (have z9 : w.heap.size < w9.heap.size := (by omega); have k9 := fun o => hx9.cell (p := ⟨w.heap.size, o, none⟩) (by (try simp only [World.size_alloc, World.size_drew, World.size_setCell]); omega); have f9 := fun o => hx9.frozen (p := ⟨w.heap.size, o, none⟩) (by (try simp only [World.size_alloc, World.size_drew, World.size_setCell]); omega)))))
  go_ret2
  refine ⟨rfl, ?_⟩
  repeat (first | (with_reducible refine Ext.set ?_ (by dsimp only; omega)) | (with_reducible refine Ext.al ?_) | (with_reducible refine Ext.dr ?_) | (with_reducible exact Ext.refl _) | (with_reducible refine Ext.trans ?_ (by assumption)))

set_option maxRecDepth 100000 in
set_option maxHeartbeats 1000000 in
theorem whole_e (m : Nat) (qh ql : Nat) (g z : Int) (w : World)
    (H1 : Hid (∀ w, Calls Tryd.prog 19 #[(.agg #[.bool (false), .int .u64 ((hiN (m) : Nat) : Int), .int .u64 ((loN (m) : Nat) : Int)])] w fun e w' => e = .returned (.bool true) ∧ Ext w w'))
    (H2 : Hid (∀ w, Calls Tryd.prog 52 #[.agg #[.int .u64 (loN m : Nat), .int .u64 (hiN m : Nat), .int .u64 0], .agg #[.int .u64 0, .int .u64 1000000]] w fun e w' => e = .returned (.tuple #[.agg #[.int .u64 qh, .int .u64 ql], .agg #[.int .u64 (hiN (m % 1000000) : Nat), .int .u64 (loN (m % 1000000) : Nat)], .bool true]) ∧ Ext w w'))
    (hq : ((qh : Int) != 0) = false) (hl : decide ((ql : Int) ≤ 9223372036854775807) = false) :
    Calls Tryd.prog 33 #[(.agg #[.bool (false), .int .u64 ((hiN (m) : Nat) : Int), .int .u64 ((loN (m) : Nat) : Int)])] w fun e w' => e = .returned (.tuple #[.int .i64 0, .bool false]) ∧ Ext w w' := by
  go_enter Tryd.func33, Tryd.ntmps33
  go_wp2_with (first | (go_at_call 19; (with_reducible refine (H1.out _).mono ?_); rintro e w9 ⟨rfl, hx9⟩; (have s9 := hx9.size; (try simp only [World.size_alloc, World.size_drew, World.size_setCell] at s9)); (try (have z9 : w.heap.size < w9.heap.size := (by omega); have k9 := fun o => hx9.cell (p := ⟨w.heap.size, o, none⟩) (by (try simp only [World.size_alloc, World.size_drew, World.size_setCell]); omega); have f9 := fun o => hx9.frozen (p := ⟨w.heap.size, o, none⟩) (by (try simp only [World.size_alloc, World.size_drew, World.size_setCell]); omega)))) | (go_at_call 52; (with_reducible refine (H2.out _).mono ?_); rintro e w9 ⟨rfl, hx9⟩; (have s9 := hx9.size; (try simp only [World.size_alloc, World.size_drew, World.size_setCell] at s9)); (try (have z9 : w.heap.size < w9.heap.size := (by omega); have k9 := fun o => hx9.cell (p := ⟨w.heap.size, o, none⟩) (by (try simp only [World.size_alloc, World.size_drew, World.size_setCell]); omega); have f9 := fun o => hx9.frozen (p := ⟨w.heap.size, o, none⟩) (by (try simp only [World.size_alloc, World.size_drew, World.size_setCell]); omega)))))
  go_ret2
  refine ⟨rfl, ?_⟩
  repeat (first | (with_reducible refine Ext.set ?_ (by dsimp only; omega)) | (with_reducible refine Ext.al ?_) | (with_reducible refine Ext.dr ?_) | (with_reducible exact Ext.refl _) | (with_reducible refine Ext.trans ?_ (by assumption)))

end Go.Proofs.YtlfdelobjbdimaaDoor
