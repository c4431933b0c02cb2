/-
  The laws' Code, at nil and at an Errno.
-/
import Derived.Test.YtlfdelobjbdimaaDoorIs
namespace Go.Proofs.YtlfdelobjbdimaaDoor
set_option linter.unusedSimpArgs false
set_option linter.unusedVariables false
open Go.RowKit

theorem code_nil (w : World) : Calls Tryd.prog 23 #[.nilIface] w fun e w' => e = .returned (.int .i64 0) ∧ w' = w := by
  go_enter Tryd.func23, Tryd.ntmps23
  go_wp2
  go_ret
  exact ⟨rfl, rfl⟩

theorem code_one (w : World) : Calls Tryd.prog 23 #[.iface 77 (.int .i64 1)] w fun e w' => e = .returned (.int .i64 1) ∧ w' = w := by
  go_enter Tryd.func23, Tryd.ntmps23
  go_wp2
  refine wp_loop_rounds 1 ?_
  rw [rounds_succ]
  go_wp2_with fail
  refine (is_code 1 1 _ true (by decide)).mono ?_
  rintro e w1 ⟨rfl, rfl⟩
  go_wp2
  go_ret
  exact ⟨rfl, rfl⟩

theorem code_two (w : World) : Calls Tryd.prog 23 #[.iface 77 (.int .i64 2)] w fun e w' => e = .returned (.int .i64 2) ∧ w' = w := by
  go_enter Tryd.func23, Tryd.ntmps23
  go_wp2
  refine wp_loop_rounds 2 ?_
  rw [rounds_succ]
  go_wp2_with fail
  refine (is_code 2 1 _ false (by decide)).mono ?_
  rintro e w1 ⟨rfl, rfl⟩
  go_wp2
  rw [rounds_succ]
  go_wp2_with fail
  refine (is_code 2 2 _ true (by decide)).mono ?_
  rintro e w1 ⟨rfl, rfl⟩
  go_wp2
  go_ret
  exact ⟨rfl, rfl⟩

theorem code_three (w : World) : Calls Tryd.prog 23 #[.iface 77 (.int .i64 3)] w fun e w' => e = .returned (.int .i64 3) ∧ w' = w := by
  go_enter Tryd.func23, Tryd.ntmps23
  go_wp2
  refine wp_loop_rounds 3 ?_
  rw [rounds_succ]
  go_wp2_with fail
  refine (is_code 3 1 _ false (by decide)).mono ?_
  rintro e w1 ⟨rfl, rfl⟩
  go_wp2
  rw [rounds_succ]
  go_wp2_with fail
  refine (is_code 3 2 _ false (by decide)).mono ?_
  rintro e w1 ⟨rfl, rfl⟩
  go_wp2
  rw [rounds_succ]
  go_wp2_with fail
  refine (is_code 3 3 _ true (by decide)).mono ?_
  rintro e w1 ⟨rfl, rfl⟩
  go_wp2
  go_ret
  exact ⟨rfl, rfl⟩
end Go.Proofs.YtlfdelobjbdimaaDoor
