/-
  The walks of dec: product.
-/
import Derived.Test.YtlfdelobjbdimaaDoorDecG
namespace Go.Proofs.YtlfdelobjbdimaaDoor
set_option linter.unusedSimpArgs false
set_option linter.unusedVariables false
open Go.RowKit

set_option maxRecDepth 100000 in
set_option maxHeartbeats 4000000 in
theorem product_walk (ah al bh bl h0 l0 h1 q1 h2 q2 h3 q3 l1 c1 l2 d1 l1' c2 l2' d2 l2'' c3 l3 d3 : Nat) (w : World) (hd1 : d1 ≤ 1) (hd2 : d2 ≤ 1)
    (M1 : Hid (∀ w, Calls Tryd.prog 46 #[.int .u64 al, .int .u64 bl] w fun e w' => e = .returned (.tuple #[.int .u64 h0, .int .u64 l0]) ∧ w = w'))
    (M2 : Hid (∀ w, Calls Tryd.prog 46 #[.int .u64 al, .int .u64 bh] w fun e w' => e = .returned (.tuple #[.int .u64 h1, .int .u64 q1]) ∧ w = w'))
    (M3 : Hid (∀ w, Calls Tryd.prog 46 #[.int .u64 ah, .int .u64 bl] w fun e w' => e = .returned (.tuple #[.int .u64 h2, .int .u64 q2]) ∧ w = w'))
    (M4 : Hid (∀ w, Calls Tryd.prog 46 #[.int .u64 ah, .int .u64 bh] w fun e w' => e = .returned (.tuple #[.int .u64 h3, .int .u64 q3]) ∧ w = w'))
    (A1 : ∀ w, (callFunc 68 #[.int .u64 h0, .int .u64 q1, .int .u64 0]).run Tryd.prog w = .ok (.value (.tuple #[.int .u64 l1, .int .u64 c1])) w)
    (A2 : ∀ w, (callFunc 68 #[.int .u64 0, .int .u64 h1, .int .u64 c1]).run Tryd.prog w = .ok (.value (.tuple #[.int .u64 l2, .int .u64 d1])) w)
    (A3 : ∀ w, (callFunc 68 #[.int .u64 l1, .int .u64 q2, .int .u64 0]).run Tryd.prog w = .ok (.value (.tuple #[.int .u64 l1', .int .u64 c2])) w)
    (A4 : ∀ w, (callFunc 68 #[.int .u64 l2, .int .u64 h2, .int .u64 c2]).run Tryd.prog w = .ok (.value (.tuple #[.int .u64 l2', .int .u64 d2])) w)
    (A5 : ∀ w, (callFunc 68 #[.int .u64 l2', .int .u64 q3, .int .u64 0]).run Tryd.prog w = .ok (.value (.tuple #[.int .u64 l2'', .int .u64 c3])) w)
    (A6 : ∀ w, (callFunc 68 #[.int .u64 ((d1 : Int) + (d2 : Int)), .int .u64 h3, .int .u64 c3]).run Tryd.prog w = .ok (.value (.tuple #[.int .u64 l3, .int .u64 d3])) w) :
    Calls Tryd.prog 56 #[.agg #[.int .u64 ah, .int .u64 al], .agg #[.int .u64 bh, .int .u64 bl]] w fun e w' => e = .returned (.agg #[.int .u64 l0, .int .u64 l1', .int .u64 l2'', .int .u64 l3]) ∧ Ext w w' := by
  go_enter Tryd.func56, Tryd.ntmps56
  go_wp2_with fail
  refine (M1.out _).mono ?_
  rintro e w9 ⟨rfl, rfl⟩
  go_wp2_with fail
  refine wp_loop_rounds 3 ?_
  rw [rounds_succ]
  go_wp2_with fail
  refine (M2.out _).mono ?_
  rintro e w9 ⟨rfl, rfl⟩
  go_wp2_with fail
  rw [rounds_succ]
  go_wp2_with fail
  refine (M3.out _).mono ?_
  rintro e w9 ⟨rfl, rfl⟩
  go_wp2_with fail
  rw [rounds_succ]
  go_wp2_with fail
  refine (M4.out _).mono ?_
  rintro e w9 ⟨rfl, rfl⟩
  go_wp2
  refine bodyPost_ret (by simp only [results, Tryd.results56]; go_simp) rfl ⟨rfl, ?_⟩
  repeat (first | (with_reducible refine Ext.set ?_ (by dsimp only; omega)) | (with_reducible refine Ext.al ?_) | (with_reducible refine Ext.dr ?_) | (with_reducible exact Ext.refl _) | (with_reducible refine Ext.trans ?_ (by assumption)))
end Go.Proofs.YtlfdelobjbdimaaDoor
