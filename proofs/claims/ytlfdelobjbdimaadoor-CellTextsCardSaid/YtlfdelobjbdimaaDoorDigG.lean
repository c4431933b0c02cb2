/-
  fieldfareref01's signed, Neg, Same, Good, Trunc, by numbers.
-/
import Derived.Test.YtlfdelobjbdimaaDoorDigE
set_option maxRecDepth 20000
namespace Go.Proofs.YtlfdelobjbdimaaDoor
set_option linter.unusedSimpArgs false
set_option linter.unusedVariables false
open Go.RowKit

/-! ### Good -/
set_option maxRecDepth 100000 in
theorem refgood_tree (N : Nums) (mag : Int → Int → Nat) (s : Bool) (x y : Int) (K : D → Prop) : callX Tryd.prog (ctxL [(27, ofO N mag)] [] 0) 2 13 [.agg [.v (.bool s), .v (.int .u64 x), .v (.int .u64 y)]] K = (
    bif decide (((N.dd (mag x y)).length : Int) ≤ 36) then
      bif s then K (.v (.bool (bif true then !bif true then ((N.dd (mag x y)).length : Int) == 0 else false else false))) else K (.v (.bool (bif true then !false else false)))
    else K (.v (.bool false))) := by kernel_rfl
theorem refGoodC_ok : Sound 13 (goodC opsR) := by
  refine sound1 (m := fun s x y K => K (.v (.bool (goodI s x y)))) (fun _ _ => rfl) fun s x y => Says.ret ?_
  refine callX_eq (n := 2) (C := ctxL [(27, ofO numsR magI)] [] 0) (ctx0_ok (by intro x hx; obtain rfl := List.mem_singleton.1 hx; exact ofO_ok)) ?_
  rw [refgood_tree, nums_dd, dD_len, dig_len0]
  unfold goodI goodB
  have e : decide ((((dig (magI x y)).length : Nat) : Int) ≤ 36) = decide (magI x y < 1000000000000000000000000000000000000) := by
    rw [Bool.eq_iff_iff, decide_eq_true_eq, decide_eq_true_eq]
    have := dig_len (magI x y) 36
    rw [show (10 : Nat) ^ 36 = 1000000000000000000000000000000000000 from by decide] at this
    rw [← this]; omega
  rw [e]
  generalize decide (magI x y < 1000000000000000000000000000000000000) = p
  generalize decide (magI x y = 0) = q
  cases p <;> cases s <;> cases q <;> rfl

end Go.Proofs.YtlfdelobjbdimaaDoor
