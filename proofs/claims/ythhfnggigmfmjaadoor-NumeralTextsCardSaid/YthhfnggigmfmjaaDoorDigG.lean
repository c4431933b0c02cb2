/-
  fieldfareref01's signed, Neg, Same, Good, Trunc, by numbers.
-/
import Derived.Test.YthhfnggigmfmjaaDoorDigE
namespace Go.Proofs.YthhfnggigmfmjaaDoor
set_option linter.unusedSimpArgs false
set_option linter.unusedVariables false
open Go.RowKit

/-! ### Same -/
def sameC (N : Nums) : Orc := fun _ ds K => match ds with
  | [.agg [.v (.bool b), .list false T es], .agg [.v (.bool c), .list false T' fs]] => T = 3 ∧ T' = 3 ∧ N.ok es ∧ N.ok fs ∧ K (.v (.bool (b == c && N.num es == N.num fs)))
  | _ => False
set_option maxRecDepth 100000 in
theorem same_tree (N : Nums) (es fs : List (List D)) (b c : Bool) (K : D → Prop) : callX Tryd.prog (ctxL [(41, lessC N)] [] 0) 2 21 [.agg [.v (.bool b), .list false 3 es], .agg [.v (.bool c), .list false 3 fs]] K = (
    bif b == c then 3 = 3 ∧ 3 = 3 ∧ N.ok es ∧ N.ok fs ∧ bif bif true then !decide (N.num es < N.num fs) else false then
        3 = 3 ∧ 3 = 3 ∧ N.ok fs ∧ N.ok es ∧ K (.v (.bool (bif true then !decide (N.num fs < N.num es) else false)))
      else K (.v (.bool false))
    else K (.v (.bool false))) := by kernel_rfl
theorem sameC_ok : Sound 21 (sameC numsR) := by
  intro ds K hK
  unfold sameC at hK
  split at hK
  · obtain ⟨rfl, rfl, ⟨n, rfl, hl⟩, ⟨m, rfl, hm⟩, hK⟩ := hK
    refine ⟨_, hK, fun K' h => ⟨rfl, rfl, ⟨n, rfl, hl⟩, ⟨m, rfl, hm⟩, h⟩, ?_⟩
    rename_i b c
    refine callX_eq (n := 2) (C := ctxL [(41, lessC numsR)] [] 0) (ctx0_ok (by intro x hx; obtain rfl := List.mem_singleton.1 hx; exact lessC_ok)) ?_
    rw [same_tree, nums_num', nums_num']
    have e : (n == m) = (!decide (n < m) && !decide (m < n)) := by
      rw [Bool.eq_iff_iff]; simp; omega
    rw [e]
    cases hb : b == c
    · rfl
    · refine ⟨rfl, rfl, ⟨n, rfl, hl⟩, ⟨m, rfl, hm⟩, ?_⟩
      cases decide (n < m)
      · exact ⟨rfl, rfl, ⟨m, rfl, hm⟩, ⟨n, rfl, hl⟩, rfl⟩
      · rfl
  · exact hK.elim

/-! ### Good -/
set_option maxRecDepth 100000 in
theorem refgood_tree (N : Nums) (mag : Int → Int → Nat) (s : Bool) (x y : Int) (K : D → Prop) : callX Tryd.prog (ctxL [(22, ofO N mag)] [] 0) 2 29 [.agg [.v (.bool s), .v (.int .u64 x), .v (.int .u64 y)]] K = (
    bif decide (((N.dd (mag x y)).length : Int) ≤ 36) then
      bif s then K (.v (.bool (bif true then !bif true then ((N.dd (mag x y)).length : Int) == 0 else false else false))) else K (.v (.bool (bif true then !false else false)))
    else K (.v (.bool false))) := by kernel_rfl
theorem refGoodC_ok : Sound 29 (goodC opsR) := by
  refine sound1 (m := fun s x y K => K (.v (.bool (goodI s x y)))) (fun _ _ => rfl) fun s x y => Says.ret ?_
  refine callX_eq (n := 2) (C := ctxL [(22, ofO numsR magI)] [] 0) (ctx0_ok (by intro x hx; obtain rfl := List.mem_singleton.1 hx; exact ofO_ok)) ?_
  rw [refgood_tree, nums_dd, dD_len, dig_len0]
  unfold goodI goodB
  have e : decide ((((dig (magI x y)).length : Nat) : Int) ≤ 36) = decide (magI x y < 1000000000000000000000000000000000000) := by
    rw [Bool.eq_iff_iff, decide_eq_true_eq, decide_eq_true_eq]
    have := dig_len (magI x y) 36
    rw [show (10 : Nat) ^ 36 = 1000000000000000000000000000000000000 from by decide] at this
    rw [← this]; omega
  rw [e]
  generalize decide (magI x y < 1000000000000000000000000000000000000) = p
  generalize decide (magI x y = 0) = q
  cases p <;> cases s <;> cases q <;> rfl

end Go.Proofs.YthhfnggigmfmjaaDoor
