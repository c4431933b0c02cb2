/-
  fieldfareref01's lower and Less, by numbers; the contract of Of.
-/
import Derived.Test.YtlfdelobjbdimaaDoorDigC
set_option maxRecDepth 20000
namespace Go.Proofs.YtlfdelobjbdimaaDoor
set_option linter.unusedSimpArgs false
set_option linter.unusedVariables false
open Go.RowKit

/-! ### Of's contract -/
def ofO (N : Nums) (mag : Int → Int → Nat) : Orc := fun _ ds K => match one? ds with
  | some (s, x, y) => K (.agg [.v (.bool s), .list false 3 (N.dd (mag x y))])
  | none => False
theorem ofO_ok : Sound 27 (ofO numsR magI) := by
  refine sound1 (m := fun s x y K => K (.agg [.v (.bool s), .list false 3 (numsR.dd (magI x y))])) (fun _ _ => rfl) fun s x y => Says.ret ?_
  intro role w args hlow hmask hsz hargs
  obtain ⟨a, rfl, ha⟩ := args_one rfl hsz hargs
  obtain ⟨_, hx, hy⟩ := rd_dec ha
  have bx := nat_u64 hx; have by_ := nat_u64 hy
  have ex : ((x.toNat : Nat) : Int) = x := Int.toNat_of_nonneg bx.1
  have ey : ((y.toNat : Nat) : Int) = y := Int.toNat_of_nonneg by_.1
  have h := of_ps s x.toNat y.toNat (by omega) (by omega)
  rw [ex, ey] at h
  exact h role w _ hlow hmask hsz hargs

end Go.Proofs.YtlfdelobjbdimaaDoor
