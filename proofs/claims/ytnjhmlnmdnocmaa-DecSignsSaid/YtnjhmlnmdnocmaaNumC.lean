/-
  The contracts of dec where what is handed in is right: what must be so stands ahead.
-/
import Derived.Test.YtnjhmlnmdnocmaaNumB
namespace Go.Proofs.Ytnjhmlnmdnocmaa
set_option linter.unusedSimpArgs false
set_option linter.unusedVariables false
open Go.RowKit

theorem soundT {f : Nat} {o o' : Orc} (h : Sound f o) (hk : ∀ ds (K : D → Prop), o' f ds K → o f ds K ∧ ∀ K' : D → Prop, o f ds K' → o' f ds K') : Sound f o' := by
  intro ds K hK
  obtain ⟨h1, h2⟩ := hk ds K hK
  obtain ⟨d, h3, h4, h5⟩ := h ds K h1
  exact ⟨d, h3, fun K' hK' => h2 K' (h4 K' hK'), h5⟩

def goodT (M : Ops) : Orc := fun _ ds K => match one? ds with
  | some (s, x, y) => M.good s x y = true ∧ K (.v (.bool true))
  | none => False
def negT (M : Ops) : Orc := fun _ ds K => match one? ds with
  | some (s, x, y) => M.good s x y = true ∧ K (decM M (M.neg (M.val s x y)))
  | none => False
def truncT (M : Ops) : Orc := fun _ ds K => match one? ds with
  | some (s, x, y) => M.good s x y = true ∧ K (decM M (M.trunc (M.val s x y)))
  | none => False
def cmpT (M : Ops) : Orc := fun _ ds K => match two? ds with
  | some (s, x, y, s', x', y') => M.good s x y = true ∧ M.good s' x' y' = true ∧ K (.v (.int .i64 (M.cmp (M.val s x y) (M.val s' x' y'))))
  | none => False
def addT (M : Ops) : Orc := fun _ ds K => match two? ds with
  | some (s, x, y, s', x', y') => M.good s x y = true ∧ M.good s' x' y' = true ∧ fitC M (M.add (M.val s x y) (M.val s' x' y')) K
  | none => False
def addF (M : Ops) : Orc := fun _ ds K => match two? ds with
  | some (s, x, y, s', x', y') => M.good s x y = true ∧ M.good s' x' y' = true ∧ M.fit (M.add (M.val s x y) (M.val s' x' y')) = true ∧ K (.tup [decM M (M.add (M.val s x y) (M.val s' x' y')), nilD])
  | none => False
def subT (M : Ops) : Orc := fun _ ds K => match two? ds with
  | some (s, x, y, s', x', y') => M.good s x y = true ∧ M.good s' x' y' = true ∧ fitC M (M.sub (M.val s x y) (M.val s' x' y')) K
  | none => False
def mulT (M : Ops) : Orc := fun _ ds K => match two? ds with
  | some (s, x, y, s', x', y') => M.good s x y = true ∧ M.good s' x' y' = true ∧ fitC M (M.mul (M.val s x y) (M.val s' x' y')) K
  | none => False

section
variable {M : Ops} {f : Nat} {ds : List D} {K : D → Prop}
theorem goodT_to (h : goodT M f ds K) : goodC M f ds K ∧ ∀ K' : D → Prop, goodC M f ds K' → goodT M f ds K' := by
  revert h; unfold goodT goodC; generalize one? ds = r; intro h
  match r, h with
  | none, h => exact h.elim
  | some (s, x, y), h => exact ⟨by simp only [h.1, cond_true]; exact h.2, fun K' hK => ⟨h.1, by simp only [h.1, cond_true] at hK; exact hK⟩⟩
theorem negT_to (h : negT M f ds K) : negC M f ds K ∧ ∀ K' : D → Prop, negC M f ds K' → negT M f ds K' := by
  revert h; unfold negT negC; generalize one? ds = r; intro h
  match r, h with
  | none, h => exact h.elim
  | some (s, x, y), h => exact ⟨by simp only [h.1, cond_true]; exact h.2, fun K' hK => ⟨h.1, by simp only [h.1, cond_true] at hK; exact hK⟩⟩
theorem truncT_to (h : truncT M f ds K) : truncC M f ds K ∧ ∀ K' : D → Prop, truncC M f ds K' → truncT M f ds K' := by
  revert h; unfold truncT truncC; generalize one? ds = r; intro h
  match r, h with
  | none, h => exact h.elim
  | some (s, x, y), h => exact ⟨by simp only [h.1, cond_true]; exact h.2, fun K' hK => ⟨h.1, by simp only [h.1, cond_true] at hK; exact hK⟩⟩
theorem cmpT_to (h : cmpT M f ds K) : cmpC M f ds K ∧ ∀ K' : D → Prop, cmpC M f ds K' → cmpT M f ds K' := by
  revert h; unfold cmpT cmpC; generalize two? ds = r; intro h
  match r, h with
  | none, h => exact h.elim
  | some (s, x, y, s', x', y'), h => exact ⟨by simp only [h.1, h.2.1, Bool.and_self, cond_true]; exact h.2.2, fun K' hK => ⟨h.1, h.2.1, by simp only [h.1, h.2.1, Bool.and_self, cond_true] at hK; exact hK⟩⟩
theorem addT_to (h : addT M f ds K) : addC M f ds K ∧ ∀ K' : D → Prop, addC M f ds K' → addT M f ds K' := by
  revert h; unfold addT addC; generalize two? ds = r; intro h
  match r, h with
  | none, h => exact h.elim
  | some (s, x, y, s', x', y'), h => exact ⟨by simp only [h.1, h.2.1, Bool.and_self, cond_true]; exact h.2.2, fun K' hK => ⟨h.1, h.2.1, by simp only [h.1, h.2.1, Bool.and_self, cond_true] at hK; exact hK⟩⟩
theorem subT_to (h : subT M f ds K) : subC M f ds K ∧ ∀ K' : D → Prop, subC M f ds K' → subT M f ds K' := by
  revert h; unfold subT subC; generalize two? ds = r; intro h
  match r, h with
  | none, h => exact h.elim
  | some (s, x, y, s', x', y'), h => exact ⟨by simp only [h.1, h.2.1, Bool.and_self, cond_true]; exact h.2.2, fun K' hK => ⟨h.1, h.2.1, by simp only [h.1, h.2.1, Bool.and_self, cond_true] at hK; exact hK⟩⟩
theorem mulT_to (h : mulT M f ds K) : mulC M f ds K ∧ ∀ K' : D → Prop, mulC M f ds K' → mulT M f ds K' := by
  revert h; unfold mulT mulC; generalize two? ds = r; intro h
  match r, h with
  | none, h => exact h.elim
  | some (s, x, y, s', x', y'), h => exact ⟨by simp only [h.1, h.2.1, Bool.and_self, cond_true]; exact h.2.2, fun K' hK => ⟨h.1, h.2.1, by simp only [h.1, h.2.1, Bool.and_self, cond_true] at hK; exact hK⟩⟩
theorem addF_to (h : addF M f ds K) : addC M f ds K ∧ ∀ K' : D → Prop, addC M f ds K' → addF M f ds K' := by
  revert h; unfold addF addC fitC; generalize two? ds = r; intro h
  match r, h with
  | none, h => exact h.elim
  | some (s, x, y, s', x', y'), h => exact ⟨by simp only [h.1, h.2.1, h.2.2.1, Bool.and_self, cond_true]; exact h.2.2.2, fun K' hK => ⟨h.1, h.2.1, h.2.2.1, by simp only [h.1, h.2.1, h.2.2.1, Bool.and_self, cond_true] at hK; exact hK⟩⟩
end

/-- What a number's value comes to, in terms that a run leaves as they are. -/
theorem ops_val (z : Int) : opsR.val (opsR.sg z) (opsR.hi z) (opsR.lo z) = z := valI_dec z
theorem ops_good (z : Int) : opsR.good (opsR.sg z) (opsR.hi z) (opsR.lo z) = opsR.fit z := goodI_dec z
theorem ops_val0 : opsR.val false 0 0 = 0 := by decide
theorem ops_good0 : opsR.good false 0 0 = true := by decide
theorem ops_zero : opsR.sg 0 = false ∧ opsR.hi 0 = 0 ∧ opsR.lo 0 = 0 := by decide
theorem ops_fit_neg {z : Int} (h : opsR.fit z = true) : opsR.fit (-z) = true := fit_mk (by rw [Int.natAbs_neg]; exact fit_lt h)
end Go.Proofs.Ytnjhmlnmdnocmaa
