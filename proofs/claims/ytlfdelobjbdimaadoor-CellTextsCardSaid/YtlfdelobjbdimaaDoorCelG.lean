/-
  cell: more contracts that assert: Number, Size, Arg.
-/
import Derived.Test.YtlfdelobjbdimaaDoorCelF
set_option maxRecDepth 20000
namespace Go.Proofs.YtlfdelobjbdimaaDoor
set_option linter.unusedSimpArgs false
set_option linter.unusedVariables false
open Go.RowKit

def cnumberT (M : Ops) (C : Cl) : Orc := fun _ ds K => match cel? ds with
  | some (k, s, b, x, y) => C.ok s ∧ C.good k s b x y = true ∧ bif k == 2 then bif C.big s then K (.tup [decZ, errD 2]) else K (.tup [decM M (C.num s), nilD]) else K (.tup [aggN b x y, nilD])
  | none => False
theorem cnumberT_to {M : Ops} {C : Cl} {f : Nat} {ds : List D} {K : D → Prop} (h : cnumberT M C f ds K) : cnumberO M C f ds K ∧ ∀ K' : D → Prop, cnumberO M C f ds K' → cnumberT M C f ds K' := by
  revert h; unfold cnumberT cnumberO; generalize cel? ds = r; intro h
  match r, h with
  | none, h => exact h.elim
  | some (k, s, b, x, y), h => exact ⟨⟨h.1, by simp only [h.2.1, cond_true]; exact h.2.2⟩, fun K' hK => ⟨h.1, h.2.1, by simp only [h.2.1, cond_true] at hK; exact hK.2⟩⟩
def csizeT (C : Cl) : Orc := fun _ ds K => match cel? ds with
  | some (k, s, b, x, y) => C.ok s ∧ C.good k s b x y = true ∧ K (vI (IntKind.i64.wrap (16 + (s.size : Int))))
  | none => False
theorem csizeT_to {C : Cl} {f : Nat} {ds : List D} {K : D → Prop} (h : csizeT C f ds K) : csizeO C f ds K ∧ ∀ K' : D → Prop, csizeO C f ds K' → csizeT C f ds K' := by
  revert h; unfold csizeT csizeO; generalize cel? ds = r; intro h
  match r, h with
  | none, h => exact h.elim
  | some (k, s, b, x, y), h => exact ⟨⟨h.1, by simp only [h.2.1, cond_true]; exact h.2.2⟩, fun K' hK => ⟨h.1, h.2.1, by simp only [h.2.1, cond_true] at hK; exact hK.2⟩⟩
def cargTL (M : Ops) (C : Cl) : List (Nat × Orc) := [(22, cnumberT M C), (36, heldT C), (18, cstringT C)]
theorem cargTL_ok : ∀ x ∈ cargTL opsR clR, Sound x.1 x.2 := by
  intro x hx
  simp only [cargTL, List.mem_cons, List.not_mem_nil, or_false] at hx
  rcases hx with rfl | rfl | rfl
  · exact soundT cnumberO_ok fun _ _ h => cnumberT_to h
  · exact soundT heldO_ok fun _ _ h => heldT_to h
  · exact soundT cstringO_ok fun _ _ h => cstringT_to h
def cargT (M : Ops) (C : Cl) (bg : Bool) : Orc := fun _ ds K => match cel? ds with
  | some (k, s, b, x, y) => C.ok s ∧ C.good k s b x y = true ∧ bif k == 2 then C.big s = bg ∧ (bif bg then K (.tup [argZ, errD 2]) else K (.tup [argD s (M.sg (C.num s)) (M.hi (C.num s)) (M.lo (C.num s)) false, nilD])) else bif k == 1 then K (.tup [argD (C.tx b x y) b x y true, nilD]) else K (.tup [argD s b x y (k == 3), nilD])
  | none => False
def argB (k : Int) (t : ByteArray) (b : Bool) (x y : Int) (K : D → Prop) : Prop := bif k == 1 then K (.tup [argD t b x y true, nilD]) else K (.tup [argD t b x y (bif false then true else k == 3), nilD])
def argR (C : Cl) (k : Int) (s : ByteArray) (b : Bool) (x y : Int) (b' : Bool) (x' y' : Int) (K : D → Prop) : Prop := C.ok s ∧ C.good k s b x y = true ∧ C.ok s ∧ C.good k s b x y = true ∧ bif k == 1 then argB k (C.tx b x y) b' x' y' K else argB k s b' x' y' K
set_option maxRecDepth 100000 in
theorem carg_tree (M : Ops) (C : Cl) (k : Int) (s : ByteArray) (b : Bool) (x y : Int) (K : D → Prop) : callX Tryd.prog (ctxL (cargTL M C) [] 0) 2 20 [cellD k s b x y] K = (
    C.ok s ∧ C.good k s b x y = true ∧ bif k == 2 then bif C.big s then K (.tup [argZ, errD 2]) else argR C k s b x y (M.sg (C.num s)) (M.hi (C.num s)) (M.lo (C.num s)) K else argR C k s b x y b x y K) := by kernel_rfl
theorem carg_gen (M : Ops) (C : Cl) (bg : Bool) (k : Int) (s : ByteArray) (b : Bool) (x y : Int) (h1 : C.ok s) (h2 : C.good k s b x y = true) (h3 : (k == 2) = true → C.big s = bg) (K : D → Prop) :
    (C.ok s ∧ C.good k s b x y = true ∧ bif k == 2 then bif C.big s then K (.tup [argZ, errD 2]) else argR C k s b x y (M.sg (C.num s)) (M.hi (C.num s)) (M.lo (C.num s)) K else argR C k s b x y b x y K)
    = (C.ok s ∧ C.good k s b x y = true ∧ bif k == 2 then C.big s = bg ∧ (bif bg then K (.tup [argZ, errD 2]) else K (.tup [argD s (M.sg (C.num s)) (M.hi (C.num s)) (M.lo (C.num s)) false, nilD])) else bif k == 1 then K (.tup [argD (C.tx b x y) b x y true, nilD]) else K (.tup [argD s b x y (k == 3), nilD])) := by
  unfold argR argB
  cases e2 : k == 2 with
  | true =>
    have hb := h3 e2
    rw [beq_iff_eq] at e2
    subst e2
    rw [hb]
    have e1 : ((2 : Int) == 1) = false := by decide
    have e3 : ((2 : Int) == 3) = false := by decide
    rw [e1, e3]
    cases bg <;> simp only [h1, h2, cond_true, cond_false, true_and]
  | false =>
    generalize (k == 1) = p
    cases p <;> simp only [h1, h2, cond_true, cond_false, true_and]
theorem cargT_ok (bg : Bool) : Sound 20 (cargT opsR clR bg) := by
  refine soundCel (n := 2) (m := fun k s b x y K => clR.ok s ∧ clR.good k s b x y = true ∧ bif k == 2 then clR.big s = bg ∧ (bif bg then K (.tup [argZ, errD 2]) else K (.tup [argD s (opsR.sg (clR.num s)) (opsR.hi (clR.num s)) (opsR.lo (clR.num s)) false, nilD])) else bif k == 1 then K (.tup [argD (clR.tx b x y) b x y true, nilD]) else K (.tup [argD s b x y (k == 3), nilD])) (ctx0_ok cargTL_ok) (fun _ _ => rfl) fun k s b x y K hK K' => ?_
  rw [carg_tree]
  exact carg_gen opsR clR bg k s b x y hK.1 hK.2.1 (fun e => by have h := hK.2.2; rw [e, cond_true] at h; exact h.1) K'
end Go.Proofs.YtlfdelobjbdimaaDoor
