/-
  The walk of the law CellSizes, and the plain law.
-/
import Derived.Test.YtlfdelobjbdimaaDoorCelG
set_option maxRecDepth 20000
namespace Go.Proofs.YtlfdelobjbdimaaDoor
set_option linter.unusedSimpArgs false
set_option linter.unusedVariables false
open Go.RowKit

def csL (M : Ops) (C : Cl) (num good : Orc) (bg : Bool) : List (Nat × Orc) := [(8, awkC), (9, num), (10, ctextO), (20, cargT M C bg), (21, csizeT C), (19, good)]
theorem csL_ok {num good : Orc} (bg : Bool) (h1 : Sound 9 num) (h3 : Sound 19 good) : ∀ x ∈ csL opsR clR num good bg, Sound x.1 x.2 := by
  intro x hx
  simp only [csL, List.mem_cons, List.not_mem_nil, or_false] at hx
  rcases hx with rfl | rfl | rfl | rfl | rfl | rfl
  · exact awkC_ok
  · exact h1
  · exact ctextO_ok
  · exact cargT_ok bg
  · exact soundT csizeO_ok fun _ _ h => csizeT_to h
  · exact h3
def csT (M : Ops) (C : Cl) (g bg : Bool) (b : Bool) (x y : Int) (k1 : Int) (b1 : Bool) (x1 y1 : Int) (s : ByteArray) (X : Prop) (K : D → Prop) : Prop :=
  M.good b x y = g ∧ C.ok s0 ∧ C.good k1 s0 b1 x1 y1 = true ∧ C.ok s ∧ C.good 2 s false 0 0 = true ∧ C.big s = bg ∧ M.good b x y = g ∧ C.ok s0 ∧ C.good k1 s0 b1 x1 y1 = true ∧
    C.ok s ∧ C.good 2 s false 0 0 = true ∧ bif (bif false then true else IntKind.i64.wrap (16 + (s.size : Int)) != IntKind.i64.wrap (16 + (s.size : Int))) then K (.v (.bool false)) else
    C.ok s0 ∧ C.good 0 s0 false 0 0 = true ∧ M.good b x y = g ∧ X
set_option maxRecDepth 100000 in
theorem cs_treeTT (M : Ops) (C : Cl) (b : Bool) (x y : Int) (s : ByteArray) (K : D → Prop) : callX Tryd.prog (ctxL (csL M C (numT M) (goodT M) true) [] 0) 2 6 [vS s, aggN b x y] K = (
    bif decide ((s.size : Int) > 200) then K (.v (.bool true)) else csT M C true true b x y 1 b x y s (K (.v (.bool true))) K) := by kernel_rfl
set_option maxRecDepth 100000 in
theorem cs_treeTN (M : Ops) (C : Cl) (b : Bool) (x y : Int) (s : ByteArray) (K : D → Prop) : callX Tryd.prog (ctxL (csL M C (numT M) (goodT M) false) [] 0) 2 6 [vS s, aggN b x y] K = (
    bif decide ((s.size : Int) > 200) then K (.v (.bool true)) else csT M C true false b x y 1 b x y s (K (.v (.bool (bif true then strEq s s else false)))) K) := by kernel_rfl
set_option maxRecDepth 100000 in
theorem cs_treeNT (M : Ops) (C : Cl) (b : Bool) (x y : Int) (s : ByteArray) (K : D → Prop) : callX Tryd.prog (ctxL (csL M C (numN M) (goodN M) true) [] 0) 2 6 [vS s, aggN b x y] K = (
    bif decide ((s.size : Int) > 200) then K (.v (.bool true)) else csT M C false true b x y 0 false 0 0 s (K (.v (.bool true))) K) := by kernel_rfl
set_option maxRecDepth 100000 in
theorem cs_treeNN (M : Ops) (C : Cl) (b : Bool) (x y : Int) (s : ByteArray) (K : D → Prop) : callX Tryd.prog (ctxL (csL M C (numN M) (goodN M) false) [] 0) 2 6 [vS s, aggN b x y] K = (
    bif decide ((s.size : Int) > 200) then K (.v (.bool true)) else csT M C false false b x y 0 false 0 0 s (K (.v (.bool (bif true then strEq s s else false)))) K) := by kernel_rfl
theorem csT_gen (M : Ops) (C : Cl) (g bg : Bool) (b : Bool) (x y : Int) (k1 : Int) (b1 : Bool) (x1 y1 : Int) (s : ByteArray) (X : Prop) (K : D → Prop) (hg : M.good b x y = g) (hb : C.big s = bg) (h0 : C.ok s0) (h1 : C.good k1 s0 b1 x1 y1 = true) (hs : C.ok s) (h2 : C.good 2 s false 0 0 = true) (hz : C.good 0 s0 false 0 0 = true) (hX : X) : csT M C g bg b x y k1 b1 x1 y1 s X K := by
  unfold csT
  have e : (IntKind.i64.wrap (16 + (s.size : Int)) != IntKind.i64.wrap (16 + (s.size : Int))) = false := bne_self_eq_false _
  rw [e]
  exact ⟨hg, h0, h1, hs, h2, hb, hg, h0, h1, hs, h2, h0, hz, hg, hX⟩
theorem short_gen (s : ByteArray) (X : Prop) (hX : (s.size : Int) ≤ 200 → X) : bif decide ((s.size : Int) > 200) then (fun d => d = D.v (.bool true)) (.v (.bool true)) else X := by
  by_cases h : (s.size : Int) > 200
  · rw [decide_eq_true h]; exact rfl
  · rw [decide_eq_false h]; exact hX (by omega)
theorem cs_ps (b : Bool) (x y : Int) (s : ByteArray) : PS Tryd.prog 6 [vS s, aggN b x y] (.v (.bool true)) := by
  have hok : (s.size : Int) ≤ 200 → clR.ok s := fun h => ok_small (by omega)
  have hss : (fun d => d = D.v (.bool true)) (.v (.bool (bif true then strEq s s else false))) := by rw [strEq_self]; rfl
  cases hg : opsR.good b x y with
  | true =>
    have h1 := cellsR.g1 _ _ _ hg
    cases hb : clR.big s with
    | true =>
      refine callX_eq (n := 2) (ctx0_ok (csL_ok true (soundT numO_ok fun _ _ h => numT_to h) (soundT goodC_ok fun _ _ h => goodT_to h))) ?_
      rw [cs_treeTT]
      exact short_gen s _ fun h => csT_gen opsR clR _ _ _ _ _ _ _ _ _ s _ _ hg hb cellsR.ok0 h1 (hok h) (cellsR.g2 s) cellsR.g0 rfl
    | false =>
      refine callX_eq (n := 2) (ctx0_ok (csL_ok false (soundT numO_ok fun _ _ h => numT_to h) (soundT goodC_ok fun _ _ h => goodT_to h))) ?_
      rw [cs_treeTN]
      exact short_gen s _ fun h => csT_gen opsR clR _ _ _ _ _ _ _ _ _ s _ _ hg hb cellsR.ok0 h1 (hok h) (cellsR.g2 s) cellsR.g0 hss
  | false =>
    cases hb : clR.big s with
    | true =>
      refine callX_eq (n := 2) (ctx0_ok (csL_ok true (soundT numO_ok fun _ _ h => numN_to h) (soundT goodC_ok fun _ _ h => goodN_to h))) ?_
      rw [cs_treeNT]
      exact short_gen s _ fun h => csT_gen opsR clR _ _ _ _ _ _ _ _ _ s _ _ hg hb cellsR.ok0 cellsR.g0 (hok h) (cellsR.g2 s) cellsR.g0 rfl
    | false =>
      refine callX_eq (n := 2) (ctx0_ok (csL_ok false (soundT numO_ok fun _ _ h => numN_to h) (soundT goodC_ok fun _ _ h => goodN_to h))) ?_
      rw [cs_treeNN]
      exact short_gen s _ fun h => csT_gen opsR clR _ _ _ _ _ _ _ _ _ s _ _ hg hb cellsR.ok0 cellsR.g0 (hok h) (cellsR.g2 s) cellsR.g0 hss
end Go.Proofs.YtlfdelobjbdimaaDoor
