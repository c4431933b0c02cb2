/-
  The walk of the law CellInputs, and the plain law.
-/
import Derived.Test.YtlfdelobjbdimaaDoorCelH
set_option maxRecDepth 20000
namespace Go.Proofs.YtlfdelobjbdimaaDoor
set_option linter.unusedSimpArgs false
set_option linter.unusedVariables false
open Go.RowKit

def cnumberB (M : Ops) (C : Cl) (bg : Bool) : Orc := fun _ ds K => match cel? ds with
  | some (k, s, b, x, y) => C.ok s ∧ C.good k s b x y = true ∧ bif k == 2 then C.big s = bg ∧ bif bg then K (.tup [decZ, errD 2]) else K (.tup [decM M (C.num s), nilD]) else K (.tup [aggN b x y, nilD])
  | none => False
theorem cnumberB_to {M : Ops} {C : Cl} {bg : Bool} {f : Nat} {ds : List D} {K : D → Prop} (h : cnumberB M C bg f ds K) : cnumberO M C f ds K ∧ ∀ K' : D → Prop, cnumberO M C f ds K' → cnumberB M C bg f ds K' := by
  revert h; unfold cnumberB cnumberO; generalize cel? ds = r; intro h
  match r, h with
  | none, h => exact h.elim
  | some (k, s, b, x, y), h =>
    obtain ⟨h1, h2, h3⟩ := h
    simp only [h2, cond_true]
    cases e : k == 2 with
    | false => rw [e] at h3; exact ⟨⟨h1, h3⟩, fun K' hK => ⟨h1, trivial, hK.2⟩⟩
    | true =>
      rw [e, cond_true] at h3
      simp only [cond_true]
      refine ⟨⟨h1, by rw [h3.1]; exact h3.2⟩, fun K' hK => ⟨h1, trivial, h3.1, ?_⟩⟩
      have := hK.2
      rw [h3.1] at this; exact this
def looksT (V : Nrl) (q : Bool) : Orc := fun _ ds K => match ds with
  | [.list false T es] => T = 5 ∧ V.ok es ∧ V.looks es = q ∧ K (.v (.bool q))
  | _ => False
theorem looksT_to {V : Nrl} {q : Bool} {f : Nat} {ds : List D} {K : D → Prop} (h : looksT V q f ds K) : looksC V f ds K ∧ ∀ K' : D → Prop, looksC V f ds K' → looksT V q f ds K' := by
  unfold looksT at h
  split at h
  · obtain ⟨h1, h2, h3, h4⟩ := h
    refine ⟨⟨h1, h2, by rw [h3]; exact h4⟩, fun K' hK => ⟨h1, h2, h3, ?_⟩⟩
    have := hK.2.2
    rw [h3] at this; exact this
  · exact h.elim
def ciL (M : Ops) (V : Nrl) (C : Cl) (inp : Orc) (bg q : Bool) : List (Nat × Orc) := [(8, awkC), (11, inp), (10, ctextO), (22, cnumberB M C bg), (18, cstringT C), (23, codeC), (21, csizeT C), (24, looksT V q)]
theorem ciL_ok {inp : Orc} (bg q : Bool) (h : Sound 11 inp) : ∀ x ∈ ciL opsR nrlR clR inp bg q, Sound x.1 x.2 := by
  intro x hx
  simp only [ciL, List.mem_cons, List.not_mem_nil, or_false] at hx
  rcases hx with rfl | rfl | rfl | rfl | rfl | rfl | rfl | rfl
  · exact awkC_ok
  · exact h
  · exact ctextO_ok
  · exact soundT cnumberO_ok fun _ _ h => cnumberB_to h
  · exact soundT cstringO_ok fun _ _ h => cstringT_to h
  · exact codeC_ok
  · exact soundT csizeO_ok fun _ _ h => csizeT_to h
  · exact soundT looksC_ok fun _ _ h => looksT_to h
theorem same_refl (M : Ops) (z : Int) : (M.sg z == M.sg z && (M.hi z == M.hi z && (M.lo z == M.lo z && true))) = true := by
  rw [beq_self_eq_true, beq_self_eq_true, beq_self_eq_true]; rfl
theorem lkSz_small {s : ByteArray} (h : s.size ≤ 1000) (X : Prop) : lkSz s X = X := by
  unfold lkSz
  rw [decide_eq_true (show s.size ≤ 1073741824 by omega)]; rfl
theorem wrap_refl (n : Int) : (IntKind.i64.wrap (16 + n) != IntKind.i64.wrap (16 + n)) = false := bne_self_eq_false _
def ciTA (M : Ops) (V : Nrl) (C : Cl) (s : ByteArray) (K : D → Prop) : Prop := C.ok s ∧ C.like s = true ∧ C.ok s ∧ C.good 3 s (M.sg (C.num s)) (M.hi (C.num s)) (M.lo (C.num s)) = true ∧ C.ok s ∧ C.good 2 s false 0 0 = true ∧ C.big s = false ∧ C.ok s ∧ C.good 3 s (M.sg (C.num s)) (M.hi (C.num s)) (M.lo (C.num s)) = true ∧ bif !strEq s s then K (.v (.bool false)) else C.ok s ∧ C.good 2 s false 0 0 = true ∧ bif (bif false then true else !strEq s s) then K (.v (.bool false)) else bif (bif false then true else !(M.sg (C.num s) == M.sg (C.num s) && (M.hi (C.num s) == M.hi (C.num s) && (M.lo (C.num s) == M.lo (C.num s) && true)))) then K (.v (.bool false)) else C.ok s ∧ C.good 3 s (M.sg (C.num s)) (M.hi (C.num s)) (M.lo (C.num s)) = true ∧ C.ok s ∧ C.good 2 s false 0 0 = true ∧ bif (bif false then true else IntKind.i64.wrap (16 + (s.size : Int)) != IntKind.i64.wrap (16 + (s.size : Int))) then K (.v (.bool false)) else lkSz s (5 = 5 ∧ V.ok (bytesD s) ∧ V.looks (bytesD s) = true ∧ K (.v (.bool true)))
set_option maxRecDepth 100000 in
theorem ci_treeA (M : Ops) (V : Nrl) (C : Cl) (s : ByteArray) (K : D → Prop) : callX Tryd.prog (ctxL (ciL M V C (inputT M C) false true) [] 0) 2 7 [vS s] K = (
    bif decide ((s.size : Int) > 200) then K (.v (.bool true)) else ciTA M V C s K) := by kernel_rfl
theorem ci_genA (M : Ops) (V : Nrl) (C : Cl) (s : ByteArray) (K : D → Prop) (hz : s.size ≤ 1000) (hs : C.ok s) (hl : C.like s = true) (h3 : C.good 3 s (M.sg (C.num s)) (M.hi (C.num s)) (M.lo (C.num s)) = true) (h2 : C.good 2 s false 0 0 = true) (hb : C.big s = false) (hV : V.ok (bytesD s)) (hq : V.looks (bytesD s) = true) (hK : K (.v (.bool true))) : ciTA M V C s K := by
  unfold ciTA
  rw [strEq_self, wrap_refl, lkSz_small hz, same_refl]
  exact ⟨hs, hl, hs, h3, hs, h2, hb, hs, h3, hs, h2, hs, h3, hs, h2, rfl, hV, hq, hK⟩
def ciTB (M : Ops) (V : Nrl) (C : Cl) (s : ByteArray) (K : D → Prop) : Prop := C.ok s ∧ C.like s = false ∧ C.ok s ∧ C.good 2 s false 0 0 = true ∧ C.big s = true ∧ C.ok s ∧ C.good 2 s false 0 0 = true ∧ C.big s = true ∧ C.ok s ∧ C.good 2 s false 0 0 = true ∧ bif !strEq s s then K (.v (.bool false)) else C.ok s ∧ C.good 2 s false 0 0 = true ∧ bif (bif false then true else !strEq s s) then K (.v (.bool false)) else C.ok s ∧ C.good 2 s false 0 0 = true ∧ C.ok s ∧ C.good 2 s false 0 0 = true ∧ bif (bif false then true else IntKind.i64.wrap (16 + (s.size : Int)) != IntKind.i64.wrap (16 + (s.size : Int))) then K (.v (.bool false)) else lkSz s (5 = 5 ∧ V.ok (bytesD s) ∧ V.looks (bytesD s) = true ∧ K (.v (.bool (bif true then (bif false then true else eqC 2 s false 0 0 2 s false 0 0) else false))))
set_option maxRecDepth 100000 in
theorem ci_treeB (M : Ops) (V : Nrl) (C : Cl) (s : ByteArray) (K : D → Prop) : callX Tryd.prog (ctxL (ciL M V C (inputN C) true true) [] 0) 2 7 [vS s] K = (
    bif decide ((s.size : Int) > 200) then K (.v (.bool true)) else ciTB M V C s K) := by kernel_rfl
theorem ci_genB (M : Ops) (V : Nrl) (C : Cl) (s : ByteArray) (K : D → Prop) (hz : s.size ≤ 1000) (hs : C.ok s) (hl : C.like s = false) (h3 : C.good 2 s false 0 0 = true) (h2 : C.good 2 s false 0 0 = true) (hb : C.big s = true) (hV : V.ok (bytesD s)) (hq : V.looks (bytesD s) = true) (hK : K (.v (.bool true))) : ciTB M V C s K := by
  unfold ciTB
  rw [strEq_self, wrap_refl, lkSz_small hz, eqC_self]
  exact ⟨hs, hl, hs, h3, hb, hs, h2, hb, hs, h3, hs, h2, hs, h3, hs, h2, rfl, hV, hq, hK⟩
def ciTC (M : Ops) (V : Nrl) (C : Cl) (s : ByteArray) (K : D → Prop) : Prop := C.ok s ∧ C.like s = false ∧ C.ok s ∧ C.good 2 s false 0 0 = true ∧ C.big s = true ∧ C.ok s ∧ C.good 2 s false 0 0 = true ∧ C.big s = true ∧ C.ok s ∧ C.good 2 s false 0 0 = true ∧ bif !strEq s s then K (.v (.bool false)) else C.ok s ∧ C.good 2 s false 0 0 = true ∧ bif (bif false then true else !strEq s s) then K (.v (.bool false)) else C.ok s ∧ C.good 2 s false 0 0 = true ∧ C.ok s ∧ C.good 2 s false 0 0 = true ∧ bif (bif false then true else IntKind.i64.wrap (16 + (s.size : Int)) != IntKind.i64.wrap (16 + (s.size : Int))) then K (.v (.bool false)) else lkSz s (5 = 5 ∧ V.ok (bytesD s) ∧ V.looks (bytesD s) = false ∧ K (.v (.bool (bif true then (bif false then true else eqC 2 s false 0 0 2 s false 0 0) else false))))
set_option maxRecDepth 100000 in
theorem ci_treeC (M : Ops) (V : Nrl) (C : Cl) (s : ByteArray) (K : D → Prop) : callX Tryd.prog (ctxL (ciL M V C (inputN C) true false) [] 0) 2 7 [vS s] K = (
    bif decide ((s.size : Int) > 200) then K (.v (.bool true)) else ciTC M V C s K) := by kernel_rfl
theorem ci_genC (M : Ops) (V : Nrl) (C : Cl) (s : ByteArray) (K : D → Prop) (hz : s.size ≤ 1000) (hs : C.ok s) (hl : C.like s = false) (h3 : C.good 2 s false 0 0 = true) (h2 : C.good 2 s false 0 0 = true) (hb : C.big s = true) (hV : V.ok (bytesD s)) (hq : V.looks (bytesD s) = false) (hK : K (.v (.bool true))) : ciTC M V C s K := by
  unfold ciTC
  rw [strEq_self, wrap_refl, lkSz_small hz, eqC_self]
  exact ⟨hs, hl, hs, h3, hb, hs, h2, hb, hs, h3, hs, h2, hs, h3, hs, h2, rfl, hV, hq, hK⟩
def ciTD (M : Ops) (V : Nrl) (C : Cl) (s : ByteArray) (K : D → Prop) : Prop := C.ok s ∧ C.like s = false ∧ C.ok s ∧ C.good 2 s false 0 0 = true ∧ C.big s = false ∧ C.ok s ∧ C.good 2 s false 0 0 = true ∧ C.big s = false ∧ C.ok s ∧ C.good 2 s false 0 0 = true ∧ bif !strEq s s then K (.v (.bool false)) else C.ok s ∧ C.good 2 s false 0 0 = true ∧ bif (bif false then true else !strEq s s) then K (.v (.bool false)) else bif (bif false then true else !(M.sg (C.num s) == M.sg (C.num s) && (M.hi (C.num s) == M.hi (C.num s) && (M.lo (C.num s) == M.lo (C.num s) && true)))) then K (.v (.bool false)) else C.ok s ∧ C.good 2 s false 0 0 = true ∧ C.ok s ∧ C.good 2 s false 0 0 = true ∧ bif (bif false then true else IntKind.i64.wrap (16 + (s.size : Int)) != IntKind.i64.wrap (16 + (s.size : Int))) then K (.v (.bool false)) else lkSz s (5 = 5 ∧ V.ok (bytesD s) ∧ V.looks (bytesD s) = false ∧ K (.v (.bool (bif true then (bif false then true else eqC 2 s false 0 0 2 s false 0 0) else false))))
set_option maxRecDepth 100000 in
theorem ci_treeD (M : Ops) (V : Nrl) (C : Cl) (s : ByteArray) (K : D → Prop) : callX Tryd.prog (ctxL (ciL M V C (inputN C) false false) [] 0) 2 7 [vS s] K = (
    bif decide ((s.size : Int) > 200) then K (.v (.bool true)) else ciTD M V C s K) := by kernel_rfl
theorem ci_genD (M : Ops) (V : Nrl) (C : Cl) (s : ByteArray) (K : D → Prop) (hz : s.size ≤ 1000) (hs : C.ok s) (hl : C.like s = false) (h3 : C.good 2 s false 0 0 = true) (h2 : C.good 2 s false 0 0 = true) (hb : C.big s = false) (hV : V.ok (bytesD s)) (hq : V.looks (bytesD s) = false) (hK : K (.v (.bool true))) : ciTD M V C s K := by
  unfold ciTD
  rw [strEq_self, wrap_refl, lkSz_small hz, same_refl, eqC_self]
  exact ⟨hs, hl, hs, h3, hb, hs, h2, hb, hs, h3, hs, h2, hs, h3, hs, h2, rfl, hV, hq, hK⟩
theorem ci_ps (s : ByteArray) : PS Tryd.prog 7 [vS s] (.v (.bool true)) := by
  have hok : (s.size : Int) ≤ 200 → clR.ok s := fun h => ok_small (by omega)
  have e : clR.like s = (nrlR.looks (bytesD s) && !clR.big s) := rfl
  cases hb : clR.big s with
  | true =>
    have hl : clR.like s = false := by rw [e, hb, Bool.not_true, Bool.and_false]
    cases hq : nrlR.looks (bytesD s) with
    | true =>
      refine callX_eq (n := 2) (ctx0_ok (ciL_ok true true (soundT inputO_ok fun _ _ h => inputN_to h))) ?_
      rw [ci_treeB]
      exact short_gen s _ fun h => ci_genB opsR nrlR clR s _ (by omega) (hok h) hl (cellsR.g2 s) (cellsR.g2 s) hb (okS (hok h)) hq rfl
    | false =>
      refine callX_eq (n := 2) (ctx0_ok (ciL_ok true false (soundT inputO_ok fun _ _ h => inputN_to h))) ?_
      rw [ci_treeC]
      exact short_gen s _ fun h => ci_genC opsR nrlR clR s _ (by omega) (hok h) hl (cellsR.g2 s) (cellsR.g2 s) hb (okS (hok h)) hq rfl
  | false =>
    cases hq : nrlR.looks (bytesD s) with
    | true =>
      have hl : clR.like s = true := by rw [e, hb, hq]; rfl
      refine callX_eq (n := 2) (ctx0_ok (ciL_ok false true (soundT inputO_ok fun _ _ h => inputT_to h))) ?_
      rw [ci_treeA]
      exact short_gen s _ fun h => ci_genA opsR nrlR clR s _ (by omega) (hok h) hl (cellsR.g3 s hl) (cellsR.g2 s) hb (okS (hok h)) hq rfl
    | false =>
      have hl : clR.like s = false := by rw [e, hq, Bool.false_and]
      refine callX_eq (n := 2) (ctx0_ok (ciL_ok false false (soundT inputO_ok fun _ _ h => inputN_to h))) ?_
      rw [ci_treeD]
      exact short_gen s _ fun h => ci_genD opsR nrlR clR s _ (by omega) (hok h) hl (cellsR.g2 s) (cellsR.g2 s) hb (okS (hok h)) hq rfl
end Go.Proofs.YtlfdelobjbdimaaDoor
