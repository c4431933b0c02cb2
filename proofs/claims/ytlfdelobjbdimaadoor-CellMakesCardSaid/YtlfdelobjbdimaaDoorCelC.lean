/-
  cell: its number, its text, its size, its truth.
-/
import Derived.Test.YtlfdelobjbdimaaDoorCelB
set_option maxRecDepth 20000
namespace Go.Proofs.YtlfdelobjbdimaaDoor
set_option linter.unusedSimpArgs false
set_option linter.unusedVariables false
open Go.RowKit

set_option maxRecDepth 100000 in
theorem cnumber_tree (M : Ops) (V : Nrl) (C : Cl) (k : Int) (s : ByteArray) (b : Bool) (x y : Int) (K : D → Prop) : callX Tryd.prog (ctxL [(36, heldO C), (42, prefixC M V)] [] 0) 2 22 [cellD k s b x y] K = (
    C.ok s ∧ bif C.good k s b x y then bif k != 2 then K (.tup [aggN b x y, nilD]) else lkSz s (5 = 5 ∧ V.ok (bytesD s) ∧ bif V.pbig (bytesD s) then K (.tup [decZ, errD 2]) else K (.tup [decM M (V.pval (bytesD s)), nilD])) else K (.tup [decZ, nilD])) := by kernel_rfl
set_option maxRecDepth 100000 in
theorem cstring_tree (M : Ops) (tx : Bool → Int → Int → ByteArray) (C : Cl) (k : Int) (s : ByteArray) (b : Bool) (x y : Int) (K : D → Prop) : callX Tryd.prog (ctxL [(36, heldO C), (15, textC M tx)] [] 0) 2 18 [cellD k s b x y] K = (
    C.ok s ∧ bif C.good k s b x y then bif k == 1 then (bif M.good b x y then K (vS (tx b x y)) else K (vS ⟨#[]⟩)) else K (vS s) else K (vS ⟨#[]⟩)) := by kernel_rfl
set_option maxRecDepth 100000 in
theorem csize_tree (C : Cl) (k : Int) (s : ByteArray) (b : Bool) (x y : Int) (K : D → Prop) : callX Tryd.prog (ctxL [(36, heldO C)] [] 0) 2 21 [cellD k s b x y] K = (
    C.ok s ∧ bif C.good k s b x y then K (vI (IntKind.i64.wrap (16 + (s.size : Int)))) else K (vI 16)) := by kernel_rfl
def nzN (b : Bool) (x y : Int) : Bool := !(b == false && (x == 0 && (y == 0 && true)))
def ctruthO (C : Cl) : Orc := fun _ ds K => match cel? ds with
  | some (k, s, b, x, y) => C.ok s ∧ bif C.good k s b x y then bif k == 2 then K (.v (.bool (!strEq s ⟨#[]⟩))) else bif k == 3 then K (.v (.bool (nzN b x y))) else bif k == 1 then K (.v (.bool (nzN b x y))) else K (.v (.bool false)) else K (.v (.bool false))
  | none => False
set_option maxRecDepth 100000 in
theorem ctruth_tree (C : Cl) (k : Int) (s : ByteArray) (b : Bool) (x y : Int) (K : D → Prop) : callX Tryd.prog (ctxL [(36, heldO C)] [] 0) 2 17 [cellD k s b x y] K = (
    C.ok s ∧ bif C.good k s b x y then bif k == 2 then K (.v (.bool (!strEq s ⟨#[]⟩))) else bif k == 3 then K (.v (.bool (nzN b x y))) else bif k == 1 then K (.v (.bool (nzN b x y))) else K (.v (.bool false)) else K (.v (.bool false))) := by kernel_rfl
def argD (s : ByteArray) (b : Bool) (x y : Int) (n : Bool) : D := .agg [vS s, .v (.bool b), .v (.int .u64 x), .v (.int .u64 y), .v (.bool n)]
def argZ : D := argD ⟨#[]⟩ false 0 0 false
/-- An argument: of a text, of a number, of a text that looks like one; of a cell that isn't right. -/
def cargO (M : Ops) (C : Cl) : Orc := fun _ ds K => match cel? ds with
  | some (k, s, b, x, y) => C.ok s ∧ bif C.good k s b x y then bif k == 2 then bif C.big s then K (.tup [argZ, errD 2]) else K (.tup [argD s (M.sg (C.num s)) (M.hi (C.num s)) (M.lo (C.num s)) false, nilD]) else bif k == 1 then K (.tup [argD (C.tx b x y) b x y true, nilD]) else K (.tup [argD s b x y (k == 3), nilD]) else K (.tup [argZ, nilD])
  | none => False
def cargL (M : Ops) (C : Cl) : List (Nat × Orc) := [(22, cnumberO M C), (36, heldO C), (18, cstringO C)]
theorem cstring_gen (M : Ops) (tx : Bool → Int → Int → ByteArray) (ok : Prop) (b : Bool) (x y : Int) (p q : Bool) (s : ByteArray) (K : D → Prop) : (ok ∧ bif p then bif q then (bif M.good b x y then K (vS (tx b x y)) else K (vS ⟨#[]⟩)) else K (vS s) else K (vS ⟨#[]⟩)) = (ok ∧ bif p then bif q then K (vS (bif M.good b x y then tx b x y else ⟨#[]⟩)) else K (vS s) else K (vS ⟨#[]⟩)) := by
  generalize M.good b x y = g
  cases p <;> cases q <;> cases g <;> rfl
theorem cstringO_ok : Sound 18 (cstringO clR) := by
  refine soundCel (n := 2) (m := fun k s b x y K => clR.ok s ∧ bif clR.good k s b x y then bif k == 1 then K (vS (clR.tx b x y)) else K (vS s) else K (vS ⟨#[]⟩)) (ctx0_ok (two_ok heldO_ok textC_ok)) (fun _ _ => rfl) fun k s b x y K hK K' => ?_
  rw [cstring_tree]
  exact cstring_gen opsR txC (clR.ok s) b x y _ _ s K'
theorem csizeO_ok : Sound 21 (csizeO clR) := by
  refine soundCel (n := 2) (m := fun k s b x y K => clR.ok s ∧ bif clR.good k s b x y then K (vI (IntKind.i64.wrap (16 + (s.size : Int)))) else K (vI 16)) (ctx0_ok (one_ok heldO_ok)) (fun _ _ => rfl) fun k s b x y K hK K' => ?_
  rw [csize_tree]
theorem ctruthO_ok : Sound 17 (ctruthO clR) := by
  refine soundCel (n := 2) (m := fun k s b x y K => clR.ok s ∧ bif clR.good k s b x y then bif k == 2 then K (.v (.bool (!strEq s ⟨#[]⟩))) else bif k == 3 then K (.v (.bool (nzN b x y))) else bif k == 1 then K (.v (.bool (nzN b x y))) else K (.v (.bool false)) else K (.v (.bool false))) (ctx0_ok (one_ok heldO_ok)) (fun _ _ => rfl) fun k s b x y K hK K' => ?_
  rw [ctruth_tree]
theorem cnumber_gen (okV okC : Prop) (g k q : Bool) (a z e b : Prop) (t : Nat) (hV : okV) (hC : okC) : (okC ∧ bif g then bif !k then a else (t = t ∧ okV ∧ bif q then e else b) else z) = (okC ∧ bif g then bif k then (bif q then e else b) else a else z) := by
  cases g <;> cases k <;> cases q <;> simp [hV, hC]
theorem cnumberO_ok : Sound 22 (cnumberO opsR clR) := by
  refine soundCel (n := 2) (m := fun k s b x y K => clR.ok s ∧ bif clR.good k s b x y then bif k == 2 then bif clR.big s then K (.tup [decZ, errD 2]) else K (.tup [decM opsR (clR.num s), nilD]) else K (.tup [aggN b x y, nilD]) else K (.tup [decZ, nilD])) (ctx0_ok (two_ok heldO_ok prefixC_ok)) (fun _ _ => rfl) fun k s b x y K hK K' => ?_
  rw [cnumber_tree, lkSz_eq hK.1]
  exact cnumber_gen (nrlR.ok (bytesD s)) (clR.ok s) (clR.good k s b x y) (k == 2) (nrlR.pbig (bytesD s)) _ _ _ _ _ (okS hK.1) hK.1
end Go.Proofs.YtlfdelobjbdimaaDoor
