/-
  cell: contracts of its functions, by what they answer.
-/
import Derived.Test.YtlfdelobjbdimaaDoorNrlM
import Derived.Test.YtlfdelobjbdimaaDoorNrlT
import Derived.Test.YtlfdelobjbdimaaDoorTxtC
set_option maxRecDepth 20000
namespace Go.Proofs.YtlfdelobjbdimaaDoor
set_option linter.unusedSimpArgs false
set_option linter.unusedVariables false
open Go.RowKit

def cellD (k : Int) (s : ByteArray) (b : Bool) (x y : Int) : D := .agg [.v (.int .i64 k), .v (.string s), .v (.bool b), .v (.int .u64 x), .v (.int .u64 y)]
def cellZ : D := cellD 0 ⟨#[]⟩ false 0 0
def aggN (b : Bool) (x y : Int) : D := .agg [.v (.bool b), .v (.int .u64 x), .v (.int .u64 y)]
def cel? : List D → Option (Int × ByteArray × Bool × Int × Int)
  | [.agg [.v (.int .i64 k), .v (.string s), .v (.bool b), .v (.int .u64 x), .v (.int .u64 y)]] => some (k, s, b, x, y)
  | _ => none
theorem cel?_eq {ds : List D} {k : Int} {s : ByteArray} {b : Bool} {x y : Int} (h : cel? ds = some (k, s, b, x, y)) : ds = [cellD k s b x y] := by
  unfold cel? at h
  split at h
  · cases h; rfl
  · cases h
/-- A contract that says what a walk comes to. -/
theorem soundX {C : Ctx} (hC : CtxOK Tryd.prog C) {n f : Nat} {o : Orc} (h : ∀ ds K, o f ds K → ∀ K' : D → Prop, callX Tryd.prog C n f ds K' = o f ds K') : Sound f o := by
  intro ds K hK
  have e := h ds K hK
  have h1 : callX Tryd.prog C n f ds K := by rw [e]; exact hK
  obtain ⟨d, h2, h3, h4⟩ := callX_ok hC n f ds K h1
  exact ⟨d, h2, fun K' h' => by rw [← e]; exact h3 K' h', h4⟩
theorem soundCel {C : Ctx} (hC : CtxOK Tryd.prog C) {n f : Nat} {o : Orc} {m : Int → ByteArray → Bool → Int → Int → (D → Prop) → Prop} (ho : ∀ ds K, o f ds K = match cel? ds with | some (k, s, b, x, y) => m k s b x y K | none => False)
    (h : ∀ k s b x y K, m k s b x y K → ∀ K' : D → Prop, callX Tryd.prog C n f [cellD k s b x y] K' = m k s b x y K') : Sound f o := by
  refine soundX hC (n := n) fun ds K hK K' => ?_
  rw [ho] at hK ⊢
  cases e : cel? ds with
  | none => rw [e] at hK; exact hK.elim
  | some p =>
    obtain ⟨k, s, b, x, y⟩ := p
    rw [e] at hK
    rw [cel?_eq e]
    exact h k s b x y K hK K'
theorem soundStr {C : Ctx} (hC : CtxOK Tryd.prog C) {n f : Nat} {o : Orc} {m : ByteArray → (D → Prop) → Prop} (ho : ∀ ds K, o f ds K = match ds with | [.v (.string s)] => m s K | _ => False)
    (h : ∀ s K, m s K → ∀ K' : D → Prop, callX Tryd.prog C n f [vS s] K' = m s K') : Sound f o := by
  refine soundX hC (n := n) fun ds K hK K' => ?_
  rw [ho] at hK ⊢
  split at hK
  · rename_i s
    exact h s K hK K'
  · exact hK.elim
structure Cl where
  ok : ByteArray → Prop
  like : ByteArray → Bool
  big : ByteArray → Bool
  num : ByteArray → Int
  good : Int → ByteArray → Bool → Int → Int → Bool
  tx : Bool → Int → Int → ByteArray
def eqC (k : Int) (s : ByteArray) (b : Bool) (x y : Int) (k' : Int) (s' : ByteArray) (b' : Bool) (x' y' : Int) : Bool := k == k' && (strEq s s' && ((b == b' && (x == x' && (y == y' && true))) && true))
def goodCl (M : Ops) (like : ByteArray → Bool) (num : ByteArray → Int) (k : Int) (s : ByteArray) (b : Bool) (x y : Int) : Bool :=
  bif k == 0 then eqC k s b x y 0 ⟨#[]⟩ false 0 0 else bif k == 1 then (bif M.good b x y then eqC k s b x y 1 ⟨#[]⟩ b x y else eqC k s b x y 0 ⟨#[]⟩ false 0 0) else bif k == 2 then eqC k s b x y 2 s false 0 0 else bif k == 3 then (bif like s then eqC k s b x y 3 s (M.sg (num s)) (M.hi (num s)) (M.lo (num s)) else eqC k s b x y 2 s false 0 0) else false
def likeR (s : ByteArray) : Bool := nrlR.looks (bytesD s) && !nrlR.pbig (bytesD s)
def numR' (s : ByteArray) : Int := nrlR.pval (bytesD s)
def clR : Cl where
  ok s := s.size < 100000
  like := likeR
  big s := nrlR.pbig (bytesD s)
  num := numR'
  good := goodCl opsR likeR numR'
  tx b x y := bif opsR.good b x y then txC b x y else ⟨#[]⟩
def numO (M : Ops) : Orc := fun _ ds K => match one? ds with
  | some (s, x, y) => bif M.good s x y then K (cellD 1 ⟨#[]⟩ s x y) else K cellZ
  | none => False
def ctextO : Orc := fun _ ds K => match ds with
  | [.v (.string s)] => K (cellD 2 s false 0 0)
  | _ => False
def clikeO (M : Ops) (C : Cl) : Orc := fun _ ds K => match ds with
  | [.v (.string s)] => C.ok s ∧ bif C.like s then K (.tup [decM M (C.num s), .v (.bool true)]) else K (.tup [decZ, .v (.bool false)])
  | _ => False
def inputO (M : Ops) (C : Cl) : Orc := fun _ ds K => match ds with
  | [.v (.string s)] => C.ok s ∧ bif C.like s then K (cellD 3 s (M.sg (C.num s)) (M.hi (C.num s)) (M.lo (C.num s))) else K (cellD 2 s false 0 0)
  | _ => False
def cgoodO (C : Cl) : Orc := fun _ ds K => match cel? ds with
  | some (k, s, b, x, y) => C.ok s ∧ K (.v (.bool (C.good k s b x y)))
  | none => False
def heldO (C : Cl) : Orc := fun _ ds K => match cel? ds with
  | some (k, s, b, x, y) => C.ok s ∧ bif C.good k s b x y then K (cellD k s b x y) else K cellZ
  | none => False
def cnumberO (M : Ops) (C : Cl) : Orc := fun _ ds K => match cel? ds with
  | some (k, s, b, x, y) => C.ok s ∧ bif C.good k s b x y then bif k == 2 then bif C.big s then K (.tup [decZ, errD 2]) else K (.tup [decM M (C.num s), nilD]) else K (.tup [aggN b x y, nilD]) else K (.tup [decZ, nilD])
  | none => False
def cstringO (C : Cl) : Orc := fun _ ds K => match cel? ds with
  | some (k, s, b, x, y) => C.ok s ∧ bif C.good k s b x y then bif k == 1 then K (vS (C.tx b x y)) else K (vS s) else K (vS ⟨#[]⟩)
  | none => False
def csizeO (C : Cl) : Orc := fun _ ds K => match cel? ds with
  | some (k, s, b, x, y) => C.ok s ∧ bif C.good k s b x y then K (vI (IntKind.i64.wrap (16 + (s.size : Int)))) else K (vI 16)
  | none => False

set_option maxRecDepth 100000 in
theorem cnum_tree (M : Ops) (b : Bool) (x y : Int) (K : D → Prop) : callX Tryd.prog (ctxL [(19, goodC M)] [] 0) 2 9 [aggN b x y] K = (bif !M.good b x y then K cellZ else K (cellD 1 ⟨#[]⟩ b x y)) := by kernel_rfl
set_option maxRecDepth 100000 in
theorem ctext_tree (s : ByteArray) (K : D → Prop) : callX Tryd.prog (ctxL [] [] 0) 2 10 [vS s] K = K (cellD 2 s false 0 0) := by kernel_rfl
def lkSz (s : ByteArray) (X : Prop) : Prop := bif decide (s.size ≤ 1073741824) then X else False
set_option maxRecDepth 100000 in
theorem clike_tree (M : Ops) (V : Nrl) (s : ByteArray) (K : D → Prop) : callX Tryd.prog (ctxL [(24, looksC V), (42, prefixC M V)] [] 0) 2 26 [vS s] K = (
    lkSz s (5 = 5 ∧ V.ok (bytesD s) ∧ bif !V.looks (bytesD s) then K (.tup [decZ, .v (.bool false)]) else lkSz s (5 = 5 ∧ V.ok (bytesD s) ∧ bif V.pbig (bytesD s) then K (.tup [decZ, .v (.bool false)]) else K (.tup [decM M (V.pval (bytesD s)), .v (.bool true)])))) := by kernel_rfl
set_option maxRecDepth 100000 in
theorem cinput_tree (M : Ops) (C : Cl) (s : ByteArray) (K : D → Prop) : callX Tryd.prog (ctxL [(26, clikeO M C), (10, ctextO)] [] 0) 2 11 [vS s] K = (C.ok s ∧ bif C.like s then K (cellD 3 s (M.sg (C.num s)) (M.hi (C.num s)) (M.lo (C.num s))) else K (cellD 2 s false 0 0)) := by kernel_rfl
set_option maxRecDepth 100000 in
theorem cgood_tree (M : Ops) (C : Cl) (k : Int) (s : ByteArray) (b : Bool) (x y : Int) (K : D → Prop) : callX Tryd.prog (ctxL [(9, numO M), (10, ctextO), (11, inputO M C)] [] 0) 2 12 [cellD k s b x y] K = (
    bif k == 0 then K (.v (.bool (eqC k s b x y 0 ⟨#[]⟩ false 0 0))) else bif k == 1 then (bif M.good b x y then K (.v (.bool (eqC k s b x y 1 ⟨#[]⟩ b x y))) else K (.v (.bool (eqC k s b x y 0 ⟨#[]⟩ false 0 0)))) else bif k == 2 then K (.v (.bool (eqC k s b x y 2 s false 0 0))) else bif k == 3 then (C.ok s ∧ bif C.like s then K (.v (.bool (eqC k s b x y 3 s (M.sg (C.num s)) (M.hi (C.num s)) (M.lo (C.num s))))) else K (.v (.bool (eqC k s b x y 2 s false 0 0)))) else K (.v (.bool false))) := by kernel_rfl
set_option maxRecDepth 100000 in
theorem cheld_tree (C : Cl) (k : Int) (s : ByteArray) (b : Bool) (x y : Int) (K : D → Prop) : callX Tryd.prog (ctxL [(12, cgoodO C)] [] 0) 2 36 [cellD k s b x y] K = (C.ok s ∧ bif !C.good k s b x y then K cellZ else K (cellD k s b x y)) := by kernel_rfl
end Go.Proofs.YtlfdelobjbdimaaDoor
