/-
  cell: contracts of its functions, by what they answer. cell: its contracts hold. cell: its number, its text, its size, its truth. cell: how two cells compare; awake. cell: contracts that assert; a text's kind.
-/
import Derived.Test.YtlfdelobjbdimaaDoorNrlM
import Derived.Test.YtlfdelobjbdimaaDoorNrlT
import Derived.Test.YtlfdelobjbdimaaDoorTxtC
set_option linter.unusedSimpArgs false
set_option linter.unusedVariables false
set_option maxRecDepth 20000
namespace Go.Proofs.YtlfdelobjbdimaaDoor
set_option linter.unusedSimpArgs false
set_option linter.unusedVariables false
open Go.RowKit

def cellD (k : Int) (s : ByteArray) (b : Bool) (x y : Int) : D := .agg [.v (.int .i64 k), .v (.string s), .v (.bool b), .v (.int .u64 x), .v (.int .u64 y)]
def cellZ : D := cellD 0 ⟨#[]⟩ false 0 0
def aggN (b : Bool) (x y : Int) : D := .agg [.v (.bool b), .v (.int .u64 x), .v (.int .u64 y)]
def cel? : List D → Option (Int × ByteArray × Bool × Int × Int)
  | [.agg [.v (.int .i64 k), .v (.string s), .v (.bool b), .v (.int .u64 x), .v (.int .u64 y)]] => some (k, s, b, x, y)
  | _ => none
theorem cel?_eq {ds : List D} {k : Int} {s : ByteArray} {b : Bool} {x y : Int} (h : cel? ds = some (k, s, b, x, y)) : ds = [cellD k s b x y] := by
  unfold cel? at h
  split at h
  · cases h; rfl
  · cases h
/-- A contract that says what a walk comes to. -/
theorem soundX {C : Ctx} (hC : CtxOK Tryd.prog C) {n f : Nat} {o : Orc} (h : ∀ ds K, o f ds K → ∀ K' : D → Prop, callX Tryd.prog C n f ds K' = o f ds K') : Sound f o := by
  intro ds K hK
  have e := h ds K hK
  have h1 : callX Tryd.prog C n f ds K := by rw [e]; exact hK
  obtain ⟨d, h2, h3, h4⟩ := callX_ok hC n f ds K h1
  exact ⟨d, h2, fun K' h' => by rw [← e]; exact h3 K' h', h4⟩
theorem soundCel {C : Ctx} (hC : CtxOK Tryd.prog C) {n f : Nat} {o : Orc} {m : Int → ByteArray → Bool → Int → Int → (D → Prop) → Prop} (ho : ∀ ds K, o f ds K = match cel? ds with | some (k, s, b, x, y) => m k s b x y K | none => False)
    (h : ∀ k s b x y K, m k s b x y K → ∀ K' : D → Prop, callX Tryd.prog C n f [cellD k s b x y] K' = m k s b x y K') : Sound f o := by
  refine soundX hC (n := n) fun ds K hK K' => ?_
  rw [ho] at hK ⊢
  cases e : cel? ds with
  | none => rw [e] at hK; exact hK.elim
  | some p =>
    obtain ⟨k, s, b, x, y⟩ := p
    rw [e] at hK
    rw [cel?_eq e]
    exact h k s b x y K hK K'
theorem soundStr {C : Ctx} (hC : CtxOK Tryd.prog C) {n f : Nat} {o : Orc} {m : ByteArray → (D → Prop) → Prop} (ho : ∀ ds K, o f ds K = match ds with | [.v (.string s)] => m s K | _ => False)
    (h : ∀ s K, m s K → ∀ K' : D → Prop, callX Tryd.prog C n f [vS s] K' = m s K') : Sound f o := by
  refine soundX hC (n := n) fun ds K hK K' => ?_
  rw [ho] at hK ⊢
  split at hK
  · rename_i s
    exact h s K hK K'
  · exact hK.elim
structure Cl where
  ok : ByteArray → Prop
  like : ByteArray → Bool
  big : ByteArray → Bool
  num : ByteArray → Int
  good : Int → ByteArray → Bool → Int → Int → Bool
  tx : Bool → Int → Int → ByteArray
def eqC (k : Int) (s : ByteArray) (b : Bool) (x y : Int) (k' : Int) (s' : ByteArray) (b' : Bool) (x' y' : Int) : Bool := k == k' && (strEq s s' && ((b == b' && (x == x' && (y == y' && true))) && true))
def goodCl (M : Ops) (like : ByteArray → Bool) (num : ByteArray → Int) (k : Int) (s : ByteArray) (b : Bool) (x y : Int) : Bool :=
  bif k == 0 then eqC k s b x y 0 ⟨#[]⟩ false 0 0 else bif k == 1 then (bif M.good b x y then eqC k s b x y 1 ⟨#[]⟩ b x y else eqC k s b x y 0 ⟨#[]⟩ false 0 0) else bif k == 2 then eqC k s b x y 2 s false 0 0 else bif k == 3 then (bif like s then eqC k s b x y 3 s (M.sg (num s)) (M.hi (num s)) (M.lo (num s)) else eqC k s b x y 2 s false 0 0) else false
def likeR (s : ByteArray) : Bool := nrlR.looks (bytesD s) && !nrlR.pbig (bytesD s)
def numR' (s : ByteArray) : Int := nrlR.pval (bytesD s)
def clR : Cl where
  ok s := s.size < 100000
  like := likeR
  big s := nrlR.pbig (bytesD s)
  num := numR'
  good := goodCl opsR likeR numR'
  tx b x y := bif opsR.good b x y then txC b x y else ⟨#[]⟩
def numO (M : Ops) : Orc := fun _ ds K => match one? ds with
  | some (s, x, y) => bif M.good s x y then K (cellD 1 ⟨#[]⟩ s x y) else K cellZ
  | none => False
def ctextO : Orc := fun _ ds K => match ds with
  | [.v (.string s)] => K (cellD 2 s false 0 0)
  | _ => False
def clikeO (M : Ops) (C : Cl) : Orc := fun _ ds K => match ds with
  | [.v (.string s)] => C.ok s ∧ bif C.like s then K (.tup [decM M (C.num s), .v (.bool true)]) else K (.tup [decZ, .v (.bool false)])
  | _ => False
def inputO (M : Ops) (C : Cl) : Orc := fun _ ds K => match ds with
  | [.v (.string s)] => C.ok s ∧ bif C.like s then K (cellD 3 s (M.sg (C.num s)) (M.hi (C.num s)) (M.lo (C.num s))) else K (cellD 2 s false 0 0)
  | _ => False
def cgoodO (C : Cl) : Orc := fun _ ds K => match cel? ds with
  | some (k, s, b, x, y) => C.ok s ∧ K (.v (.bool (C.good k s b x y)))
  | none => False
def heldO (C : Cl) : Orc := fun _ ds K => match cel? ds with
  | some (k, s, b, x, y) => C.ok s ∧ bif C.good k s b x y then K (cellD k s b x y) else K cellZ
  | none => False
def cnumberO (M : Ops) (C : Cl) : Orc := fun _ ds K => match cel? ds with
  | some (k, s, b, x, y) => C.ok s ∧ bif C.good k s b x y then bif k == 2 then bif C.big s then K (.tup [decZ, errD 2]) else K (.tup [decM M (C.num s), nilD]) else K (.tup [aggN b x y, nilD]) else K (.tup [decZ, nilD])
  | none => False
def cstringO (C : Cl) : Orc := fun _ ds K => match cel? ds with
  | some (k, s, b, x, y) => C.ok s ∧ bif C.good k s b x y then bif k == 1 then K (vS (C.tx b x y)) else K (vS s) else K (vS ⟨#[]⟩)
  | none => False
def csizeO (C : Cl) : Orc := fun _ ds K => match cel? ds with
  | some (k, s, b, x, y) => C.ok s ∧ bif C.good k s b x y then K (vI (IntKind.i64.wrap (16 + (s.size : Int)))) else K (vI 16)
  | none => False

set_option maxRecDepth 100000 in
theorem cnum_tree (M : Ops) (b : Bool) (x y : Int) (K : D → Prop) : callX Tryd.prog (ctxL [(19, goodC M)] [] 0) 2 9 [aggN b x y] K = (bif !M.good b x y then K cellZ else K (cellD 1 ⟨#[]⟩ b x y)) := by kernel_rfl
set_option maxRecDepth 100000 in
theorem ctext_tree (s : ByteArray) (K : D → Prop) : callX Tryd.prog (ctxL [] [] 0) 2 10 [vS s] K = K (cellD 2 s false 0 0) := by kernel_rfl
def lkSz (s : ByteArray) (X : Prop) : Prop := bif decide (s.size ≤ 1073741824) then X else False
set_option maxRecDepth 100000 in
theorem clike_tree (M : Ops) (V : Nrl) (s : ByteArray) (K : D → Prop) : callX Tryd.prog (ctxL [(24, looksC V), (42, prefixC M V)] [] 0) 2 26 [vS s] K = (
    lkSz s (5 = 5 ∧ V.ok (bytesD s) ∧ bif !V.looks (bytesD s) then K (.tup [decZ, .v (.bool false)]) else lkSz s (5 = 5 ∧ V.ok (bytesD s) ∧ bif V.pbig (bytesD s) then K (.tup [decZ, .v (.bool false)]) else K (.tup [decM M (V.pval (bytesD s)), .v (.bool true)])))) := by kernel_rfl
set_option maxRecDepth 100000 in
theorem cinput_tree (M : Ops) (C : Cl) (s : ByteArray) (K : D → Prop) : callX Tryd.prog (ctxL [(26, clikeO M C), (10, ctextO)] [] 0) 2 11 [vS s] K = (C.ok s ∧ bif C.like s then K (cellD 3 s (M.sg (C.num s)) (M.hi (C.num s)) (M.lo (C.num s))) else K (cellD 2 s false 0 0)) := by kernel_rfl
set_option maxRecDepth 100000 in
theorem cgood_tree (M : Ops) (C : Cl) (k : Int) (s : ByteArray) (b : Bool) (x y : Int) (K : D → Prop) : callX Tryd.prog (ctxL [(9, numO M), (10, ctextO), (11, inputO M C)] [] 0) 2 12 [cellD k s b x y] K = (
    bif k == 0 then K (.v (.bool (eqC k s b x y 0 ⟨#[]⟩ false 0 0))) else bif k == 1 then (bif M.good b x y then K (.v (.bool (eqC k s b x y 1 ⟨#[]⟩ b x y))) else K (.v (.bool (eqC k s b x y 0 ⟨#[]⟩ false 0 0)))) else bif k == 2 then K (.v (.bool (eqC k s b x y 2 s false 0 0))) else bif k == 3 then (C.ok s ∧ bif C.like s then K (.v (.bool (eqC k s b x y 3 s (M.sg (C.num s)) (M.hi (C.num s)) (M.lo (C.num s))))) else K (.v (.bool (eqC k s b x y 2 s false 0 0)))) else K (.v (.bool false))) := by kernel_rfl
set_option maxRecDepth 100000 in
theorem cheld_tree (C : Cl) (k : Int) (s : ByteArray) (b : Bool) (x y : Int) (K : D → Prop) : callX Tryd.prog (ctxL [(12, cgoodO C)] [] 0) 2 36 [cellD k s b x y] K = (C.ok s ∧ bif !C.good k s b x y then K cellZ else K (cellD k s b x y)) := by kernel_rfl
end Go.Proofs.YtlfdelobjbdimaaDoor

set_option maxRecDepth 20000
namespace Go.Proofs.YtlfdelobjbdimaaDoor
open Go.RowKit

theorem soundOne {C : Ctx} (hC : CtxOK Tryd.prog C) {n f : Nat} {o : Orc} {m : Bool → Int → Int → (D → Prop) → Prop} (ho : ∀ ds K, o f ds K = match one? ds with | some (s, x, y) => m s x y K | none => False)
    (h : ∀ b x y K, m b x y K → ∀ K' : D → Prop, callX Tryd.prog C n f [aggN b x y] K' = m b x y K') : Sound f o := by
  refine soundX hC (n := n) fun ds K hK K' => ?_
  rw [ho] at hK ⊢
  cases e : one? ds with
  | none => rw [e] at hK; exact hK.elim
  | some p =>
    obtain ⟨b, x, y⟩ := p
    rw [e] at hK
    rw [one?_eq e]
    exact h b x y K hK K'
theorem one_ok {f : Nat} {o : Orc} (h : Sound f o) : ∀ x ∈ [(f, o)], Sound x.1 x.2 := fun x hx => by
  obtain rfl := List.mem_singleton.1 hx; exact h
theorem two_ok {f g : Nat} {o p : Orc} (h : Sound f o) (k : Sound g p) : ∀ x ∈ [(f, o), (g, p)], Sound x.1 x.2 := fun x hx => by
  simp only [List.mem_cons, List.not_mem_nil, or_false] at hx
  rcases hx with rfl | rfl
  · exact h
  · exact k
theorem three_ok {f g i : Nat} {o p q : Orc} (h : Sound f o) (k : Sound g p) (l : Sound i q) : ∀ x ∈ [(f, o), (g, p), (i, q)], Sound x.1 x.2 := fun x hx => by
  simp only [List.mem_cons, List.not_mem_nil, or_false] at hx
  rcases hx with rfl | rfl | rfl
  · exact h
  · exact k
  · exact l
theorem cond_not (c : Bool) (p q : Prop) : (bif !c then p else q) = (bif c then q else p) := by cases c <;> rfl
theorem numO_ok : Sound 9 (numO opsR) := by
  refine soundOne (n := 2) (m := fun b x y K => bif opsR.good b x y then K (cellD 1 ⟨#[]⟩ b x y) else K cellZ) (ctx0_ok (one_ok goodC_ok)) (fun _ _ => rfl) fun b x y K _ K' => ?_
  rw [cnum_tree, cond_not]
theorem ctextO_ok : Sound 10 ctextO := by
  refine soundStr (n := 2) (m := fun s K => K (cellD 2 s false 0 0)) (ctx0_ok none_ok) (fun _ _ => rfl) fun s K _ K' => ?_
  rw [ctext_tree]
theorem okS {s : ByteArray} (h : clR.ok s) : nrlR.ok (bytesD s) := by
  have h' : s.size < 100000 := h
  have e := bytesD_strB (natsB_lt s)
  rw [strB_natsB] at e
  exact ⟨natsB s, e, natsB_lt s, by rw [natsB_len]; omega⟩
theorem lkSz_eq {s : ByteArray} (h : clR.ok s) (X : Prop) : lkSz s X = X := by
  have h' : s.size < 100000 := h
  unfold lkSz
  rw [decide_eq_true (show s.size ≤ 1073741824 by omega)]; rfl
theorem like_gen (okV okC : Prop) (p q : Bool) (a b : Prop) (hV : okV) (hC : okC) (t : Nat) : (t = t ∧ okV ∧ bif !p then a else (t = t ∧ okV ∧ bif q then a else b)) = (okC ∧ bif p && !q then b else a) := by
  cases p <;> cases q <;> simp [hV, hC]
theorem clikeO_ok : Sound 26 (clikeO opsR clR) := by
  refine soundStr (n := 2) (m := fun s K => clR.ok s ∧ bif clR.like s then K (.tup [decM opsR (clR.num s), .v (.bool true)]) else K (.tup [decZ, .v (.bool false)])) (ctx0_ok (two_ok looksC_ok prefixC_ok)) (fun _ _ => rfl) fun s K hK K' => ?_
  rw [clike_tree, lkSz_eq hK.1, lkSz_eq hK.1]
  exact like_gen (nrlR.ok (bytesD s)) (clR.ok s) (nrlR.looks (bytesD s)) (nrlR.pbig (bytesD s)) _ _ (okS hK.1) hK.1 _
theorem inputO_ok : Sound 11 (inputO opsR clR) := by
  refine soundStr (n := 2) (m := fun s K => clR.ok s ∧ bif clR.like s then K (cellD 3 s (opsR.sg (clR.num s)) (opsR.hi (clR.num s)) (opsR.lo (clR.num s))) else K (cellD 2 s false 0 0)) (ctx0_ok (two_ok clikeO_ok ctextO_ok)) (fun _ _ => rfl) fun s K hK K' => ?_
  rw [cinput_tree]
theorem cgood_gen (M : Ops) (C : Cl) (k : Int) (s : ByteArray) (b : Bool) (x y : Int) (K : D → Prop) (h : C.ok s) :
    (bif k == 0 then K (.v (.bool (eqC k s b x y 0 ⟨#[]⟩ false 0 0))) else bif k == 1 then (bif M.good b x y then K (.v (.bool (eqC k s b x y 1 ⟨#[]⟩ b x y))) else K (.v (.bool (eqC k s b x y 0 ⟨#[]⟩ false 0 0)))) else bif k == 2 then K (.v (.bool (eqC k s b x y 2 s false 0 0))) else bif k == 3 then (C.ok s ∧ bif C.like s then K (.v (.bool (eqC k s b x y 3 s (M.sg (C.num s)) (M.hi (C.num s)) (M.lo (C.num s))))) else K (.v (.bool (eqC k s b x y 2 s false 0 0)))) else K (.v (.bool false)))
    = (C.ok s ∧ K (.v (.bool (goodCl M C.like C.num k s b x y)))) := by
  unfold goodCl
  generalize (k == 0) = p0
  generalize (k == 1) = p1
  generalize (k == 2) = p2
  generalize (k == 3) = p3
  generalize M.good b x y = g
  generalize C.like s = l
  cases p0 <;> cases p1 <;> cases p2 <;> cases p3 <;> cases g <;> cases l <;> simp only [cond_true, cond_false, h, true_and]
theorem cgoodO_ok : Sound 12 (cgoodO clR) := by
  refine soundCel (n := 2) (m := fun k s b x y K => clR.ok s ∧ K (.v (.bool (clR.good k s b x y)))) (ctx0_ok (three_ok numO_ok ctextO_ok inputO_ok)) (fun _ _ => rfl) fun k s b x y K hK K' => ?_
  rw [cgood_tree]
  exact cgood_gen opsR clR k s b x y K' hK.1
theorem heldO_ok : Sound 36 (heldO clR) := by
  refine soundCel (n := 2) (m := fun k s b x y K => clR.ok s ∧ bif clR.good k s b x y then K (cellD k s b x y) else K cellZ) (ctx0_ok (one_ok cgoodO_ok)) (fun _ _ => rfl) fun k s b x y K hK K' => ?_
  rw [cheld_tree, cond_not]
end Go.Proofs.YtlfdelobjbdimaaDoor

set_option maxRecDepth 20000
namespace Go.Proofs.YtlfdelobjbdimaaDoor
open Go.RowKit

set_option maxRecDepth 100000 in
theorem cnumber_tree (M : Ops) (V : Nrl) (C : Cl) (k : Int) (s : ByteArray) (b : Bool) (x y : Int) (K : D → Prop) : callX Tryd.prog (ctxL [(36, heldO C), (42, prefixC M V)] [] 0) 2 22 [cellD k s b x y] K = (
    C.ok s ∧ bif C.good k s b x y then bif k != 2 then K (.tup [aggN b x y, nilD]) else lkSz s (5 = 5 ∧ V.ok (bytesD s) ∧ bif V.pbig (bytesD s) then K (.tup [decZ, errD 2]) else K (.tup [decM M (V.pval (bytesD s)), nilD])) else K (.tup [decZ, nilD])) := by kernel_rfl
set_option maxRecDepth 100000 in
theorem cstring_tree (M : Ops) (tx : Bool → Int → Int → ByteArray) (C : Cl) (k : Int) (s : ByteArray) (b : Bool) (x y : Int) (K : D → Prop) : callX Tryd.prog (ctxL [(36, heldO C), (15, textC M tx)] [] 0) 2 18 [cellD k s b x y] K = (
    C.ok s ∧ bif C.good k s b x y then bif k == 1 then (bif M.good b x y then K (vS (tx b x y)) else K (vS ⟨#[]⟩)) else K (vS s) else K (vS ⟨#[]⟩)) := by kernel_rfl
set_option maxRecDepth 100000 in
theorem csize_tree (C : Cl) (k : Int) (s : ByteArray) (b : Bool) (x y : Int) (K : D → Prop) : callX Tryd.prog (ctxL [(36, heldO C)] [] 0) 2 21 [cellD k s b x y] K = (
    C.ok s ∧ bif C.good k s b x y then K (vI (IntKind.i64.wrap (16 + (s.size : Int)))) else K (vI 16)) := by kernel_rfl
def nzN (b : Bool) (x y : Int) : Bool := !(b == false && (x == 0 && (y == 0 && true)))
def ctruthO (C : Cl) : Orc := fun _ ds K => match cel? ds with
  | some (k, s, b, x, y) => C.ok s ∧ bif C.good k s b x y then bif k == 2 then K (.v (.bool (!strEq s ⟨#[]⟩))) else bif k == 3 then K (.v (.bool (nzN b x y))) else bif k == 1 then K (.v (.bool (nzN b x y))) else K (.v (.bool false)) else K (.v (.bool false))
  | none => False
set_option maxRecDepth 100000 in
theorem ctruth_tree (C : Cl) (k : Int) (s : ByteArray) (b : Bool) (x y : Int) (K : D → Prop) : callX Tryd.prog (ctxL [(36, heldO C)] [] 0) 2 17 [cellD k s b x y] K = (
    C.ok s ∧ bif C.good k s b x y then bif k == 2 then K (.v (.bool (!strEq s ⟨#[]⟩))) else bif k == 3 then K (.v (.bool (nzN b x y))) else bif k == 1 then K (.v (.bool (nzN b x y))) else K (.v (.bool false)) else K (.v (.bool false))) := by kernel_rfl
def argD (s : ByteArray) (b : Bool) (x y : Int) (n : Bool) : D := .agg [vS s, .v (.bool b), .v (.int .u64 x), .v (.int .u64 y), .v (.bool n)]
def argZ : D := argD ⟨#[]⟩ false 0 0 false
/-- An argument: of a text, of a number, of a text that looks like one; of a cell that isn't right. -/
def cargO (M : Ops) (C : Cl) : Orc := fun _ ds K => match cel? ds with
  | some (k, s, b, x, y) => C.ok s ∧ bif C.good k s b x y then bif k == 2 then bif C.big s then K (.tup [argZ, errD 2]) else K (.tup [argD s (M.sg (C.num s)) (M.hi (C.num s)) (M.lo (C.num s)) false, nilD]) else bif k == 1 then K (.tup [argD (C.tx b x y) b x y true, nilD]) else K (.tup [argD s b x y (k == 3), nilD]) else K (.tup [argZ, nilD])
  | none => False
def cargL (M : Ops) (C : Cl) : List (Nat × Orc) := [(22, cnumberO M C), (36, heldO C), (18, cstringO C)]
theorem cstring_gen (M : Ops) (tx : Bool → Int → Int → ByteArray) (ok : Prop) (b : Bool) (x y : Int) (p q : Bool) (s : ByteArray) (K : D → Prop) : (ok ∧ bif p then bif q then (bif M.good b x y then K (vS (tx b x y)) else K (vS ⟨#[]⟩)) else K (vS s) else K (vS ⟨#[]⟩)) = (ok ∧ bif p then bif q then K (vS (bif M.good b x y then tx b x y else ⟨#[]⟩)) else K (vS s) else K (vS ⟨#[]⟩)) := by
  generalize M.good b x y = g
  cases p <;> cases q <;> cases g <;> rfl
theorem cstringO_ok : Sound 18 (cstringO clR) := by
  refine soundCel (n := 2) (m := fun k s b x y K => clR.ok s ∧ bif clR.good k s b x y then bif k == 1 then K (vS (clR.tx b x y)) else K (vS s) else K (vS ⟨#[]⟩)) (ctx0_ok (two_ok heldO_ok textC_ok)) (fun _ _ => rfl) fun k s b x y K hK K' => ?_
  rw [cstring_tree]
  exact cstring_gen opsR txC (clR.ok s) b x y _ _ s K'
theorem csizeO_ok : Sound 21 (csizeO clR) := by
  refine soundCel (n := 2) (m := fun k s b x y K => clR.ok s ∧ bif clR.good k s b x y then K (vI (IntKind.i64.wrap (16 + (s.size : Int)))) else K (vI 16)) (ctx0_ok (one_ok heldO_ok)) (fun _ _ => rfl) fun k s b x y K hK K' => ?_
  rw [csize_tree]
theorem ctruthO_ok : Sound 17 (ctruthO clR) := by
  refine soundCel (n := 2) (m := fun k s b x y K => clR.ok s ∧ bif clR.good k s b x y then bif k == 2 then K (.v (.bool (!strEq s ⟨#[]⟩))) else bif k == 3 then K (.v (.bool (nzN b x y))) else bif k == 1 then K (.v (.bool (nzN b x y))) else K (.v (.bool false)) else K (.v (.bool false))) (ctx0_ok (one_ok heldO_ok)) (fun _ _ => rfl) fun k s b x y K hK K' => ?_
  rw [ctruth_tree]
theorem cnumber_gen (okV okC : Prop) (g k q : Bool) (a z e b : Prop) (t : Nat) (hV : okV) (hC : okC) : (okC ∧ bif g then bif !k then a else (t = t ∧ okV ∧ bif q then e else b) else z) = (okC ∧ bif g then bif k then (bif q then e else b) else a else z) := by
  cases g <;> cases k <;> cases q <;> simp [hV, hC]
theorem cnumberO_ok : Sound 22 (cnumberO opsR clR) := by
  refine soundCel (n := 2) (m := fun k s b x y K => clR.ok s ∧ bif clR.good k s b x y then bif k == 2 then bif clR.big s then K (.tup [decZ, errD 2]) else K (.tup [decM opsR (clR.num s), nilD]) else K (.tup [aggN b x y, nilD]) else K (.tup [decZ, nilD])) (ctx0_ok (two_ok heldO_ok prefixC_ok)) (fun _ _ => rfl) fun k s b x y K hK K' => ?_
  rw [cnumber_tree, lkSz_eq hK.1]
  exact cnumber_gen (nrlR.ok (bytesD s)) (clR.ok s) (clR.good k s b x y) (k == 2) (nrlR.pbig (bytesD s)) _ _ _ _ _ (okS hK.1) hK.1
end Go.Proofs.YtlfdelobjbdimaaDoor

set_option maxRecDepth 20000
namespace Go.Proofs.YtlfdelobjbdimaaDoor
open Go.RowKit

/-- How two texts compare, as a variable. -/
def csR : ByteArray → ByteArray → Int := fun a b => Lib.compareBytes a.data.toList b.data.toList
theorem cmp3 : ∀ (a b : List UInt8), Lib.compareBytes a b = -1 ∨ Lib.compareBytes a b = 0 ∨ Lib.compareBytes a b = 1
  | [], [] => .inr (.inl rfl)
  | [], _ :: _ => .inl rfl
  | _ :: _, [] => .inr (.inr rfl)
  | a :: l, b :: m => by
    unfold Lib.compareBytes
    split
    · exact .inl rfl
    · split
      · exact .inr (.inr rfl)
      · exact cmp3 l m
theorem cs_leaf (a b : ByteArray) : leafV (.int .i64 (Lib.compareBytes a.data.toList b.data.toList)) = true := by
  rcases cmp3 a.data.toList b.data.toList with h | h | h <;> rw [h] <;> rfl
def scmpC (cs : ByteArray → ByteArray → Int) : Orc := fun _ ds K => match ds with
  | [.v (.string a), .v (.string b)] => K (vI (cs a b))
  | _ => False
theorem scmp0_ok : Sound 73 (scmpC csR) := by
  intro ds K hK
  unfold scmpC at hK
  split at hK
  · rename_i a b
    refine ⟨_, hK, fun K' h => h, ?_⟩
    intro role w args hlow hmask hsz hargs
    obtain ⟨x, y, rfl, hx, hy⟩ := args_two rfl hsz hargs
    obtain ⟨rfl, _⟩ := rd_v hx
    obtain ⟨rfl, _⟩ := rd_v hy
    unfold CallsV
    rw [run_callFunc_extern Tryd.func73 (by kernel_rfl) (by kernel_rfl) (by kernel_rfl) (e := Extern.BytealgCompare.compare) (by kernel_rfl), Lib.run_compareString]
    exact ⟨_, role, rfl, Exd.refl w, fun _ _ => rfl, hlow, .v (cs_leaf a b)⟩
  · exact hK.elim
theorem scmp_tree0 (cs : ByteArray → ByteArray → Int) (a b : ByteArray) (K : D → Prop) : callX Tryd.prog (ctxL [(73, scmpC cs)] [] 0) 4 37 [vS a, vS b] K = K (vI (cs a b)) := by kernel_rfl
theorem scmpC_ok : Sound 37 (scmpC csR) := by
  refine soundX (n := 4) (ctx0_ok (one_ok scmp0_ok)) fun ds K hK K' => ?_
  unfold scmpC at hK
  split at hK
  · exact scmp_tree0 csR _ _ K'
  · exact hK.elim
def heldT (C : Cl) : Orc := fun _ ds K => match cel? ds with
  | some (k, s, b, x, y) => C.ok s ∧ C.good k s b x y = true ∧ K (cellD k s b x y)
  | none => False
def cstringT (C : Cl) : Orc := fun _ ds K => match cel? ds with
  | some (k, s, b, x, y) => C.ok s ∧ C.good k s b x y = true ∧ bif k == 1 then K (vS (C.tx b x y)) else K (vS s)
  | none => False
theorem heldT_to {C : Cl} {f : Nat} {ds : List D} {K : D → Prop} (h : heldT C f ds K) : heldO C f ds K ∧ ∀ K' : D → Prop, heldO C f ds K' → heldT C f ds K' := by
  revert h; unfold heldT heldO; generalize cel? ds = r; intro h
  match r, h with
  | none, h => exact h.elim
  | some (k, s, b, x, y), h => exact ⟨⟨h.1, by simp only [h.2.1, cond_true]; exact h.2.2⟩, fun K' hK => ⟨h.1, h.2.1, by simp only [h.2.1, cond_true] at hK; exact hK.2⟩⟩
theorem cstringT_to {C : Cl} {f : Nat} {ds : List D} {K : D → Prop} (h : cstringT C f ds K) : cstringO C f ds K ∧ ∀ K' : D → Prop, cstringO C f ds K' → cstringT C f ds K' := by
  revert h; unfold cstringT cstringO; generalize cel? ds = r; intro h
  match r, h with
  | none, h => exact h.elim
  | some (k, s, b, x, y), h => exact ⟨⟨h.1, by simp only [h.2.1, cond_true]; exact h.2.2⟩, fun K' hK => ⟨h.1, h.2.1, by simp only [h.2.1, cond_true] at hK; exact hK.2⟩⟩
def cel2? : List D → Option ((Int × ByteArray × Bool × Int × Int) × (Int × ByteArray × Bool × Int × Int))
  | [.agg [.v (.int .i64 k), .v (.string s), .v (.bool b), .v (.int .u64 x), .v (.int .u64 y)], .agg [.v (.int .i64 k'), .v (.string s'), .v (.bool b'), .v (.int .u64 x'), .v (.int .u64 y')]] => some ((k, s, b, x, y), (k', s', b', x', y'))
  | _ => none
/-- A cell's text. -/
def strC (C : Cl) (k : Int) (s : ByteArray) (b : Bool) (x y : Int) (X : ByteArray → Prop) : Prop := C.ok s ∧ C.good k s b x y = true ∧ bif k == 1 then X (C.tx b x y) else X s
def cmpCells (M : Ops) (C : Cl) (cs : ByteArray → ByteArray → Int) (k : Int) (s : ByteArray) (b : Bool) (x y : Int) (k' : Int) (s' : ByteArray) (b' : Bool) (x' y' : Int) (K : D → Prop) : Prop :=
  C.ok s ∧ C.good k s b x y = true ∧ C.ok s' ∧ C.good k' s' b' x' y' = true ∧
    bif k == 2 then strC C k s b x y fun t => strC C k' s' b' x' y' fun t' => K (vI (cs t t')) else
    bif (bif false then true else k' == 2) then strC C k s b x y fun t => strC C k' s' b' x' y' fun t' => K (vI (cs t t')) else
    bif M.good b x y && M.good b' x' y' then K (.v (.int .i64 (M.cmp (M.val b x y) (M.val b' x' y')))) else K (.v (.int .i64 0))
def ccmpO (M : Ops) (C : Cl) (cs : ByteArray → ByteArray → Int) : Orc := fun _ ds K => match cel2? ds with
  | some ((k, s, b, x, y), (k', s', b', x', y')) => cmpCells M C cs k s b x y k' s' b' x' y' K
  | none => False
def ccmpL (M : Ops) (C : Cl) (cs : ByteArray → ByteArray → Int) : List (Nat × Orc) := [(36, heldT C), (18, cstringT C), (37, scmpC cs), (38, cmpC M)]
set_option maxRecDepth 100000 in
theorem ccmp_tree (M : Ops) (C : Cl) (cs : ByteArray → ByteArray → Int) (k : Int) (s : ByteArray) (b : Bool) (x y : Int) (k' : Int) (s' : ByteArray) (b' : Bool) (x' y' : Int) (K : D → Prop) : callX Tryd.prog (ctxL (ccmpL M C cs) [] 0) 2 16 [cellD k s b x y, cellD k' s' b' x' y'] K = cmpCells M C cs k s b x y k' s' b' x' y' K := by kernel_rfl
theorem ccmpL_ok : ∀ x ∈ ccmpL opsR clR csR, Sound x.1 x.2 := by
  intro x hx
  simp only [ccmpL, List.mem_cons, List.not_mem_nil, or_false] at hx
  rcases hx with rfl | rfl | rfl | rfl
  · exact soundT heldO_ok fun _ _ h => heldT_to h
  · exact soundT cstringO_ok fun _ _ h => cstringT_to h
  · exact scmpC_ok
  · exact cmpC_ok
theorem cel2?_eq {ds : List D} {k : Int} {s : ByteArray} {b : Bool} {x y : Int} {k' : Int} {s' : ByteArray} {b' : Bool} {x' y' : Int} (h : cel2? ds = some ((k, s, b, x, y), (k', s', b', x', y'))) : ds = [cellD k s b x y, cellD k' s' b' x' y'] := by
  unfold cel2? at h
  split at h
  · cases h; rfl
  · cases h
theorem ccmpO_ok : Sound 16 (ccmpO opsR clR csR) := by
  refine soundX (n := 2) (ctx0_ok ccmpL_ok) fun ds K hK K' => ?_
  unfold ccmpO at hK ⊢
  cases e : cel2? ds with
  | none => rw [e] at hK; exact hK.elim
  | some p =>
    obtain ⟨⟨k, s, b, x, y⟩, ⟨k', s', b', x', y'⟩⟩ := p
    rw [cel2?_eq e]
    exact ccmp_tree opsR clR csR k s b x y k' s' b' x' y' K'
end Go.Proofs.YtlfdelobjbdimaaDoor

set_option maxRecDepth 20000
namespace Go.Proofs.YtlfdelobjbdimaaDoor
open Go.RowKit

def numT (M : Ops) : Orc := fun _ ds K => match one? ds with
  | some (s, x, y) => M.good s x y = true ∧ K (cellD 1 ⟨#[]⟩ s x y)
  | none => False
def numN (M : Ops) : Orc := fun _ ds K => match one? ds with
  | some (s, x, y) => M.good s x y = false ∧ K cellZ
  | none => False
theorem numT_to {M : Ops} {f : Nat} {ds : List D} {K : D → Prop} (h : numT M f ds K) : numO M f ds K ∧ ∀ K' : D → Prop, numO M f ds K' → numT M f ds K' := by
  revert h; unfold numT numO; generalize one? ds = r; intro h
  match r, h with
  | none, h => exact h.elim
  | some (s, x, y), h => exact ⟨by simp only [h.1, cond_true]; exact h.2, fun K' hK => ⟨h.1, by simp only [h.1, cond_true] at hK; exact hK⟩⟩
theorem numN_to {M : Ops} {f : Nat} {ds : List D} {K : D → Prop} (h : numN M f ds K) : numO M f ds K ∧ ∀ K' : D → Prop, numO M f ds K' → numN M f ds K' := by
  revert h; unfold numN numO; generalize one? ds = r; intro h
  match r, h with
  | none, h => exact h.elim
  | some (s, x, y), h => exact ⟨by simp only [h.1, cond_false]; exact h.2, fun K' hK => ⟨h.1, by simp only [h.1, cond_false] at hK; exact hK⟩⟩
def inputT (M : Ops) (C : Cl) : Orc := fun _ ds K => match ds with
  | [.v (.string s)] => C.ok s ∧ C.like s = true ∧ K (cellD 3 s (M.sg (C.num s)) (M.hi (C.num s)) (M.lo (C.num s)))
  | _ => False
def inputN (C : Cl) : Orc := fun _ ds K => match ds with
  | [.v (.string s)] => C.ok s ∧ C.like s = false ∧ K (cellD 2 s false 0 0)
  | _ => False
theorem inputT_to {M : Ops} {C : Cl} {f : Nat} {ds : List D} {K : D → Prop} (h : inputT M C f ds K) : inputO M C f ds K ∧ ∀ K' : D → Prop, inputO M C f ds K' → inputT M C f ds K' := by
  unfold inputT at h
  split at h
  · obtain ⟨h1, h2, h3⟩ := h
    refine ⟨⟨h1, by rw [h2]; exact h3⟩, fun K' hK => ⟨h1, h2, ?_⟩⟩
    have := hK.2
    rw [h2] at this; exact this
  · exact h.elim
theorem inputN_to {M : Ops} {C : Cl} {f : Nat} {ds : List D} {K : D → Prop} (h : inputN C f ds K) : inputO M C f ds K ∧ ∀ K' : D → Prop, inputO M C f ds K' → inputN C f ds K' := by
  unfold inputN at h
  split at h
  · obtain ⟨h1, h2, h3⟩ := h
    refine ⟨⟨h1, by rw [h2]; exact h3⟩, fun K' hK => ⟨h1, h2, ?_⟩⟩
    have := hK.2
    rw [h2] at this; exact this
  · exact h.elim
def ccmpT (M : Ops) (C : Cl) (cs : ByteArray → ByteArray → Int) : Orc := fun _ ds K => match cel2? ds with
  | some ((k, s, b, x, y), (k', s', b', x', y')) => C.ok s ∧ C.good k s b x y = true ∧ C.ok s' ∧ C.good k' s' b' x' y' = true ∧
      bif k == 2 || k' == 2 then K (vI (cs (bif k == 1 then C.tx b x y else s) (bif k' == 1 then C.tx b' x' y' else s'))) else M.good b x y = true ∧ M.good b' x' y' = true ∧ K (.v (.int .i64 (M.cmp (M.val b x y) (M.val b' x' y'))))
  | none => False
theorem cmpCells_eq (M : Ops) (C : Cl) (cs : ByteArray → ByteArray → Int) (k : Int) (s : ByteArray) (b : Bool) (x y : Int) (k' : Int) (s' : ByteArray) (b' : Bool) (x' y' : Int) (h1 : C.ok s) (h2 : C.good k s b x y = true) (h3 : C.ok s') (h4 : C.good k' s' b' x' y' = true)
    (h5 : (k == 2 || k' == 2) = false → M.good b x y = true ∧ M.good b' x' y' = true) (K : D → Prop) : cmpCells M C cs k s b x y k' s' b' x' y' K = bif k == 2 || k' == 2 then K (vI (cs (bif k == 1 then C.tx b x y else s) (bif k' == 1 then C.tx b' x' y' else s'))) else K (.v (.int .i64 (M.cmp (M.val b x y) (M.val b' x' y')))) := by
  unfold cmpCells strC
  revert h5
  generalize (k == 2) = p
  generalize (k' == 2) = p'
  generalize (k == 1) = q
  generalize (k' == 1) = q'
  intro h5
  cases p <;> cases p' <;> cases q <;> cases q' <;> simp only [h1, h2, h3, h4, cond_true, cond_false, Bool.or_false, Bool.or_true, Bool.false_or, Bool.true_or, true_and] <;> rw [(h5 rfl).1, (h5 rfl).2] <;> rfl
theorem ccmpT_to {M : Ops} {C : Cl} {cs : ByteArray → ByteArray → Int} {f : Nat} {ds : List D} {K : D → Prop} (h : ccmpT M C cs f ds K) : ccmpO M C cs f ds K ∧ ∀ K' : D → Prop, ccmpO M C cs f ds K' → ccmpT M C cs f ds K' := by
  revert h; unfold ccmpT ccmpO; generalize cel2? ds = r; intro h
  match r, h with
  | none, h => exact h.elim
  | some ((k, s, b, x, y), (k', s', b', x', y')), h =>
    obtain ⟨h1, h2, h3, h4, h5⟩ := h
    have h6 : (k == 2 || k' == 2) = false → M.good b x y = true ∧ M.good b' x' y' = true := fun e => by
      rw [e, cond_false] at h5; exact ⟨h5.1, h5.2.1⟩
    simp only [cmpCells_eq M C cs k s b x y k' s' b' x' y' h1 h2 h3 h4 h6]
    cases e : (k == 2 || k' == 2) with
    | true => rw [e] at h5; exact ⟨h5, fun K' hK => ⟨h1, h2, h3, h4, hK⟩⟩
    | false => rw [e] at h5; exact ⟨h5.2.2, fun K' hK => ⟨h1, h2, h3, h4, h5.1, h5.2.1, hK⟩⟩
/-! ### A text's kind, by the document -/
def kindO (C : Cl) : Orc := fun _ ds K => match ds with
  | [.v (.string s)] => C.ok s ∧ bif C.like s then K (vI 3) else K (vI 2)
  | _ => False
set_option maxRecDepth 100000 in
theorem kind_tree (G : Gots) (s : ByteArray) (K : D → Prop) : callX Tryd.prog (ctxL [(50, rlC G), (51, gotC G)] [] 0) 3 14 [vS s] K = (
    G.ok s ∧ bif G.looks s then G.ok s ∧ bif (bif true then G.e s == 0 else false) then K (vI 3) else K (vI 2) else K (vI 2)) := by kernel_rfl
theorem kind_gen (okG okC : Prop) (p q : Bool) (a b : Prop) (hG : okG) (hC : okC) : (okG ∧ bif p then okG ∧ bif (bif true then q else false) then a else b else b) = (okC ∧ bif p && q then a else b) := by
  cases p <;> cases q <;> simp [hG, hC]
theorem likeR_eq (s : ByteArray) : likeR s = (gotsR.looks s && (gotsR.e s == 0)) := by
  have e := bytesD_strB (natsB_lt s)
  rw [strB_natsB] at e
  unfold likeR
  rw [e, nrl_looks, nrl_pbig]
  show (looksN (natsB s) && !pBig (natsB s)) = (looksN (natsB s) && (gotE (natsB s) == 0))
  have e2 : gotE (natsB s) = bif pBig (natsB s) then 2 else 0 := rfl
  rw [e2]
  cases pBig (natsB s) <;> rfl
theorem kindO_ok : Sound 14 (kindO clR) := by
  refine soundStr (n := 3) (m := fun s K => clR.ok s ∧ bif clR.like s then K (vI 3) else K (vI 2)) (ctx0_ok (two_ok rlC_ok gotC_ok)) (fun _ _ => rfl) fun s K hK K' => ?_
  rw [kind_tree, kind_gen (gotsR.ok s) (clR.ok s) (gotsR.looks s) (gotsR.e s == 0) _ _ hK.1 hK.1]
  have e : clR.like s = likeR s := rfl
  rw [e, likeR_eq]
end Go.Proofs.YtlfdelobjbdimaaDoor
