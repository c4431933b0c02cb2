/-
  The tree of fieldfareref02's Prefix.
-/
import Derived.Test.YtlfdelobjbdimaaDoorNrlP
set_option maxRecDepth 20000
namespace Go.Proofs.YtlfdelobjbdimaaDoor
set_option linter.unusedSimpArgs false
set_option linter.unusedVariables false
open Go.RowKit

def pfJ : List Nat := (List.range 159).map (· + 13)
def slD (es : List (List D)) (n : Int) (K : List (List D) → Prop) : Prop :=
  bif 3 == 3 && (Tryd.prog.info? 3).isSome && decide (0 ≤ Int.ofNat 0) && decide (Int.ofNat 0 ≤ n) && decide (n ≤ (es.length : Int)) then K (List.drop (Int.ofNat 0).toNat (List.take n.toNat es)) else False
def gotD (neg : Bool) (es : List (List D)) (i e : Int) : D := .agg [.v (.bool neg), .list false 3 es, .v (.int .i64 i), .v (.int .i64 e)]
def pfEnd (neg : Bool) (i n : Int) (es : List (List D)) (K : D → Prop) : Prop :=
  bif decide (n > 36) then K (gotD false [] i 2) else bif neg then slD es n fun ds => K (gotD (bif true then decide (n > 0) else false) ds i 0) else slD es n fun ds => K (gotD false ds i 0)
/-- What the loops are given and give. -/
structure PfA where
  s : ByteArray
  i : Int
  ng : Bool
  I1 : Int
  i1 : Int
  w : ByteArray
  K0 : Int
  k1 : Int
  r : ByteArray
  I3 : Int
  R3 : ByteArray
  e1 : List (List D)
  e2 : List (List D)
  n : Int
def pf3 (A : PfA) (i : Int) (r : ByteArray) (es : List (List D)) (k : Int) : List D := pfS A.s (vI i) (.v (.bool A.ng)) (vS A.w) (vS r) .undef (.list true 3 es) (vI k) .undef .undef
def pf4 (A : PfA) (es : List (List D)) (k : Int) : List D := pfS A.s (vI A.I3) (.v (.bool A.ng)) (vS A.w) (vS A.R3) .undef (.list true 3 es) .undef (vI k) .undef
def pf5 (A : PfA) (n : Int) : List D := pfS A.s (vI A.I3) (.v (.bool A.ng)) .undef .undef .undef (.list true 3 A.e2) .undef .undef (vI n)
def pf1 (A : PfA) (ng : Bool) (i : Int) (w : ByteArray) : List D := pfS A.s (vI i) (.v (.bool ng)) (vS w) .undef .undef .undef .undef .undef .undef
def pf2 (A : PfA) (r : ByteArray) (k : Int) : List D := pfS A.s (vI A.i1) (.v (.bool A.ng)) (vS A.w) (vS r) (vI k) .undef .undef .undef .undef
def pf0 (A : PfA) (i : Int) : List D := pfS A.s (vI i) .undef .undef .undef .undef .undef .undef .undef .undef
def pfMid (A : PfA) (i : Int) (r : ByteArray) (K : D → Prop) : Prop :=
  bif IntKind.i64.wrap ((A.w.size : Int) + (r.size : Int)) == 0 then K (gotD false [] 0 0) else
    pf3 A i r [] 5 = pf3 A A.I3 A.R3 [] 5 ∧ pf4 A A.e1 (IntKind.i64.wrap ((A.w.size : Int) - 1)) = pf4 A A.e1 (IntKind.i64.wrap ((A.w.size : Int) - 1)) ∧ pf5 A A.e2.length = pf5 A A.e2.length ∧ pfEnd A.ng A.I3 A.n A.e2 K
def pfTail (A : PfA) (K : D → Prop) : Prop :=
  bif decide (A.i1 < (A.s.size : Int)) then atS A.s A.i1 (bif bif true then byteAt A.s A.i1.toNat == 46 else false then
    pf2 A ⟨#[]⟩ (IntKind.i64.wrap (A.i1 + 1)) = pf2 A ⟨#[]⟩ A.K0 ∧ bif decide (IntKind.i64.wrap ((A.w.size : Int) + (A.r.size : Int)) > 0) then pfMid A A.k1 A.r K else pfMid A A.i1 A.r K
    else pfMid A A.i1 ⟨#[]⟩ K) else pfMid A A.i1 ⟨#[]⟩ K
def pfOne (A : PfA) (ng : Bool) (i : Int) (K : D → Prop) : Prop := pf1 A ng i ⟨#[]⟩ = pf1 A A.ng A.I1 ⟨#[]⟩ ∧ pfTail A K
def pfSign (A : PfA) (K : D → Prop) : Prop :=
  bif decide (A.i < (A.s.size : Int)) then atS A.s A.i (bif byteAt A.s A.i.toNat == 43 then atS A.s A.i (pfOne A (byteAt A.s A.i.toNat == 45) (IntKind.i64.wrap (A.i + 1)) K) else
    atS A.s A.i (bif bif true then bif false then true else byteAt A.s A.i.toNat == 45 else false then atS A.s A.i (pfOne A (byteAt A.s A.i.toNat == 45) (IntKind.i64.wrap (A.i + 1)) K) else pfOne A false A.i K))
  else pfOne A false A.i K
def pfLL (A : PfA) : List (Nat × Nat × (List D → (AExit → List D → Prop) → Prop)) := [
  (51, 2, onceL pfJ (pf0 A 0) (pf0 A A.i) (.exit 0)),
  (51, 9, onceL pfJ (pf1 A A.ng A.I1 ⟨#[]⟩) (pf1 A A.ng A.i1 A.w) (.exit 2)),
  (51, 15, onceL pfJ (pf2 A ⟨#[]⟩ A.K0) (pf2 A A.r A.k1) (.exit 4)),
  (51, 24, onceL (7 :: pfJ) (pf3 A A.I3 A.R3 [] 5) (pf3 A A.I3 A.R3 A.e1 (-1)) (.exit 6)),
  (51, 31, onceL (9 :: 10 :: pfJ) (pf4 A A.e1 (IntKind.i64.wrap ((A.w.size : Int) - 1))) (pf4 A A.e2 (-1)) (.exit 8)),
  (51, 35, onceL (5 :: 6 :: 11 :: pfJ) (pf5 A A.e2.length) (pf5 A A.n) (.exit 10))]
set_option maxRecDepth 100000 in
theorem pf_tree (A : PfA) (bl dg : Int → Bool) (K : D → Prop) : callX Tryd.prog (ctxL (pfL bl dg) (pfLL A) 0) 2 51 [.v (.string A.s)] K = (pf0 A 0 = pf0 A 0 ∧ pfSign A K) := by kernel_rfl
end Go.Proofs.YtlfdelobjbdimaaDoor
