/-
  cell: how two cells compare; awake.
-/
import Derived.Test.YtlfdelobjbdimaaDoorCelC
set_option maxRecDepth 20000
namespace Go.Proofs.YtlfdelobjbdimaaDoor
set_option linter.unusedSimpArgs false
set_option linter.unusedVariables false
open Go.RowKit

/-- How two texts compare, as a variable. -/
def csR : ByteArray → ByteArray → Int := fun a b => Lib.compareBytes a.data.toList b.data.toList
theorem cmp3 : ∀ (a b : List UInt8), Lib.compareBytes a b = -1 ∨ Lib.compareBytes a b = 0 ∨ Lib.compareBytes a b = 1
  | [], [] => .inr (.inl rfl)
  | [], _ :: _ => .inl rfl
  | _ :: _, [] => .inr (.inr rfl)
  | a :: l, b :: m => by
    unfold Lib.compareBytes
    split
    · exact .inl rfl
    · split
      · exact .inr (.inr rfl)
      · exact cmp3 l m
theorem cs_leaf (a b : ByteArray) : leafV (.int .i64 (Lib.compareBytes a.data.toList b.data.toList)) = true := by
  rcases cmp3 a.data.toList b.data.toList with h | h | h <;> rw [h] <;> rfl
def scmpC (cs : ByteArray → ByteArray → Int) : Orc := fun _ ds K => match ds with
  | [.v (.string a), .v (.string b)] => K (vI (cs a b))
  | _ => False
theorem scmp0_ok : Sound 73 (scmpC csR) := by
  intro ds K hK
  unfold scmpC at hK
  split at hK
  · rename_i a b
    refine ⟨_, hK, fun K' h => h, ?_⟩
    intro role w args hlow hmask hsz hargs
    obtain ⟨x, y, rfl, hx, hy⟩ := args_two rfl hsz hargs
    obtain ⟨rfl, _⟩ := rd_v hx
    obtain ⟨rfl, _⟩ := rd_v hy
    unfold CallsV
    rw [run_callFunc_extern Tryd.func73 (by kernel_rfl) (by kernel_rfl) (by kernel_rfl) (e := Extern.BytealgCompare.compare) (by kernel_rfl), Lib.run_compareString]
    exact ⟨_, role, rfl, Exd.refl w, fun _ _ => rfl, hlow, .v (cs_leaf a b)⟩
  · exact hK.elim
theorem scmp_tree0 (cs : ByteArray → ByteArray → Int) (a b : ByteArray) (K : D → Prop) : callX Tryd.prog (ctxL [(73, scmpC cs)] [] 0) 4 37 [vS a, vS b] K = K (vI (cs a b)) := by kernel_rfl
theorem scmpC_ok : Sound 37 (scmpC csR) := by
  refine soundX (n := 4) (ctx0_ok (one_ok scmp0_ok)) fun ds K hK K' => ?_
  unfold scmpC at hK
  split at hK
  · exact scmp_tree0 csR _ _ K'
  · exact hK.elim
def heldT (C : Cl) : Orc := fun _ ds K => match cel? ds with
  | some (k, s, b, x, y) => C.ok s ∧ C.good k s b x y = true ∧ K (cellD k s b x y)
  | none => False
def cstringT (C : Cl) : Orc := fun _ ds K => match cel? ds with
  | some (k, s, b, x, y) => C.ok s ∧ C.good k s b x y = true ∧ bif k == 1 then K (vS (C.tx b x y)) else K (vS s)
  | none => False
theorem heldT_to {C : Cl} {f : Nat} {ds : List D} {K : D → Prop} (h : heldT C f ds K) : heldO C f ds K ∧ ∀ K' : D → Prop, heldO C f ds K' → heldT C f ds K' := by
  revert h; unfold heldT heldO; generalize cel? ds = r; intro h
  match r, h with
  | none, h => exact h.elim
  | some (k, s, b, x, y), h => exact ⟨⟨h.1, by simp only [h.2.1, cond_true]; exact h.2.2⟩, fun K' hK => ⟨h.1, h.2.1, by simp only [h.2.1, cond_true] at hK; exact hK.2⟩⟩
theorem cstringT_to {C : Cl} {f : Nat} {ds : List D} {K : D → Prop} (h : cstringT C f ds K) : cstringO C f ds K ∧ ∀ K' : D → Prop, cstringO C f ds K' → cstringT C f ds K' := by
  revert h; unfold cstringT cstringO; generalize cel? ds = r; intro h
  match r, h with
  | none, h => exact h.elim
  | some (k, s, b, x, y), h => exact ⟨⟨h.1, by simp only [h.2.1, cond_true]; exact h.2.2⟩, fun K' hK => ⟨h.1, h.2.1, by simp only [h.2.1, cond_true] at hK; exact hK.2⟩⟩
def cel2? : List D → Option ((Int × ByteArray × Bool × Int × Int) × (Int × ByteArray × Bool × Int × Int))
  | [.agg [.v (.int .i64 k), .v (.string s), .v (.bool b), .v (.int .u64 x), .v (.int .u64 y)], .agg [.v (.int .i64 k'), .v (.string s'), .v (.bool b'), .v (.int .u64 x'), .v (.int .u64 y')]] => some ((k, s, b, x, y), (k', s', b', x', y'))
  | _ => none
/-- A cell's text. -/
def strC (C : Cl) (k : Int) (s : ByteArray) (b : Bool) (x y : Int) (X : ByteArray → Prop) : Prop := C.ok s ∧ C.good k s b x y = true ∧ bif k == 1 then X (C.tx b x y) else X s
def cmpCells (M : Ops) (C : Cl) (cs : ByteArray → ByteArray → Int) (k : Int) (s : ByteArray) (b : Bool) (x y : Int) (k' : Int) (s' : ByteArray) (b' : Bool) (x' y' : Int) (K : D → Prop) : Prop :=
  C.ok s ∧ C.good k s b x y = true ∧ C.ok s' ∧ C.good k' s' b' x' y' = true ∧
    bif k == 2 then strC C k s b x y fun t => strC C k' s' b' x' y' fun t' => K (vI (cs t t')) else
    bif (bif false then true else k' == 2) then strC C k s b x y fun t => strC C k' s' b' x' y' fun t' => K (vI (cs t t')) else
    bif M.good b x y && M.good b' x' y' then K (.v (.int .i64 (M.cmp (M.val b x y) (M.val b' x' y')))) else K (.v (.int .i64 0))
def ccmpO (M : Ops) (C : Cl) (cs : ByteArray → ByteArray → Int) : Orc := fun _ ds K => match cel2? ds with
  | some ((k, s, b, x, y), (k', s', b', x', y')) => cmpCells M C cs k s b x y k' s' b' x' y' K
  | none => False
def ccmpL (M : Ops) (C : Cl) (cs : ByteArray → ByteArray → Int) : List (Nat × Orc) := [(36, heldT C), (18, cstringT C), (37, scmpC cs), (38, cmpC M)]
set_option maxRecDepth 100000 in
theorem ccmp_tree (M : Ops) (C : Cl) (cs : ByteArray → ByteArray → Int) (k : Int) (s : ByteArray) (b : Bool) (x y : Int) (k' : Int) (s' : ByteArray) (b' : Bool) (x' y' : Int) (K : D → Prop) : callX Tryd.prog (ctxL (ccmpL M C cs) [] 0) 2 16 [cellD k s b x y, cellD k' s' b' x' y'] K = cmpCells M C cs k s b x y k' s' b' x' y' K := by kernel_rfl
theorem ccmpL_ok : ∀ x ∈ ccmpL opsR clR csR, Sound x.1 x.2 := by
  intro x hx
  simp only [ccmpL, List.mem_cons, List.not_mem_nil, or_false] at hx
  rcases hx with rfl | rfl | rfl | rfl
  · exact soundT heldO_ok fun _ _ h => heldT_to h
  · exact soundT cstringO_ok fun _ _ h => cstringT_to h
  · exact scmpC_ok
  · exact cmpC_ok
theorem cel2?_eq {ds : List D} {k : Int} {s : ByteArray} {b : Bool} {x y : Int} {k' : Int} {s' : ByteArray} {b' : Bool} {x' y' : Int} (h : cel2? ds = some ((k, s, b, x, y), (k', s', b', x', y'))) : ds = [cellD k s b x y, cellD k' s' b' x' y'] := by
  unfold cel2? at h
  split at h
  · cases h; rfl
  · cases h
theorem ccmpO_ok : Sound 16 (ccmpO opsR clR csR) := by
  refine soundX (n := 2) (ctx0_ok ccmpL_ok) fun ds K hK K' => ?_
  unfold ccmpO at hK ⊢
  cases e : cel2? ds with
  | none => rw [e] at hK; exact hK.elim
  | some p =>
    obtain ⟨⟨k, s, b, x, y⟩, ⟨k', s', b', x', y'⟩⟩ := p
    rw [cel2?_eq e]
    exact ccmp_tree opsR clR csR k s b x y k' s' b' x' y' K'
end Go.Proofs.YtlfdelobjbdimaaDoor
