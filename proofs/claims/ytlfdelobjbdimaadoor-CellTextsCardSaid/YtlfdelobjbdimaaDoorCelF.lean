/-
  The walk of the law CellMakes, and the plain law; awake of layer 9.
-/
import Derived.Test.YtlfdelobjbdimaaDoorCelA
set_option maxRecDepth 20000
namespace Go.Proofs.YtlfdelobjbdimaaDoor
set_option linter.unusedSimpArgs false
set_option linter.unusedVariables false
open Go.RowKit

def aw9L (M : Ops) (C : Cl) (cs : ByteArray → ByteArray → Int) : List (Nat × Orc) := [(11, inputT M C), (16, ccmpT M C cs), (10, ctextO), (25, intT M), (9, numT M), (18, cstringT C)]
def s10 : ByteArray := ⟨#[49, 48]⟩
def s9 : ByteArray := ⟨#[57]⟩
def s0 : ByteArray := ⟨#[]⟩
def aw9T (M : Ops) (C : Cl) (cs : ByteArray → ByteArray → Int) (K : D → Prop) : Prop :=
  C.ok s10 ∧ C.like s10 = true ∧ C.ok s9 ∧ C.like s9 = true ∧ C.ok s10 ∧ C.good 3 s10 (M.sg (C.num s10)) (M.hi (C.num s10)) (M.lo (C.num s10)) = true ∧ C.ok s9 ∧ C.good 3 s9 (M.sg (C.num s9)) (M.hi (C.num s9)) (M.lo (C.num s9)) = true ∧
    M.good (M.sg (C.num s10)) (M.hi (C.num s10)) (M.lo (C.num s10)) = true ∧ M.good (M.sg (C.num s9)) (M.hi (C.num s9)) (M.lo (C.num s9)) = true ∧
    bif M.cmp (M.val (M.sg (C.num s10)) (M.hi (C.num s10)) (M.lo (C.num s10))) (M.val (M.sg (C.num s9)) (M.hi (C.num s9)) (M.lo (C.num s9))) == 1 then
      C.ok s9 ∧ C.like s9 = true ∧ C.ok s10 ∧ C.good 2 s10 false 0 0 = true ∧ C.ok s9 ∧ C.good 3 s9 (M.sg (C.num s9)) (M.hi (C.num s9)) (M.lo (C.num s9)) = true ∧
      bif (bif true then cs s10 s9 == -1 else false) then M.isInt 5 = true ∧ M.good (M.sg (M.int 5)) (M.hi (M.int 5)) (M.lo (M.int 5)) = true ∧ C.ok s0 ∧ C.good 1 s0 (M.sg (M.int 5)) (M.hi (M.int 5)) (M.lo (M.int 5)) = true ∧
        K (.v (.bool (bif true then strEq (C.tx (M.sg (M.int 5)) (M.hi (M.int 5)) (M.lo (M.int 5))) ⟨#[53]⟩ else false)))
      else K (.v (.bool false))
    else K (.v (.bool false))
set_option maxRecDepth 100000 in
theorem aw9_tree (M : Ops) (C : Cl) (cs : ByteArray → ByteArray → Int) (K : D → Prop) : callX Tryd.prog (ctxL (aw9L M C cs) [] 0) 2 8 [] K = aw9T M C cs K := by kernel_rfl
/-- What is said of cells. -/
structure Cells (M : Ops) (C : Cl) : Prop where
  g0 : C.good 0 s0 false 0 0 = true
  g1 : ∀ b x y, M.good b x y = true → C.good 1 s0 b x y = true
  g2 : ∀ s, C.good 2 s false 0 0 = true
  g3 : ∀ s, C.like s = true → C.good 3 s (M.sg (C.num s)) (M.hi (C.num s)) (M.lo (C.num s)) = true
  ok0 : C.ok s0
theorem eqC_self (k : Int) (s : ByteArray) (b : Bool) (x y : Int) : eqC k s b x y k s b x y = true := by
  unfold eqC
  rw [strEq_self, beq_self_eq_true, beq_self_eq_true, beq_self_eq_true, beq_self_eq_true]; rfl
theorem goodCl_laws (M : Ops) (like : ByteArray → Bool) (num : ByteArray → Int) : goodCl M like num 0 s0 false 0 0 = true ∧ (∀ b x y, M.good b x y = true → goodCl M like num 1 s0 b x y = true) ∧ (∀ s, goodCl M like num 2 s false 0 0 = true) ∧ (∀ s, like s = true → goodCl M like num 3 s (M.sg (num s)) (M.hi (num s)) (M.lo (num s)) = true) := by
  refine ⟨eqC_self 0 s0 false 0 0, fun b x y h => ?_, fun s => eqC_self 2 s false 0 0, fun s h => ?_⟩
  · show (bif M.good b x y then eqC 1 s0 b x y 1 ⟨#[]⟩ b x y else eqC 1 s0 b x y 0 ⟨#[]⟩ false 0 0) = true
    rw [h]; exact eqC_self 1 s0 b x y
  · show (bif like s then eqC 3 s (M.sg (num s)) (M.hi (num s)) (M.lo (num s)) 3 s (M.sg (num s)) (M.hi (num s)) (M.lo (num s)) else eqC 3 s (M.sg (num s)) (M.hi (num s)) (M.lo (num s)) 2 s false 0 0) = true
    rw [h]; exact eqC_self 3 s _ _ _
theorem ok_small {s : ByteArray} (h : s.size < 100000) : clR.ok s := h
theorem cellsR : Cells opsR clR := by
  obtain ⟨a, b, c, d⟩ := goodCl_laws opsR likeR numR'
  exact ⟨a, b, c, d, ok_small (by decide)⟩
theorem aw9_gen (M : Ops) (C : Cl) (cs : ByteArray → ByteArray → Int) (K : D → Prop) (h : Cells M C) (k10 : C.ok s10) (k9 : C.ok s9) (l10 : C.like s10 = true) (l9 : C.like s9 = true) (f10 : M.good (M.sg (C.num s10)) (M.hi (C.num s10)) (M.lo (C.num s10)) = true) (f9 : M.good (M.sg (C.num s9)) (M.hi (C.num s9)) (M.lo (C.num s9)) = true)
    (hc : M.cmp (M.val (M.sg (C.num s10)) (M.hi (C.num s10)) (M.lo (C.num s10))) (M.val (M.sg (C.num s9)) (M.hi (C.num s9)) (M.lo (C.num s9))) = 1) (hs : cs s10 s9 = -1) (hi : M.isInt 5 = true) (h5 : M.good (M.sg (M.int 5)) (M.hi (M.int 5)) (M.lo (M.int 5)) = true)
    (ht : strEq (C.tx (M.sg (M.int 5)) (M.hi (M.int 5)) (M.lo (M.int 5))) ⟨#[53]⟩ = true) (hK : K (.v (.bool true))) : Prf (aw9T M C cs K) := by
  refine ⟨?_⟩
  unfold aw9T
  rw [hc, hs, ht]
  exact ⟨k10, l10, k9, l9, k10, h.g3 _ l10, k9, h.g3 _ l9, f10, f9, k9, l9, k10, h.g2 _, k9, h.g3 _ l9, hi, h5, h.ok0, h.g1 _ _ _ h5, hK⟩
theorem aw9L_ok : ∀ x ∈ aw9L opsR clR csR, Sound x.1 x.2 := by
  intro x hx
  simp only [aw9L, List.mem_cons, List.not_mem_nil, or_false] at hx
  rcases hx with rfl | rfl | rfl | rfl | rfl | rfl
  · exact soundT inputO_ok fun _ _ h => inputT_to h
  · exact soundT ccmpO_ok fun _ _ h => ccmpT_to h
  · exact ctextO_ok
  · exact intT_ok
  · exact soundT numO_ok fun _ _ h => numT_to h
  · exact soundT cstringO_ok fun _ _ h => cstringT_to h
theorem num10 : clR.num s10 = 10000000 := by kernel_rfl
theorem num9 : clR.num s9 = 9000000 := by kernel_rfl
theorem like10 : clR.like s10 = true := by kernel_rfl
theorem like9 : clR.like s9 = true := by kernel_rfl
theorem cs109 : csR s10 s9 = -1 := by decide +kernel
theorem vz_back (z : Int) : opsR.val (opsR.sg z) (opsR.hi z) (opsR.lo z) = z := vz_eq z
theorem txC_z' (z : Int) : txC (opsR.sg z) (opsR.hi z) (opsR.lo z) = strB (txtZ z) := by
  unfold txC txtZ
  rw [l_mag]; rfl
theorem fit5 : opsR.fit (opsR.int 5) = true := by decide +kernel
theorem tx5 : strEq (clR.tx (opsR.sg (opsR.int 5)) (opsR.hi (opsR.int 5)) (opsR.lo (opsR.int 5))) ⟨#[53]⟩ = true := by
  have e0 : clR.tx (opsR.sg (opsR.int 5)) (opsR.hi (opsR.int 5)) (opsR.lo (opsR.int 5)) = bif opsR.good (opsR.sg (opsR.int 5)) (opsR.hi (opsR.int 5)) (opsR.lo (opsR.int 5)) then txC (opsR.sg (opsR.int 5)) (opsR.hi (opsR.int 5)) (opsR.lo (opsR.int 5)) else ⟨#[]⟩ := rfl
  have e1 : opsR.good (opsR.sg (opsR.int 5)) (opsR.hi (opsR.int 5)) (opsR.lo (opsR.int 5)) = true := (ops_good (opsR.int 5)).trans fit5
  rw [e0, e1, cond_true, txC_z']
  have e2 : opsR.int 5 = 5000000 := rfl
  have e3 : txtZ 5000000 = [53] := by
    unfold txtZ txN
    have : decide ((5000000 : Int) < 0) = false := by decide
    rw [this, show (5000000 : Int).natAbs = 5000000 from rfl, show 5000000 / 1000000 = 5 from rfl, show 5000000 % 1000000 = 0 from rfl, iD_one (by omega)]
    rfl
  rw [e2, e3]
  exact strEq_self _
theorem aw9_ps : PS Tryd.prog 8 [] (.v (.bool true)) := by
  refine callX_eq (n := 2) (ctx0_ok aw9L_ok) ?_
  rw [aw9_tree]
  have f10 : opsR.good (opsR.sg (clR.num s10)) (opsR.hi (clR.num s10)) (opsR.lo (clR.num s10)) = true := by rw [ops_good, num10]; decide +kernel
  have f9 : opsR.good (opsR.sg (clR.num s9)) (opsR.hi (clR.num s9)) (opsR.lo (clR.num s9)) = true := by rw [ops_good, num9]; decide +kernel
  have hc : opsR.cmp (opsR.val (opsR.sg (clR.num s10)) (opsR.hi (clR.num s10)) (opsR.lo (clR.num s10))) (opsR.val (opsR.sg (clR.num s9)) (opsR.hi (clR.num s9)) (opsR.lo (clR.num s9))) = 1 := by rw [vz_back, vz_back, num10, num9]; decide +kernel
  obtain ⟨h⟩ := aw9_gen opsR clR csR (fun d => d = .v (.bool true)) cellsR (ok_small (by decide)) (ok_small (by decide)) like10 like9 f10 f9 hc cs109 (isInt_any (by omega) (by omega)) ((ops_good (opsR.int 5)).trans fit5) tx5 rfl
  exact h
def awkC : Orc := fun _ ds K => match ds with
  | [] => K (.v (.bool true))
  | _ => False
theorem awkC_ok : Sound 8 awkC := by
  intro ds K hK
  unfold awkC at hK
  split at hK
  · exact ⟨_, hK, fun K' h => h, aw9_ps⟩
  · exact hK.elim

/-! ### CellMakes -/
def cmEnd (C : Cl) (l : Bool) (k3 : Int) (s : ByteArray) (K : D → Prop) : Prop := C.ok s ∧ C.like s = l ∧ bif k3 == (bif l then 3 else 2) then K (.v (.bool (bif true then strEq s s else false))) else K (.v (.bool false))
def cmGood (C : Cl) (k1 : Int) (b1 : Bool) (x1 y1 : Int) (k3 : Int) (b3 : Bool) (x3 y3 : Int) (s : ByteArray) (X : Prop) (K : D → Prop) : Prop :=
  C.ok s0 ∧ bif !C.good k1 s0 b1 x1 y1 then K (.v (.bool false)) else C.ok s ∧ bif (bif false then true else !C.good 2 s false 0 0) then K (.v (.bool false)) else C.ok s ∧ bif (bif false then true else !C.good k3 s b3 x3 y3) then K (.v (.bool false)) else
    bif (bif false then true else !eqC 2 s false 0 0 2 s false 0 0) then K (.v (.bool false)) else X

def kindT (C : Cl) (l : Bool) : Orc := fun _ ds K => match ds with
  | [.v (.string s)] => C.ok s ∧ C.like s = l ∧ bif l then K (vI 3) else K (vI 2)
  | _ => False
theorem kindT_to {C : Cl} {l : Bool} {f : Nat} {ds : List D} {K : D → Prop} (h : kindT C l f ds K) : kindO C f ds K ∧ ∀ K' : D → Prop, kindO C f ds K' → kindT C l f ds K' := by
  unfold kindT at h
  split at h
  · obtain ⟨h1, h2, h3⟩ := h
    refine ⟨⟨h1, by rw [h2]; exact h3⟩, fun K' hK => ⟨h1, h2, ?_⟩⟩
    have := hK.2
    rw [h2] at this; exact this
  · exact h.elim
def cmL (M : Ops) (C : Cl) (num inp good : Orc) (l : Bool) : List (Nat × Orc) := [(8, awkC), (9, num), (10, ctextO), (11, inp), (12, cgoodO C), (13, good), (14, kindT C l)]
theorem cmL_ok {num inp good : Orc} (l : Bool) (h1 : Sound 9 num) (h2 : Sound 11 inp) (h3 : Sound 13 good) : ∀ x ∈ cmL opsR clR num inp good l, Sound x.1 x.2 := by
  intro x hx
  simp only [cmL, List.mem_cons, List.not_mem_nil, or_false] at hx
  rcases hx with rfl | rfl | rfl | rfl | rfl | rfl | rfl
  · exact awkC_ok
  · exact h1
  · exact ctextO_ok
  · exact h2
  · exact cgoodO_ok
  · exact h3
  · exact soundT kindO_ok fun _ _ h => kindT_to h
set_option maxRecDepth 100000 in
theorem cm_treeTT (M : Ops) (C : Cl) (b : Bool) (x y : Int) (s : ByteArray) (K : D → Prop) : callX Tryd.prog (ctxL (cmL M C (numT M) (inputT M C) (goodT M) true) [] 0) 2 3 [aggN b x y, vS s] K = (
    bif decide ((s.size : Int) > 200) then K (.v (.bool true)) else M.good b x y = true ∧ C.ok s ∧ C.like s = true ∧ cmGood C 1 b x y 3 (M.sg (C.num s)) (M.hi (C.num s)) (M.lo (C.num s)) s (M.good b x y = true ∧ M.good b x y = true ∧ bif (bif false then true else bif true then !eqC 1 s0 b x y 1 s0 b x y else false) then K (.v (.bool false)) else cmEnd C true 3 s K) K) := by kernel_rfl
set_option maxRecDepth 100000 in
theorem cm_treeTN (M : Ops) (C : Cl) (b : Bool) (x y : Int) (s : ByteArray) (K : D → Prop) : callX Tryd.prog (ctxL (cmL M C (numT M) (inputN C) (goodT M) false) [] 0) 2 3 [aggN b x y, vS s] K = (
    bif decide ((s.size : Int) > 200) then K (.v (.bool true)) else M.good b x y = true ∧ C.ok s ∧ C.like s = false ∧ cmGood C 1 b x y 2 false 0 0 s (M.good b x y = true ∧ M.good b x y = true ∧ bif (bif false then true else bif true then !eqC 1 s0 b x y 1 s0 b x y else false) then K (.v (.bool false)) else cmEnd C false 2 s K) K) := by kernel_rfl
set_option maxRecDepth 100000 in
theorem cm_treeNT (M : Ops) (C : Cl) (b : Bool) (x y : Int) (s : ByteArray) (K : D → Prop) : callX Tryd.prog (ctxL (cmL M C (numN M) (inputT M C) (goodN M) true) [] 0) 2 3 [aggN b x y, vS s] K = (
    bif decide ((s.size : Int) > 200) then K (.v (.bool true)) else M.good b x y = false ∧ C.ok s ∧ C.like s = true ∧ cmGood C 0 false 0 0 3 (M.sg (C.num s)) (M.hi (C.num s)) (M.lo (C.num s)) s (M.good b x y = false ∧ M.good b x y = false ∧ cmEnd C true 3 s K) K) := by kernel_rfl
set_option maxRecDepth 100000 in
theorem cm_treeNN (M : Ops) (C : Cl) (b : Bool) (x y : Int) (s : ByteArray) (K : D → Prop) : callX Tryd.prog (ctxL (cmL M C (numN M) (inputN C) (goodN M) false) [] 0) 2 3 [aggN b x y, vS s] K = (
    bif decide ((s.size : Int) > 200) then K (.v (.bool true)) else M.good b x y = false ∧ C.ok s ∧ C.like s = false ∧ cmGood C 0 false 0 0 2 false 0 0 s (M.good b x y = false ∧ M.good b x y = false ∧ cmEnd C false 2 s K) K) := by kernel_rfl
theorem cmGood_gen (C : Cl) (k1 : Int) (b1 : Bool) (x1 y1 : Int) (k3 : Int) (b3 : Bool) (x3 y3 : Int) (s : ByteArray) (X : Prop) (K : D → Prop) (h0 : C.ok s0) (h1 : C.good k1 s0 b1 x1 y1 = true) (hs : C.ok s) (h2 : C.good 2 s false 0 0 = true) (h3 : C.good k3 s b3 x3 y3 = true) (hX : X) : cmGood C k1 b1 x1 y1 k3 b3 x3 y3 s X K := by
  unfold cmGood
  rw [h1, h2, h3, eqC_self]
  exact ⟨h0, hs, hs, hX⟩
theorem cmEnd_gen (C : Cl) (l : Bool) (k3 : Int) (s : ByteArray) (K : D → Prop) (hs : C.ok s) (hl : C.like s = l) (hk : k3 = bif l then 3 else 2) (hK : K (.v (.bool true))) : cmEnd C l k3 s K := by
  unfold cmEnd
  rw [hk, beq_self_eq_true, strEq_self]
  exact ⟨hs, hl, hK⟩
theorem cm_ps (b : Bool) (x y : Int) (s : ByteArray) : PS Tryd.prog 3 [aggN b x y, vS s] (.v (.bool true)) := by
  have hh : ∀ (X : Prop), ((s.size : Int) ≤ 200 → X) → (bif decide ((s.size : Int) > 200) then (fun d => d = D.v (.bool true)) (.v (.bool true)) else X) := fun X hX => by
    by_cases h : (s.size : Int) > 200
    · rw [decide_eq_true h]; exact rfl
    · rw [decide_eq_false h]; exact hX (by omega)
  have hok : (s.size : Int) ≤ 200 → clR.ok s := fun h => ok_small (by omega)
  cases hg : opsR.good b x y with
  | true =>
    cases hl : clR.like s with
    | true =>
      refine callX_eq (n := 2) (ctx0_ok (cmL_ok true (soundT numO_ok fun _ _ h => numT_to h) (soundT inputO_ok fun _ _ h => inputT_to h) (soundT refGoodC_ok fun _ _ h => goodT_to h))) ?_
      rw [cm_treeTT]
      refine hh _ fun h => ⟨hg, hok h, hl, cmGood_gen clR _ _ _ _ _ _ _ _ s _ _ cellsR.ok0 (cellsR.g1 _ _ _ hg) (hok h) (cellsR.g2 s) (cellsR.g3 s hl) ⟨hg, hg, ?_⟩⟩
      rw [eqC_self]
      exact (show cmEnd clR true 3 s (fun x => x = D.v (Value.bool true)) from cmEnd_gen clR _ _ s _ (hok h) hl rfl rfl)
    | false =>
      refine callX_eq (n := 2) (ctx0_ok (cmL_ok false (soundT numO_ok fun _ _ h => numT_to h) (soundT inputO_ok fun _ _ h => inputN_to h) (soundT refGoodC_ok fun _ _ h => goodT_to h))) ?_
      rw [cm_treeTN]
      refine hh _ fun h => ⟨hg, hok h, hl, cmGood_gen clR _ _ _ _ _ _ _ _ s _ _ cellsR.ok0 (cellsR.g1 _ _ _ hg) (hok h) (cellsR.g2 s) (cellsR.g2 s) ⟨hg, hg, ?_⟩⟩
      rw [eqC_self]
      exact (show cmEnd clR false 2 s (fun x => x = D.v (Value.bool true)) from cmEnd_gen clR _ _ s _ (hok h) hl rfl rfl)
  | false =>
    cases hl : clR.like s with
    | true =>
      refine callX_eq (n := 2) (ctx0_ok (cmL_ok true (soundT numO_ok fun _ _ h => numN_to h) (soundT inputO_ok fun _ _ h => inputT_to h) (soundT refGoodC_ok fun _ _ h => goodN_to h))) ?_
      rw [cm_treeNT]
      exact hh _ fun h => ⟨hg, hok h, hl, cmGood_gen clR _ _ _ _ _ _ _ _ s _ _ cellsR.ok0 cellsR.g0 (hok h) (cellsR.g2 s) (cellsR.g3 s hl) ⟨hg, hg, cmEnd_gen clR _ _ s _ (hok h) hl rfl rfl⟩⟩
    | false =>
      refine callX_eq (n := 2) (ctx0_ok (cmL_ok false (soundT numO_ok fun _ _ h => numN_to h) (soundT inputO_ok fun _ _ h => inputN_to h) (soundT refGoodC_ok fun _ _ h => goodN_to h))) ?_
      rw [cm_treeNN]
      exact hh _ fun h => ⟨hg, hok h, hl, cmGood_gen clR _ _ _ _ _ _ _ _ s _ _ cellsR.ok0 cellsR.g0 (hok h) (cellsR.g2 s) (cellsR.g2 s) ⟨hg, hg, cmEnd_gen clR _ _ s _ (hok h) hl rfl rfl⟩⟩
end Go.Proofs.YtlfdelobjbdimaaDoor
