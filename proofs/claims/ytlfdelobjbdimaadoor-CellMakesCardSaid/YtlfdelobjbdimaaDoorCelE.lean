/-
  cell: contracts that assert; a text's kind.
-/
import Derived.Test.YtlfdelobjbdimaaDoorCelD
set_option maxRecDepth 20000
namespace Go.Proofs.YtlfdelobjbdimaaDoor
set_option linter.unusedSimpArgs false
set_option linter.unusedVariables false
open Go.RowKit

def numT (M : Ops) : Orc := fun _ ds K => match one? ds with
  | some (s, x, y) => M.good s x y = true ∧ K (cellD 1 ⟨#[]⟩ s x y)
  | none => False
def numN (M : Ops) : Orc := fun _ ds K => match one? ds with
  | some (s, x, y) => M.good s x y = false ∧ K cellZ
  | none => False
theorem numT_to {M : Ops} {f : Nat} {ds : List D} {K : D → Prop} (h : numT M f ds K) : numO M f ds K ∧ ∀ K' : D → Prop, numO M f ds K' → numT M f ds K' := by
  revert h; unfold numT numO; generalize one? ds = r; intro h
  match r, h with
  | none, h => exact h.elim
  | some (s, x, y), h => exact ⟨by simp only [h.1, cond_true]; exact h.2, fun K' hK => ⟨h.1, by simp only [h.1, cond_true] at hK; exact hK⟩⟩
theorem numN_to {M : Ops} {f : Nat} {ds : List D} {K : D → Prop} (h : numN M f ds K) : numO M f ds K ∧ ∀ K' : D → Prop, numO M f ds K' → numN M f ds K' := by
  revert h; unfold numN numO; generalize one? ds = r; intro h
  match r, h with
  | none, h => exact h.elim
  | some (s, x, y), h => exact ⟨by simp only [h.1, cond_false]; exact h.2, fun K' hK => ⟨h.1, by simp only [h.1, cond_false] at hK; exact hK⟩⟩
def inputT (M : Ops) (C : Cl) : Orc := fun _ ds K => match ds with
  | [.v (.string s)] => C.ok s ∧ C.like s = true ∧ K (cellD 3 s (M.sg (C.num s)) (M.hi (C.num s)) (M.lo (C.num s)))
  | _ => False
def inputN (C : Cl) : Orc := fun _ ds K => match ds with
  | [.v (.string s)] => C.ok s ∧ C.like s = false ∧ K (cellD 2 s false 0 0)
  | _ => False
theorem inputT_to {M : Ops} {C : Cl} {f : Nat} {ds : List D} {K : D → Prop} (h : inputT M C f ds K) : inputO M C f ds K ∧ ∀ K' : D → Prop, inputO M C f ds K' → inputT M C f ds K' := by
  unfold inputT at h
  split at h
  · obtain ⟨h1, h2, h3⟩ := h
    refine ⟨⟨h1, by rw [h2]; exact h3⟩, fun K' hK => ⟨h1, h2, ?_⟩⟩
    have := hK.2
    rw [h2] at this; exact this
  · exact h.elim
theorem inputN_to {M : Ops} {C : Cl} {f : Nat} {ds : List D} {K : D → Prop} (h : inputN C f ds K) : inputO M C f ds K ∧ ∀ K' : D → Prop, inputO M C f ds K' → inputN C f ds K' := by
  unfold inputN at h
  split at h
  · obtain ⟨h1, h2, h3⟩ := h
    refine ⟨⟨h1, by rw [h2]; exact h3⟩, fun K' hK => ⟨h1, h2, ?_⟩⟩
    have := hK.2
    rw [h2] at this; exact this
  · exact h.elim
def ccmpT (M : Ops) (C : Cl) (cs : ByteArray → ByteArray → Int) : Orc := fun _ ds K => match cel2? ds with
  | some ((k, s, b, x, y), (k', s', b', x', y')) => C.ok s ∧ C.good k s b x y = true ∧ C.ok s' ∧ C.good k' s' b' x' y' = true ∧
      bif k == 2 || k' == 2 then K (vI (cs (bif k == 1 then C.tx b x y else s) (bif k' == 1 then C.tx b' x' y' else s'))) else M.good b x y = true ∧ M.good b' x' y' = true ∧ K (.v (.int .i64 (M.cmp (M.val b x y) (M.val b' x' y'))))
  | none => False
theorem cmpCells_eq (M : Ops) (C : Cl) (cs : ByteArray → ByteArray → Int) (k : Int) (s : ByteArray) (b : Bool) (x y : Int) (k' : Int) (s' : ByteArray) (b' : Bool) (x' y' : Int) (h1 : C.ok s) (h2 : C.good k s b x y = true) (h3 : C.ok s') (h4 : C.good k' s' b' x' y' = true)
    (h5 : (k == 2 || k' == 2) = false → M.good b x y = true ∧ M.good b' x' y' = true) (K : D → Prop) : cmpCells M C cs k s b x y k' s' b' x' y' K = bif k == 2 || k' == 2 then K (vI (cs (bif k == 1 then C.tx b x y else s) (bif k' == 1 then C.tx b' x' y' else s'))) else K (.v (.int .i64 (M.cmp (M.val b x y) (M.val b' x' y')))) := by
  unfold cmpCells strC
  revert h5
  generalize (k == 2) = p
  generalize (k' == 2) = p'
  generalize (k == 1) = q
  generalize (k' == 1) = q'
  intro h5
  cases p <;> cases p' <;> cases q <;> cases q' <;> simp only [h1, h2, h3, h4, cond_true, cond_false, Bool.or_false, Bool.or_true, Bool.false_or, Bool.true_or, true_and] <;> rw [(h5 rfl).1, (h5 rfl).2] <;> rfl
theorem ccmpT_to {M : Ops} {C : Cl} {cs : ByteArray → ByteArray → Int} {f : Nat} {ds : List D} {K : D → Prop} (h : ccmpT M C cs f ds K) : ccmpO M C cs f ds K ∧ ∀ K' : D → Prop, ccmpO M C cs f ds K' → ccmpT M C cs f ds K' := by
  revert h; unfold ccmpT ccmpO; generalize cel2? ds = r; intro h
  match r, h with
  | none, h => exact h.elim
  | some ((k, s, b, x, y), (k', s', b', x', y')), h =>
    obtain ⟨h1, h2, h3, h4, h5⟩ := h
    have h6 : (k == 2 || k' == 2) = false → M.good b x y = true ∧ M.good b' x' y' = true := fun e => by
      rw [e, cond_false] at h5; exact ⟨h5.1, h5.2.1⟩
    simp only [cmpCells_eq M C cs k s b x y k' s' b' x' y' h1 h2 h3 h4 h6]
    cases e : (k == 2 || k' == 2) with
    | true => rw [e] at h5; exact ⟨h5, fun K' hK => ⟨h1, h2, h3, h4, hK⟩⟩
    | false => rw [e] at h5; exact ⟨h5.2.2, fun K' hK => ⟨h1, h2, h3, h4, h5.1, h5.2.1, hK⟩⟩
/-! ### A text's kind, by the document -/
def kindO (C : Cl) : Orc := fun _ ds K => match ds with
  | [.v (.string s)] => C.ok s ∧ bif C.like s then K (vI 3) else K (vI 2)
  | _ => False
set_option maxRecDepth 100000 in
theorem kind_tree (G : Gots) (s : ByteArray) (K : D → Prop) : callX Tryd.prog (ctxL [(50, rlC G), (51, gotC G)] [] 0) 3 14 [vS s] K = (
    G.ok s ∧ bif G.looks s then G.ok s ∧ bif (bif true then G.e s == 0 else false) then K (vI 3) else K (vI 2) else K (vI 2)) := by kernel_rfl
theorem kind_gen (okG okC : Prop) (p q : Bool) (a b : Prop) (hG : okG) (hC : okC) : (okG ∧ bif p then okG ∧ bif (bif true then q else false) then a else b else b) = (okC ∧ bif p && q then a else b) := by
  cases p <;> cases q <;> simp [hG, hC]
theorem likeR_eq (s : ByteArray) : likeR s = (gotsR.looks s && (gotsR.e s == 0)) := by
  have e := bytesD_strB (natsB_lt s)
  rw [strB_natsB] at e
  unfold likeR
  rw [e, nrl_looks, nrl_pbig]
  show (looksN (natsB s) && !pBig (natsB s)) = (looksN (natsB s) && (gotE (natsB s) == 0))
  have e2 : gotE (natsB s) = bif pBig (natsB s) then 2 else 0 := rfl
  rw [e2]
  cases pBig (natsB s) <;> rfl
theorem kindO_ok : Sound 14 (kindO clR) := by
  refine soundStr (n := 3) (m := fun s K => clR.ok s ∧ bif clR.like s then K (vI 3) else K (vI 2)) (ctx0_ok (two_ok rlC_ok gotC_ok)) (fun _ _ => rfl) fun s K hK K' => ?_
  rw [kind_tree, kind_gen (gotsR.ok s) (clR.ok s) (gotsR.looks s) (gotsR.e s == 0) _ _ hK.1 hK.1]
  have e : clR.like s = likeR s := rfl
  rw [e, likeR_eq]
end Go.Proofs.YtlfdelobjbdimaaDoor
