/-
  cell: its contracts hold.
-/
import Derived.Test.YtlfdelobjbdimaaDoorCelA
set_option maxRecDepth 20000
namespace Go.Proofs.YtlfdelobjbdimaaDoor
set_option linter.unusedSimpArgs false
set_option linter.unusedVariables false
open Go.RowKit

theorem soundOne {C : Ctx} (hC : CtxOK Tryd.prog C) {n f : Nat} {o : Orc} {m : Bool → Int → Int → (D → Prop) → Prop} (ho : ∀ ds K, o f ds K = match one? ds with | some (s, x, y) => m s x y K | none => False)
    (h : ∀ b x y K, m b x y K → ∀ K' : D → Prop, callX Tryd.prog C n f [aggN b x y] K' = m b x y K') : Sound f o := by
  refine soundX hC (n := n) fun ds K hK K' => ?_
  rw [ho] at hK ⊢
  cases e : one? ds with
  | none => rw [e] at hK; exact hK.elim
  | some p =>
    obtain ⟨b, x, y⟩ := p
    rw [e] at hK
    rw [one?_eq e]
    exact h b x y K hK K'
theorem one_ok {f : Nat} {o : Orc} (h : Sound f o) : ∀ x ∈ [(f, o)], Sound x.1 x.2 := fun x hx => by
  obtain rfl := List.mem_singleton.1 hx; exact h
theorem two_ok {f g : Nat} {o p : Orc} (h : Sound f o) (k : Sound g p) : ∀ x ∈ [(f, o), (g, p)], Sound x.1 x.2 := fun x hx => by
  simp only [List.mem_cons, List.not_mem_nil, or_false] at hx
  rcases hx with rfl | rfl
  · exact h
  · exact k
theorem three_ok {f g i : Nat} {o p q : Orc} (h : Sound f o) (k : Sound g p) (l : Sound i q) : ∀ x ∈ [(f, o), (g, p), (i, q)], Sound x.1 x.2 := fun x hx => by
  simp only [List.mem_cons, List.not_mem_nil, or_false] at hx
  rcases hx with rfl | rfl | rfl
  · exact h
  · exact k
  · exact l
theorem cond_not (c : Bool) (p q : Prop) : (bif !c then p else q) = (bif c then q else p) := by cases c <;> rfl
theorem numO_ok : Sound 9 (numO opsR) := by
  refine soundOne (n := 2) (m := fun b x y K => bif opsR.good b x y then K (cellD 1 ⟨#[]⟩ b x y) else K cellZ) (ctx0_ok (one_ok goodC_ok)) (fun _ _ => rfl) fun b x y K _ K' => ?_
  rw [cnum_tree, cond_not]
theorem ctextO_ok : Sound 10 ctextO := by
  refine soundStr (n := 2) (m := fun s K => K (cellD 2 s false 0 0)) (ctx0_ok none_ok) (fun _ _ => rfl) fun s K _ K' => ?_
  rw [ctext_tree]
theorem okS {s : ByteArray} (h : clR.ok s) : nrlR.ok (bytesD s) := by
  have h' : s.size < 100000 := h
  have e := bytesD_strB (natsB_lt s)
  rw [strB_natsB] at e
  exact ⟨natsB s, e, natsB_lt s, by rw [natsB_len]; omega⟩
theorem lkSz_eq {s : ByteArray} (h : clR.ok s) (X : Prop) : lkSz s X = X := by
  have h' : s.size < 100000 := h
  unfold lkSz
  rw [decide_eq_true (show s.size ≤ 1073741824 by omega)]; rfl
theorem like_gen (okV okC : Prop) (p q : Bool) (a b : Prop) (hV : okV) (hC : okC) (t : Nat) : (t = t ∧ okV ∧ bif !p then a else (t = t ∧ okV ∧ bif q then a else b)) = (okC ∧ bif p && !q then b else a) := by
  cases p <;> cases q <;> simp [hV, hC]
theorem clikeO_ok : Sound 26 (clikeO opsR clR) := by
  refine soundStr (n := 2) (m := fun s K => clR.ok s ∧ bif clR.like s then K (.tup [decM opsR (clR.num s), .v (.bool true)]) else K (.tup [decZ, .v (.bool false)])) (ctx0_ok (two_ok looksC_ok prefixC_ok)) (fun _ _ => rfl) fun s K hK K' => ?_
  rw [clike_tree, lkSz_eq hK.1, lkSz_eq hK.1]
  exact like_gen (nrlR.ok (bytesD s)) (clR.ok s) (nrlR.looks (bytesD s)) (nrlR.pbig (bytesD s)) _ _ (okS hK.1) hK.1 _
theorem inputO_ok : Sound 11 (inputO opsR clR) := by
  refine soundStr (n := 2) (m := fun s K => clR.ok s ∧ bif clR.like s then K (cellD 3 s (opsR.sg (clR.num s)) (opsR.hi (clR.num s)) (opsR.lo (clR.num s))) else K (cellD 2 s false 0 0)) (ctx0_ok (two_ok clikeO_ok ctextO_ok)) (fun _ _ => rfl) fun s K hK K' => ?_
  rw [cinput_tree]
theorem cgood_gen (M : Ops) (C : Cl) (k : Int) (s : ByteArray) (b : Bool) (x y : Int) (K : D → Prop) (h : C.ok s) :
    (bif k == 0 then K (.v (.bool (eqC k s b x y 0 ⟨#[]⟩ false 0 0))) else bif k == 1 then (bif M.good b x y then K (.v (.bool (eqC k s b x y 1 ⟨#[]⟩ b x y))) else K (.v (.bool (eqC k s b x y 0 ⟨#[]⟩ false 0 0)))) else bif k == 2 then K (.v (.bool (eqC k s b x y 2 s false 0 0))) else bif k == 3 then (C.ok s ∧ bif C.like s then K (.v (.bool (eqC k s b x y 3 s (M.sg (C.num s)) (M.hi (C.num s)) (M.lo (C.num s))))) else K (.v (.bool (eqC k s b x y 2 s false 0 0)))) else K (.v (.bool false)))
    = (C.ok s ∧ K (.v (.bool (goodCl M C.like C.num k s b x y)))) := by
  unfold goodCl
  generalize (k == 0) = p0
  generalize (k == 1) = p1
  generalize (k == 2) = p2
  generalize (k == 3) = p3
  generalize M.good b x y = g
  generalize C.like s = l
  cases p0 <;> cases p1 <;> cases p2 <;> cases p3 <;> cases g <;> cases l <;> simp only [cond_true, cond_false, h, true_and]
theorem cgoodO_ok : Sound 12 (cgoodO clR) := by
  refine soundCel (n := 2) (m := fun k s b x y K => clR.ok s ∧ K (.v (.bool (clR.good k s b x y)))) (ctx0_ok (three_ok numO_ok ctextO_ok inputO_ok)) (fun _ _ => rfl) fun k s b x y K hK K' => ?_
  rw [cgood_tree]
  exact cgood_gen opsR clR k s b x y K' hK.1
theorem heldO_ok : Sound 36 (heldO clR) := by
  refine soundCel (n := 2) (m := fun k s b x y K => clR.ok s ∧ bif clR.good k s b x y then K (cellD k s b x y) else K cellZ) (ctx0_ok (one_ok cgoodO_ok)) (fun _ _ => rfl) fun k s b x y K hK K' => ?_
  rw [cheld_tree, cond_not]
end Go.Proofs.YtlfdelobjbdimaaDoor
