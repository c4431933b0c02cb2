/-
  The walk of the law CellTexts, and the plain law.
-/
import Derived.Test.YtlfdelobjbdimaaDoorCelH
set_option maxRecDepth 20000
namespace Go.Proofs.YtlfdelobjbdimaaDoor
set_option linter.unusedSimpArgs false
set_option linter.unusedVariables false
open Go.RowKit

def ctruthT (C : Cl) : Orc := fun _ ds K => match cel? ds with
  | some (k, s, b, x, y) => C.ok s ∧ C.good k s b x y = true ∧ bif k == 2 then K (.v (.bool (!strEq s ⟨#[]⟩))) else bif k == 3 then K (.v (.bool (nzN b x y))) else bif k == 1 then K (.v (.bool (nzN b x y))) else K (.v (.bool false))
  | none => False
theorem ctruthT_to {C : Cl} {f : Nat} {ds : List D} {K : D → Prop} (h : ctruthT C f ds K) : ctruthO C f ds K ∧ ∀ K' : D → Prop, ctruthO C f ds K' → ctruthT C f ds K' := by
  revert h; unfold ctruthT ctruthO; generalize cel? ds = r; intro h
  match r, h with
  | none, h => exact h.elim
  | some (k, s, b, x, y), h => exact ⟨⟨h.1, by simp only [h.2.1, cond_true]; exact h.2.2⟩, fun K' hK => ⟨h.1, h.2.1, by simp only [h.2.1, cond_true] at hK; exact hK.2⟩⟩
def ctL (M : Ops) (C : Cl) (cs : ByteArray → ByteArray → Int) (num good : Orc) : List (Nat × Orc) := [(8, awkC), (9, num), (10, ctextO), (16, ccmpT M C cs), (17, ctruthT C), (18, cstringT C), (19, good)]
theorem ctL_ok {num good : Orc} (h1 : Sound 9 num) (h3 : Sound 19 good) : ∀ x ∈ ctL opsR clR csR num good, Sound x.1 x.2 := by
  intro x hx
  simp only [ctL, List.mem_cons, List.not_mem_nil, or_false] at hx
  rcases hx with rfl | rfl | rfl | rfl | rfl | rfl | rfl
  · exact awkC_ok
  · exact h1
  · exact ctextO_ok
  · exact soundT ccmpO_ok fun _ _ h => ccmpT_to h
  · exact soundT ctruthO_ok fun _ _ h => ctruthT_to h
  · exact soundT cstringO_ok fun _ _ h => cstringT_to h
  · exact h3
def ctRest (M : Ops) (C : Cl) (cs : ByteArray → ByteArray → Int) (g b : Bool) (x y : Int) (k1 : Int) (b1 : Bool) (x1 y1 : Int) (u s : ByteArray) (X : Prop) (K : D → Prop) : Prop :=
  M.good b x y = g ∧ C.ok s0 ∧ C.good k1 s0 b1 x1 y1 = true ∧ C.ok s ∧ C.good 2 s false 0 0 = true ∧ M.good b x y = g ∧ C.ok s0 ∧ C.good k1 s0 b1 x1 y1 = true ∧ C.ok u ∧ C.good 2 u false 0 0 = true ∧ C.ok s ∧ C.good 2 s false 0 0 = true ∧
    bif cs u s == cs u s then M.good b x y = g ∧ C.ok s0 ∧ C.good k1 s0 b1 x1 y1 = true ∧ M.good b x y = g ∧ X else K (.v (.bool false))
def ctMain (C : Cl) (cs : ByteArray → ByteArray → Int) (w : Int) (s t : ByteArray) (X : Prop) (K : D → Prop) : Prop :=
  C.ok s ∧ C.good 2 s false 0 0 = true ∧ C.ok t ∧ C.good 2 t false 0 0 = true ∧ bif cs s t != w then K (.v (.bool false)) else
    C.ok s ∧ C.good 2 s false 0 0 = true ∧ bif (bif false then true else !((!strEq s ⟨#[]⟩) == (!strEq s ⟨#[]⟩))) then K (.v (.bool false)) else C.ok s0 ∧ C.good 0 s0 false 0 0 = true ∧ X
def ctT (C : Cl) (cs : ByteArray → ByteArray → Int) (s t : ByteArray) (X : Prop) (K : D → Prop) : Prop :=
  bif decide ((s.size : Int) > 200) then K (.v (.bool true)) else bif (bif false then true else decide ((t.size : Int) > 200)) then K (.v (.bool true)) else
    bif strLt s t then bif !(strLt s t || strEq s t) then ctMain C cs 1 s t X K else ctMain C cs (-1) s t X K else bif !(strLt s t || strEq s t) then ctMain C cs 1 s t X K else ctMain C cs 0 s t X K
set_option maxRecDepth 100000 in
theorem ct_treeT (M : Ops) (C : Cl) (cs : ByteArray → ByteArray → Int) (b : Bool) (x y : Int) (s t : ByteArray) (K : D → Prop) : callX Tryd.prog (ctxL (ctL M C cs (numT M) (goodT M)) [] 0) 2 5 [vS s, vS t, aggN b x y] K = ctT C cs s t (ctRest M C cs true b x y 1 b x y (C.tx b x y) s (K (.v (.bool (bif true then (nzN b x y == (bif true then !(b == false && (x == 0 && (y == 0 && true))) else false)) else false)))) K) K := by kernel_rfl
set_option maxRecDepth 100000 in
theorem ct_treeN (M : Ops) (C : Cl) (cs : ByteArray → ByteArray → Int) (b : Bool) (x y : Int) (s t : ByteArray) (K : D → Prop) : callX Tryd.prog (ctxL (ctL M C cs (numN M) (goodN M)) [] 0) 2 5 [vS s, vS t, aggN b x y] K = ctT C cs s t (ctRest M C cs false b x y 0 false 0 0 s0 s (K (.v (.bool true))) K) K := by kernel_rfl

theorem ctRest_gen (M : Ops) (C : Cl) (cs : ByteArray → ByteArray → Int) (g b : Bool) (x y : Int) (k1 : Int) (b1 : Bool) (x1 y1 : Int) (u s : ByteArray) (X : Prop) (K : D → Prop) (hg : M.good b x y = g) (h0 : C.ok s0) (h1 : C.good k1 s0 b1 x1 y1 = true) (hs : C.ok s) (h2 : ∀ s, C.good 2 s false 0 0 = true) (hu : C.ok u) (hX : X) : ctRest M C cs g b x y k1 b1 x1 y1 u s X K := by
  unfold ctRest
  rw [beq_self_eq_true]
  exact ⟨hg, h0, h1, hs, h2 s, hg, h0, h1, hu, h2 u, hs, h2 s, hg, h0, h1, hg, hX⟩
theorem ctMain_gen (C : Cl) (cs : ByteArray → ByteArray → Int) (w : Int) (s t : ByteArray) (X : Prop) (K : D → Prop) (hs : C.ok s) (ht : C.ok t) (h2 : ∀ s, C.good 2 s false 0 0 = true) (hw : cs s t = w) (h0 : C.ok s0) (hz : C.good 0 s0 false 0 0 = true) (hX : X) : ctMain C cs w s t X K := by
  unfold ctMain
  have e : (cs s t != w) = false := by rw [hw]; exact bne_self_eq_false _
  rw [e, beq_self_eq_true]
  exact ⟨hs, h2 s, ht, h2 t, hs, h2 s, h0, hz, hX⟩
theorem less_cmp : ∀ (a b : List UInt8), (Op.bytesLess a b = true → Lib.compareBytes a b = -1) ∧ (Op.bytesLess a b = false → a ≠ b → Lib.compareBytes a b = 1) ∧ (a = b → Lib.compareBytes a b = 0)
  | [], [] => ⟨fun h => (by simp [Op.bytesLess] at h), fun _ h => absurd rfl h, fun _ => rfl⟩
  | [], _ :: _ => ⟨fun _ => rfl, fun h => (by simp [Op.bytesLess] at h), fun h => (by cases h)⟩
  | _ :: _, [] => ⟨fun h => (by simp [Op.bytesLess] at h), fun _ _ => rfl, fun h => (by cases h)⟩
  | a :: l, b :: m => by
    have ih := less_cmp l m
    have hlt : ∀ x y : UInt8, x < y ↔ x.toNat < y.toNat := fun x y => UInt8.lt_iff_toNat_lt
    unfold Op.bytesLess Lib.compareBytes
    by_cases h1 : a < b
    · have hne : a ≠ b := fun e => by rw [e, hlt] at h1; omega
      simp [h1, hne]
    · by_cases h2 : b < a
      · have hne : a ≠ b := fun e => by rw [e, hlt] at h2; omega
        simp [h1, h2, hne]
      · have he : a = b := by
          rw [hlt] at h1 h2
          exact UInt8.toNat_inj.1 (by omega)
        subst he
        simp [h1]
        simpa using ih
theorem cs_all (s t : ByteArray) : (strLt s t = true → csR s t = -1) ∧ (strLt s t = false → strEq s t = false → csR s t = 1) ∧ (strEq s t = true → strLt s t = false → csR s t = 0) := by
  have h := less_cmp s.data.toList t.data.toList
  have he : strEq s t = true ↔ s.data.toList = t.data.toList := by
    unfold strEq
    exact beq_iff_eq (a := s.data.toList) (b := t.data.toList)
  refine ⟨h.1, fun h1 h2 => h.2.1 h1 (fun e => ?_), fun h1 _ => h.2.2 (he.1 h1)⟩
  rw [he.2 e] at h2; cases h2
theorem ctT_gen (C : Cl) (cs : ByteArray → ByteArray → Int) (s t : ByteArray) (X : Prop) (K : D → Prop) (hcs : (strLt s t = true → cs s t = -1) ∧ (strLt s t = false → strEq s t = false → cs s t = 1) ∧ (strEq s t = true → strLt s t = false → cs s t = 0)) (hok : ∀ s : ByteArray, (s.size : Int) ≤ 200 → C.ok s) (h2 : ∀ s, C.good 2 s false 0 0 = true) (h0 : C.ok s0) (hz : C.good 0 s0 false 0 0 = true) (hK : K (.v (.bool true))) (hX : (s.size : Int) ≤ 200 → X) : ctT C cs s t X K := by
  unfold ctT
  by_cases h : (s.size : Int) > 200
  · rw [decide_eq_true h]; exact hK
  · rw [decide_eq_false h, cond_false, cond_false]
    by_cases h' : (t.size : Int) > 200
    · rw [decide_eq_true h']; exact hK
    · rw [decide_eq_false h', cond_false]
      have hs := hok s (by omega)
      have ht := hok t (by omega)
      have hx := hX (by omega)
      cases e1 : strLt s t with
      | true =>
        rw [Bool.true_or, Bool.not_true, cond_true, cond_false]
        exact ctMain_gen C cs _ s t X K hs ht h2 (hcs.1 e1) h0 hz hx
      | false =>
        rw [Bool.false_or, cond_false]
        cases e2 : strEq s t with
        | true => exact ctMain_gen C cs _ s t X K hs ht h2 (hcs.2.2 e2 e1) h0 hz hx
        | false => exact ctMain_gen C cs _ s t X K hs ht h2 (hcs.2.1 e1 e2) h0 hz hx
theorem txN_sz (b : Bool) (n : Nat) (hn : n < 1000000000000000000000000000000000000) : (strB (txN b n)).size < 100000 := by
  unfold txN
  rw [strB_size]
  have h1 := iD_len (k := n / 1000000) (by omega)
  have h2 := fD_len (n % 1000000)
  cases b <;> simp <;> omega
theorem mag_lt' {s : Bool} {x y : Int} (g : opsR.good s x y = true) : magI x y < 1000000000000000000000000000000000000 := by
  obtain ⟨z, h1, h2, h3, h4⟩ := dec_good (s := s) (m := magI x y) g
  have := fit_lt h3
  rw [h2] at this; exact this
theorem txC_len (b : Bool) (x y : Int) (g : opsR.good b x y = true) : clR.ok (clR.tx b x y) := by
  have e0 : clR.tx b x y = bif opsR.good b x y then txC b x y else ⟨#[]⟩ := rfl
  rw [g, cond_true] at e0
  rw [e0]
  exact ok_small (txN_sz b (magI x y) (mag_lt' g))
theorem ct_ps (b : Bool) (x y : Int) (s t : ByteArray) : PS Tryd.prog 5 [vS s, vS t, aggN b x y] (.v (.bool true)) := by
  have hok : ∀ s : ByteArray, (s.size : Int) ≤ 200 → clR.ok s := fun s h => ok_small (by omega)
  cases hg : opsR.good b x y with
  | true =>
    refine callX_eq (n := 2) (ctx0_ok (ctL_ok (soundT numO_ok fun _ _ h => numT_to h) (soundT goodC_ok fun _ _ h => goodT_to h))) ?_
    rw [ct_treeT]
    refine ctT_gen clR csR s t _ _ (cs_all s t) hok cellsR.g2 cellsR.ok0 cellsR.g0 rfl fun h => ctRest_gen opsR clR csR _ _ _ _ _ _ _ _ _ s _ _ hg cellsR.ok0 (cellsR.g1 _ _ _ hg) (hok s h) cellsR.g2 (txC_len b x y hg) ?_
    have e : nzN b x y = !(b == false && (x == 0 && (y == 0 && true))) := rfl
    rw [cond_true, cond_true, e, beq_self_eq_true]
  | false =>
    refine callX_eq (n := 2) (ctx0_ok (ctL_ok (soundT numO_ok fun _ _ h => numN_to h) (soundT goodC_ok fun _ _ h => goodN_to h))) ?_
    rw [ct_treeN]
    exact ctT_gen clR csR s t _ _ (cs_all s t) hok cellsR.g2 cellsR.ok0 cellsR.g0 rfl fun h => ctRest_gen opsR clR csR _ _ _ _ _ _ _ _ _ s _ _ hg cellsR.ok0 cellsR.g0 (hok s h) cellsR.g2 cellsR.ok0 rfl
end Go.Proofs.YtlfdelobjbdimaaDoor
