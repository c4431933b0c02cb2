/-
  What fieldfareref02's Prefix comes to.
-/
import Derived.Test.YtlfdelobjbdimaaDoorNrlQ
set_option maxRecDepth 20000
namespace Go.Proofs.YtlfdelobjbdimaaDoor
set_option linter.unusedSimpArgs false
set_option linter.unusedVariables false
open Go.RowKit

theorem num_dgs_r (r : List Nat) : num (dgs r 6) = parN (r.take 6) 1000000 0 := by
  match r with
  | [] => rfl
  | [a] => simp [dgs, num, parN]; omega
  | [a, b] => simp [dgs, num, parN]; omega
  | [a, b, c] => simp [dgs, num, parN]; omega
  | [a, b, c, d] => simp [dgs, num, parN]; omega
  | [a, b, c, d, e] => simp [dgs, num, parN]; omega
  | a :: b :: c :: d :: e :: f :: t => simp [dgs, num, parN]; omega
theorem dgs_len (r : List Nat) : ∀ j, (dgs r j).length = j
  | 0 => rfl
  | j + 1 => by rw [dgs, List.length_cons, dgs_len r j]
theorem dgs_lt {r : List Nat} (hd : allDg r) : ∀ (j : Nat), ∀ x ∈ dgs r j, x < 10
  | 0, x, hx => by cases hx
  | j + 1, x, hx => by
    rw [dgs] at hx
    rcases List.mem_cons.1 hx with rfl | hx
    · by_cases h : j < r.length
      · rw [List.getD_eq_getElem?_getD, List.getElem?_eq_getElem h]
        have := hd r[j] (List.getElem_mem h)
        show r[j] - 48 < 10
        omega
      · rw [getD_out r j h]; omega
    · exact dgs_lt hd j x hx
def dAll (w r : List Nat) : List Nat := dgs r 6 ++ dgs w w.length
theorem dAll_num (w r : List Nat) : num (dAll w r) = numV w r := by
  unfold dAll numV
  rw [num_app, num_dgs_r, num_dgs_w w w.length (Nat.le_refl _), List.take_length, dgs_len]
  omega
theorem dAll_lt {w r : List Nat} (hw : allDg w) (hr : allDg r) : ∀ x ∈ dAll w r, x < 10 := fun x hx => by
  rcases List.mem_append.1 hx with hx | hx
  · exact dgs_lt hr 6 x hx
  · exact dgs_lt hw _ x hx
theorem dAll_len (w r : List Nat) : (dAll w r).length = 6 + w.length := by unfold dAll; rw [List.length_append, dgs_len, dgs_len]
theorem cut_len {l : List Nat} (hd : ∀ x ∈ l, x < 10) : cutN l l.length = (dig (num l)).length := by
  rw [← cut_dig l hd, List.length_take]
  have := cutN_le l l.length
  omega
/-- What the document's Prefix answers. -/
def gotZ (l : List Nat) : D := bif scN l == 0 then gotD false [] 0 0 else bif bigN (scW l) then gotD false [] ((scN l : Nat) : Int) 2 else gotD (scNeg l && !(numV (scW l) (scR l) == 0)) (dD (dig (numV (scW l) (scR l)))) ((scN l : Nat) : Int) 0
theorem slD_eq (l : List Nat) (hd : ∀ x ∈ l, x < 10) (K : List (List D) → Prop) : slD (dD l) ((cutN l l.length : Nat) : Int) K = K (dD (dig (num l))) := by
  unfold slD
  have h1 : (3 == 3 && (Tryd.prog.info? 3).isSome && decide (0 ≤ Int.ofNat 0)) = true := by kernel_rfl
  have h2 : decide (Int.ofNat 0 ≤ ((cutN l l.length : Nat) : Int)) = true := by simp
  have hle := cutN_le l l.length
  have h3 : decide (((cutN l l.length : Nat) : Int) ≤ (l.length : Nat)) = true := by rw [decide_eq_true_eq]; omega
  rw [dD_len, h1, h2, h3, Int.toNat_natCast, dD_take, cut_dig l hd]
  rfl
theorem big_len {w r : List Nat} (hr : allDg r) : bigN w = decide (36 < (dig (numV w r)).length) := by
  have hp := part_lt r hr
  unfold bigN
  rw [Bool.eq_iff_iff, decide_eq_true_eq, decide_eq_true_eq]
  have h := dig_len (numV w r) 36
  rw [show (10 : Nat) ^ 36 = 1000000000000000000000000000000000000 from by decide] at h
  have e : numV w r = decN w 0 * 1000000 + parN (r.take 6) 1000000 0 := rfl
  constructor
  · intro h1
    have : ¬ numV w r < 1000000000000000000000000000000000000 := by omega
    have h2 : ¬ (dig (numV w r)).length ≤ 36 := fun hc => this (h.1 hc)
    omega
  · intro h1
    have h2 : ¬ numV w r < 1000000000000000000000000000000000000 := fun hc => by have := h.2 hc; omega
    omega
theorem end_got (l : List Nat) (hB : byteL l) (K : D → Prop) (h0 : scN l ≠ 0) (h : K (gotZ l)) : Prf (pfEnd (scNeg l) ((scN l : Nat) : Int) ((cutN (dAll (scW l) (scR l)) (dAll (scW l) (scR l)).length : Nat) : Int) (dD (dAll (scW l) (scR l))) K) := by
  refine ⟨?_⟩
  have hd := dAll_lt (scW_dg hB) (scR_dg hB)
  have hz : (scN l == 0) = false := by rw [beq_eq_false_iff_ne]; exact h0
  unfold gotZ at h
  rw [hz, cond_false] at h
  unfold pfEnd
  rw [slD_eq _ hd, slD_eq _ hd, cut_len hd, dAll_num]
  have hb := big_len (w := scW l) (r := scR l) (scR_dg hB)
  have hg : decide ((((dig (numV (scW l) (scR l))).length : Nat) : Int) > 36) = bigN (scW l) := by
    rw [hb, Bool.eq_iff_iff, decide_eq_true_eq, decide_eq_true_eq]; omega
  rw [hg]
  cases hbb : bigN (scW l) with
  | true => rw [hbb] at h; exact h
  | false =>
    rw [hbb, cond_false] at h
    rw [cond_false]
    cases hn : scNeg l with
    | true =>
      rw [hn, Bool.true_and, ← dig_len_pos] at h
      exact h
    | false =>
      rw [hn, Bool.false_and] at h
      exact h
end Go.Proofs.YtlfdelobjbdimaaDoor
