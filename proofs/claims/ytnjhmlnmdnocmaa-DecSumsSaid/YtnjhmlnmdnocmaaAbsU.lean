/-
  The look at a drawn region's orders, by sets of bits. No program in sight.
-/
import Derived.Test.YtnjhmlnmdnocmaaAbsR
namespace Go.Proofs.Ytnjhmlnmdnocmaa
set_option linter.unusedSimpArgs false
set_option linter.unusedVariables false
open Go.RowKit
open Look (ret rd chk)

def maskN2 : List Nat → Nat
  | [] => 0
  | t :: l => (1 <<< t) ||| maskN2 l
theorem maskN2_bit : ∀ (l : List Nat) (t : Nat), (maskN2 l).testBit t = true ↔ t ∈ l
  | [], t => by simp [maskN2]
  | x :: l, t => by
    simp only [maskN2, Nat.testBit_or, Bool.or_eq_true, maskN2_bit l t, Nat.one_shiftLeft, Nat.testBit_two_pow, decide_eq_true_eq, List.mem_cons]
    exact or_congr ⟨Eq.symm, Eq.symm⟩ Iff.rfl
/-- A number, reckoned first. -/
def strict (n : Nat) (k : Nat → Bool) : Bool := match n with
  | 0 => k 0
  | n + 1 => k (n + 1)
theorem strict_eq (n : Nat) (k : Nat → Bool) : strict n k = k n := by cases n <;> rfl
def ancM : List Edge → List Nat → Nat
  | [], _ => 0
  | e :: l, acc => bif Region.binds .any e then (1 <<< e.on) ||| (acc.getD e.on 0 ||| ancM l acc) else ancM l acc
def bitB (n i : Nat) : Bool := Nat.beq (Nat.land (Nat.shiftRight n i) 1) 1
theorem bitB_eq {n i : Nat} (h : bitB n i = true) : n.testBit i = true := by
  unfold bitB at h
  have := Nat.eq_of_beq_eq_true h
  have h2 : n >>> i % 2 = 1 := by
    have e : Nat.land (Nat.shiftRight n i) 1 = n >>> i % 2 := Nat.and_one_is_mod _
    rw [← e]; exact this
  rw [Nat.testBit_eq_decide_div_mod_eq]
  rw [Nat.shiftRight_eq_div_pow] at h2
  simpa using h2
def pairsM (A w r : Nat) : List (Nat × Nat) → Nat → Bool
  | [], _ => true
  | (w', r') :: l, i => (bitB A (i - 1) || (Nat.beq (Nat.land w' (Nat.lor r w)) 0 && Nat.beq (Nat.land r' w) 0)) && pairsM A w r l (i - 1)
def goM : List Oper → List (List Nat × List Nat) → List Nat → List (Nat × Nat) → Nat → Bool
  | [], [], _, _, _ => true
  | o :: ops, x :: lg, acc, pr, j => strict (ancM o.after.toList acc) fun A => strict (maskN2 x.1) fun w => strict (maskN2 x.2) fun r => pairsM A w r pr j && strict (j + 1) fun j => goM ops lg (acc ++ [A]) ((w, r) :: pr) j
  | _, _, _, _, _ => false

theorem land_zero {a b : Nat} (h : Nat.beq (Nat.land a b) 0 = true) (t : Nat) (ha : a.testBit t = true) : b.testBit t = false := by
  have h1 : a &&& b = 0 := Nat.eq_of_beq_eq_true h
  have h2 : (a &&& b).testBit t = false := by rw [h1]; exact Nat.zero_testBit t
  rw [Nat.testBit_and, ha, Bool.true_and] at h2
  exact h2

theorem ancM_spec (M : List Nat) (L : List (List Nat)) (hML : ∀ k x, (M.getD k 0).testBit x = true → x ∈ L.getD k []) : ∀ (es : List Edge) (x : Nat), (ancM es M).testBit x = true →
    x ∈ (es.filter (Region.binds .any ·)).flatMap fun e => e.on :: L.getD e.on []
  | [], x, h => by simp [ancM] at h
  | e :: es, x, h => by
    unfold ancM at h
    cases hb : Region.binds .any e with
    | false =>
      rw [hb, cond_false] at h
      rw [List.filter_cons_of_neg (by rw [hb]; decide)]
      exact ancM_spec M L hML es x h
    | true =>
      rw [hb, cond_true, Nat.testBit_or, Nat.testBit_or, Bool.or_eq_true, Bool.or_eq_true, Nat.one_shiftLeft, Nat.testBit_two_pow, decide_eq_true_eq] at h
      rw [List.filter_cons_of_pos (by rw [hb])]
      simp only [List.flatMap_cons, List.mem_append, List.mem_cons]
      rcases h with h | h | h
      · exact .inl (.inl h.symm)
      · exact .inl (.inr (hML _ _ h))
      · exact .inr (ancM_spec M L hML es x h)

/-- The pair of operations j, i: is it well? -/
def pairOK (an : List (List Nat)) (lg : List (List Nat × List Nat)) (j i : Nat) : Bool := (an.getD j []).contains i ||
    (disj (lg.getD i ([], [])).1 ((lg.getD j ([], [])).2 ++ (lg.getD j ([], [])).1) && disj (lg.getD i ([], [])).2 (lg.getD j ([], [])).1)

theorem disj_bits {a b : List Nat} (h : ∀ t, t ∈ a → t ∈ b → False) : disj a b = true := by
  unfold disj
  simp only [List.all_eq_true, Bool.not_eq_true', List.contains_eq_mem, decide_eq_false_iff_not]
  intro x hx hb
  exact h x hx hb

theorem pairsM_spec {A w r : Nat} : ∀ (pr : List (Nat × Nat)) (j : Nat), pr.length = j → pairsM A w r pr j = true → ∀ i, i < j → ∃ w' r', pr[j - 1 - i]? = some (w', r') ∧ (A.testBit i = true ∨ (Nat.beq (Nat.land w' (Nat.lor r w)) 0 = true ∧ Nat.beq (Nat.land r' w) 0 = true))
  | [], j, hl, _, i, hi => by simp at hl; omega
  | (w', r') :: pr, j, hl, h, i, hi => by
    simp only [pairsM, Bool.and_eq_true, Bool.or_eq_true] at h
    simp only [List.length_cons] at hl
    by_cases hij : i = j - 1
    · subst hij
      refine ⟨w', r', by rw [Nat.sub_self]; rfl, ?_⟩
      rcases h.1 with h1 | h1
      · exact .inl (bitB_eq h1)
      · exact .inr h1
    · obtain ⟨w2, r2, h1, h2⟩ := pairsM_spec pr (j - 1) (by omega) h.2 i (by omega)
      refine ⟨w2, r2, ?_, h2⟩
      rw [show j - 1 - i = (j - 1 - 1 - i) + 1 by omega, List.getElem?_cons_succ]
      exact h1

theorem goM_spec : ∀ (ops : List Oper) (lg : List (List Nat × List Nat)) (M : List Nat) (pr : List (Nat × Nat)) (j : Nat) (L : List (List Nat)) (dl : List (List Nat × List Nat)),
    goM ops lg M pr j = true → M.length = j → L.length = j → dl.length = j → pr.length = j → (∀ k x, (M.getD k 0).testBit x = true → x ∈ L.getD k []) →
    (∀ i x, dl[i]? = some x → pr[j - 1 - i]? = some (maskN2 x.1, maskN2 x.2)) → ∀ j', j ≤ j' → j' < (dl ++ lg).length → ∀ i, i < j' → pairOK (ancs ops L) (dl ++ lg) j' i = true
  | [], [], M, pr, j, L, dl, _, _, _, hdl, _, _, _ => fun j' h1 h2 => by simp at h2; omega
  | [], _ :: _, _, _, _, _, _, h, _, _, _, _, _, _ => by simp [goM] at h
  | _ :: _, [], _, _, _, _, _, h, _, _, _, _, _, _ => by simp [goM] at h
  | o :: ops, x :: lg, M, pr, j, L, dl, h, hM, hL, hdl, hpr, hML, hd => fun j' h1 h2 i hi => by
    simp only [goM, strict_eq, Bool.and_eq_true] at h
    obtain ⟨hp, hr⟩ := h
    have hsplit : dl ++ x :: lg = (dl ++ [x]) ++ lg := by simp
    have hA := ancM_spec M L hML o.after.toList
    by_cases hj : j' = j
    · subst hj
      obtain ⟨w', r', q1, q2⟩ := pairsM_spec pr j' hpr hp i hi
      have hdi : ∃ y, dl[i]? = some y := by
        have : i < dl.length := by omega
        exact ⟨dl[i], by simp [this]⟩
      obtain ⟨y, hy⟩ := hdi
      have e1 := hd i y hy
      rw [q1] at e1
      obtain ⟨rfl, rfl⟩ : w' = maskN2 y.1 ∧ r' = maskN2 y.2 := by simpa using e1
      unfold pairOK
      have g1 : (dl ++ x :: lg).getD i ([], []) = y := by
        rw [List.getD_eq_getElem?_getD, List.getElem?_append_left (by omega), hy]; rfl
      have g2 : (dl ++ x :: lg).getD j' ([], []) = x := by
        rw [List.getD_eq_getElem?_getD, List.getElem?_append_right (by omega), hdl, Nat.sub_self]; rfl
      rw [g1, g2]
      rw [Bool.or_eq_true]
      rcases q2 with q2 | q2
      · refine .inl ?_
        have := hA i q2
        have e3 : (ancs (o :: ops) L).getD j' [] = (o.after.toList.filter (Region.binds .any ·)).flatMap fun e => e.on :: L.getD e.on [] := by
          obtain ⟨l, hl, _⟩ := ancs_acc ops (L ++ [(o.after.toList.filter (Region.binds .any ·)).flatMap fun e => e.on :: L.getD e.on []])
          show (ancs ops _).getD j' [] = _
          rw [hl, List.getD_eq_getElem?_getD, List.append_assoc, List.getElem?_append_right (by omega), hL, Nat.sub_self]; rfl
        rw [e3]
        simpa [List.contains_eq_mem] using this
      · refine .inr ?_
        rw [Bool.and_eq_true]
        refine ⟨disj_bits fun t ha hb => ?_, disj_bits fun t ha hb => ?_⟩
        · have := land_zero q2.1 t ((maskN2_bit _ _).2 ha)
          have e4 : (Nat.lor (maskN2 x.2) (maskN2 x.1)).testBit t = true := by
            show (maskN2 x.2 ||| maskN2 x.1).testBit t = true
            rw [Nat.testBit_or, Bool.or_eq_true]
            rcases List.mem_append.1 hb with hb | hb
            · exact .inl ((maskN2_bit _ _).2 hb)
            · exact .inr ((maskN2_bit _ _).2 hb)
          rw [e4] at this; cases this
        · have := land_zero q2.2 t ((maskN2_bit _ _).2 ha)
          rw [(maskN2_bit _ _).2 hb] at this; cases this
    · rw [hsplit]
      refine goM_spec ops lg _ _ (j + 1) (L ++ [(o.after.toList.filter (Region.binds .any ·)).flatMap fun e => e.on :: L.getD e.on []]) (dl ++ [x]) hr (by simp [hM]) (by simp [hL]) (by simp [hdl]) (by simp [hpr]) ?_ ?_ j' (by omega) (by rw [← hsplit]; exact h2) i hi
      · intro k t ht
        rw [List.getD_eq_getElem?_getD] at ht ⊢
        by_cases hk : k < j
        · rw [List.getElem?_append_left (by omega)] at ht ⊢
          have := hML k t (by rw [List.getD_eq_getElem?_getD]; exact ht)
          rw [List.getD_eq_getElem?_getD] at this; exact this
        · rw [List.getElem?_append_right (by omega)] at ht ⊢
          by_cases hk2 : k = j
          · subst hk2
            rw [hM, Nat.sub_self] at ht
            rw [hL, Nat.sub_self]
            exact hA t (by simpa using ht)
          · rw [List.getElem?_eq_none (by simp; omega)] at ht
            simp at ht
      · intro k y hy
        by_cases hk : k < j
        · rw [List.getElem?_append_left (by omega)] at hy
          rw [show j + 1 - 1 - k = (j - 1 - k) + 1 by omega, List.getElem?_cons_succ]
          exact hd k y hy
        · rw [List.getElem?_append_right (by omega)] at hy
          have hk2 : k - dl.length = 0 := by
            rcases Nat.eq_zero_or_pos (k - dl.length) with h0 | h0
            · exact h0
            · rw [List.getElem?_eq_none (by simp; omega)] at hy; cases hy
          rw [hk2] at hy
          have : k = j := by omega
          subst this
          simp at hy; subst hy
          rw [show k + 1 - 1 - k = 0 by omega]; rfl

/-- The look, by bits; else as it is said. -/
def okFast (ops : List Oper) (lg : List (List Nat × List Nat)) : Bool := (early 0 ops && goM ops lg [] [] 0) || okRegion ops lg
theorem okFast_eq (ops : List Oper) (lg : List (List Nat × List Nat)) : okFast ops lg = okRegion ops lg := by
  unfold okFast
  cases h : early 0 ops && goM ops lg [] [] 0 with
  | false => rfl
  | true =>
    rw [Bool.true_or]
    simp only [Bool.and_eq_true] at h
    symm
    unfold okRegion okPairs
    rw [h.1, Bool.true_and]
    have := goM_spec ops lg [] [] 0 [] [] h.2 rfl rfl rfl rfl (by simp) (by simp)
    simp only [List.all_eq_true, List.mem_range]
    intro j hj i hi
    exact this j (by omega) (by simpa using hj) i hi
end Go.Proofs.Ytnjhmlnmdnocmaa
