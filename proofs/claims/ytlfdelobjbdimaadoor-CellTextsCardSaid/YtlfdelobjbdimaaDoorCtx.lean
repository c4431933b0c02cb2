/-
  The contracts of dec are right.
-/
import Derived.Test.YtlfdelobjbdimaaDoorNumA
import Derived.Test.YtlfdelobjbdimaaDoorAbsO
set_option maxRecDepth 20000
namespace Go.Proofs.YtlfdelobjbdimaaDoor
set_option linter.unusedSimpArgs false
set_option linter.unusedVariables false
open Go.RowKit

theorem val_facts {t : Bool} {r : Nat} {z : Int} (hg : goodB t r = true) (hv : val t r = z) : fitB z = true ∧ t = decide (z < 0) ∧ r = z.natAbs := by
  obtain ⟨z', h1, h2, h3, h4⟩ := dec_good hg
  rw [hv] at h4; subst h4
  exact ⟨h3, h1.symm, h2.symm⟩
theorem fit_lt {z : Int} (h : fitB z = true) : z.natAbs < 1000000000000000000000000000000000000 := by unfold fitB at h; simpa using h
theorem fit_ge {z : Int} (h : fitB z = false) : 1000000000000000000000000000000000000 ≤ z.natAbs := by unfold fitB at h; simpa using h
theorem fit_mk {z : Int} (h : z.natAbs < 1000000000000000000000000000000000000) : fitB z = true := by unfold fitB; simpa using h
theorem and_true2 {a b : Bool} (h : (a && b) = true) : a = true ∧ b = true := by simpa using h

theorem goodC_ok : Sound 19 (goodC opsR) :=
  sound1 (m := fun s x y K => K (.v (.bool (goodI s x y)))) (fun _ _ => rfl) fun s x y => Says.ret (ps_one Tryd.func19 (by kernel_rfl) rfl fun m hm => ⟨.bool (goodB s m), fun w => good_any s m w _ rfl, fun role w => by subst hm; exact .v rfl⟩)

theorem negC_ok : Sound 29 (negC opsR) := by
  refine sound1 (m := fun s x y K => bif goodI s x y then K (decV (-valI s x y)) else K decZ) (fun _ _ => rfl) fun s x y => Says.ite (fun hg => Says.ret (ps_one Tryd.func29 (by kernel_rfl) rfl fun m hm => ?_)) (fun hg => Says.ret (ps_one Tryd.func29 (by kernel_rfl) rfl fun m hm => ?_))
  · rw [valI_val]; unfold goodI at hg; rw [← hm] at hg ⊢
    obtain ⟨z, h1, h2, h3, h4⟩ := dec_good hg
    rw [← h4]
    refine ⟨_, fun w => neg_good s m w hg _ rfl, fun role w => rd_decV _ _ _ (fit_mk (by rw [Int.natAbs_neg]; exact fit_lt h3)) ?_ (by rw [Int.natAbs_neg]; exact h2.symm)⟩
    subst h1; subst h2
    by_cases hz : z < 0
    · simp [hz]; omega
    · by_cases hz0 : z = 0
      · subst hz0; decide
      · simp [hz, hz0]; omega
  · unfold goodI at hg; rw [← hm] at hg
    exact ⟨_, fun w => neg_bad s m w hg, fun role w => rd_decZ _ _ _⟩

theorem truncC_ok : Sound 30 (truncC opsR) := by
  refine sound1 (m := fun s x y K => bif goodI s x y then K (decV (valI s x y - (valI s x y).tmod 1000000)) else K decZ) (fun _ _ => rfl) fun s x y => Says.ite (fun hg => Says.ret (ps_one Tryd.func30 (by kernel_rfl) rfl fun m hm => ?_)) (fun hg => Says.ret (ps_one Tryd.func30 (by kernel_rfl) rfl fun m hm => ?_))
  · rw [valI_val]; unfold goodI at hg; rw [← hm] at hg ⊢
    have hm := good_lt hg
    have hv : val (s && decide (m - m % 1000000 ≠ 0)) (m - m % 1000000) = val s m - (val s m).tmod 1000000 := by
      rw [val_mk]; unfold val
      cases s
      · simp only [Bool.false_eq_true, if_false]
        rw [Int.tmod_eq_emod_of_nonneg (by omega)]; omega
      · simp only [if_true]
        rw [Int.neg_tmod, Int.tmod_eq_emod_of_nonneg (by omega)]; omega
    obtain ⟨f1, f2, f3⟩ := val_facts (good_mk (by omega) (fun hh => by simp only [Bool.and_eq_true, decide_eq_true_eq] at hh; exact hh.2)) hv
    exact ⟨_, fun w => trunc_good s m w hg _ rfl, fun role w => rd_decV _ _ _ f1 f2 f3⟩
  · unfold goodI at hg; rw [← hm] at hg
    exact ⟨_, fun w => trunc_bad s m w hg, fun role w => rd_decZ _ _ _⟩

theorem cmpC_ok : Sound 38 (cmpC opsR) := by
  refine sound2 (m := fun s x y s' x' y' K => bif goodI s x y && goodI s' x' y' then K (.v (.int .i64 (sgn (valI s x y) (valI s' x' y')))) else K (.v (.int .i64 0))) (fun _ _ => rfl) fun s x y s' x' y' => Says.ite (fun hg => Says.ret (ps_two Tryd.func38 (by kernel_rfl) rfl fun m m' hm hm' => ?_)) (fun hg => Says.ret (ps_two Tryd.func38 (by kernel_rfl) rfl fun m m' hm hm' => ?_))
  · rw [valI_val, valI_val]; unfold goodI at hg; rw [← hm, ← hm'] at hg ⊢
    obtain ⟨g, g'⟩ := and_true2 hg
    exact ⟨_, fun w => cmp_val s m s' m' w g g', fun role w => .v rfl⟩
  · unfold goodI at hg; rw [← hm, ← hm'] at hg
    exact ⟨_, fun w => cmp_bad s m s' m' w hg, fun role w => .v rfl⟩

theorem addC_ok : Sound 75 (addC opsR) := by
  refine sound2 (m := fun s x y s' x' y' K => bif goodI s x y && goodI s' x' y' then fitC opsR (valI s x y + valI s' x' y') K else K (.tup [decZ, errD 1])) (fun _ _ => rfl) fun s x y s' x' y' => Says.ite (fun hg => Says.ite (fun hf => Says.ret (ps_two Tryd.func75 (by kernel_rfl) rfl fun m m' hm hm' => ?_)) (fun hf => Says.ret (ps_two Tryd.func75 (by kernel_rfl) rfl fun m m' hm hm' => ?_))) (fun hg => Says.ret (ps_two Tryd.func75 (by kernel_rfl) rfl fun m m' hm hm' => ?_))
  · rw [valI_val, valI_val] at hf ⊢; unfold goodI at hg; rw [← hm, ← hm'] at hg hf ⊢
    obtain ⟨g, g'⟩ := and_true2 hg
    obtain ⟨t, r, er, h1, h2 | h2⟩ := add_val s m s' m' g g'
    · obtain ⟨rfl, h3, h4⟩ := h2
      obtain ⟨f1, f2, f3⟩ := val_facts h3 h4
      exact ⟨_, fun w => add_good s m s' m' w hg t _ _ _ h1, fun role w => rd_two (rd_decV _ _ _ f1 f2 f3) (rd_nil _ _ _)⟩
    · have := fit_lt hf
      omega
  · rw [valI_val, valI_val] at hf; unfold goodI at hg; rw [← hm, ← hm'] at hg hf
    obtain ⟨g, g'⟩ := and_true2 hg
    obtain ⟨t, r, er, h1, h2 | h2⟩ := add_val s m s' m' g g'
    · obtain ⟨rfl, h3, h4⟩ := h2
      obtain ⟨f1, f2, f3⟩ := val_facts h3 h4
      exact absurd (f1.symm.trans hf) (by decide)
    · obtain ⟨rfl, rfl, rfl, h5⟩ := h2
      exact ⟨_, fun w => add_good s m s' m' w hg false _ _ _ h1, fun role w => rd_two (rd_decZ _ _ _) (rd_err _ _ _ _)⟩
  · unfold goodI at hg; rw [← hm, ← hm'] at hg
    exact ⟨_, fun w => add_bad s m s' m' w hg, fun role w => rd_two (rd_decZ _ _ _) (rd_err _ _ _ _)⟩

theorem subC_ok : Sound 31 (subC opsR) := by
  refine sound2 (m := fun s x y s' x' y' K => bif goodI s x y && goodI s' x' y' then fitC opsR (valI s x y - valI s' x' y') K else K (.tup [decZ, errD 1])) (fun _ _ => rfl) fun s x y s' x' y' => Says.ite (fun hg => Says.ite (fun hf => Says.ret (ps_two Tryd.func31 (by kernel_rfl) rfl fun m m' hm hm' => ?_)) (fun hf => Says.ret (ps_two Tryd.func31 (by kernel_rfl) rfl fun m m' hm hm' => ?_))) (fun hg => Says.ret (ps_two Tryd.func31 (by kernel_rfl) rfl fun m m' hm hm' => ?_))
  · rw [valI_val, valI_val] at hf ⊢; unfold goodI at hg; rw [← hm, ← hm'] at hg hf ⊢
    obtain ⟨g, g'⟩ := and_true2 hg
    have g2 : goodB (!s' && decide (m' ≠ 0)) m' = true := good_mk (good_lt g') (fun hh => by simp only [Bool.and_eq_true, decide_eq_true_eq] at hh; exact hh.2)
    have ev : val s m - val s' m' = val s m + val (!s' && decide (m' ≠ 0)) m' := by rw [val_mk]; unfold val; cases s' <;> simp <;> omega
    rw [ev] at hf ⊢
    obtain ⟨t, r, er, h1, h2 | h2⟩ := add_val s m _ m' g g2
    · obtain ⟨rfl, h3, h4⟩ := h2
      obtain ⟨f1, f2, f3⟩ := val_facts h3 h4
      exact ⟨_, fun w => sub_good s m s' m' w hg _ rfl t _ _ _ h1, fun role w => rd_two (rd_decV _ _ _ f1 f2 f3) (rd_nil _ _ _)⟩
    · have := fit_lt hf
      omega
  · rw [valI_val, valI_val] at hf; unfold goodI at hg; rw [← hm, ← hm'] at hg hf
    obtain ⟨g, g'⟩ := and_true2 hg
    have g2 : goodB (!s' && decide (m' ≠ 0)) m' = true := good_mk (good_lt g') (fun hh => by simp only [Bool.and_eq_true, decide_eq_true_eq] at hh; exact hh.2)
    have ev : val s m - val s' m' = val s m + val (!s' && decide (m' ≠ 0)) m' := by rw [val_mk]; unfold val; cases s' <;> simp <;> omega
    rw [ev] at hf
    obtain ⟨t, r, er, h1, h2 | h2⟩ := add_val s m _ m' g g2
    · obtain ⟨rfl, h3, h4⟩ := h2
      obtain ⟨f1, f2, f3⟩ := val_facts h3 h4
      exact absurd (f1.symm.trans hf) (by decide)
    · obtain ⟨rfl, rfl, rfl, h5⟩ := h2
      exact ⟨_, fun w => sub_good s m s' m' w hg _ rfl false _ _ _ h1, fun role w => rd_two (rd_decZ _ _ _) (rd_err _ _ _ _)⟩
  · unfold goodI at hg; rw [← hm, ← hm'] at hg
    exact ⟨_, fun w => sub_bad s m s' m' w hg, fun role w => rd_two (rd_decZ _ _ _) (rd_err _ _ _ _)⟩

theorem mul_val (s s' : Bool) (m m' : Nat) : val ((s != s') && decide (m * m' / 1000000 ≠ 0)) (m * m' / 1000000) = (val s m * val s' m').tdiv 1000000 := by
  rw [val_mk]
  have key : ((m : Int) * m').tdiv 1000000 = ((m * m' / 1000000 : Nat) : Int) := by
    rw [← Int.natCast_mul]
    rfl
  generalize m * m' / 1000000 = r at *
  unfold val
  cases s <;> cases s' <;> simp [Int.neg_mul, Int.mul_neg, Int.neg_tdiv, key]
theorem mulC_ok : Sound 74 (mulC opsR) := by
  refine sound2 (m := fun s x y s' x' y' K => bif goodI s x y && goodI s' x' y' then fitC opsR ((valI s x y * valI s' x' y').tdiv 1000000) K else K (.tup [decZ, errD 1])) (fun _ _ => rfl) fun s x y s' x' y' => Says.ite (fun hg => Says.ite (fun hf => Says.ret (ps_two Tryd.func74 (by kernel_rfl) rfl fun m m' hm hm' => ?_)) (fun hf => Says.ret (ps_two Tryd.func74 (by kernel_rfl) rfl fun m m' hm hm' => ?_))) (fun hg => Says.ret (ps_two Tryd.func74 (by kernel_rfl) rfl fun m m' hm hm' => ?_))
  · rw [valI_val, valI_val] at hf ⊢; unfold goodI at hg; rw [← hm, ← hm'] at hg hf ⊢
    obtain ⟨g, g'⟩ := and_true2 hg
    rw [← mul_val] at hf ⊢
    have hl := fit_lt hf
    rw [val_mk] at hl
    have hl2 : m * m' / 1000000 < 1000000000000000000000000000000000000 := by split at hl <;> omega
    obtain ⟨f1, f2, f3⟩ := val_facts (good_mk hl2 (fun hh => by simp only [Bool.and_eq_true, decide_eq_true_eq] at hh; exact hh.2)) (rfl : val ((s != s') && decide (m * m' / 1000000 ≠ 0)) _ = _)
    exact ⟨_, fun w => (mul_good s m s' m' w g g').1 hl2 _ rfl, fun role w => rd_two (rd_decV _ _ _ f1 f2 f3) (rd_nil _ _ _)⟩
  · rw [valI_val, valI_val] at hf; unfold goodI at hg; rw [← hm, ← hm'] at hg hf
    obtain ⟨g, g'⟩ := and_true2 hg
    rw [← mul_val] at hf
    have hl := fit_ge hf
    rw [val_mk] at hl
    have hl2 : ¬ m * m' / 1000000 < 1000000000000000000000000000000000000 := by split at hl <;> omega
    exact ⟨_, fun w => (mul_good s m s' m' w g g').2 hl2, fun role w => rd_two (rd_decZ _ _ _) (rd_err _ _ _ _)⟩
  · unfold goodI at hg; rw [← hm, ← hm'] at hg
    exact ⟨_, fun w => mul_bad s m s' m' w hg, fun role w => rd_two (rd_decZ _ _ _) (rd_err _ _ _ _)⟩

theorem codeC_ok : Sound 23 codeC := by
  intro ds K hK
  unfold codeC at hK
  split at hK
  · refine ⟨_, hK, fun K' h => h, ps_of_calls Tryd.func23 (by kernel_rfl) rfl fun role w args hsz hargs => ?_⟩
    obtain ⟨a, rfl, ha⟩ := args_one rfl hsz hargs
    obtain ⟨rfl, _⟩ := rd_v ha
    exact ⟨_, (code_nil w).mono fun e w' ⟨h1, h2⟩ => ⟨h1, h2 ▸ Ext.refl _⟩, fun w' => .v rfl⟩
  · rename_i t n
    cases hc : (t == 77 && (n == 1 || n == 2 || n == 3)) with
    | false => rw [hc] at hK; exact hK.elim
    | true =>
      rw [hc] at hK
      refine ⟨_, hK, fun K' h => ?_, ps_of_calls Tryd.func23 (by kernel_rfl) rfl fun role w args hsz hargs => ?_⟩
      · show (bif (t == 77 && (n == 1 || n == 2 || n == 3)) then K' (.v (.int .i64 n)) else False)
        rw [hc]; exact h
      obtain ⟨a, rfl, ha⟩ := args_one rfl hsz hargs
      simp only [Bool.and_eq_true, beq_iff_eq, Bool.or_eq_true] at hc
      obtain ⟨rfl, hn⟩ := hc
      cases ha with
      | iface hx =>
        obtain ⟨rfl, _⟩ := rd_v hx
        rcases hn with (rfl | rfl) | rfl
        · exact ⟨_, (code_one w).mono fun e w' ⟨h1, h2⟩ => ⟨h1, h2 ▸ Ext.refl _⟩, fun w' => .v rfl⟩
        · exact ⟨_, (code_two w).mono fun e w' ⟨h1, h2⟩ => ⟨h1, h2 ▸ Ext.refl _⟩, fun w' => .v rfl⟩
        · exact ⟨_, (code_three w).mono fun e w' ⟨h1, h2⟩ => ⟨h1, h2 ▸ Ext.refl _⟩, fun w' => .v rfl⟩
  · exact hK.elim

theorem soundT {f : Nat} {o o' : Orc} (h : Sound f o) (hk : ∀ ds (K : D → Prop), o' f ds K → o f ds K ∧ ∀ K' : D → Prop, o f ds K' → o' f ds K') : Sound f o' := by
  intro ds K hK
  obtain ⟨h1, h2⟩ := hk ds K hK
  obtain ⟨d, h3, h4, h5⟩ := h ds K h1
  exact ⟨d, h3, fun K' hK' => h2 K' (h4 K' hK'), h5⟩

def goodT (M : Ops) : Orc := fun _ ds K => match one? ds with
  | some (s, x, y) => M.good s x y = true ∧ K (.v (.bool true))
  | none => False
def negT (M : Ops) : Orc := fun _ ds K => match one? ds with
  | some (s, x, y) => M.good s x y = true ∧ K (decM M (M.neg (M.val s x y)))
  | none => False
def truncT (M : Ops) : Orc := fun _ ds K => match one? ds with
  | some (s, x, y) => M.good s x y = true ∧ K (decM M (M.trunc (M.val s x y)))
  | none => False
def cmpT (M : Ops) : Orc := fun _ ds K => match two? ds with
  | some (s, x, y, s', x', y') => M.good s x y = true ∧ M.good s' x' y' = true ∧ K (.v (.int .i64 (M.cmp (M.val s x y) (M.val s' x' y'))))
  | none => False
def addT (M : Ops) : Orc := fun _ ds K => match two? ds with
  | some (s, x, y, s', x', y') => M.good s x y = true ∧ M.good s' x' y' = true ∧ fitC M (M.add (M.val s x y) (M.val s' x' y')) K
  | none => False
def addF (M : Ops) : Orc := fun _ ds K => match two? ds with
  | some (s, x, y, s', x', y') => M.good s x y = true ∧ M.good s' x' y' = true ∧ M.fit (M.add (M.val s x y) (M.val s' x' y')) = true ∧ K (.tup [decM M (M.add (M.val s x y) (M.val s' x' y')), nilD])
  | none => False
def subT (M : Ops) : Orc := fun _ ds K => match two? ds with
  | some (s, x, y, s', x', y') => M.good s x y = true ∧ M.good s' x' y' = true ∧ fitC M (M.sub (M.val s x y) (M.val s' x' y')) K
  | none => False
def mulT (M : Ops) : Orc := fun _ ds K => match two? ds with
  | some (s, x, y, s', x', y') => M.good s x y = true ∧ M.good s' x' y' = true ∧ fitC M (M.mul (M.val s x y) (M.val s' x' y')) K
  | none => False

section
variable {M : Ops} {f : Nat} {ds : List D} {K : D → Prop}
theorem goodT_to (h : goodT M f ds K) : goodC M f ds K ∧ ∀ K' : D → Prop, goodC M f ds K' → goodT M f ds K' := by
  revert h; unfold goodT goodC; generalize one? ds = r; intro h
  match r, h with
  | none, h => exact h.elim
  | some (s, x, y), h => exact ⟨by simp only [h.1, cond_true]; exact h.2, fun K' hK => ⟨h.1, by simp only [h.1, cond_true] at hK; exact hK⟩⟩
theorem negT_to (h : negT M f ds K) : negC M f ds K ∧ ∀ K' : D → Prop, negC M f ds K' → negT M f ds K' := by
  revert h; unfold negT negC; generalize one? ds = r; intro h
  match r, h with
  | none, h => exact h.elim
  | some (s, x, y), h => exact ⟨by simp only [h.1, cond_true]; exact h.2, fun K' hK => ⟨h.1, by simp only [h.1, cond_true] at hK; exact hK⟩⟩
theorem truncT_to (h : truncT M f ds K) : truncC M f ds K ∧ ∀ K' : D → Prop, truncC M f ds K' → truncT M f ds K' := by
  revert h; unfold truncT truncC; generalize one? ds = r; intro h
  match r, h with
  | none, h => exact h.elim
  | some (s, x, y), h => exact ⟨by simp only [h.1, cond_true]; exact h.2, fun K' hK => ⟨h.1, by simp only [h.1, cond_true] at hK; exact hK⟩⟩
theorem cmpT_to (h : cmpT M f ds K) : cmpC M f ds K ∧ ∀ K' : D → Prop, cmpC M f ds K' → cmpT M f ds K' := by
  revert h; unfold cmpT cmpC; generalize two? ds = r; intro h
  match r, h with
  | none, h => exact h.elim
  | some (s, x, y, s', x', y'), h => exact ⟨by simp only [h.1, h.2.1, Bool.and_self, cond_true]; exact h.2.2, fun K' hK => ⟨h.1, h.2.1, by simp only [h.1, h.2.1, Bool.and_self, cond_true] at hK; exact hK⟩⟩
theorem addT_to (h : addT M f ds K) : addC M f ds K ∧ ∀ K' : D → Prop, addC M f ds K' → addT M f ds K' := by
  revert h; unfold addT addC; generalize two? ds = r; intro h
  match r, h with
  | none, h => exact h.elim
  | some (s, x, y, s', x', y'), h => exact ⟨by simp only [h.1, h.2.1, Bool.and_self, cond_true]; exact h.2.2, fun K' hK => ⟨h.1, h.2.1, by simp only [h.1, h.2.1, Bool.and_self, cond_true] at hK; exact hK⟩⟩
theorem subT_to (h : subT M f ds K) : subC M f ds K ∧ ∀ K' : D → Prop, subC M f ds K' → subT M f ds K' := by
  revert h; unfold subT subC; generalize two? ds = r; intro h
  match r, h with
  | none, h => exact h.elim
  | some (s, x, y, s', x', y'), h => exact ⟨by simp only [h.1, h.2.1, Bool.and_self, cond_true]; exact h.2.2, fun K' hK => ⟨h.1, h.2.1, by simp only [h.1, h.2.1, Bool.and_self, cond_true] at hK; exact hK⟩⟩
theorem mulT_to (h : mulT M f ds K) : mulC M f ds K ∧ ∀ K' : D → Prop, mulC M f ds K' → mulT M f ds K' := by
  revert h; unfold mulT mulC; generalize two? ds = r; intro h
  match r, h with
  | none, h => exact h.elim
  | some (s, x, y, s', x', y'), h => exact ⟨by simp only [h.1, h.2.1, Bool.and_self, cond_true]; exact h.2.2, fun K' hK => ⟨h.1, h.2.1, by simp only [h.1, h.2.1, Bool.and_self, cond_true] at hK; exact hK⟩⟩
theorem addF_to (h : addF M f ds K) : addC M f ds K ∧ ∀ K' : D → Prop, addC M f ds K' → addF M f ds K' := by
  revert h; unfold addF addC fitC; generalize two? ds = r; intro h
  match r, h with
  | none, h => exact h.elim
  | some (s, x, y, s', x', y'), h => exact ⟨by simp only [h.1, h.2.1, h.2.2.1, Bool.and_self, cond_true]; exact h.2.2.2, fun K' hK => ⟨h.1, h.2.1, h.2.2.1, by simp only [h.1, h.2.1, h.2.2.1, Bool.and_self, cond_true] at hK; exact hK⟩⟩
end

/-- What a number's value comes to, in terms that a run leaves as they are. -/
theorem ops_val (z : Int) : opsR.val (opsR.sg z) (opsR.hi z) (opsR.lo z) = z := valI_dec z
theorem ops_good (z : Int) : opsR.good (opsR.sg z) (opsR.hi z) (opsR.lo z) = opsR.fit z := goodI_dec z
theorem ops_val0 : opsR.val false 0 0 = 0 := by decide
theorem ops_good0 : opsR.good false 0 0 = true := by decide
theorem ops_zero : opsR.sg 0 = false ∧ opsR.hi 0 = 0 ∧ opsR.lo 0 = 0 := by decide
theorem ops_fit_neg {z : Int} (h : opsR.fit z = true) : opsR.fit (-z) = true := fit_mk (by rw [Int.natAbs_neg]; exact fit_lt h)

def lookO : List (Nat × Orc) → Nat → Option Orc
  | [], _ => none
  | (f, o) :: l, g => bif f == g then some o else lookO l g
theorem lookO_mem : ∀ {l : List (Nat × Orc)} {g : Nat} {o : Orc}, lookO l g = some o → (g, o) ∈ l
  | (f, o') :: l, g, o, h => by
    unfold lookO at h
    by_cases hf : f = g
    · subst hf; simp at h; subst h; simp
    · have : (f == g) = false := by simpa using hf
      rw [this, cond_false] at h
      exact List.mem_cons_of_mem _ (lookO_mem h)
/-- The context of some contracts, without any of loops. -/
def ctxOf (l : List (Nat × Orc)) (fuel : Nat) : Ctx where
  has f := (lookO l f).isSome
  orc f ds K := match lookO l f with
    | some o => o f ds K
    | none => False
  hasL _ _ := false
  lorc _ _ _ _ := False
  fuel := fuel
theorem prog_names : (Tryd.prog.funcs.toList.all fun fn => !(fn.name == "runtime.NumGoroutine")) = true := by kernel_rfl
theorem prog_mixed : Tryd.prog.follows .mixedOrders = true := by kernel_rfl
theorem ctxOf_ok {l : List (Nat × Orc)} {fuel : Nat} (h : ∀ x ∈ l, Sound x.1 x.2) : CtxOK Tryd.prog (ctxOf l fuel) where
  mixed := prog_mixed
  names f fn hf := by
    have := List.all_eq_true.1 prog_names fn (by simpa using Array.mem_of_getElem? hf)
    simpa using this
  orc f ds K hh hK := by
    have hK' : (match lookO l f with | some o => o f ds K | none => False) := hK
    cases ho : lookO l f with
    | none => rw [ho] at hK'; exact hK'.elim
    | some o =>
      rw [ho] at hK'
      obtain ⟨d, h1, h2, h3⟩ := h _ (lookO_mem ho) ds K hK'
      refine ⟨d, h1, fun K' hK'' => ?_, h3⟩
      show (match lookO l f with | some o => o f ds K' | none => False)
      rw [ho]; exact h2 K' hK''
  loop f fn c _ _ x _ hx := by cases hx

/-- The context of some contracts, of calls and of loops. -/
def ctxL (l : List (Nat × Orc)) (ll : List (Nat × Nat × (List D → (AExit → List D → Prop) → Prop))) (fuel : Nat) : Ctx where
  has f := (lookO l f).isSome
  orc f ds K := match lookO l f with
    | some o => o f ds K
    | none => False
  hasL f r := (lookL ll f r).isSome
  lorc f r s K := match lookL ll f r with
    | some m => m s K
    | none => False
  fuel := fuel
theorem ctxL_ok {l : List (Nat × Orc)} {ll : List (Nat × Nat × (List D → (AExit → List D → Prop) → Prop))} {fuel : Nat} (h : ∀ x ∈ l, Sound x.1 x.2) (hl : ∀ x ∈ ll, LoopSound Tryd.prog x.1 x.2.1 x.2.2) : CtxOK Tryd.prog (ctxL l ll fuel) where
  mixed := prog_mixed
  names := (ctxOf_ok (fuel := 0) h).names
  orc := (ctxOf_ok (fuel := 0) h).orc
  loop f fn c hf hb x hx hh := by
    have hh' : (lookL ll f (regionOf x)).isSome = true := hh
    obtain ⟨m, hm⟩ := Option.isSome_iff_exists.1 hh'
    have e : (ctxL l ll fuel).lorc f (regionOf x) = m := by
      funext s K
      show (match lookL ll f (regionOf x) with | some m => m s K | none => False) = _
      rw [hm]
    rw [e]
    exact hl _ (lookL_mem hm) fn c hf hb x hx rfl

theorem ops_neg (z : Int) : opsR.neg z = -z := rfl
theorem ops_add (z z' : Int) : opsR.add z z' = z + z' := rfl
theorem ops_sub (z z' : Int) : opsR.sub z z' = z - z' := rfl
theorem ops_mul (z z' : Int) : opsR.mul z z' = (z * z').tdiv 1000000 := rfl
theorem ops_fitn (z : Int) : opsR.fit (-z) = opsR.fit z := by
  show fitB (-z) = fitB z
  unfold fitB; rw [Int.natAbs_neg]
theorem ops_fit0 : opsR.fit 0 = true := by decide

/-- A walk, out of a contract whose arguments hold no address. -/
theorem calls_of_ps {P : Program} {f : Nat} {fn : Func} {c : Code} (hf : P.funcs[f]? = some fn) (hname : (fn.name == "runtime.NumGoroutine") = false) (hb : fn.body = some c) {ds : List D} {x : Value} (h : PS P f ds (.v x))
    {args : Array Value} (hsz : args.size = ds.length) (hargs : ∀ role w (i : Nat) (y : Value) (e : D), args[i]? = some y → ds[i]? = some e → Rd P role w y e) (w : World) : Calls P f args w fun e w' => e = .returned x ∧ Ext w w' := by
  have := h (fun _ => .none) w args (fun k hk => absurd rfl hk) (fun k => ⟨fun t ht => (by cases ht), fun lim p hp => (by cases hp)⟩) hsz (hargs _ _)
  unfold CallsV at this
  rw [MuLone.run_callFunc_enter hf hname hb] at this
  refine this.mono ?_
  rintro e w' ⟨v, role', rfl, hx, _, _, hr⟩
  obtain ⟨rfl, _⟩ := rd_v hr
  exact ⟨rfl, hx⟩
theorem args_of_one {P : Program} {role : Nat → Role} {w : World} {a : Value} {d : D} (h : Rd P role w a d) (i : Nat) (y : Value) (e : D) (hy : #[a][i]? = some y) (he : [d][i]? = some e) : Rd P role w y e := by
  match i with
  | 0 => simp at hy he; subst hy; subst he; exact h
  | i + 1 => simp at he
theorem args_of_two {P : Program} {role : Nat → Role} {w : World} {a b : Value} {d d' : D} (h : Rd P role w a d) (k : Rd P role w b d') (i : Nat) (y : Value) (e : D) (hy : #[a, b][i]? = some y) (he : [d, d'][i]? = some e) : Rd P role w y e := by
  match i with
  | 0 => simp at hy he; subst hy; subst he; exact h
  | 1 => simp at hy he; subst hy; subst he; exact k
  | i + 2 => simp at he
/-- A number's cells, any. -/
def decA (s : Bool) (m : Nat) : D := .agg [.v (.bool s), .v (.int .u64 ((hiN m : Nat) : Int)), .v (.int .u64 ((loN m : Nat) : Int))]
theorem rd_decA (P : Program) (role : Nat → Role) (w : World) (s : Bool) {m : Nat} (h : m < 340282366920938463463374607431768211456) : Rd P role w (.agg #[.bool (s), .int .u64 ((hiN (m) : Nat) : Int), .int .u64 ((loN (m) : Nat) : Int)]) (decA s m) := rd_three (u64_nat (hiN_lt h)) (u64_nat (loN_lt _))
theorem ops_good_of (s : Bool) (m : Nat) : opsR.good s ((hiN m : Nat) : Int) ((loN m : Nat) : Int) = goodB s m := by
  show goodI s _ _ = _
  unfold goodI; rw [magI_halves]
theorem decA_good {s : Bool} {m : Nat} (h : goodB s m = true) : ∃ z : Int, decA s m = decM opsR z ∧ opsR.fit z = true ∧ z = val s m := by
  obtain ⟨z, h1, h2, h3, h4⟩ := dec_good h
  refine ⟨z, ?_, h3, h4⟩
  subst h1; subst h2; rfl
end Go.Proofs.YtlfdelobjbdimaaDoor
