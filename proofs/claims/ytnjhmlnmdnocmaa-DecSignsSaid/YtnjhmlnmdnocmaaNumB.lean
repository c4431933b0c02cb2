/-
  The contracts of dec are right.
-/
import Derived.Test.YtnjhmlnmdnocmaaNumA
namespace Go.Proofs.Ytnjhmlnmdnocmaa
set_option linter.unusedSimpArgs false
set_option linter.unusedVariables false
open Go.RowKit

theorem val_facts {t : Bool} {r : Nat} {z : Int} (hg : goodB t r = true) (hv : val t r = z) : fitB z = true ∧ t = decide (z < 0) ∧ r = z.natAbs := by
  obtain ⟨z', h1, h2, h3, h4⟩ := dec_good hg
  rw [hv] at h4; subst h4
  exact ⟨h3, h1.symm, h2.symm⟩
theorem fit_lt {z : Int} (h : fitB z = true) : z.natAbs < 1000000000000000000000000000000000000 := by unfold fitB at h; simpa using h
theorem fit_ge {z : Int} (h : fitB z = false) : 1000000000000000000000000000000000000 ≤ z.natAbs := by unfold fitB at h; simpa using h
theorem fit_mk {z : Int} (h : z.natAbs < 1000000000000000000000000000000000000) : fitB z = true := by unfold fitB; simpa using h
theorem and_true2 {a b : Bool} (h : (a && b) = true) : a = true ∧ b = true := by simpa using h

theorem goodC_ok : Sound 12 (goodC opsR) :=
  sound1 (m := fun s x y K => K (.v (.bool (goodI s x y)))) (fun _ _ => rfl) fun s x y => Says.ret (ps_one Try.func12 (by kernel_rfl) rfl fun m hm => ⟨.bool (goodB s m), fun w => good_any s m w _ rfl, fun role w => by subst hm; exact .v rfl⟩)

theorem negC_ok : Sound 15 (negC opsR) := by
  refine sound1 (m := fun s x y K => bif goodI s x y then K (decV (-valI s x y)) else K decZ) (fun _ _ => rfl) fun s x y => Says.ite (fun hg => Says.ret (ps_one Try.func15 (by kernel_rfl) rfl fun m hm => ?_)) (fun hg => Says.ret (ps_one Try.func15 (by kernel_rfl) rfl fun m hm => ?_))
  · rw [valI_val]; unfold goodI at hg; rw [← hm] at hg ⊢
    obtain ⟨z, h1, h2, h3, h4⟩ := dec_good hg
    rw [← h4]
    refine ⟨_, fun w => neg_good s m w hg _ rfl, fun role w => rd_decV _ _ _ (fit_mk (by rw [Int.natAbs_neg]; exact fit_lt h3)) ?_ (by rw [Int.natAbs_neg]; exact h2.symm)⟩
    subst h1; subst h2
    by_cases hz : z < 0
    · simp [hz]; omega
    · by_cases hz0 : z = 0
      · subst hz0; decide
      · simp [hz, hz0]; omega
  · unfold goodI at hg; rw [← hm] at hg
    exact ⟨_, fun w => neg_bad s m w hg, fun role w => rd_decZ _ _ _⟩

theorem truncC_ok : Sound 13 (truncC opsR) := by
  refine sound1 (m := fun s x y K => bif goodI s x y then K (decV (valI s x y - (valI s x y).tmod 1000000)) else K decZ) (fun _ _ => rfl) fun s x y => Says.ite (fun hg => Says.ret (ps_one Try.func13 (by kernel_rfl) rfl fun m hm => ?_)) (fun hg => Says.ret (ps_one Try.func13 (by kernel_rfl) rfl fun m hm => ?_))
  · rw [valI_val]; unfold goodI at hg; rw [← hm] at hg ⊢
    have hm := good_lt hg
    have hv : val (s && decide (m - m % 1000000 ≠ 0)) (m - m % 1000000) = val s m - (val s m).tmod 1000000 := by
      rw [val_mk]; unfold val
      cases s
      · simp only [Bool.false_eq_true, if_false]
        rw [Int.tmod_eq_emod_of_nonneg (by omega)]; omega
      · simp only [if_true]
        rw [Int.neg_tmod, Int.tmod_eq_emod_of_nonneg (by omega)]; omega
    obtain ⟨f1, f2, f3⟩ := val_facts (good_mk (by omega) (fun hh => by simp only [Bool.and_eq_true, decide_eq_true_eq] at hh; exact hh.2)) hv
    exact ⟨_, fun w => trunc_good s m w hg _ rfl, fun role w => rd_decV _ _ _ f1 f2 f3⟩
  · unfold goodI at hg; rw [← hm] at hg
    exact ⟨_, fun w => trunc_bad s m w hg, fun role w => rd_decZ _ _ _⟩

theorem cmpC_ok : Sound 22 (cmpC opsR) := by
  refine sound2 (m := fun s x y s' x' y' K => bif goodI s x y && goodI s' x' y' then K (.v (.int .i64 (sgn (valI s x y) (valI s' x' y')))) else K (.v (.int .i64 0))) (fun _ _ => rfl) fun s x y s' x' y' => Says.ite (fun hg => Says.ret (ps_two Try.func22 (by kernel_rfl) rfl fun m m' hm hm' => ?_)) (fun hg => Says.ret (ps_two Try.func22 (by kernel_rfl) rfl fun m m' hm hm' => ?_))
  · rw [valI_val, valI_val]; unfold goodI at hg; rw [← hm, ← hm'] at hg ⊢
    obtain ⟨g, g'⟩ := and_true2 hg
    exact ⟨_, fun w => cmp_val s m s' m' w g g', fun role w => .v rfl⟩
  · unfold goodI at hg; rw [← hm, ← hm'] at hg
    exact ⟨_, fun w => cmp_bad s m s' m' w hg, fun role w => .v rfl⟩

theorem addC_ok : Sound 21 (addC opsR) := by
  refine sound2 (m := fun s x y s' x' y' K => bif goodI s x y && goodI s' x' y' then fitC opsR (valI s x y + valI s' x' y') K else K (.tup [decZ, errD 1])) (fun _ _ => rfl) fun s x y s' x' y' => Says.ite (fun hg => Says.ite (fun hf => Says.ret (ps_two Try.func21 (by kernel_rfl) rfl fun m m' hm hm' => ?_)) (fun hf => Says.ret (ps_two Try.func21 (by kernel_rfl) rfl fun m m' hm hm' => ?_))) (fun hg => Says.ret (ps_two Try.func21 (by kernel_rfl) rfl fun m m' hm hm' => ?_))
  · rw [valI_val, valI_val] at hf ⊢; unfold goodI at hg; rw [← hm, ← hm'] at hg hf ⊢
    obtain ⟨g, g'⟩ := and_true2 hg
    obtain ⟨t, r, er, h1, h2 | h2⟩ := add_val s m s' m' g g'
    · obtain ⟨rfl, h3, h4⟩ := h2
      obtain ⟨f1, f2, f3⟩ := val_facts h3 h4
      exact ⟨_, fun w => add_good s m s' m' w hg t _ _ _ h1, fun role w => rd_two (rd_decV _ _ _ f1 f2 f3) (rd_nil _ _ _)⟩
    · have := fit_lt hf
      omega
  · rw [valI_val, valI_val] at hf; unfold goodI at hg; rw [← hm, ← hm'] at hg hf
    obtain ⟨g, g'⟩ := and_true2 hg
    obtain ⟨t, r, er, h1, h2 | h2⟩ := add_val s m s' m' g g'
    · obtain ⟨rfl, h3, h4⟩ := h2
      obtain ⟨f1, f2, f3⟩ := val_facts h3 h4
      exact absurd (f1.symm.trans hf) (by decide)
    · obtain ⟨rfl, rfl, rfl, h5⟩ := h2
      exact ⟨_, fun w => add_good s m s' m' w hg false _ _ _ h1, fun role w => rd_two (rd_decZ _ _ _) (rd_err _ _ _ _)⟩
  · unfold goodI at hg; rw [← hm, ← hm'] at hg
    exact ⟨_, fun w => add_bad s m s' m' w hg, fun role w => rd_two (rd_decZ _ _ _) (rd_err _ _ _ _)⟩

theorem subC_ok : Sound 23 (subC opsR) := by
  refine sound2 (m := fun s x y s' x' y' K => bif goodI s x y && goodI s' x' y' then fitC opsR (valI s x y - valI s' x' y') K else K (.tup [decZ, errD 1])) (fun _ _ => rfl) fun s x y s' x' y' => Says.ite (fun hg => Says.ite (fun hf => Says.ret (ps_two Try.func23 (by kernel_rfl) rfl fun m m' hm hm' => ?_)) (fun hf => Says.ret (ps_two Try.func23 (by kernel_rfl) rfl fun m m' hm hm' => ?_))) (fun hg => Says.ret (ps_two Try.func23 (by kernel_rfl) rfl fun m m' hm hm' => ?_))
  · rw [valI_val, valI_val] at hf ⊢; unfold goodI at hg; rw [← hm, ← hm'] at hg hf ⊢
    obtain ⟨g, g'⟩ := and_true2 hg
    have g2 : goodB (!s' && decide (m' ≠ 0)) m' = true := good_mk (good_lt g') (fun hh => by simp only [Bool.and_eq_true, decide_eq_true_eq] at hh; exact hh.2)
    have ev : val s m - val s' m' = val s m + val (!s' && decide (m' ≠ 0)) m' := by rw [val_mk]; unfold val; cases s' <;> simp <;> omega
    rw [ev] at hf ⊢
    obtain ⟨t, r, er, h1, h2 | h2⟩ := add_val s m _ m' g g2
    · obtain ⟨rfl, h3, h4⟩ := h2
      obtain ⟨f1, f2, f3⟩ := val_facts h3 h4
      exact ⟨_, fun w => sub_good s m s' m' w hg _ rfl t _ _ _ h1, fun role w => rd_two (rd_decV _ _ _ f1 f2 f3) (rd_nil _ _ _)⟩
    · have := fit_lt hf
      omega
  · rw [valI_val, valI_val] at hf; unfold goodI at hg; rw [← hm, ← hm'] at hg hf
    obtain ⟨g, g'⟩ := and_true2 hg
    have g2 : goodB (!s' && decide (m' ≠ 0)) m' = true := good_mk (good_lt g') (fun hh => by simp only [Bool.and_eq_true, decide_eq_true_eq] at hh; exact hh.2)
    have ev : val s m - val s' m' = val s m + val (!s' && decide (m' ≠ 0)) m' := by rw [val_mk]; unfold val; cases s' <;> simp <;> omega
    rw [ev] at hf
    obtain ⟨t, r, er, h1, h2 | h2⟩ := add_val s m _ m' g g2
    · obtain ⟨rfl, h3, h4⟩ := h2
      obtain ⟨f1, f2, f3⟩ := val_facts h3 h4
      exact absurd (f1.symm.trans hf) (by decide)
    · obtain ⟨rfl, rfl, rfl, h5⟩ := h2
      exact ⟨_, fun w => sub_good s m s' m' w hg _ rfl false _ _ _ h1, fun role w => rd_two (rd_decZ _ _ _) (rd_err _ _ _ _)⟩
  · unfold goodI at hg; rw [← hm, ← hm'] at hg
    exact ⟨_, fun w => sub_bad s m s' m' w hg, fun role w => rd_two (rd_decZ _ _ _) (rd_err _ _ _ _)⟩

theorem mul_val (s s' : Bool) (m m' : Nat) : val ((s != s') && decide (m * m' / 1000000 ≠ 0)) (m * m' / 1000000) = (val s m * val s' m').tdiv 1000000 := by
  rw [val_mk]
  have key : ((m : Int) * m').tdiv 1000000 = ((m * m' / 1000000 : Nat) : Int) := by
    rw [← Int.natCast_mul]
    rfl
  generalize m * m' / 1000000 = r at *
  unfold val
  cases s <;> cases s' <;> simp [Int.neg_mul, Int.mul_neg, Int.neg_tdiv, key]
theorem mulC_ok : Sound 25 (mulC opsR) := by
  refine sound2 (m := fun s x y s' x' y' K => bif goodI s x y && goodI s' x' y' then fitC opsR ((valI s x y * valI s' x' y').tdiv 1000000) K else K (.tup [decZ, errD 1])) (fun _ _ => rfl) fun s x y s' x' y' => Says.ite (fun hg => Says.ite (fun hf => Says.ret (ps_two Try.func25 (by kernel_rfl) rfl fun m m' hm hm' => ?_)) (fun hf => Says.ret (ps_two Try.func25 (by kernel_rfl) rfl fun m m' hm hm' => ?_))) (fun hg => Says.ret (ps_two Try.func25 (by kernel_rfl) rfl fun m m' hm hm' => ?_))
  · rw [valI_val, valI_val] at hf ⊢; unfold goodI at hg; rw [← hm, ← hm'] at hg hf ⊢
    obtain ⟨g, g'⟩ := and_true2 hg
    rw [← mul_val] at hf ⊢
    have hl := fit_lt hf
    rw [val_mk] at hl
    have hl2 : m * m' / 1000000 < 1000000000000000000000000000000000000 := by split at hl <;> omega
    obtain ⟨f1, f2, f3⟩ := val_facts (good_mk hl2 (fun hh => by simp only [Bool.and_eq_true, decide_eq_true_eq] at hh; exact hh.2)) (rfl : val ((s != s') && decide (m * m' / 1000000 ≠ 0)) _ = _)
    exact ⟨_, fun w => (mul_good s m s' m' w g g').1 hl2 _ rfl, fun role w => rd_two (rd_decV _ _ _ f1 f2 f3) (rd_nil _ _ _)⟩
  · rw [valI_val, valI_val] at hf; unfold goodI at hg; rw [← hm, ← hm'] at hg hf
    obtain ⟨g, g'⟩ := and_true2 hg
    rw [← mul_val] at hf
    have hl := fit_ge hf
    rw [val_mk] at hl
    have hl2 : ¬ m * m' / 1000000 < 1000000000000000000000000000000000000 := by split at hl <;> omega
    exact ⟨_, fun w => (mul_good s m s' m' w g g').2 hl2, fun role w => rd_two (rd_decZ _ _ _) (rd_err _ _ _ _)⟩
  · unfold goodI at hg; rw [← hm, ← hm'] at hg
    exact ⟨_, fun w => mul_bad s m s' m' w hg, fun role w => rd_two (rd_decZ _ _ _) (rd_err _ _ _ _)⟩

theorem codeC_ok : Sound 28 codeC := by
  intro ds K hK
  unfold codeC at hK
  split at hK
  · refine ⟨_, hK, fun K' h => h, ps_of_calls Try.func28 (by kernel_rfl) rfl fun role w args hsz hargs => ?_⟩
    obtain ⟨a, rfl, ha⟩ := args_one rfl hsz hargs
    obtain ⟨rfl, _⟩ := rd_v ha
    exact ⟨_, (code_nil w).mono fun e w' ⟨h1, h2⟩ => ⟨h1, h2 ▸ Ext.refl _⟩, fun w' => .v rfl⟩
  · rename_i t n
    cases hc : (t == 68 && (n == 1 || n == 2 || n == 3)) with
    | false => rw [hc] at hK; exact hK.elim
    | true =>
      rw [hc] at hK
      refine ⟨_, hK, fun K' h => ?_, ps_of_calls Try.func28 (by kernel_rfl) rfl fun role w args hsz hargs => ?_⟩
      · show (bif (t == 68 && (n == 1 || n == 2 || n == 3)) then K' (.v (.int .i64 n)) else False)
        rw [hc]; exact h
      obtain ⟨a, rfl, ha⟩ := args_one rfl hsz hargs
      simp only [Bool.and_eq_true, beq_iff_eq, Bool.or_eq_true] at hc
      obtain ⟨rfl, hn⟩ := hc
      cases ha with
      | iface hx =>
        obtain ⟨rfl, _⟩ := rd_v hx
        rcases hn with (rfl | rfl) | rfl
        · exact ⟨_, (code_one w).mono fun e w' ⟨h1, h2⟩ => ⟨h1, h2 ▸ Ext.refl _⟩, fun w' => .v rfl⟩
        · exact ⟨_, (code_two w).mono fun e w' ⟨h1, h2⟩ => ⟨h1, h2 ▸ Ext.refl _⟩, fun w' => .v rfl⟩
        · exact ⟨_, (code_three w).mono fun e w' ⟨h1, h2⟩ => ⟨h1, h2 ▸ Ext.refl _⟩, fun w' => .v rfl⟩
  · exact hK.elim

theorem awakeC_ok : Sound 9 awakeC := by
  intro ds K hK
  unfold awakeC at hK
  split at hK
  · refine ⟨_, hK, fun K' h => h, ps_of_calls Try.func9 (by kernel_rfl) rfl fun role w args hsz hargs => ?_⟩
    have : args = #[] := Array.eq_empty_of_size_eq_zero hsz
    subst this
    exact ⟨_, awake_any w, fun w' => .v rfl⟩
  · exact hK.elim
end Go.Proofs.Ytnjhmlnmdnocmaa
