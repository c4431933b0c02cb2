/-
  fieldfareref02's Prefix, by bytes.
-/
import Derived.Test.YtlfdelobjbdimaaDoorNrlR
set_option maxRecDepth 20000
namespace Go.Proofs.YtlfdelobjbdimaaDoor
set_option linter.unusedSimpArgs false
set_option linter.unusedVariables false
open Go.RowKit

def pfA (l : List Nat) : PfA where
  s := strB l
  i := ((scB l : Nat) : Int)
  ng := scNeg l
  I1 := ((scI l : Nat) : Int)
  i1 := ((scP l : Nat) : Int)
  w := strB (scW l)
  K0 := (((l.take (scP l + 1)).length : Nat) : Int)
  k1 := (((l.take (scP l + 1)).length + scK l : Nat) : Int)
  r := strB ((l.drop (scP l + 1)).take (scK l))
  I3 := ((scN l : Nat) : Int)
  R3 := strB (scR l)
  e1 := dD (dgs (scR l) 6)
  e2 := dD (dAll (scW l) (scR l))
  n := ((cutN (dAll (scW l) (scR l)) (dAll (scW l) (scR l)).length : Nat) : Int)
theorem pf_loops (l : List Nat) (hB : byteL l) (hl : l.length < 100000) : ∀ x ∈ pfLL (pfA l), LoopSound Tryd.prog x.1 x.2.1 x.2.2 := by
  have hI := scI_le l
  have hP := scP_le l
  have hWl := scW_le l
  have hRl := scR_le l
  obtain ⟨k0, h0⟩ := pf_runs0 l [] (by simpa using hB) (by simp; omega)
  obtain ⟨k1, h1⟩ := pf_runs1 (scNeg l) (l.drop (scI l)) (l.take (scI l)) [] (by rw [List.take_append_drop]; exact hB) (by rw [List.take_append_drop, List.length_drop]; simp; omega)
  obtain ⟨k2, h2⟩ := pf_runs2 (scNeg l) ((scP l : Nat) : Int) (strB (scW l)) (l.drop (scP l + 1)) (l.take (scP l + 1)) [] (by rw [List.take_append_drop]; exact hB) (by rw [List.take_append_drop, List.length_drop]; simp; omega)
  obtain ⟨k3, h3⟩ := pf_runs3 (strB l) (strB (scW l)) (scNeg l) ((scN l : Nat) : Int) (scR l) (scR_dg hB) 6 [] (by simp)
  obtain ⟨k4, h4⟩ := pf_runs4 (strB l) (strB (scR l)) (scNeg l) ((scN l : Nat) : Int) (scW l) (scW_dg hB) (scW l).length (dgs (scR l) 6) (Nat.le_refl _) (by rw [dgs_len]; omega)
  obtain ⟨k5, h5⟩ := pf_runs5 (strB l) (scNeg l) ((scN l : Nat) : Int) (dAll (scW l) (scR l)) (by rw [dAll_len]; omega) (dAll (scW l) (scR l)).length (Nat.le_refl _)
  rw [List.nil_append, List.length_nil, Nat.zero_add] at h0
  rw [List.take_append_drop, List.nil_append, List.length_take, Nat.min_eq_left hI] at h1
  rw [List.take_append_drop, List.nil_append] at h2
  rw [List.nil_append] at h3
  have w4 : IntKind.i64.wrap (((strB (scW l)).size : Int) - 1) = ((scW l).length : Int) - 1 := by rw [strB_size, wrap_small (by omega) (by omega)]
  intro x hx
  simp only [pfLL, List.mem_cons, List.not_mem_nil, or_false] at hx
  rcases hx with rfl | rfl | rfl | rfl | rfl | rfl
  · exact LoopSound.mk (n := 0) Tryd.func51 rfl (by kernel_rfl) (by kernel_rfl) (Runs.once pfL_ok (by kernel_rfl) h0)
  · exact LoopSound.mk (n := 1) Tryd.func51 rfl (by kernel_rfl) (by kernel_rfl) (Runs.once pfL_ok (by kernel_rfl) h1)
  · exact LoopSound.mk (n := 2) Tryd.func51 rfl (by kernel_rfl) (by kernel_rfl) (Runs.once pfL_ok (by kernel_rfl) h2)
  · exact LoopSound.mk (n := 3) Tryd.func51 rfl (by kernel_rfl) (by kernel_rfl) (Runs.once pfL_ok (by kernel_rfl) h3)
  · show LoopSound Tryd.prog _ _ (onceL _ (pf4 (pfA l) (pfA l).e1 (IntKind.i64.wrap (((strB (scW l)).size : Int) - 1))) _ _)
    rw [w4]
    exact LoopSound.mk (n := 4) Tryd.func51 rfl (by kernel_rfl) (by kernel_rfl) (Runs.once pfL_ok (by kernel_rfl) h4)
  · show LoopSound Tryd.prog _ _ (onceL _ (pf5 (pfA l) ((dD (dAll (scW l) (scR l))).length : Nat)) _ _)
    rw [dD_len]
    exact LoopSound.mk (n := 5) Tryd.func51 rfl (by kernel_rfl) (by kernel_rfl) (Runs.once pfL_ok (by kernel_rfl) h5)
theorem scR_len {l : List Nat} (h : scDot l = true) : (scR l).length = scK l := by
  have h1 : scP l < l.length := by
    unfold scDot at h; simp only [Bool.and_eq_true, decide_eq_true_eq] at h; exact h.1
  have := scK_le l h1
  unfold scR
  rw [h, cond_true, List.length_take, List.length_drop]; omega
theorem tot_iff (l : List Nat) : (scW l).length + (scR l).length = 0 ↔ scN l = 0 := by
  cases hd : scDot l with
  | true =>
    have h3 : (scW l).length + scK l ≠ 0 := by
      unfold scDot at hd; simp only [Bool.and_eq_true, Bool.not_eq_true', beq_eq_false_iff_ne] at hd; exact hd.2.2
    have e : scN l = scP l + 1 + scK l := by unfold scN; rw [hd]; rfl
    rw [scR_len hd, e]; omega
  | false =>
    have e : scR l = [] := by unfold scR; rw [hd]; rfl
    have hP := scW_len l
    have e2 : scP l = scI l + scD l := rfl
    unfold scN
    rw [hd, e, cond_false]
    cases hw : (scW l).length == 0 with
    | true => rw [beq_iff_eq] at hw; rw [hw]; simp
    | false => rw [beq_eq_false_iff_ne] at hw; rw [cond_false, List.length_nil]; omega
theorem mid_got (l : List Nat) (hB : byteL l) (hl : l.length < 100000) (K : D → Prop) (h : K (gotZ l)) (R : List Nat) (i : Int) (hi : scN l ≠ 0 → i = ((scN l : Nat) : Int) ∧ R = scR l) (ht : (scW l).length + R.length = 0 ↔ scN l = 0) (hR : R.length < 1000000) :
    Prf (pfMid (pfA l) i (strB R) K) := by
  refine ⟨?_⟩
  have hW := scW_le l
  have w1 : IntKind.i64.wrap (((strB (scW l)).size : Int) + ((strB R).size : Int)) = (((scW l).length + R.length : Nat) : Int) := by rw [strB_size, strB_size]; exact wrap_nat (n := (scW l).length + R.length) (by omega)
  unfold pfMid
  show (bif IntKind.i64.wrap (((strB (scW l)).size : Int) + ((strB R).size : Int)) == 0 then _ else _)
  rw [w1]
  by_cases h0 : scN l = 0
  · have e : ((((scW l).length + R.length : Nat) : Int) == 0) = true := by rw [ht.2 h0]; rfl
    rw [e, cond_true]
    unfold gotZ at h
    rw [h0] at h
    exact h
  · have e : ((((scW l).length + R.length : Nat) : Int) == 0) = false := by
      rw [beq_eq_false_iff_ne]; intro hc; exact h0 (ht.1 (by omega))
    obtain ⟨hi1, hR1⟩ := hi h0
    have hE := end_got l hB K h0 h
    rw [e, cond_false, hi1, hR1]
    refine ⟨rfl, rfl, rfl, ?_⟩
    cases hE; assumption
theorem tail_got (l : List Nat) (hB : byteL l) (hl : l.length < 100000) (K : D → Prop) (h : K (gotZ l)) : Prf (pfTail (pfA l) K) := by
  refine ⟨?_⟩
  have hP := scP_le l
  have hWl := scW_le l
  have none_case : scDot l = false → Prf (pfMid (pfA l) ((scP l : Nat) : Int) (strB []) K) := by
    intro hd
    have e : scR l = [] := by unfold scR; rw [hd]; rfl
    refine mid_got l hB hl K h [] _ (fun h0 => ⟨?_, e.symm⟩) (by rw [← e]; exact tot_iff l) (by simp)
    unfold scN at h0 ⊢
    rw [hd, cond_false] at h0 ⊢
    cases hw : (scW l).length == 0 with
    | true => rw [hw] at h0; exact absurd rfl h0
    | false => rfl
  unfold pfTail
  show (bif decide (((scP l : Nat) : Int) < ((strB l).size : Int)) then atS (strB l) ((scP l : Nat) : Int) _ else _)
  by_cases hlt : scP l < l.length
  · have g : decide (((scP l : Nat) : Int) < ((strB l).size : Int)) = true := by rw [strB_size, decide_eq_true_eq]; omega
    rw [g, cond_true, atS_eq l _ hlt]
    show (bif bif true then byteAt (strB l) ((scP l : Nat) : Int).toNat == 46 else false then _ else _)
    rw [byteAt_at hB hlt, cond_true]
    by_cases h46 : l.getD (scP l) 0 = 46
    · have e : (((l.getD (scP l) 0 : Nat) : Int) == 46) = true := by rw [h46]; rfl
      have hK := scK_le l hlt
      have htk : (l.take (scP l + 1)).length = scP l + 1 := by rw [List.length_take]; omega
      have w1 : IntKind.i64.wrap (((scP l : Nat) : Int) + 1) = (((l.take (scP l + 1)).length : Nat) : Int) := by rw [htk]; exact wrap_nat (n := scP l + 1) (by omega)
      have hr : ((l.drop (scP l + 1)).take (scK l)).length = scK l := by rw [List.length_take, List.length_drop]; omega
      have w2 : IntKind.i64.wrap (((strB (scW l)).size : Int) + ((strB ((l.drop (scP l + 1)).take (scK l))).size : Int)) = (((scW l).length + scK l : Nat) : Int) := by rw [strB_size, strB_size, hr]; exact wrap_nat (n := (scW l).length + scK l) (by omega)
      rw [e, cond_true]
      refine ⟨?_, ?_⟩
      · show pf2 (pfA l) ⟨#[]⟩ (IntKind.i64.wrap (((scP l : Nat) : Int) + 1)) = pf2 (pfA l) ⟨#[]⟩ (((l.take (scP l + 1)).length : Nat) : Int)
        rw [w1]
      · show (bif decide (IntKind.i64.wrap (((strB (scW l)).size : Int) + ((strB ((l.drop (scP l + 1)).take (scK l))).size : Int)) > 0) then _ else _)
        rw [w2]
        by_cases h0 : (scW l).length + scK l = 0
        · have g2 : decide ((((scW l).length + scK l : Nat) : Int) > 0) = false := by rw [decide_eq_false_iff_not]; omega
          have hd : scDot l = false := by unfold scDot; rw [show ((scW l).length + scK l == 0) = true by rw [h0]; rfl]; simp
          have hnil : (l.drop (scP l + 1)).take (scK l) = [] := List.length_eq_zero_iff.1 (by omega)
          have hM := none_case hd
          rw [g2, cond_false]
          show pfMid (pfA l) ((scP l : Nat) : Int) (strB ((l.drop (scP l + 1)).take (scK l))) K
          rw [hnil]
          cases hM; assumption
        · have g2 : decide ((((scW l).length + scK l : Nat) : Int) > 0) = true := by rw [decide_eq_true_eq]; omega
          have hd : scDot l = true := by
            unfold scDot
            rw [decide_eq_true hlt, h46, show ((scW l).length + scK l == 0) = false by rw [beq_eq_false_iff_ne]; exact h0]; rfl
          have hR : scR l = (l.drop (scP l + 1)).take (scK l) := by unfold scR; rw [hd]; rfl
          have hM := mid_got l hB hl K h ((l.drop (scP l + 1)).take (scK l)) (((l.take (scP l + 1)).length + scK l : Nat) : Int) (fun _ => ⟨by
            have : scN l = scP l + 1 + scK l := by unfold scN; rw [hd]; rfl
            rw [htk, this], hR.symm⟩) (by rw [← hR]; exact tot_iff l) (by omega)
          rw [g2, cond_true]
          cases hM; assumption
    · have e : (((l.getD (scP l) 0 : Nat) : Int) == 46) = false := by rw [beq_eq_false_iff_ne]; omega
      have hd : scDot l = false := by unfold scDot; rw [show (l.getD (scP l) 0 == 46) = false by rw [beq_eq_false_iff_ne]; exact h46]; simp
      have hM := none_case hd
      rw [e, cond_false]
      cases hM; assumption
  · have g : decide (((scP l : Nat) : Int) < ((strB l).size : Int)) = false := by rw [strB_size, decide_eq_false_iff_not]; omega
    have hd : scDot l = false := by unfold scDot; rw [decide_eq_false hlt]; rfl
    have hM := none_case hd
    rw [g, cond_false]
    cases hM; assumption
theorem pf_ps (l : List Nat) (hB : byteL l) (hl : l.length < 100000) : PS Tryd.prog 51 [.v (.string (strB l))] (gotZ l) := by
  refine callX_eq (n := 2) (ctxL_ok (l := pfL blankI dgI) (ll := pfLL (pfA l)) (fuel := 0) pfL_ok (pf_loops l hB hl)) ?_
  have hT := tail_got l hB hl (fun x => x = gotZ l) rfl
  have one : ∀ (ng : Bool) (i : Int), ng = scNeg l → i = ((scI l : Nat) : Int) → Prf (pfOne (pfA l) ng i fun x => x = gotZ l) := by
    intro ng i h1 h2
    refine ⟨?_⟩
    subst h1; subst h2
    refine ⟨rfl, ?_⟩
    cases hT; assumption
  show callX _ (ctxL (pfL blankI dgI) (pfLL (pfA l)) 0) 2 _ [.v (.string (pfA l).s)] _
  rw [pf_tree]
  refine ⟨rfl, ?_⟩
  have hB0 : scB l ≤ l.length := lead_le isBl l
  unfold pfSign
  show (bif decide (((scB l : Nat) : Int) < ((strB l).size : Int)) then atS (strB l) ((scB l : Nat) : Int) (bif byteAt (strB l) ((scB l : Nat) : Int).toNat == 43 then atS (strB l) ((scB l : Nat) : Int) (pfOne (pfA l) (byteAt (strB l) ((scB l : Nat) : Int).toNat == 45) (IntKind.i64.wrap (((scB l : Nat) : Int) + 1)) _) else
    atS (strB l) ((scB l : Nat) : Int) (bif bif true then bif false then true else byteAt (strB l) ((scB l : Nat) : Int).toNat == 45 else false then atS (strB l) ((scB l : Nat) : Int) (pfOne (pfA l) (byteAt (strB l) ((scB l : Nat) : Int).toNat == 45) (IntKind.i64.wrap (((scB l : Nat) : Int) + 1)) _) else pfOne (pfA l) false ((scB l : Nat) : Int) _))
    else pfOne (pfA l) false ((scB l : Nat) : Int) _)
  have w1 : IntKind.i64.wrap (((scB l : Nat) : Int) + 1) = ((scB l + 1 : Nat) : Int) := wrap_nat (n := scB l + 1) (by omega)
  rw [w1]
  by_cases h : scB l < l.length
  · have e1 : decide (((scB l : Nat) : Int) < ((strB l).size : Int)) = true := by rw [strB_size, decide_eq_true_eq]; omega
    have e2 : (((l.getD (scB l) 0 : Nat) : Int) == 45) = (l.getD (scB l) 0 == 45) := by rw [Bool.eq_iff_iff, beq_iff_eq, beq_iff_eq]; omega
    have e3 : (((l.getD (scB l) 0 : Nat) : Int) == 43) = (l.getD (scB l) 0 == 43) := by rw [Bool.eq_iff_iff, beq_iff_eq, beq_iff_eq]; omega
    rw [e1, cond_true, byteAt_at hB h, e2, e3]; simp only [atS_eq l _ h]
    have hs : isSg l (scB l) = (l.getD (scB l) 0 == 45 || l.getD (scB l) 0 == 43) := by unfold isSg; rw [decide_eq_true h]; rfl
    have hI : scI l = bif (l.getD (scB l) 0 == 45 || l.getD (scB l) 0 == 43) then scB l + 1 else scB l := by unfold scI; rw [hs]
    have hN : scNeg l = ((l.getD (scB l) 0 == 45 || l.getD (scB l) 0 == 43) && l.getD (scB l) 0 == 45) := by unfold scNeg; rw [hs]
    cases h4 : l.getD (scB l) 0 == 45 <;> cases h5 : l.getD (scB l) 0 == 43 <;> rw [h4, h5] at hI hN
    · have o := one false ((scB l : Nat) : Int) hN.symm (by rw [hI]; rfl)
      cases o; assumption
    · have o := one false ((scB l + 1 : Nat) : Int) hN.symm (by rw [hI]; rfl)
      cases o; assumption
    · have o := one true ((scB l + 1 : Nat) : Int) hN.symm (by rw [hI]; rfl)
      cases o; assumption
    · have o := one true ((scB l + 1 : Nat) : Int) hN.symm (by rw [hI]; rfl)
      cases o; assumption
  · have e1 : decide (((scB l : Nat) : Int) < ((strB l).size : Int)) = false := by rw [strB_size, decide_eq_false_iff_not]; omega
    have hs : isSg l (scB l) = false := by unfold isSg; rw [decide_eq_false h]; rfl
    have o := one false ((scB l : Nat) : Int) (by unfold scNeg; rw [hs]; rfl) (by unfold scI; rw [hs]; rfl)
    rw [e1, cond_false]
    cases o; assumption
end Go.Proofs.YtlfdelobjbdimaaDoor
