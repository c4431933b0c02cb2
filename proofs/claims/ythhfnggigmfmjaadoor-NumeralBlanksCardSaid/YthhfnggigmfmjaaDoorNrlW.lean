/-
  The law NumeralBlanks, on plain bytes.
-/
import Derived.Test.YthhfnggigmfmjaaDoorNrlV
namespace Go.Proofs.YthhfnggigmfmjaaDoor.Hp
set_option linter.unusedSimpArgs false
set_option linter.unusedVariables false
open Go.RowKit

theorem blFin_gen (V : Nrl) (es : List (List D)) (K : Hp.M → List Hp.M → Prop) (hl : es.length ≤ 1000) (ok1 : V.ok es) (ok2 : V.ok (es ++ cs32)) (hk : V.looks es = V.looks (es ++ cs32)) (hK : K (.d (.v (.bool true))) []) : Prf (blFin V es K) := by
  refine ⟨?_⟩
  unfold blFin
  rw [bytes_u8, List.length_nil, Nat.zero_add, decide_eq_true (show es.length * (1 + 1) ≤ 70368744177664 by omega), cond_true, List.nil_append]
  refine ⟨rfl, ok1, ?_⟩
  rw [apM_eq rfl (by show es.length + 1 ≤ 1000000; omega), pbM_eq (by rw [List.length_append])]
  refine ⟨rfl, ok2, ?_⟩
  rw [hk, beq_self_eq_true]; exact hK
theorem blEnd_gen (V : Nrl) (es ys : List (List D)) (n : Int) (K : Hp.M → List Hp.M → Prop) (h0 : V.n es = 0 → V.n ys = 0) (h1 : V.n es ≠ 0 → V.n es > 0 ∧ V.n ys = IntKind.i64.wrap (V.n es + IntKind.i64.wrap n)) (h : Prf (blFin V es K)) : Prf (blEnd V es ys n K) := by
  obtain ⟨h⟩ := h
  refine ⟨?_⟩
  unfold blEnd
  by_cases hz : V.n es = 0
  · rw [hz, h0 hz]; exact h
  · have : (V.n es == 0) = false := by rw [beq_eq_false_iff_ne]; exact hz
    rw [this, cond_false]
    unfold blGt
    rw [decide_eq_true (h1 hz).1, (h1 hz).2, beq_self_eq_true]; exact h
theorem blHead_gen (es : List (List D)) (n : Int) (X : Prop) (K : Hp.M → List Hp.M → Prop) (hn : 0 ≤ n ∧ n < 256) (hK : K (.d (.v (.bool true))) []) (hX : es.length ≤ 200 → n ≤ 50 → X) : blHead es n X K := by
  unfold blHead
  by_cases h1 : (es.length : Int) > 200
  · rw [decide_eq_true h1]; exact hK
  · rw [decide_eq_false h1, cond_false, cond_false]
    by_cases h2 : n > 50
    · rw [decide_eq_true h2]; exact hK
    · rw [decide_eq_false h2, cond_false, wrap_small (by omega) (by omega), bytes_u8, decide_eq_true hn.1, decide_eq_true (Int.le_refl n), decide_eq_true (show ((1 : Nat) : Int) * n ≤ 281474976710656 by omega), decide_eq_true (show n ≤ 9223372036854775807 by omega)]
      exact hX (by omega) (by omega)
theorem bl_mid {es ys : List (List D)} {L : Nat} {xs1 : List (List D)} (X : List (List D) → Prop) (h : L = xs1.length) (hs : L + es.length ≤ 1000000) (hX : X (xs1 ++ es)) : apM L xs1 es fun zs => pbM (L + es.length) zs X := by
  rw [apM_eq h hs, pbM_eq (by rw [List.length_append, h])]; exact hX
theorem bl_start (es : List (List D)) (n : Nat) (hn : n < 256) : blS es (n : Int) (IntKind.i64.wrap (n : Int)).toNat (List.replicate (IntKind.i64.wrap (n : Int)).toNat [.v (.int .u8 0)]) 0 = blS es (n : Int) n (zs n) 0 := by
  rw [wrap_small (by omega) (by omega), Int.toNat_natCast]; rfl
theorem sg_gen (M : Ops) (z : Int) : (M.sg z == M.sg z && (M.hi z == M.hi z && (M.lo z == M.lo z && true))) = true := by
  rw [beq_self_eq_true, beq_self_eq_true, beq_self_eq_true]; rfl
theorem blL_gen (pf : Orc) (V : Nrl) (h : Sound 13 pf) (hV : Sound 14 (looksC V)) : ∀ x ∈ blOl pf V, Sound x.1 x.2 := by
  intro x hx
  simp only [blOl, List.mem_cons, List.not_mem_nil, or_false] at hx
  rcases hx with rfl | rfl | rfl | rfl
  · exact awakeN_ok
  · exact h
  · exact codeC_ok
  · exact hV
abbrev blLl (es : List (List D)) (n : Nat) : List (Nat × Nat × LOM) := [(8, 7, onceM 0 Tryd.f8.ntmps 12 blJ (blS es (n : Int) n (zs n) 0) (blS es (n : Int) n (sp n) (n : Int)) (.exit 0))]
theorem bl_loop (es : List (List D)) (n : Nat) (hn : n < 256) : ∀ x ∈ blLl es n, LoopSoundM 12 x.1 x.2.1 x.2.2 := by
  intro x hx
  obtain rfl := List.mem_singleton.1 hx
  obtain ⟨m, hm⟩ := bl_runs es n hn n 0 (by omega)
  exact LoopSoundM.mk (i := 0) Tryd.func8 rfl (by kernel_rfl) (by kernel_rfl) (Runs.once (C := blC) blC_ok (fun x _ hh => by cases hh) hm)
theorem nb_ps (l : List Nat) (hB : byteL l) (n : Nat) (hn : n < 256) : PS Tryd.prog 8 [.list false 5 (bD l), .v (.int .u8 (n : Int))] (.v (.bool true)) := by
  refine ps_of_psm ?_ (by intro d hd; simp only [List.mem_cons, List.not_mem_nil, or_false] at hd; rcases hd with rfl | rfl <;> rfl)
  show PSM Tryd.prog _ [.d (.list false 5 (bD l)), .d (.v (.int .u8 (n : Int)))] [] (.d (.v (.bool true))) []
  have hB32 : byteL (List.replicate n 32) := fun x hx => by rw [(List.mem_replicate.1 hx).2]; omega
  have hys : sp n ++ bD l = bD (List.replicate n 32 ++ l) := by unfold sp; rw [bD_app]
  have hzs : bD l ++ cs32 = bD (l ++ [32]) := by rw [bD_app]; rfl
  have hcat : ∀ {a b : List Nat}, byteL a → byteL b → byteL (a ++ b) := fun ha hb x hx => (List.mem_append.1 hx).elim (ha x) (hb x)
  have hnn := scN_le l
  have hlsp : (sp n).length = n := by simp [sp, bD]
  have hFin : l.length ≤ 200 → Prf (blFin nrlR (bD l) fun x y => x = .d (.v (.bool true)) ∧ y = []) := fun h2 =>
    blFin_gen nrlR (bD l) _ (by rw [bD_len]; omega) ⟨l, rfl, hB, by omega⟩ ⟨l ++ [32], hzs, hcat hB (fun x hx => by obtain rfl := List.mem_singleton.1 hx; omega), by simp; omega⟩ (by rw [hzs, nrl_looks, nrl_looks, behind_looks]) ⟨rfl, rfl⟩
  have hEnd : l.length ≤ 200 → (n : Int) ≤ 50 → Prf (blEnd nrlR (bD l) (sp n ++ bD l) (n : Int) fun x y => x = .d (.v (.bool true)) ∧ y = []) := fun h2 h3 => by
    refine blEnd_gen nrlR _ _ _ _ (fun h0 => ?_) (fun h0 => ?_) (hFin h2)
    · rw [nrl_n] at h0
      rw [hys, nrl_n, (ahead n l).2.2.2, show (scN l == 0) = true by rw [beq_iff_eq]; omega]; rfl
    · rw [nrl_n] at h0
      rw [hys, nrl_n, nrl_n, (ahead n l).2.2.2, show (scN l == 0) = false by rw [beq_eq_false_iff_ne]; omega, cond_false, wrap_small (x := (n : Int)) (by omega) (by omega), wrap_small (by omega) (by omega)]
      exact ⟨by omega, by omega⟩
  have okE : l.length ≤ 200 → nrlR.ok (bD l) := fun h2 => ⟨l, rfl, hB, by omega⟩
  have okY : l.length ≤ 200 → nrlR.ok (sp n ++ bD l) := fun h2 => ⟨_, hys, hcat hB32 hB, by simp; omega⟩
  cases hb : pBig l with
  | false =>
    refine callX_psm (n := 2) (C := ctxH (blOl (prefixF opsR nrlR) nrlR) [] (blLl (bD l) n) 0 12) (ctxH_ok (blL_gen _ _ prefixF_ok looksC_ok) (fun x hx => by cases hx) (bl_loop (bD l) n hn)) ?_
    rw [bl_tree]
    refine blHead_gen _ _ _ _ ⟨by omega, by omega⟩ ⟨rfl, rfl⟩ fun h2 h3 => ?_
    rw [bD_len] at h2
    refine ⟨bl_start _ n hn, rfl, okE h2, by rw [nrl_pbig]; exact hb, bl_mid (ys := []) _ hlsp.symm (by rw [bD_len]; omega) ⟨rfl, okY h2, by rw [hys, nrl_pbig, ahead_big]; exact hb, ?_⟩⟩
    have e : nrlR.pval (sp n ++ bD l) = nrlR.pval (bD l) := by rw [hys, nrl_pval, nrl_pval, ahead_val]
    rw [e, sg_gen]
    obtain ⟨h⟩ := hEnd h2 h3
    exact h
  | true =>
    refine callX_psm (n := 2) (C := ctxH (blOl (prefixB opsR nrlR) nrlR) [] (blLl (bD l) n) 0 12) (ctxH_ok (blL_gen _ _ prefixB_ok looksC_ok) (fun x hx => by cases hx) (bl_loop (bD l) n hn)) ?_
    rw [bl_tree2]
    refine blHead_gen _ _ _ _ ⟨by omega, by omega⟩ ⟨rfl, rfl⟩ fun h2 h3 => ?_
    rw [bD_len] at h2
    refine ⟨bl_start _ n hn, rfl, okE h2, by rw [nrl_pbig]; exact hb, bl_mid (ys := []) _ hlsp.symm (by rw [bD_len]; omega) ⟨rfl, okY h2, by rw [hys, nrl_pbig, ahead_big]; exact hb, ?_⟩⟩
    obtain ⟨h⟩ := hEnd h2 h3
    exact h
end Go.Proofs.YthhfnggigmfmjaaDoor.Hp
