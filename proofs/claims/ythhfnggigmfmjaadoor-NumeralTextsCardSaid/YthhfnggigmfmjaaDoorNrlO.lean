/-
  NumeralSums' plain law, and the two joined.
-/
import Derived.Test.YthhfnggigmfmjaaDoorNrlN
namespace Go.Proofs.YthhfnggigmfmjaaDoor
set_option linter.unusedSimpArgs false
set_option linter.unusedVariables false
open Go.RowKit

/-! ### Digits behind a point, read -/
theorem parN_zeros (k : Nat) : ∀ (u q : Nat), parN (List.replicate k 48) u q = q := by
  induction k with
  | zero => intro u q; rfl
  | succ k ih =>
    intro u q
    rw [List.replicate_succ]
    show parN (List.replicate k 48) (u / 10) (q + u / 10 * (48 - 48)) = q
    rw [ih]; simp
theorem parN_pad (a : List Nat) (k : Nat) : ∀ (u q : Nat), parN (a ++ List.replicate k 48) u q = parN a u q := by
  induction a with
  | nil => intro u q; exact parN_zeros k u q
  | cons x a ih => intro u q; exact ih _ _
theorem decN_zeros (k : Nat) (l : List Nat) : decN (List.replicate k 48 ++ l) 0 = decN l 0 := by
  induction k with
  | zero => rfl
  | succ k ih => rw [List.replicate_succ]; exact ih
theorem trim_pad (c : Nat) (n : Nat) : ∀ (l : List Nat), l.length = n → ∃ k, l = trimL c l ++ List.replicate k c := by
  induction n with
  | zero => intro l h; obtain rfl := List.length_eq_zero_iff.1 h; exact ⟨0, rfl⟩
  | succ n ih =>
    intro l h
    obtain ⟨m, x, rfl⟩ : ∃ m x, l = m ++ [x] := by
      refine ⟨l.take n, l.getD n 0, ?_⟩
      have h1 := List.take_append_drop n l
      rw [List.drop_eq_getElem_cons (by omega), List.drop_eq_nil_of_le (by omega)] at h1
      rw [List.getD_eq_getElem?_getD, List.getElem?_eq_getElem (by omega)]
      exact h1.symm
    by_cases hx : x = c
    · subst hx
      obtain ⟨k, hk⟩ := ih m (by simpa using h)
      refine ⟨k + 1, ?_⟩
      rw [trimL_eq, List.replicate_succ', ← List.append_assoc, ← hk]
    · exact ⟨0, by rw [trimL_ne m hx]; simp⟩
theorem frN_dg (k : Nat) : ∀ (n : Nat) (l : List Nat), allDg l → allDg (frN k n l) := by
  induction k with
  | zero => intro n l h; exact h
  | succ k ih =>
    intro n l h
    refine ih _ _ fun x hx => ?_
    rcases List.mem_cons.1 hx with rfl | hx
    · omega
    · exact h x hx
theorem parN_frN {p : Nat} (h : p < 1000000) : parN (frN 6 p []) 1000000 0 = p := by
  simp only [frN, parN]
  omega
/-- The digits behind the point of a number's text. -/
def fP (p : Nat) : List Nat := trimL 48 (frN 6 p [])
theorem fP_len (p : Nat) : (fP p).length ≤ 6 := by
  have := trimL_len 48 (frN 6 p [])
  rw [frN_len] at this
  exact this
theorem fP_dg (p : Nat) : allDg (fP p) := by
  intro x hx
  obtain ⟨k, hk⟩ := trim_pad 48 _ (frN 6 p []) rfl
  refine frN_dg 6 p [] (fun y hy => by cases hy) x ?_
  rw [hk]; exact List.mem_append_left _ hx
theorem fP_val {p : Nat} (h : p < 1000000) : parN (fP p) 1000000 0 = p := by
  obtain ⟨k, hk⟩ := trim_pad 48 _ (frN 6 p []) rfl
  have h1 := parN_frN h
  rw [hk, parN_pad] at h1
  exact h1
theorem fP_pad {p : Nat} (h : p < 1000000) (b : Nat) : parN ((fP p ++ List.replicate b 48).take 6) 1000000 0 = p := by
  have hl := fP_len p
  rw [List.take_append, List.take_of_length_le hl, List.take_replicate, parN_pad]
  exact fP_val h
theorem fD_eq (p : Nat) : fD p = if p = 0 then [] else 46 :: fP p := rfl
theorem fP_zero : fP 0 = [] := by decide
/-- The text, with its point. -/
theorem text_dot (w p : Nat) : (iD w ++ fD p).any (· == 46) = !(p == 0) ∧ (if p = 0 then (iD w ++ fD p) ++ [46] else iD w ++ fD p) = iD w ++ 46 :: fP p := by
  have h1 : (iD w).any (· == 46) = false := by
    rw [List.any_eq_false]
    intro x hx
    have := iD_dg w x hx
    simp; omega
  rw [List.any_append, h1, fD_eq]
  by_cases h : p = 0
  · subst h
    rw [if_pos rfl, if_pos rfl, fP_zero]
    simp
  · rw [if_neg h, if_neg h]
    have : (p == 0) = false := by rw [beq_eq_false_iff_ne]; exact h
    rw [this]
    simp
theorem byteL_app {a b : List Nat} (h : byteL a) (k : byteL b) : byteL (a ++ b) := fun x hx => by
  rcases List.mem_append.1 hx with hx | hx
  · exact h x hx
  · exact k x hx
theorem byteL_dg {a : List Nat} (h : allDg a) : byteL a := fun x hx => by have := h x hx; omega
theorem allDg_zeros (k : Nat) : allDg (List.replicate k 48) := fun x hx => by have := List.eq_of_mem_replicate hx; omega
theorem allDg_app {a b : List Nat} (h : allDg a) (k : allDg b) : allDg (a ++ b) := fun x hx => by
  rcases List.mem_append.1 hx with hx | hx
  · exact h x hx
  · exact k x hx
theorem sm_end (n : Nat) (hn : n < 1000000000000000000000000000000000000) (f b : Nat) (hf : f ≤ 60) (hb : b ≤ 60) (K : D → Prop) (hK : K (.v (.bool true))) :
    Prf (smEnd opsR nrlR ((n : Nat) : Int) (strB (List.replicate f 48 ++ (iD (n / 1000000) ++ 46 :: fP (n % 1000000)) ++ List.replicate b 48)) K) := by
  refine ⟨?_⟩
  have hl : List.replicate f 48 ++ (iD (n / 1000000) ++ 46 :: fP (n % 1000000)) ++ List.replicate b 48 = [] ++ ((List.replicate f 48 ++ iD (n / 1000000)) ++ ((46 :: (fP (n % 1000000) ++ List.replicate b 48)) ++ [])) := by simp
  have hW : allDg (List.replicate f 48 ++ iD (n / 1000000)) := allDg_app (allDg_zeros f) (iD_dg _)
  have hF : allDg (fP (n % 1000000) ++ List.replicate b 48) := allDg_app (fP_dg _) (allDg_zeros b)
  have hT : TextAt [] (List.replicate f 48 ++ iD (n / 1000000)) (46 :: (fP (n % 1000000) ++ List.replicate b 48)) (fP (n % 1000000) ++ List.replicate b 48) [] :=
    ⟨.inl rfl, fun e => iD_ne (n / 1000000) (List.append_eq_nil_iff.1 e).2, hW, .inr rfl, hF, fun x hx => (by cases hx), fun e => (by cases e)⟩
  obtain ⟨s1, s2, s3, s4⟩ := scan_text hT
  rw [← hl] at s1 s2 s3 s4
  have hi := iD_len (k := n / 1000000) (by omega)
  have hfl := fP_len (n % 1000000)
  generalize hL : List.replicate f 48 ++ (iD (n / 1000000) ++ 46 :: fP (n % 1000000)) ++ List.replicate b 48 = L at *
  have hB : byteL L := by
    rw [hl]
    refine byteL_app (fun x hx => by cases hx) (byteL_app (byteL_dg hW) (byteL_app ?_ (fun x hx => by cases hx)))
    intro x hx
    rcases List.mem_cons.1 hx with rfl | hx
    · omega
    · exact byteL_dg hF x hx
  have hlen : L.length = ([] : List Nat).length + ((List.replicate f 48 ++ iD (n / 1000000)).length + (46 :: (fP (n % 1000000) ++ List.replicate b 48)).length) := by rw [hl]; simp; omega
  have hlen2 : L.length ≤ 200 := by rw [hlen]; simp; omega
  have hn0 : (scN L == 0) = false := by rw [s3, beq_eq_false_iff_ne]; simp
  have hnum : numV (List.replicate f 48 ++ iD (n / 1000000)) (fP (n % 1000000) ++ List.replicate b 48) = n := by
    unfold numV; rw [decN_zeros, decN_iD, fP_pad (by omega)]; omega
  have hbig : bigN (List.replicate f 48 ++ iD (n / 1000000)) = false := by unfold bigN; rw [decN_zeros, decN_iD, decide_eq_false_iff_not]; omega
  have hpb : pBig L = false := by unfold pBig; rw [s1, hbig]; simp
  have hpv : pVal L = ((n : Nat) : Int) := by
    unfold pVal
    rw [hn0, s4, s1, s2, hnum]; rfl
  have hnn : (((scN L : Nat) : Int) == (((strB L).size : Nat) : Int)) = true := by rw [strB_size, s3, hlen, beq_iff_eq]
  have d1 : decide ((strB L).size ≤ 1073741824) = true := by rw [strB_size, decide_eq_true_eq]; omega
  unfold smEnd
  rw [d1, bytesD_strB hB, nrl_pbig, nrl_pval, nrl_n, hpb, hpv, hnn, beq_self_eq_true, beq_self_eq_true, beq_self_eq_true]
  exact ⟨rfl, ⟨_, rfl, hB, by omega⟩, rfl, hK⟩
theorem sums_good (n : Nat) (hn : n < 1000000000000000000000000000000000000) (f b : Nat) (hf : f ≤ 60) (hb : b ≤ 60) : PS Tryd.prog 5 [decM opsR ((n : Nat) : Int), .v (.int .u8 (f : Int)), .v (.int .u8 (b : Int))] (.v (.bool true)) := by
  have hi := iD_len (k := n / 1000000) (by omega)
  have hfl := fP_len (n % 1000000)
  have hfd := fD_len (n % 1000000)
  have hsg : decide (((n : Nat) : Int) < 0) = false := by rw [decide_eq_false_iff_not]; omega
  have htx : txR ((n : Nat) : Int) = strB (iD (n / 1000000) ++ fD (n % 1000000)) := by
    show strB (txtZ ((n : Nat) : Int)) = _
    unfold txtZ txN
    rw [hsg, Int.natAbs_natCast]; rfl
  have hBt : byteL (iD (n / 1000000) ++ fD (n % 1000000)) := by
    refine byteL_app (byteL_iD _) ?_
    rw [fD_eq]
    split
    · intro x hx; cases hx
    · intro x hx
      rcases List.mem_cons.1 hx with rfl | hx
      · omega
      · exact byteL_dg (fP_dg _) x hx
  obtain ⟨k1, h1⟩ := sm_runs1 ((n : Nat) : Int) (f : Int) (b : Int) (iD (n / 1000000) ++ fD (n % 1000000)) [] false (by simpa using hBt) (by simp; omega)
  obtain ⟨k2, h2⟩ := sm_runs2 ((n : Nat) : Int) (b : Int) f hf f (iD (n / 1000000) ++ 46 :: fP (n % 1000000)) (Nat.le_refl _) (by simp; omega)
  obtain ⟨k3, h3⟩ := sm_runs3 ((n : Nat) : Int) (f : Int) b hb b (List.replicate f 48 ++ (iD (n / 1000000) ++ 46 :: fP (n % 1000000))) (Nat.le_refl _) (by simp; omega)
  obtain ⟨t1, t2⟩ := text_dot (n / 1000000) (n % 1000000)
  rw [List.nil_append, Bool.false_or, t1, ← htx] at h1
  rw [Nat.sub_self] at h2 h3
  obtain ⟨hE⟩ := sm_end n hn f b hf hb (fun x => x = D.v (.bool true)) rfl
  refine callX_eq (n := 2) (ctxL_ok (l := smL opsR nrlR txR) (ll := [
      (5, 8, onceL smJ1 (smS opsR ((n : Nat) : Int) (f : Int) (b : Int) (txR (vz opsR ((n : Nat) : Int))) (.v (.bool false)) (.v (.int .i64 0)) .undef .undef) (smS opsR ((n : Nat) : Int) (f : Int) (b : Int) (txR (vz opsR ((n : Nat) : Int))) (.v (.bool (!(n % 1000000 == 0)))) (.v (.int .i64 (((iD (n / 1000000) ++ fD (n % 1000000)).length : Nat) : Int))) .undef .undef) (.exit 0)),
      (5, 14, onceL smJ2 (smS opsR ((n : Nat) : Int) (f : Int) (b : Int) (strB (iD (n / 1000000) ++ 46 :: fP (n % 1000000))) .undef .undef (.v (.int .i64 0)) .undef) (smS opsR ((n : Nat) : Int) (f : Int) (b : Int) (strB (List.replicate f 48 ++ (iD (n / 1000000) ++ 46 :: fP (n % 1000000)))) .undef .undef (.v (.int .i64 (f : Int))) .undef) (.exit 2)),
      (5, 18, onceL smJ3 (smS opsR ((n : Nat) : Int) (f : Int) (b : Int) (strB (List.replicate f 48 ++ (iD (n / 1000000) ++ 46 :: fP (n % 1000000)))) .undef .undef .undef (.v (.int .i64 0))) (smS opsR ((n : Nat) : Int) (f : Int) (b : Int) (strB (List.replicate f 48 ++ (iD (n / 1000000) ++ 46 :: fP (n % 1000000)) ++ List.replicate b 48)) .undef .undef .undef (.v (.int .i64 (b : Int)))) (.exit 4))]) (fuel := 0) smL_ok ?_) ?_
  · intro x hx
    simp only [List.mem_cons, List.not_mem_nil, or_false] at hx
    rw [vz_eq] at hx
    rcases hx with rfl | rfl | rfl
    · exact LoopSound.mk (n := 0) Tryd.func5 rfl (by kernel_rfl) (by kernel_rfl) (Runs.once none_ok (by kernel_rfl) h1)
    · exact LoopSound.mk (n := 1) Tryd.func5 rfl (by kernel_rfl) (by kernel_rfl) (Runs.once none_ok (by kernel_rfl) h2)
    · exact LoopSound.mk (n := 2) Tryd.func5 rfl (by kernel_rfl) (by kernel_rfl) (Runs.once none_ok (by kernel_rfl) h3)
  · have hs0 : opsR.sg ((n : Nat) : Int) = false := hsg
    have hg : gz opsR ((n : Nat) : Int) = true := by rw [gz_eq]; exact fit_small hn
    have g1 : decide ((f : Int) > 60) = false := by rw [decide_eq_false_iff_not]; omega
    have g2 : decide ((b : Int) > 60) = false := by rw [decide_eq_false_iff_not]; omega
    rw [sm_tree, hg, hs0, g1, g2, vz_eq, htx]
    refine ⟨rfl, rfl, ?_⟩
    unfold smRest
    by_cases hp : n % 1000000 = 0
    · have e : (n % 1000000 == 0) = true := by rw [beq_iff_eq]; exact hp
      rw [if_pos hp] at t2
      have hcat : ∀ K : ByteArray → Prop, catS (strB (iD (n / 1000000) ++ fD (n % 1000000))) ⟨#[46]⟩ K = K (strB (iD (n / 1000000) ++ 46 :: fP (n % 1000000))) := by
        intro K
        rw [dotS_eq, catS_eq _ _ (by simp; omega), t2]
      rw [e, hcat]
      exact ⟨rfl, rfl, hE⟩
    · have e : (n % 1000000 == 0) = false := by rw [beq_eq_false_iff_ne]; exact hp
      rw [if_neg hp] at t2
      rw [e, t2]
      exact ⟨rfl, rfl, hE⟩
theorem sums_any (s : Bool) (m f b : Nat) : PS Tryd.prog 5 [decA s m, .v (.int .u8 (f : Int)), .v (.int .u8 (b : Int))] (.v (.bool true)) := by
  by_cases h : goodB s m = true ∧ s = false ∧ f ≤ 60 ∧ b ≤ 60
  · obtain ⟨hg, rfl, hf, hb⟩ := h
    obtain ⟨z, e1, f1, hv⟩ := decA_good hg
    have hz : z = ((m : Nat) : Int) := by rw [hv]; rfl
    rw [e1, hz]
    exact sums_good m (good_lt hg) f b hf hb
  · refine callX_eq (n := 2) (ctxL_ok (l := [(9, awakeN), (12, goodC opsR)]) (ll := [(5, 8, fun _ _ => False), (5, 14, fun _ _ => False), (5, 18, fun _ _ => False)]) (fuel := 0) (by
      intro x hx
      simp only [List.mem_cons, List.not_mem_nil, or_false] at hx
      rcases hx with rfl | rfl
      · exact awakeN_ok
      · exact goodC_ok) ?_) ?_
    · intro x hx
      simp only [List.mem_cons, List.not_mem_nil, or_false] at hx
      rcases hx with rfl | rfl | rfl
      · exact LoopSound.mk (n := 0) Tryd.func5 rfl (by kernel_rfl) (by kernel_rfl) (fun _ _ h => h.elim)
      · exact LoopSound.mk (n := 1) Tryd.func5 rfl (by kernel_rfl) (by kernel_rfl) (fun _ _ h => h.elim)
      · exact LoopSound.mk (n := 2) Tryd.func5 rfl (by kernel_rfl) (by kernel_rfl) (fun _ _ h => h.elim)
    · unfold decA
      rw [sm_tree2, ops_good_of]
      cases hg : goodB s m
      · rfl
      · cases s
        · by_cases hf : f ≤ 60
          · have g1 : decide ((f : Int) > 60) = false := by rw [decide_eq_false_iff_not]; omega
            have hb : ¬ b ≤ 60 := fun hb => h ⟨hg, rfl, hf, hb⟩
            have g2 : decide ((b : Int) > 60) = true := by rw [decide_eq_true_eq]; omega
            rw [g1, g2]; rfl
          · have g1 : decide ((f : Int) > 60) = true := by rw [decide_eq_true_eq]; omega
            rw [g1]; rfl
        · rfl
end Go.Proofs.YthhfnggigmfmjaaDoor
