/-
  What scan comes to on a number's text; the law NumeralInts, its walk and the plain law.
-/
import Derived.Test.YtlfdelobjbdimaaDoorNrlL
set_option maxRecDepth 20000
namespace Go.Proofs.YtlfdelobjbdimaaDoor
set_option linter.unusedSimpArgs false
set_option linter.unusedVariables false
open Go.RowKit

theorem lead_app (p : Nat → Bool) : ∀ (a b : List Nat), (∀ x ∈ a, p x = true) → lead p (a ++ b) = a.length + lead p b
  | [], b, _ => by simp
  | x :: a, b, h => by
    rw [List.cons_append, lead_cons, h x (by simp), cond_true, lead_app p a b (fun y hy => h y (by simp [hy])), List.length_cons]; omega
theorem lead_stop (p : Nat → Bool) (b : List Nat) (h : ∀ x ∈ b.head?, p x = false) : lead p b = 0 := by
  cases b with
  | nil => rfl
  | cons x b => rw [lead_cons, h x (by simp)]; rfl
theorem dg_of {x : Nat} (h : 48 ≤ x ∧ x ≤ 57) : isDg x = true := by rw [dg_eq (by omega)]; exact decide_eq_true h
theorem dg_not {x : Nat} (h : x < 256) (h' : ¬ (48 ≤ x ∧ x ≤ 57)) : isDg x = false := by rw [dg_eq h]; exact decide_eq_false h'
theorem getD_app (a b : List Nat) : (a ++ b).getD a.length 0 = b.getD 0 0 := by
  rw [List.getD_eq_getElem?_getD, List.getD_eq_getElem?_getD, List.getElem?_append_right (Nat.le_refl _), Nat.sub_self]
/-- A number's text, and what stands behind it. -/
structure TextAt (sg W r F t : List Nat) : Prop where
  sg : sg = [] ∨ sg = [45]
  ne : W ≠ []
  dg : allDg W
  fr : r = [] ∧ F = [] ∨ r = 46 :: F
  fd : allDg F
  stop : ∀ x ∈ t.head?, x < 256 ∧ ¬ (48 ≤ x ∧ x ≤ 57)
  dot : r = [] → ∀ x ∈ t.head?, x ≠ 46
theorem scan_text {sg W r F t : List Nat} (h : TextAt sg W r F t) :
    scW (sg ++ (W ++ (r ++ t))) = W ∧ scR (sg ++ (W ++ (r ++ t))) = F ∧ scN (sg ++ (W ++ (r ++ t))) = sg.length + (W.length + r.length) ∧ scNeg (sg ++ (W ++ (r ++ t))) = (sg == [45]) := by
  obtain ⟨w, W', hW⟩ : ∃ w W', W = w :: W' := by
    cases hW : W with
    | nil => exact absurd hW h.ne
    | cons w W' => exact ⟨w, W', rfl⟩
  have hw := h.dg w (by rw [hW]; simp)
  generalize hl : sg ++ (W ++ (r ++ t)) = l
  have hB : scB l = 0 := by
    unfold scB
    refine lead_stop isBl l fun x hx => ?_
    rw [← hl] at hx
    rcases h.sg with e | e
    · rw [e, hW] at hx
      obtain rfl : w = x := by simpa using hx
      rw [bl_eq (by omega)]; exact decide_eq_false (by omega)
    · rw [e] at hx
      obtain rfl : 45 = x := by simpa using hx
      rw [bl_eq (by omega)]; rfl
  have hlen : l.length = sg.length + (W.length + (r ++ t).length) := by rw [← hl]; simp
  have hW1 : 0 < W.length := by rw [hW]; simp
  have hS : isSg l (scB l) = (sg == [45]) ∧ (isSg l (scB l) && l.getD (scB l) 0 == 45) = (sg == [45]) := by
    rw [hB]
    unfold isSg
    have h0 : decide (0 < l.length) = true := by rw [decide_eq_true_eq]; omega
    rw [h0]
    rcases h.sg with e | e
    · have hg : l.getD 0 0 = w := by rw [← hl, e, hW]; rfl
      have e1 : (w == 45) = false := by rw [beq_eq_false_iff_ne]; omega
      have e2 : (w == 43) = false := by rw [beq_eq_false_iff_ne]; omega
      rw [hg, e1, e2, e]; exact ⟨rfl, rfl⟩
    · have hg : l.getD 0 0 = 45 := by rw [← hl, e]; rfl
      rw [hg, e]; exact ⟨rfl, rfl⟩
  have hI : scI l = sg.length := by
    unfold scI
    rw [hS.1, hB]
    rcases h.sg with e | e <;> rw [e] <;> rfl
  have hd1 : l.drop sg.length = W ++ (r ++ t) := by rw [← hl, List.drop_left]
  have hst : lead isDg (r ++ t) = 0 := by
    refine lead_stop isDg _ fun x hx => ?_
    rcases h.fr with ⟨e, _⟩ | e
    · rw [e, List.nil_append] at hx
      have := h.stop x hx
      exact dg_not this.1 this.2
    · rw [e] at hx
      obtain rfl : 46 = x := by simpa using hx
      exact dg_not (by omega) (by omega)
  have hD : scD l = W.length := by
    unfold scD
    rw [hI, hd1, lead_app isDg W _ (fun x hx => dg_of (h.dg x hx)), hst]; omega
  have hWW : scW l = W := by unfold scW; rw [hI, hD, hd1, List.take_left]
  have hP : scP l = sg.length + W.length := by unfold scP; rw [hI, hD]
  have hgd : l.getD (scP l) 0 = (r ++ t).getD 0 0 := by
    rw [hP, ← hl, ← List.append_assoc, ← List.length_append, getD_app]
  have hneg : scNeg l = (sg == [45]) := by unfold scNeg; exact hS.2
  refine ⟨hWW, ?_⟩
  rcases h.fr with ⟨e, eF⟩ | e
  · -- no point
    have hdot : scDot l = false := by
      unfold scDot
      rw [hgd, e, List.nil_append]
      cases t with
      | nil =>
        have : decide (scP l < l.length) = false := by rw [decide_eq_false_iff_not, hP, hlen, e]; simp
        rw [this]; rfl
      | cons x t =>
        have hx := h.dot e x (by simp)
        have : ((x :: t).getD 0 0 == 46) = false := by rw [beq_eq_false_iff_ne]; exact hx
        rw [this]; simp
    refine ⟨?_, ?_, hneg⟩
    · unfold scR; rw [hdot, eF]; rfl
    · unfold scN
      have : (W.length == 0) = false := by rw [beq_eq_false_iff_ne]; omega
      rw [hdot, hWW, this, cond_false, cond_false, hP, e]; simp
  · have hd2 : l.drop (scP l + 1) = F ++ t := by
      rw [hP, ← hl, e]
      have : sg ++ (W ++ (46 :: F ++ t)) = (sg ++ (W ++ [46])) ++ (F ++ t) := by simp
      rw [this]
      have h3 : sg.length + W.length + 1 = (sg ++ (W ++ [46])).length := by rw [List.length_append, List.length_append, List.length_singleton]; omega
      rw [h3, List.drop_left]
    have hK : scK l = F.length := by
      unfold scK
      rw [hd2, lead_app isDg F _ (fun x hx => dg_of (h.fd x hx)), lead_stop isDg t (fun x hx => dg_not (h.stop x hx).1 (h.stop x hx).2)]; rfl
    have hdot : scDot l = true := by
      unfold scDot
      have h1 : decide (scP l < l.length) = true := by rw [decide_eq_true_eq, hP, hlen, e, List.length_append, List.length_cons]; omega
      have h2 : ((r ++ t).getD 0 0 == 46) = true := by rw [e]; rfl
      have h3 : ((scW l).length + scK l == 0) = false := by rw [hWW, beq_eq_false_iff_ne]; omega
      rw [h1, hgd, h2, h3]; rfl
    refine ⟨?_, ?_, hneg⟩
    · unfold scR; rw [hdot, cond_true, hd2, hK, List.take_left]
    · unfold scN
      rw [hdot, cond_true, hP, hK, e, List.length_cons]; omega

/-! ### A whole number's digits, read -/
theorem decN_snoc : ∀ (a : List Nat) (x n : Nat), decN (a ++ [x]) n = decN a n * 10 + (x - 48)
  | [], _, _ => rfl
  | y :: a, x, n => by
    show decN (a ++ [x]) (n * 10 + (y - 48)) = decN a (n * 10 + (y - 48)) * 10 + (x - 48)
    exact decN_snoc a x _
theorem decN_dig (n : Nat) : decN ((dig n).map (48 + ·)).reverse 0 = n := by
  induction n using Nat.strongRecOn with
  | ind n ih =>
    by_cases h : n = 0
    · subst h; rw [dig_zero]; rfl
    · rw [dig_pos h, List.map_cons, List.reverse_cons, decN_snoc, ih (n / 10) (by omega)]
      omega
theorem decN_iD (n : Nat) : decN (iD n) 0 = n := by
  unfold iD
  split
  · subst_vars; rfl
  · exact decN_dig n
theorem iD_dg (n : Nat) : allDg (iD n) := by
  intro x hx
  unfold iD at hx
  split at hx
  · obtain rfl : x = 48 := by simpa using hx
    omega
  · rw [List.mem_reverse, List.mem_map] at hx
    obtain ⟨y, hy, rfl⟩ := hx
    have := dig_lt n y hy
    omega
theorem iD_ne (n : Nat) : iD n ≠ [] := by
  unfold iD
  split
  · simp
  · rename_i h; rw [dig_pos h]; simp
theorem iD_step {n : Nat} (h : 9 < n) : iD n = iD (n / 10) ++ [48 + n % 10] := by
  unfold iD
  rw [if_neg (by omega), if_neg (by omega), dig_pos (show n ≠ 0 by omega)]
  simp
theorem iD_one {n : Nat} (h : n ≤ 9) : iD n = [48 + n % 10] := by
  unfold iD
  split
  · subst_vars; rfl
  · rename_i h0
    rw [dig_pos h0, show n / 10 = 0 by omega, dig_zero]; rfl
theorem bytesD_strB {l : List Nat} (h : byteL l) : bytesD (strB l) = bD l := by
  have e : (strB l).data.toList = l.map UInt8.ofNat := rfl
  unfold bytesD bD
  rw [e, List.map_map]
  apply List.map_congr_left
  intro x hx
  show [D.v (.int .u8 (((UInt8.ofNat x).toNat : Nat) : Int))] = _
  rw [UInt8.toNat_ofNat', Nat.mod_eq_of_lt (h x hx)]
theorem strEq_self (s : ByteArray) : strEq s s = true := by unfold strEq; exact beq_self_eq_true _
theorem whole_int (n : Int) (h : -9223372036854775808 ≤ n) (h' : n < 9223372036854775808) : whR.i (opsR.sg (n * 1000000)) (mqR (opsR.hi (n * 1000000)) (opsR.lo (n * 1000000))) = n ∧ whR.b (opsR.sg (n * 1000000)) (mqR (opsR.hi (n * 1000000)) (opsR.lo (n * 1000000))) = true := by
  have e0 : mqR (opsR.hi (n * 1000000)) (opsR.lo (n * 1000000)) = n.natAbs := by unfold mqR; rw [l_mag]; omega
  have e2 : opsR.sg (n * 1000000) = decide (n < 0) := by show decide (n * 1000000 < 0) = _; rw [Bool.eq_iff_iff, decide_eq_true_eq, decide_eq_true_eq]; omega
  have hB : whB (decide (n < 0)) n.natAbs = true := by
    unfold whB
    by_cases hn : n < 0
    · rw [decide_eq_true hn, cond_true, decide_eq_true_eq]; omega
    · rw [decide_eq_false hn, cond_false, decide_eq_true_eq]; omega
  have hI : whI (decide (n < 0)) n.natAbs = n := by
    unfold whI; rw [hB, cond_true]
    by_cases hn : n < 0
    · rw [decide_eq_true hn, cond_true]; omega
    · rw [decide_eq_false hn, cond_false]; omega
  rw [e0, e2]
  exact ⟨hI, hB⟩

/-! ### The walk of NumeralInts -/
def textT (M : Ops) (tx : Int → ByteArray) : Orc := fun _ ds K => match one? ds with
  | some (s, x, y) => M.good s x y = true ∧ K (.v (.string (tx (M.val s x y))))
  | none => False
def txR : Int → ByteArray := fun z => strB (txtZ z)
theorem textT_ok : Sound 15 (textT opsR txR) := by
  refine sound1 (m := fun s x y K => goodI s x y = true ∧ K (.v (.string (txR (valI s x y))))) (fun _ _ => rfl) fun s x y K ⟨g, hK⟩ => ⟨_, hK, fun K' h => ⟨g, h⟩, ?_⟩
  intro role w args hlow hmask hsz hargs
  obtain ⟨a, rfl, ha⟩ := args_one rfl hsz hargs
  obtain ⟨_, hx, hy⟩ := rd_dec ha
  obtain ⟨e1, e2, _⟩ := hi_magI hx hy
  obtain ⟨z, h1, h2, h3, h4⟩ := dec_good g
  have hv : valI s x y = z := by rw [valI_val]; exact h4.symm
  have hc : [D.agg [.v (.bool s), .v (.int .u64 x), .v (.int .u64 y)]] = [decM opsR z] := by
    have c1 : opsR.sg z = s := h1
    have c2 : opsR.hi z = x := by show ((hiN z.natAbs : Nat) : Int) = x; rw [h2]; exact e1
    have c3 : opsR.lo z = y := by show ((loN z.natAbs : Nat) : Int) = y; rw [h2]; exact e2
    unfold decM
    rw [c1, c2, c3]
  rw [hv]
  rw [hc] at hargs hsz
  exact text_ps z h3 role w _ hlow hmask hsz hargs
def prefixF (M : Ops) (V : Nrl) : Orc := fun _ ds K => match ds with
  | [.list false T es] => T = 5 ∧ V.ok es ∧ V.pbig es = false ∧ K (.tup [decM M (V.pval es), .v (.int .i64 (V.n es)), nilD])
  | _ => False
theorem prefixF_ok : Sound 42 (prefixF opsR nrlR) := by
  refine soundT prefixC_ok fun ds K h => ?_
  unfold prefixF at h
  split at h
  · rename_i T es
    obtain ⟨rfl, hok, hb, hK⟩ := h
    refine ⟨⟨rfl, hok, ?_⟩, fun K' h => ⟨rfl, hok, hb, ?_⟩⟩
    · rw [hb]; exact hK
    · have := h.2.2; rw [hb] at this; exact this
  · exact h.elim
theorem byteL_iD (k : Nat) : byteL (iD k) := fun x hx => by have := iD_dg k x hx; omega
theorem ints_text (n : Int) : txtZ (n * 1000000) = (bif decide (n < 0) then [45] else []) ++ (iD n.natAbs ++ ([] ++ [])) := by
  unfold txtZ txN
  have e1 : (n * 1000000).natAbs / 1000000 = n.natAbs := by omega
  have e2 : (n * 1000000).natAbs % 1000000 = 0 := by omega
  have e3 : decide (n * 1000000 < 0) = decide (n < 0) := by rw [Bool.eq_iff_iff, decide_eq_true_eq, decide_eq_true_eq]; omega
  rw [e1, e2, e3]; rfl
end Go.Proofs.YtlfdelobjbdimaaDoor
