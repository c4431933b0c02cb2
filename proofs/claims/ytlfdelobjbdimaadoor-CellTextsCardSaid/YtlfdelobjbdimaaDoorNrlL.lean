/-
  numeral's Text of any number.
-/
import Derived.Test.YtlfdelobjbdimaaDoorNrlK
set_option maxRecDepth 20000
namespace Go.Proofs.YtlfdelobjbdimaaDoor
set_option linter.unusedSimpArgs false
set_option linter.unusedVariables false
open Go.RowKit

def txE : List Nat := [0, 1, 7, 13, 14, 15, 16, 17, 18, 19, 20, 21, 22, 23, 24, 25, 26, 27, 28, 29]
def txFin (neg : Bool) (s : ByteArray) (K : D → Prop) : Prop := bif neg then catS ⟨#[45]⟩ s fun r => K (.v (.string r)) else K (.v (.string s))
def txTail (M : Ops) (X : Txt) (neg : Bool) (p : Int) (s : ByteArray) (K : D → Prop) : Prop :=
  bif decide (M.lo p > 0) then X.okf (M.lo p) ∧ catS ⟨#[46]⟩ (X.fr (M.lo p)) fun t => catS s t fun s' => txFin neg s' K else txFin neg s K
def txRest (M : Ops) (X : Txt) (b b0 : Bool) (a w0 p0 : Int) (s1 : ByteArray) (K : D → Prop) : Prop :=
  gz M a = true ∧ gz M a = true ∧ gz M (M.trunc (vz M a)) = true ∧ M.fit (M.sub (vz M a) (vz M (M.trunc (vz M a)))) = true ∧ M.isInt 10 = true ∧
    txS M b (M.trunc (vz M a)) (M.sub (vz M a) (vz M (M.trunc (vz M a)))) ⟨#[]⟩ = txS M b0 w0 p0 ⟨#[]⟩ ∧ txTail M X b0 p0 s1 K
def textL2 (M : Ops) (X : Txt) : List (Nat × Orc) := [(19, goodT M), (29, negT M), (30, truncT M), (31, subF M), (25, intT M), (35, frC X)]
theorem textL2_ok : ∀ x ∈ textL2 opsR txtR, Sound x.1 x.2 := by
  intro x hx
  simp only [textL2, List.mem_cons, List.not_mem_nil, or_false] at hx
  rcases hx with rfl | rfl | rfl | rfl | rfl | rfl
  · exact soundT goodC_ok fun _ _ h => goodT_to h
  · exact soundT negC_ok fun _ _ h => negT_to h
  · exact soundT truncC_ok fun _ _ h => truncT_to h
  · exact soundT subC_ok fun _ _ h => subF_to h
  · exact intT_ok
  · exact frC_ok
set_option maxRecDepth 100000 in
theorem text_tree (M : Ops) (X : Txt) (b0 : Bool) (z w0 w1 p0 : Int) (s1 : ByteArray) (K : D → Prop) :
    callX Tryd.prog (ctxL (textL2 M X) [(15, 10, onceL txE (txS M b0 w0 p0 ⟨#[]⟩) (txS M b0 w1 p0 s1) (.exit 0))] 0) 2 15 [decM M z] K = (
      gz M z = true ∧ bif M.sg z then gz M z = true ∧ txRest M X (M.sg z) b0 (M.neg (vz M z)) w0 p0 s1 K else txRest M X (M.sg z) b0 z w0 p0 s1 K) := by kernel_rfl
/-- The digits of a whole number; of a number below one. -/
def iD (k : Nat) : List Nat := if k = 0 then [48] else ((dig k).map (48 + ·)).reverse
def fD (p : Nat) : List Nat := if p = 0 then [] else 46 :: trimL 48 (frN 6 p [])
def txN (neg : Bool) (n : Nat) : List Nat := (bif neg then [45] else []) ++ (iD (n / 1000000) ++ fD (n % 1000000))
def txtZ (z : Int) : List Nat := txN (decide (z < 0)) z.natAbs
theorem lo_small {p : Nat} (h : p < 1000000) : opsR.lo ((p : Nat) : Int) = (p : Int) := by
  show ((loN ((p : Nat) : Int).natAbs : Nat) : Int) = _
  rw [Int.natAbs_natCast]
  have : loN p = p := by unfold loN; omega
  rw [this]
theorem tr_nat (n : Nat) : opsR.trunc ((n : Nat) : Int) = ((n / 1000000 * 1000000 : Nat) : Int) := by
  show ((n : Nat) : Int) - ((n % 1000000 : Nat) : Int) = _
  omega
theorem iD_len {k : Nat} (h : k < 1000000000000000000000000000000) : (iD k).length ≤ 30 := by
  have := (dig_len k 30).2 (by exact h)
  unfold iD
  split
  · simp
  · simp; exact this
theorem trimL_len (c : Nat) (l : List Nat) : (trimL c l).length ≤ l.length := by
  unfold trimL
  rw [List.length_reverse]
  have := (List.dropWhile_sublist (· == c) (l := l.reverse)).length_le
  rw [List.length_reverse] at this
  exact this
theorem fD_len (p : Nat) : (fD p).length ≤ 7 := by
  unfold fD
  split
  · simp
  · have := trimL_len 48 (frN 6 p [])
    rw [frN_len] at this
    simp at this ⊢; omega
theorem dotS_eq : (⟨#[46]⟩ : ByteArray) = strB [46] := rfl
theorem minS_eq : (⟨#[45]⟩ : ByteArray) = strB [45] := rfl
theorem fin_eq (neg : Bool) (l : List Nat) (hl : l.length < 1000) (K : D → Prop) : txFin neg (strB l) K = K (.v (.string (strB ((bif neg then [45] else []) ++ l)))) := by
  unfold txFin
  cases neg
  · rfl
  · rw [minS_eq, cond_true, catS_eq _ _ (by simp; omega)]; rfl
theorem tail_eq (neg : Bool) (p : Nat) (hp : p < 1000000) (l : List Nat) (hl : l.length < 900) (K : D → Prop) (h : K (.v (.string (strB ((bif neg then [45] else []) ++ (l ++ fD p)))))) : Prf (txTail opsR txtR neg (p : Int) (strB l) K) := by
  refine ⟨?_⟩
  unfold txTail
  rw [lo_small hp]
  have hf := fD_len p
  by_cases h0 : p = 0
  · have g : decide ((p : Int) > 0) = false := by rw [decide_eq_false_iff_not]; omega
    have e : fD p = [] := if_pos h0
    rw [e, List.append_nil] at h
    rw [g, cond_false, fin_eq _ _ (by omega)]
    exact h
  · have g : decide ((p : Int) > 0) = true := by rw [decide_eq_true_eq]; omega
    have e : fD p = [46] ++ trimL 48 (frN 6 p []) := if_neg h0
    have efr : txtR.fr (p : Int) = strB (trimL 48 (frN 6 p [])) := by show strB (trimL 48 (frN 6 ((p : Int)).toNat [])) = _; rw [Int.toNat_natCast]
    rw [e] at h hf
    have hf2 : (trimL 48 (frN 6 p [])).length ≤ 6 := by simp at hf; omega
    rw [g, cond_true, efr, dotS_eq, catS_eq _ _ (by simp; omega), catS_eq _ _ (by simp; omega), fin_eq _ _ (by simp; omega)]
    exact ⟨⟨p, rfl, hp⟩, h⟩
theorem rest_eq (b : Bool) (n : Nat) (hn : n < 1000000000000000000000000000000000000) (K : D → Prop) (h : K (.v (.string (strB (txN b n))))) :
    Prf (txRest opsR txtR b b ((n : Nat) : Int) ((n / 1000000 * 1000000 : Nat) : Int) ((n % 1000000 : Nat) : Int) (strB (iD (n / 1000000))) K) := by
  refine ⟨?_⟩
  have e1 := tr_nat n
  have e2 : opsR.sub ((n : Nat) : Int) ((n / 1000000 * 1000000 : Nat) : Int) = ((n % 1000000 : Nat) : Int) := by show ((n : Nat) : Int) - ((n / 1000000 * 1000000 : Nat) : Int) = _; omega
  have f1 : opsR.fit ((n : Nat) : Int) = true := fit_small hn
  have f2 : opsR.fit ((n / 1000000 * 1000000 : Nat) : Int) = true := fit_small (by omega)
  have f3 : opsR.fit ((n % 1000000 : Nat) : Int) = true := fit_small (by omega)
  have f4 : opsR.isInt 10 = true := isInt_any (by omega) (by omega)
  have hl := iD_len (k := n / 1000000) (by omega)
  obtain ⟨hT⟩ := tail_eq b (n % 1000000) (by omega) (iD (n / 1000000)) (by omega) K h
  unfold txRest
  simp only [vz_eq, gz_eq, e1, e2, f1, f2, f3, f4, true_and]
  exact hT
theorem text_ps (z : Int) (hz : opsR.fit z = true) : PS Tryd.prog 15 [decM opsR z] (.v (.string (strB (txtZ z)))) := by
  have hlt := fit_lt hz
  obtain ⟨k, hk⟩ := tx_start (opsR.sg z) ((z.natAbs % 1000000 : Nat) : Int) (z.natAbs / 1000000) (by omega)
  have hk' : RunsK (txL opsR quoR whR mqR) Tryd.f15 0 txJ k (txS opsR (opsR.sg z) ((z.natAbs / 1000000 * 1000000 : Nat) : Int) ((z.natAbs % 1000000 : Nat) : Int) ⟨#[]⟩) (.exit 0) (txS opsR (opsR.sg z) ((0 * 1000000 : Nat) : Int) ((z.natAbs % 1000000 : Nat) : Int) (strB (iD (z.natAbs / 1000000)))) := hk
  obtain ⟨hR⟩ := rest_eq (opsR.sg z) z.natAbs hlt (fun x => x = D.v (.string (strB (txtZ z)))) rfl
  refine callX_eq (n := 2) (ctxL_ok (l := textL2 opsR txtR) (ll := [(15, 10, onceL txE (txS opsR (opsR.sg z) ((z.natAbs / 1000000 * 1000000 : Nat) : Int) ((z.natAbs % 1000000 : Nat) : Int) ⟨#[]⟩) (txS opsR (opsR.sg z) ((0 * 1000000 : Nat) : Int) ((z.natAbs % 1000000 : Nat) : Int) (strB (iD (z.natAbs / 1000000)))) (.exit 0))]) (fuel := 0) textL2_ok ?_) ?_
  · intro x hx
    obtain rfl := List.mem_singleton.1 hx
    exact LoopSound.mk (n := 0) Tryd.func15 rfl (by kernel_rfl) (by kernel_rfl) (RunsK.once txL_ok (by kernel_rfl) hk')
  · rw [text_tree, gz_eq, hz, vz_eq, ops_neg]
    refine ⟨rfl, ?_⟩
    have hs : opsR.sg z = decide (z < 0) := rfl
    by_cases h0 : z < 0
    · have e : opsR.sg z = true := by rw [hs, decide_eq_true h0]
      have en : -z = ((z.natAbs : Nat) : Int) := by omega
      rw [en]
      have hR2 := hR
      generalize opsR.sg z = b at *
      subst e
      exact ⟨rfl, hR2⟩
    · have e : opsR.sg z = false := by rw [hs, decide_eq_false h0]
      have en : z = ((z.natAbs : Nat) : Int) := by omega
      generalize opsR.sg z = b at *
      subst e
      rw [cond_false]
      rw [← en] at hR
      exact hR
end Go.Proofs.YtlfdelobjbdimaaDoor
