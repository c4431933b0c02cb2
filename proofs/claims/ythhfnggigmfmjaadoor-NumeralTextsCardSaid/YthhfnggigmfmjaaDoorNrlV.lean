/-
  The walk of the law NumeralBlanks.
-/
import Derived.Test.YthhfnggigmfmjaaDoorHpO
import Derived.Test.YthhfnggigmfmjaaDoorNrlM
namespace Go.Proofs.YthhfnggigmfmjaaDoor
set_option linter.unusedSimpArgs false
set_option linter.unusedVariables false
open Go.RowKit

def prefixB (M : Ops) (V : Nrl) : Orc := fun _ ds K => match ds with
  | [.list false T es] => T = 5 ∧ V.ok es ∧ V.pbig es = true ∧ K (.tup [decZ, .v (.int .i64 (V.n es)), errD 2])
  | _ => False
theorem prefixB_ok : Sound 13 (prefixB opsR nrlR) := by
  refine soundT prefixC_ok fun ds K h => ?_
  unfold prefixB at h
  split at h
  · rename_i T es
    obtain ⟨rfl, hok, hb, hK⟩ := h
    refine ⟨⟨rfl, hok, ?_⟩, fun K' h => ⟨rfl, hok, hb, ?_⟩⟩
    · rw [hb]; exact hK
    · have := h.2.2; rw [hb] at this; exact this
  · exact h.elim

/-! ### Blanks ahead, a blank behind: what a scan sees -/
theorem bl32 : isBl 32 = true := by rw [bl_eq (by omega)]; rfl
theorem dg32 : isDg 32 = false := by rw [dg_eq (by omega)]; rfl
/-- A text behind others. -/
structure Sh (n : Nat) (l l' : List Nat) : Prop where
  hd : ∀ k, l'.drop (n + k) = l.drop k
  hg : ∀ k, l'.getD (n + k) 0 = l.getD k 0
  hl : l'.length = n + l.length
theorem sh_of (a l : List Nat) : Sh a.length l (a ++ l) where
  hd k := by rw [List.drop_append, List.drop_eq_nil_of_le (by omega), List.nil_append]; congr 1; omega
  hg k := by rw [List.getD_eq_getElem?_getD, List.getElem?_append_right (by omega), ← List.getD_eq_getElem?_getD]; congr 1; omega
  hl := List.length_append
section
variable {n : Nat} {l l' : List Nat}
theorem Sh.sg (h : Sh n l l') (i : Nat) : isSg l' (n + i) = isSg l i := by
  unfold isSg
  rw [h.hg, h.hl]
  congr 1
  rw [Bool.eq_iff_iff, decide_eq_true_eq, decide_eq_true_eq]; omega
theorem Sh.all (h : Sh n l l') (hB : scB l' = n + scB l) : scI l' = n + scI l ∧ scNeg l' = scNeg l ∧ scW l' = scW l ∧ scR l' = scR l ∧ scN l' = (bif scN l == 0 then 0 else n + scN l) := by
  have hI : scI l' = n + scI l := by
    unfold scI
    rw [hB, h.sg]
    cases isSg l (scB l) <;> simp <;> omega
  have hNeg : scNeg l' = scNeg l := by unfold scNeg; rw [hB, h.sg, h.hg]
  have hD : scD l' = scD l := by unfold scD; rw [hI, h.hd]
  have hW : scW l' = scW l := by unfold scW; rw [hI, h.hd, hD]
  have hP : scP l' = n + scP l := by unfold scP; rw [hI, hD]; omega
  have hK : scK l' = scK l := by unfold scK; rw [hP, show n + scP l + 1 = n + (scP l + 1) by omega, h.hd]
  have hDot : scDot l' = scDot l := by
    unfold scDot
    rw [hP, h.hg, h.hl, hW, hK]
    congr 1
    rw [Bool.eq_iff_iff, decide_eq_true_eq, decide_eq_true_eq]; omega
  refine ⟨hI, hNeg, hW, ?_, ?_⟩
  · unfold scR; rw [hDot, hP, hK, show n + scP l + 1 = n + (scP l + 1) by omega, h.hd]
  · have hlen := scW_len l
    unfold scN
    rw [hDot, hP, hK, hW]
    cases hd : scDot l with
    | true =>
      simp only [cond_true]
      rw [show (scP l + 1 + scK l == 0) = false by rw [beq_eq_false_iff_ne]; omega, cond_false]; omega
    | false =>
      simp only [cond_false]
      cases hw : (scW l).length == 0 with
      | true => simp
      | false =>
        rw [beq_eq_false_iff_ne] at hw
        have : scP l = scI l + scD l := rfl
        rw [cond_false, cond_false, show (scP l == 0) = false by rw [beq_eq_false_iff_ne]; omega, cond_false]
end
theorem ahead (n : Nat) (l : List Nat) : scNeg (List.replicate n 32 ++ l) = scNeg l ∧ scW (List.replicate n 32 ++ l) = scW l ∧ scR (List.replicate n 32 ++ l) = scR l ∧ scN (List.replicate n 32 ++ l) = (bif scN l == 0 then 0 else n + scN l) := by
  have h := sh_of (List.replicate n 32) l
  rw [List.length_replicate] at h
  have hB : scB (List.replicate n 32 ++ l) = n + scB l := by
    unfold scB
    rw [lead_app _ _ _ (fun x hx => by rw [(List.mem_replicate.1 hx).2]; exact bl32), List.length_replicate]
  exact (h.all hB).2
theorem ahead_n0 (n : Nat) (l : List Nat) : (scN (List.replicate n 32 ++ l) == 0) = (scN l == 0) := by
  rw [(ahead n l).2.2.2]
  cases h : scN l == 0 with
  | true => rfl
  | false => rw [beq_eq_false_iff_ne] at h; rw [cond_false, beq_eq_false_iff_ne]; omega
theorem ahead_big (n : Nat) (l : List Nat) : pBig (List.replicate n 32 ++ l) = pBig l := by unfold pBig; rw [ahead_n0, (ahead n l).2.1]
theorem ahead_val (n : Nat) (l : List Nat) : pVal (List.replicate n 32 ++ l) = pVal l := by unfold pVal; rw [ahead_n0, (ahead n l).1, (ahead n l).2.1, (ahead n l).2.2.1]

theorem lead_snoc_dg : ∀ (l : List Nat), lead isDg (l ++ [32]) = lead isDg l
  | [] => by rw [List.nil_append, lead_cons, dg32]; rfl
  | x :: l => by rw [List.cons_append, lead_cons, lead_cons, lead_snoc_dg l]
theorem lead_snoc_bl : ∀ (l : List Nat), lead isBl (l ++ [32]) = bif lead isBl l == l.length then l.length + 1 else lead isBl l
  | [] => by rw [List.nil_append, lead_cons, bl32]; rfl
  | x :: l => by
    rw [List.cons_append, lead_cons, lead_cons, lead_snoc_bl l]
    cases isBl x with
    | false =>
      rw [cond_false, cond_false, show (0 == (x :: l).length) = false from rfl]; rfl
    | true =>
      rw [cond_true, cond_true, List.length_cons]
      cases h : lead isBl l == l.length with
      | true =>
        rw [beq_iff_eq] at h
        rw [h, beq_self_eq_true]; rfl
      | false =>
        rw [beq_eq_false_iff_ne] at h
        rw [show (lead isBl l + 1 == l.length + 1) = false by rw [beq_eq_false_iff_ne]; omega]; rfl
theorem getD_snoc (l : List Nat) (i : Nat) : (l ++ [32]).getD i 0 = if i < l.length then l.getD i 0 else if i = l.length then 32 else 0 := by
  rw [List.getD_eq_getElem?_getD, List.getElem?_append]
  split
  · rw [List.getD_eq_getElem?_getD]
  · split
    · rename_i h; subst h; simp
    · rename_i h1 h2
      rw [List.getElem?_eq_none (by simp; omega)]; rfl
theorem drop_snoc (l : List Nat) {i : Nat} (h : i ≤ l.length) : (l ++ [32]).drop i = l.drop i ++ [32] := List.drop_append_of_le_length h
theorem behind_n (l : List Nat) : scN (l ++ [32]) = scN l := by
  by_cases hb : lead isBl l = l.length
  · -- nothing but blanks
    have h1 : scB (l ++ [32]) = l.length + 1 := by unfold scB; rw [lead_snoc_bl, hb, beq_self_eq_true]; rfl
    have e1 : ∀ m : List Nat, scB m = m.length → scN m = 0 := by
      intro m hm
      have hs : isSg m m.length = false := by unfold isSg; simp
      have hI : scI m = m.length := by unfold scI; rw [hm, hs]; rfl
      have hD : scD m = 0 := by unfold scD; rw [hI, List.drop_length]; rfl
      have hP : scP m = m.length := by unfold scP; rw [hI, hD]; rfl
      have hW : (scW m).length = 0 := by rw [scW_len, hD]
      unfold scN
      have hDot : scDot m = false := by unfold scDot; rw [hP]; simp
      rw [hDot, hW]; rfl
    rw [e1 _ (by rw [h1]; simp), e1 l hb]
  · have hB : scB (l ++ [32]) = scB l := by unfold scB; rw [lead_snoc_bl, show (lead isBl l == l.length) = false by rw [beq_eq_false_iff_ne]; exact hb]; rfl
    have hBl : scB l < l.length := by have := lead_le isBl l; unfold scB; omega
    have hs : isSg (l ++ [32]) (scB l) = isSg l (scB l) := by
      unfold isSg
      rw [getD_snoc, if_pos hBl]
      congr 1
      rw [Bool.eq_iff_iff, decide_eq_true_eq, decide_eq_true_eq]; simp; omega
    have hI : scI (l ++ [32]) = scI l := by unfold scI; rw [hB, hs]
    have hIl := scI_le l
    have hD : scD (l ++ [32]) = scD l := by unfold scD; rw [hI, drop_snoc l hIl, lead_snoc_dg]
    have hP : scP (l ++ [32]) = scP l := by unfold scP; rw [hI, hD]
    have hPl := scP_le l
    have hW : (scW (l ++ [32])).length = (scW l).length := by rw [scW_len, scW_len, hD]
    have hDot : scDot (l ++ [32]) = scDot l ∧ (scDot l = true → scK (l ++ [32]) = scK l) := by
      by_cases hp : scP l < l.length
      · have hK : scK (l ++ [32]) = scK l := by unfold scK; rw [hP, drop_snoc l (by omega), lead_snoc_dg]
        refine ⟨?_, fun _ => hK⟩
        unfold scDot
        rw [hP, getD_snoc, if_pos hp, hW, hK]
        congr 1
        rw [Bool.eq_iff_iff, decide_eq_true_eq, decide_eq_true_eq]; simp; omega
      · have he : scP l = l.length := by omega
        have h1 : scDot l = false := by unfold scDot; rw [he]; simp
        refine ⟨?_, fun h => by rw [h1] at h; cases h⟩
        rw [h1]
        unfold scDot
        rw [hP, getD_snoc, if_neg hp, if_pos he]
        simp
    unfold scN
    rw [hDot.1, hP, hW]
    cases hd : scDot l with
    | true => rw [hDot.2 hd]
    | false => rfl
theorem behind_looks (l : List Nat) : looksN (l ++ [32]) = looksN l := by
  have hN := scN_le l
  unfold looksN
  rw [behind_n, drop_snoc l hN, lead_snoc_bl]
  congr 1
  have hlen : (l.drop (scN l)).length = l.length - scN l := List.length_drop
  cases h : lead isBl (l.drop (scN l)) == (l.drop (scN l)).length with
  | true =>
    rw [beq_iff_eq] at h
    rw [cond_true, hlen, h, hlen, Bool.eq_iff_iff, beq_iff_eq, beq_iff_eq]; simp; omega
  | false =>
    rw [beq_eq_false_iff_ne] at h
    have hle := lead_le isBl (l.drop (scN l))
    rw [cond_false, Bool.eq_iff_iff, beq_iff_eq, beq_iff_eq]; simp; omega
end Go.Proofs.YthhfnggigmfmjaaDoor

namespace Go.Proofs.YthhfnggigmfmjaaDoor.Hp
open Go.RowKit
def cs32 : List (List D) := [[.v (.int .u8 32)]]
def blS (es : List (List D)) (n : Int) (L : Nat) (xs : List (List D)) (i : Int) : List M := [.d (.list false 5 es), .d (.v (.int .u8 n)), .undef, .undef, .d (.v (.bool false)), .sl 5 0 0 L, .d (.v (.int .i64 i))] ++ List.replicate 82 .undef ++ (.row 5 0 xs :: List.replicate 11 .undef)
def blOl (pf : Orc) (V : Nrl) : List (Nat × Orc) := [(9, awakeN), (13, pf), (19, codeC), (14, looksC V)]
def blJ : List Nat := [2, 3] ++ (List.range 82).map (· + 7)
def blC : Ctx := ctxH [] [] [] 0 12
theorem blC_ok : CtxOK Tryd.prog blC := ctxH_ok (fun x hx => by cases hx) (fun x hx => by cases hx) (fun x hx => by cases hx)
set_option maxRecDepth 100000 in
theorem bl_round (es xs : List (List D)) (n i : Int) (L : Nat) (K : AExit → List M → Prop) : roundM blC 0 8 0 Tryd.f8.ntmps (loopN Tryd.f8 0) blJ (blS es n L xs i) K = (
    bif decide (i < IntKind.i64.wrap n) then bif decide (0 ≤ i) && decide (i < (L : Int)) then bif decide (0 + i.toNat < xs.length) then K .normal (blS es n L (xs.set (0 + i.toNat) (setCells (xs.getD (0 + i.toNat) []) 0 [.v (.int .u8 32)])) (IntKind.i64.wrap (i + 1))) else False else False else K (.exit 0) (blS es n L xs i)) := by kernel_rfl
def sp (n : Nat) : List (List D) := bD (List.replicate n 32)
def zs (n : Nat) : List (List D) := List.replicate n [.v (.int .u8 0)]
theorem bl_runs (es : List (List D)) (L : Nat) (hL : L < 256) : ∀ (r k : Nat), k + r = L → ∃ m, Runs blC 0 8 0 Tryd.f8 0 blJ m (blS es (L : Int) L (sp k ++ zs r) (k : Int)) (.exit 0) (blS es (L : Int) L (sp L) (L : Int))
  | 0, k, h => by
    have hk : k = L := by omega
    subst hk
    refine ⟨1, Runs.stop (by simp) ⟨fun K hK => ?_⟩⟩
    have e : sp k ++ zs 0 = sp k := by show sp k ++ [] = _; simp
    rw [bl_round, wrap_small (by omega) (by omega), decide_eq_false (by omega), cond_false, e]
    exact hK
  | r + 1, k, h => by
    obtain ⟨m, hm⟩ := bl_runs es L hL r (k + 1) (by omega)
    refine ⟨m + 1, Runs.go ⟨fun K hK => ?_⟩ hm⟩
    have hsl : (sp k).length = k := by simp [sp, bD]
    have hlen : (sp k ++ zs (r + 1)).length = L := by simp [hsl, zs]; omega
    have e0 : sp k ++ zs (r + 1) = sp k ++ [.v (.int .u8 0)] :: zs r := rfl
    have eg : (sp k ++ zs (r + 1)).getD k [] = [.v (.int .u8 0)] := by
      rw [e0, List.getD_eq_getElem?_getD, List.getElem?_append_right (by omega), hsl]; simp
    have es' : (sp k ++ zs (r + 1)).set k [.v (.int .u8 32)] = sp (k + 1) ++ zs r := by
      rw [e0, List.set_append_right _ _ (by omega), hsl, Nat.sub_self, List.set_cons_zero]
      have : sp (k + 1) = sp k ++ [[.v (.int .u8 32)]] := by unfold sp; rw [List.replicate_succ', bD_app]; rfl
      rw [this]; simp
    rw [bl_round, wrap_small (by omega) (by omega), decide_eq_true (show (k : Int) < (L : Int) by omega), cond_true, decide_eq_true (show (0 : Int) ≤ (k : Int) by omega), Bool.true_and, cond_true, Int.toNat_natCast, Nat.zero_add, decide_eq_true (show k < (sp k ++ zs (r + 1)).length by omega), cond_true, eg, wrap_small (by omega) (by omega)]
    rw [show setCells [D.v (.int .u8 0)] 0 [D.v (.int .u8 32)] = [.v (.int .u8 32)] from rfl, es']
    exact hK

/-- An append, and a slice that stays. -/
def apM (n : Nat) (xs es : List (List D)) (X : List (List D) → Prop) : Prop := bif decide (0 + n ≤ xs.length) then bif decide ((n + es.length) * (Tryd.prog.bytesOf 5 + 1) ≤ 70368744177664) then X (List.take n (List.drop 0 xs) ++ es) else False else False
def pbM (n : Nat) (xs : List (List D)) (X : List (List D) → Prop) : Prop := bif 5 == 5 && decide (0 + n ≤ xs.length) then X (List.take n (List.drop 0 xs)) else False
theorem bytes_u8 : Tryd.prog.bytesOf 5 = 1 := by kernel_rfl
theorem apM_eq {n : Nat} {xs es : List (List D)} {X : List (List D) → Prop} (h : n = xs.length) (hb : n + es.length ≤ 1000000) : apM n xs es X = X (xs ++ es) := by
  subst h
  unfold apM
  rw [bytes_u8, decide_eq_true (show 0 + xs.length ≤ xs.length by omega), decide_eq_true (show (xs.length + es.length) * (1 + 1) ≤ 70368744177664 by omega), cond_true, cond_true, List.drop_zero, List.take_length]
theorem pbM_eq {n : Nat} {xs : List (List D)} {X : List (List D) → Prop} (h : n = xs.length) : pbM n xs X = X xs := by
  subst h
  unfold pbM
  rw [beq_self_eq_true, Bool.true_and, decide_eq_true (show 0 + xs.length ≤ xs.length by omega), cond_true, List.drop_zero, List.take_length]
def blFin (V : Nrl) (es : List (List D)) (K : Hp.M → List Hp.M → Prop) : Prop := 5 = 5 ∧ V.ok es ∧ bif decide ((([] : List (List D)).length + es.length) * (Tryd.prog.bytesOf 5 + 1) ≤ 70368744177664) then
    apM (([] : List (List D)).length + es.length) ([] ++ es) cs32 fun ys => pbM (([] : List (List D)).length + es.length + cs32.length) ys fun vs => 5 = 5 ∧ V.ok vs ∧ K (.d (.v (.bool (bif true then V.looks es == V.looks vs else false)))) []
  else False
def blGt (V : Nrl) (es ys : List (List D)) (n : Int) (K : Hp.M → List Hp.M → Prop) : Prop := bif decide (V.n es > 0) then bif (bif true then bif false then true else bif true then V.n ys == IntKind.i64.wrap (V.n es + IntKind.i64.wrap n) else false else false) then blFin V es K else K (.d (.v (.bool false))) [] else K (.d (.v (.bool false))) []
def blEnd (V : Nrl) (es ys : List (List D)) (n : Int) (K : Hp.M → List Hp.M → Prop) : Prop := bif V.n es == 0 then bif (bif true then V.n ys == 0 else false) then blFin V es K else blGt V es ys n K else blGt V es ys n K
def blHead (es : List (List D)) (n : Int) (X : Prop) (K : Hp.M → List Hp.M → Prop) : Prop := bif decide ((es.length : Int) > 200) then K (.d (.v (.bool true))) [] else bif (bif false then true else decide (n > 50)) then K (.d (.v (.bool true))) [] else
  bif decide (0 ≤ IntKind.i64.wrap n) && decide (IntKind.i64.wrap n ≤ IntKind.i64.wrap n) && decide ((Tryd.prog.bytesOf 5 : Int) * IntKind.i64.wrap n ≤ 281474976710656) && decide (IntKind.i64.wrap n ≤ 9223372036854775807) then X else False
set_option maxRecDepth 100000 in
theorem bl_tree (M : Ops) (V : Nrl) (es xs xs1 : List (List D)) (n m : Int) (L : Nat) (K : Hp.M → List Hp.M → Prop) : callX Tryd.prog (ctxH (blOl (prefixF M V) V) [] [(8, 7, onceM 0 Tryd.f8.ntmps 12 blJ (blS es n L xs 0) (blS es n L xs1 m) (.exit 0))] 0 12) 2 8 [.d (.list false 5 es), .d (.v (.int .u8 n))] [] K = (
    blHead es n (blS es n (IntKind.i64.wrap n).toNat (List.replicate (IntKind.i64.wrap n).toNat [.v (.int .u8 0)]) 0 = blS es n L xs 0 ∧ 5 = 5 ∧ V.ok es ∧ V.pbig es = false ∧ apM L xs1 es fun zs => pbM (L + es.length) zs fun ys => 5 = 5 ∧ V.ok ys ∧ V.pbig ys = false ∧
      bif M.sg (V.pval es) == M.sg (V.pval ys) && (M.hi (V.pval es) == M.hi (V.pval ys) && (M.lo (V.pval es) == M.lo (V.pval ys) && true)) then blEnd V es ys n K else K (.d (.v (.bool false))) []) K) := by kernel_rfl
set_option maxRecDepth 100000 in
theorem bl_tree2 (M : Ops) (V : Nrl) (es xs xs1 : List (List D)) (n m : Int) (L : Nat) (K : Hp.M → List Hp.M → Prop) : callX Tryd.prog (ctxH (blOl (prefixB M V) V) [] [(8, 7, onceM 0 Tryd.f8.ntmps 12 blJ (blS es n L xs 0) (blS es n L xs1 m) (.exit 0))] 0 12) 2 8 [.d (.list false 5 es), .d (.v (.int .u8 n))] [] K = (
    blHead es n (blS es n (IntKind.i64.wrap n).toNat (List.replicate (IntKind.i64.wrap n).toNat [.v (.int .u8 0)]) 0 = blS es n L xs 0 ∧ 5 = 5 ∧ V.ok es ∧ V.pbig es = true ∧ apM L xs1 es fun zs => pbM (L + es.length) zs fun ys => 5 = 5 ∧ V.ok ys ∧ V.pbig ys = true ∧ blEnd V es ys n K) K) := by kernel_rfl
end Go.Proofs.YthhfnggigmfmjaaDoor.Hp
