/-
  The law NumeralTexts, its walk and the plain law.
-/
import Derived.Test.YthhfnggigmfmjaaDoorNrlY
import Derived.Test.YthhfnggigmfmjaaDoorNrlV
namespace Go.Proofs.YthhfnggigmfmjaaDoor.Hp
set_option linter.unusedSimpArgs false
set_option linter.unusedVariables false
open Go.RowKit

def textTT (M : Ops) (tx : Bool → Int → Int → ByteArray) : Orc := fun _ ds K => match one? ds with
  | some (s, x, y) => M.good s x y = true ∧ K (vS (tx s x y))
  | none => False
def textN (M : Ops) : Orc := fun _ ds K => match one? ds with
  | some (s, x, y) => M.good s x y = false ∧ K (vS ⟨#[]⟩)
  | none => False
theorem textTT_to {M : Ops} {tx : Bool → Int → Int → ByteArray} {f : Nat} {ds : List D} {K : D → Prop} (h : textTT M tx f ds K) : textC M tx f ds K ∧ ∀ K' : D → Prop, textC M tx f ds K' → textTT M tx f ds K' := by
  revert h; unfold textTT textC; generalize one? ds = r; intro h
  match r, h with
  | none, h => exact h.elim
  | some (s, x, y), h => exact ⟨by simp only [h.1, cond_true]; exact h.2, fun K' hK => ⟨h.1, by simp only [h.1, cond_true] at hK; exact hK⟩⟩
theorem textN_to {M : Ops} {tx : Bool → Int → Int → ByteArray} {f : Nat} {ds : List D} {K : D → Prop} (h : textN M f ds K) : textC M tx f ds K ∧ ∀ K' : D → Prop, textC M tx f ds K' → textN M f ds K' := by
  revert h; unfold textN textC; generalize one? ds = r; intro h
  match r, h with
  | none, h => exact h.elim
  | some (s, x, y), h => exact ⟨by simp only [h.1, cond_false]; exact h.2, fun K' hK => ⟨h.1, by simp only [h.1, cond_false] at hK; exact hK⟩⟩
def ntL (M : Ops) (V : Nrl) (tx : Bool → Int → Int → ByteArray) : List (Nat × Orc) := [(9, awakeN), (10, textTT M tx), (11, textTT M tx), (12, goodT M), (13, prefixF M V), (14, looksC V)]
theorem ntL_ok : ∀ x ∈ ntL opsR nrlR txC, Sound x.1 x.2 := by
  intro x hx
  simp only [ntL, List.mem_cons, List.not_mem_nil, or_false] at hx
  rcases hx with rfl | rfl | rfl | rfl | rfl | rfl
  · exact awakeN_ok
  · exact soundT textC_ok fun _ _ h => textTT_to h
  · exact soundT rtextC_ok fun _ _ h => textTT_to h
  · exact soundT goodC_ok fun _ _ h => goodT_to h
  · exact prefixF_ok
  · exact looksC_ok
def ntN (M : Ops) : List (Nat × Orc) := [(9, awakeN), (10, textN M), (11, textN M), (12, goodN M)]
theorem ntN_ok : ∀ x ∈ ntN opsR, Sound x.1 x.2 := by
  intro x hx
  simp only [ntN, List.mem_cons, List.not_mem_nil, or_false] at hx
  rcases hx with rfl | rfl | rfl | rfl
  · exact awakeN_ok
  · exact soundT textC_ok fun _ _ h => textN_to h
  · exact soundT rtextC_ok fun _ _ h => textN_to h
  · exact soundT goodC_ok fun _ _ h => goodN_to h
/-- A text's bytes, in a row of their own, read. -/
def byB (t : ByteArray) (X : List (List D) → Prop) : Prop := bif decide (t.size ≤ 1073741824) then pbM (bytesD t).length (bytesD t) X else False
def cs2 (c : Int) : List (List D) := [[.v (.int .u8 c)], [.v (.int .u8 49)]]
def ntSame (M : Ops) (V : Nrl) (b : Bool) (x y : Int) (es : List (List D)) : Bool := M.sg (V.pval es) == b && (M.hi (V.pval es) == x && (M.lo (V.pval es) == y && true))
def ntDot (M : Ops) (V : Nrl) (b : Bool) (x y c : Int) (t : ByteArray) (K : Hp.M → List Hp.M → Prop) : Prop := bif (bif false then true else c == 46) then K (.d (.v (.bool true))) [] else
  bif decide (t.size ≤ 1073741824) then apM (bytesD t).length (bytesD t) (cs2 c) fun zs => pbM ((bytesD t).length + (cs2 c).length) zs fun ys => 5 = 5 ∧ V.ok ys ∧ V.pbig ys = false ∧
    bif ntSame M V b x y ys then bif (bif true then V.n ys == (t.size : Int) else false) then K (.d (.v (.bool true))) [] else K (.d (.v (.bool false))) [] else K (.d (.v (.bool false))) [] else False
def ntBack (M : Ops) (V : Nrl) (b : Bool) (x y c : Int) (t : ByteArray) (K : Hp.M → List Hp.M → Prop) : Prop := bif decide (c ≥ 48) then bif (bif true then decide (c ≤ 57) else false) then K (.d (.v (.bool true))) [] else ntDot M V b x y c t K else ntDot M V b x y c t K
def ntMain (M : Ops) (V : Nrl) (b : Bool) (x y c : Int) (t : ByteArray) (K : Hp.M → List Hp.M → Prop) : Prop :=
  bif !strEq t t then K (.d (.v (.bool false))) [] else M.good b x y = true ∧ byB t fun es => 5 = 5 ∧ V.ok es ∧ V.pbig es = false ∧
    bif !ntSame M V b x y es then K (.d (.v (.bool false))) [] else bif (bif false then true else V.n es != (t.size : Int)) then K (.d (.v (.bool false))) [] else
      byB t fun fs => 5 = 5 ∧ V.ok fs ∧ bif (bif false then true else !V.looks fs) then K (.d (.v (.bool false))) [] else ntBack M V b x y c t K
set_option maxRecDepth 100000 in
theorem nt_tree (M : Ops) (V : Nrl) (tx : Bool → Int → Int → ByteArray) (b : Bool) (x y c : Int) (K : Hp.M → List Hp.M → Prop) : callX Tryd.prog (ctxH (ntL M V tx) [] [] 0 12) 2 3 [.d (.agg [.v (.bool b), .v (.int .u64 x), .v (.int .u64 y)]), .d (.v (.int .u8 c))] [] K = (
    M.good b x y = true ∧ M.good b x y = true ∧ ntMain M V b x y c (tx b x y) K) := by kernel_rfl
set_option maxRecDepth 100000 in
theorem nt_tree2 (M : Ops) (b : Bool) (x y c : Int) (K : Hp.M → List Hp.M → Prop) : callX Tryd.prog (ctxH (ntN M) [] [] 0 12) 2 3 [.d (.agg [.v (.bool b), .v (.int .u64 x), .v (.int .u64 y)]), .d (.v (.int .u8 c))] [] K = (
    M.good b x y = false ∧ M.good b x y = false ∧ M.good b x y = false ∧ K (.d (.v (.bool true))) []) := by kernel_rfl

/-! ### The plain law -/
structure Back (M : Ops) (V : Nrl) (b : Bool) (x y : Int) (k : Int) (es : List (List D)) : Prop where
  ok : V.ok es
  nb : V.pbig es = false
  same : ntSame M V b x y es = true
  n : V.n es = k
theorem byB_eq {t : ByteArray} {u : List (List D)} {X : List (List D) → Prop} (hu : bytesD t = u) (hs : t.size ≤ 1000) : byB t X = X u := by
  unfold byB
  rw [hu, decide_eq_true (show t.size ≤ 1073741824 by omega), cond_true, pbM_eq rfl]
theorem ntDot_gen (M : Ops) (V : Nrl) (b : Bool) (x y c : Int) (t : ByteArray) (u : List (List D)) (K : Hp.M → List Hp.M → Prop) (hu : bytesD t = u) (hs : t.size ≤ 1000) (hl : u.length ≤ 1000) (hK : K (.d (.v (.bool true))) []) (h : c ≠ 46 → Back M V b x y (t.size : Int) (u ++ cs2 c)) : Prf (ntDot M V b x y c t K) := by
  refine ⟨?_⟩
  unfold ntDot
  by_cases hc : c = 46
  · subst hc; exact hK
  · obtain ⟨h1, h2, h3, h4⟩ := h hc
    have : (c == 46) = false := by rw [beq_eq_false_iff_ne]; exact hc
    rw [this, cond_false, cond_false, decide_eq_true (show t.size ≤ 1073741824 by omega), cond_true, hu, apM_eq rfl (by show u.length + 2 ≤ 1000000; omega), pbM_eq (by rw [List.length_append])]
    refine ⟨rfl, h1, h2, ?_⟩
    rw [h3, h4, beq_self_eq_true]; exact hK
theorem ntMain_gen (M : Ops) (V : Nrl) (b : Bool) (x y c : Int) (t : ByteArray) (u : List (List D)) (K : Hp.M → List Hp.M → Prop) (hg : M.good b x y = true) (hu : bytesD t = u) (hs : t.size ≤ 1000) (hl : u.length ≤ 1000) (hK : K (.d (.v (.bool true))) []) (h0 : Back M V b x y (t.size : Int) u) (hlk : V.looks u = true) (h : ¬ (48 ≤ c ∧ c ≤ 57) → c ≠ 46 → Back M V b x y (t.size : Int) (u ++ cs2 c)) : Prf (ntMain M V b x y c t K) := by
  refine ⟨?_⟩
  unfold ntMain
  obtain ⟨h1, h2, h3, h4⟩ := h0
  rw [strEq_self, Bool.not_true, cond_false, byB_eq hu hs, h3, Bool.not_true, cond_false, h4, bne_self_eq_false, byB_eq hu hs, hlk]
  refine ⟨hg, rfl, h1, h2, rfl, h1, ?_⟩
  show ntBack M V b x y c t K
  unfold ntBack
  by_cases hc : c ≥ 48
  · rw [decide_eq_true hc, cond_true]
    by_cases hc2 : c ≤ 57
    · rw [decide_eq_true hc2]; exact hK
    · rw [decide_eq_false hc2]
      obtain ⟨hd⟩ := ntDot_gen M V b x y c t u K hu hs hl hK (h (by omega))
      exact hd
  · rw [decide_eq_false hc, cond_false]
    obtain ⟨hd⟩ := ntDot_gen M V b x y c t u K hu hs hl hK (h (by omega))
    exact hd
theorem txN_text (neg : Bool) (n : Nat) (t : List Nat) (hstop : ∀ x ∈ t.head?, x < 256 ∧ ¬ (48 ≤ x ∧ x ≤ 57)) (hdot : ∀ x ∈ t.head?, x ≠ 46) : TextAt (bif neg then [45] else []) (iD (n / 1000000)) (fD (n % 1000000)) (if n % 1000000 = 0 then [] else fP (n % 1000000)) t where
  sg := by cases neg <;> simp
  ne := iD_ne _
  dg := iD_dg _
  fr := by
    rw [fD_eq]
    by_cases h : n % 1000000 = 0
    · rw [if_pos h, if_pos h]; exact .inl ⟨rfl, rfl⟩
    · rw [if_neg h, if_neg h]; exact .inr rfl
  fd := by
    by_cases h : n % 1000000 = 0
    · rw [if_pos h]; intro x hx; cases hx
    · rw [if_neg h]; exact fP_dg _
  stop := hstop
  dot _ := hdot
theorem txN_byte (neg : Bool) (n : Nat) : byteL (txN neg n) := by
  unfold txN
  refine byteL_app ?_ (byteL_app (byteL_iD _) ?_)
  · cases neg
    · intro x hx; cases hx
    · intro x hx
      obtain rfl := List.mem_singleton.1 hx
      omega
  · rw [fD_eq]
    by_cases h : n % 1000000 = 0
    · rw [if_pos h]; intro x hx; cases hx
    · rw [if_neg h]
      intro x hx
      rcases List.mem_cons.1 hx with rfl | hx
      · omega
      · exact byteL_dg (fP_dg _) x hx
theorem txN_len (neg : Bool) (n : Nat) (hn : n < 1000000000000000000000000000000000000) : (txN neg n).length ≤ 40 := by
  have h1 := iD_len (k := n / 1000000) (by omega)
  have h2 := fD_len (n % 1000000)
  unfold txN
  cases neg <;> simp <;> omega
theorem txN_read (z : Int) (hz : z.natAbs < 1000000000000000000000000000000000000) (t : List Nat) (hstop : ∀ x ∈ t.head?, x < 256 ∧ ¬ (48 ≤ x ∧ x ≤ 57)) (hdot : ∀ x ∈ t.head?, x ≠ 46) :
    pBig (txtZ z ++ t) = false ∧ pVal (txtZ z ++ t) = z ∧ scN (txtZ z ++ t) = (txtZ z).length := by
  obtain ⟨s1, s2, s3, s4⟩ := scan_text (txN_text (decide (z < 0)) z.natAbs t hstop hdot)
  have e : (bif decide (z < 0) then [45] else []) ++ (iD (z.natAbs / 1000000) ++ (fD (z.natAbs % 1000000) ++ t)) = txtZ z ++ t := by unfold txtZ txN; simp only [List.append_assoc]
  rw [e] at s1 s2 s3 s4
  have hlen : scN (txtZ z ++ t) = (txtZ z).length := by rw [s3]; unfold txtZ txN; rw [List.length_append, List.length_append]
  have hne := iD_ne (z.natAbs / 1000000)
  have hn0 : (scN (txtZ z ++ t) == 0) = false := by
    rw [s3, beq_eq_false_iff_ne]
    have : 0 < (iD (z.natAbs / 1000000)).length := List.length_pos_iff.2 hne
    omega
  have hbig : bigN (iD (z.natAbs / 1000000)) = false := by unfold bigN; rw [decN_iD, decide_eq_false_iff_not]; omega
  have hnum : numV (iD (z.natAbs / 1000000)) (if z.natAbs % 1000000 = 0 then [] else fP (z.natAbs % 1000000)) = z.natAbs := by
    have hp : parN ((if z.natAbs % 1000000 = 0 then [] else fP (z.natAbs % 1000000)).take 6) 1000000 0 = z.natAbs % 1000000 := by
      by_cases h : z.natAbs % 1000000 = 0
      · rw [if_pos h, h]; rfl
      · rw [if_neg h, List.take_of_length_le (fP_len _), fP_val (by omega)]
    unfold numV; rw [decN_iD, hp]; omega
  have hng : ((bif decide (z < 0) then [45] else []) == [45]) = decide (z < 0) := by cases decide (z < 0) <;> rfl
  refine ⟨?_, ?_, hlen⟩
  · unfold pBig; rw [s1, hbig]; simp
  · unfold pVal
    rw [hn0, s4, s1, s2, hnum, hng, cond_false]
    by_cases h0 : z < 0
    · rw [decide_eq_true h0, cond_true]; omega
    · rw [decide_eq_false h0, cond_false]; omega
theorem looks_all {l : List Nat} (h : scN l = l.length) (h0 : l ≠ []) : looksN l = true := by
  have : 0 < l.length := List.length_pos_iff.2 h0
  unfold looksN
  rw [h, List.drop_length]
  have e : lead isBl ([] : List Nat) = 0 := rfl
  rw [e, Nat.add_zero, beq_self_eq_true, Bool.and_true]
  simp; omega
theorem same_self (M : Ops) (V : Nrl) (z : Int) (es : List (List D)) (h : V.pval es = z) : ntSame M V (M.sg z) (M.hi z) (M.lo z) es = true := by
  unfold ntSame
  rw [h, beq_self_eq_true, beq_self_eq_true, beq_self_eq_true]; rfl
theorem txC_z (z : Int) : txC (opsR.sg z) (opsR.hi z) (opsR.lo z) = strB (txtZ z) := by
  unfold txC txtZ
  rw [l_mag]; rfl
theorem nt_good (z : Int) (hz : opsR.fit z = true) (c : Nat) (hc : c < 256) : PS Tryd.prog 3 [decM opsR z, .v (.int .u8 (c : Int))] (.v (.bool true)) := by
  refine ps_of_psm ?_ (by intro d hd; simp only [List.mem_cons, List.not_mem_nil, or_false] at hd; rcases hd with rfl | rfl <;> rfl)
  show PSM Tryd.prog _ [.d (.agg [.v (.bool (opsR.sg z)), .v (.int .u64 (opsR.hi z)), .v (.int .u64 (opsR.lo z))]), .d (.v (.int .u8 (c : Int)))] [] (.d (.v (.bool true))) []
  have hlt := fit_lt hz
  have hB := txN_byte (decide (z < 0)) z.natAbs
  have hL := txN_len (decide (z < 0)) z.natAbs hlt
  have hg : opsR.good (opsR.sg z) (opsR.hi z) (opsR.lo z) = true := (ops_good z).trans hz
  refine callX_psm (n := 2) (C := ctxH (ntL opsR nrlR txC) [] [] 0 12) (ctxH_ok ntL_ok (fun x hx => by cases hx) (fun x hx => by cases hx)) ?_
  rw [nt_tree, txC_z]
  refine ⟨hg, hg, ?_⟩
  have hB' : byteL (txtZ z) := hB
  have hL' : (txtZ z).length ≤ 40 := hL
  have hcat : bD (txtZ z) ++ cs2 (c : Int) = bD (txtZ z ++ [c, 49]) := by rw [bD_app]; rfl
  have r0 := txN_read z hlt [] (fun x hx => by cases hx) (fun x hx => by cases hx)
  rw [List.append_nil] at r0
  have hne : txtZ z ≠ [] := by
    unfold txtZ txN
    intro h
    exact iD_ne _ (List.append_eq_nil_iff.1 (List.append_eq_nil_iff.1 h).2).1
  have h := ntMain_gen opsR nrlR (opsR.sg z) (opsR.hi z) (opsR.lo z) (c : Int) (strB (txtZ z)) (bD (txtZ z)) (fun x y => x = .d (.v (.bool true)) ∧ y = []) hg (bytesD_strB hB') (by rw [strB_size]; omega) (by rw [bD_len]; omega) ⟨rfl, rfl⟩
    ⟨⟨_, rfl, hB', by omega⟩, by rw [nrl_pbig]; exact r0.1, same_self _ _ z _ (by rw [nrl_pval]; exact r0.2.1), by rw [nrl_n, strB_size, r0.2.2]⟩ (by rw [nrl_looks]; exact looks_all r0.2.2 hne) (fun h1 h2 => ?_)
  · cases h; assumption
  · have hd : ∀ x ∈ ([c, 49] : List Nat).head?, x = c := fun x hx => by
      have : c = x := by simpa using hx
      exact this.symm
    have r1 := txN_read z hlt [c, 49] (fun x hx => by rw [hd x hx]; exact ⟨hc, by omega⟩) (fun x hx => by rw [hd x hx]; omega)
    rw [hcat]
    refine ⟨⟨_, rfl, byteL_app hB' (fun x hx => ?_), by simp; omega⟩, by rw [nrl_pbig]; exact r1.1, same_self _ _ z _ (by rw [nrl_pval]; exact r1.2.1), by rw [nrl_n, strB_size, r1.2.2]⟩
    simp only [List.mem_cons, List.not_mem_nil, or_false] at hx
    omega
theorem nt_bad (s : Bool) (x y : Int) (g : opsR.good s x y = false) (c : Int) : PS Tryd.prog 3 [.agg [.v (.bool s), .v (.int .u64 x), .v (.int .u64 y)], .v (.int .u8 c)] (.v (.bool true)) := by
  refine ps_of_psm ?_ (by intro d hd; simp only [List.mem_cons, List.not_mem_nil, or_false] at hd; rcases hd with rfl | rfl <;> rfl)
  show PSM Tryd.prog _ [.d (.agg [.v (.bool s), .v (.int .u64 x), .v (.int .u64 y)]), .d (.v (.int .u8 c))] [] (.d (.v (.bool true))) []
  refine callX_psm (n := 2) (C := ctxH (ntN opsR) [] [] 0 12) (ctxH_ok ntN_ok (fun x hx => by cases hx) (fun x hx => by cases hx)) ?_
  rw [nt_tree2]
  exact ⟨g, g, g, rfl, rfl⟩
theorem nt_any (s : Bool) (m c : Nat) (hc : c < 256) (hm : m < 340282366920938463463374607431768211456) : PS Tryd.prog 3 [decA s m, .v (.int .u8 (c : Int))] (.v (.bool true)) := by
  by_cases h : goodB s m = true
  · obtain ⟨z, e1, f1, hv⟩ := decA_good h
    rw [e1]
    exact nt_good z f1 c hc
  · have hg : opsR.good s ((hiN m : Nat) : Int) ((loN m : Nat) : Int) = false := by
      have e : opsR.good s ((hiN m : Nat) : Int) ((loN m : Nat) : Int) = goodB s (magI ((hiN m : Nat) : Int) ((loN m : Nat) : Int)) := rfl
      rw [e, magI_halves]
      simpa using h
    exact nt_bad s _ _ hg _
end Go.Proofs.YthhfnggigmfmjaaDoor.Hp
