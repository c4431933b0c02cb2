/-
  The walk of the law NumeralReads.
-/
import Derived.Test.YthhfnggigmfmjaaDoorNrlT
namespace Go.Proofs.YthhfnggigmfmjaaDoor
set_option linter.unusedSimpArgs false
set_option linter.unusedVariables false
open Go.RowKit

def rdL (M : Ops) (N : Nums) (mag : Int → Int → Nat) (V : Nrl) (G : Gots) : List (Nat × Orc) := [(9, awakeN), (13, prefixC M V), (18, gotC G), (19, codeC), (14, looksC V), (20, rlC G), (12, goodC M), (22, ofO N mag), (21, sameC N)]
theorem rdL_ok : ∀ x ∈ rdL opsR numsR magI nrlR gotsR, Sound x.1 x.2 := by
  intro x hx
  simp only [rdL, List.mem_cons, List.not_mem_nil, or_false] at hx
  rcases hx with rfl | rfl | rfl | rfl | rfl | rfl | rfl | rfl | rfl
  · exact awakeN_ok
  · exact prefixC_ok
  · exact gotC_ok
  · exact codeC_ok
  · exact looksC_ok
  · exact rlC_ok
  · exact goodC_ok
  · exact ofO_ok
  · exact sameC_ok
def rdEnd (M : Ops) (N : Nums) (mag : Int → Int → Nat) (G : Gots) (s : ByteArray) (b : Bool) (x y : Int) (K : D → Prop) : Prop :=
  bif M.good b x y then 3 = 3 ∧ 3 = 3 ∧ N.ok (N.dd (mag x y)) ∧ N.ok (G.es s) ∧ K (.v (.bool (bif true then b == G.ng s && N.num (N.dd (mag x y)) == N.num (G.es s) else false))) else K (.v (.bool false))
def rdOne (M : Ops) (N : Nums) (mag : Int → Int → Nat) (V : Nrl) (G : Gots) (es : List (List D)) (s : ByteArray) (e : Int) (b : Bool) (x y : Int) (K : D → Prop) : Prop :=
  bif es.all fun c => (byteN c).isSome then G.ok s ∧ bif V.n es != G.n s then K (.v (.bool false)) else bif bif false then true else e != G.e s then K (.v (.bool false)) else
    5 = 5 ∧ V.ok es ∧ bif es.all fun c => (byteN c).isSome then G.ok s ∧ bif bif false then true else !(V.looks es == G.looks s) then K (.v (.bool false)) else rdEnd M N mag G s b x y K
    else False else False
set_option maxRecDepth 100000 in
theorem rd_tree (M : Ops) (N : Nums) (mag : Int → Int → Nat) (V : Nrl) (G : Gots) (es : List (List D)) (K : D → Prop) : callX Tryd.prog (ctxL (rdL M N mag V G) [] 0) 2 7 [.list false 5 es] K = (
    bif decide ((es.length : Int) > 200) then K (.v (.bool true)) else 5 = 5 ∧ V.ok es ∧
      bif V.pbig es then rdOne M N mag V G es (strOfD es) 2 false 0 0 K else rdOne M N mag V G es (strOfD es) 0 (M.sg (V.pval es)) (M.hi (V.pval es)) (M.lo (V.pval es)) K) := by kernel_rfl

/-! ### The plain law -/
theorem strOfD_bD (l : List Nat) : strOfD (bD l) = strB l := by
  unfold strOfD bD strOfNums strB
  congr 2
  rw [List.map_map, List.map_map]
  exact List.map_congr_left fun x _ => rfl
theorem bD_all (l : List Nat) : ((bD l).all fun c => (byteN c).isSome) = true := by
  rw [List.all_eq_true]
  intro c hc
  obtain ⟨x, _, rfl⟩ := List.mem_map.1 hc
  rfl
theorem gots_s {l : List Nat} (hB : byteL l) : gotsR.ng (strB l) = gotNg l ∧ gotsR.es (strB l) = gotEs l ∧ gotsR.n (strB l) = ((scN l : Nat) : Int) ∧ gotsR.e (strB l) = gotE l ∧ gotsR.looks (strB l) = looksN l := by
  have h := natsB_strB hB
  exact ⟨congrArg gotNg h, congrArg gotEs h, congrArg (fun x => ((scN x : Nat) : Int)) h, congrArg gotE h, congrArg looksN h⟩
theorem numV_fit {w r : List Nat} (hr : allDg r) (h : bigN w = false) : numV w r < 1000000000000000000000000000000000000 := by
  have h1 := bigN_not h
  have h2 := part_lt r hr
  have e : numV w r = decN w 0 * 1000000 + parN (r.take 6) 1000000 0 := rfl
  omega
theorem pVal_abs (l : List Nat) : (pVal l).natAbs = bif scN l == 0 then 0 else numV (scW l) (scR l) := by
  unfold pVal
  cases scN l == 0 <;> cases scNeg l <;> simp
theorem pVal_sg (l : List Nat) : decide (pVal l < 0) = (!(scN l == 0) && (scNeg l && !(numV (scW l) (scR l) == 0))) := by
  unfold pVal
  cases scN l == 0 <;> cases scNeg l <;> rw [Bool.eq_iff_iff] <;> simp <;> omega
theorem mag_none : magI 0 0 = 0 := by decide
theorem ops_sg (z : Int) : opsR.sg z = decide (z < 0) := rfl
theorem rdEnd_gen (M : Ops) (N : Nums) (mag : Int → Int → Nat) (G : Gots) (s : ByteArray) (b : Bool) (x y : Int) (K : D → Prop) (hg : M.good b x y = true) (hes : N.dd (mag x y) = G.es s) (hok : N.ok (G.es s)) (hng : b = G.ng s) (hK : K (.v (.bool true))) : Prf (rdEnd M N mag G s b x y K) := by
  refine ⟨?_⟩
  unfold rdEnd
  rw [hg, hes, hng, beq_self_eq_true, beq_self_eq_true]
  exact ⟨rfl, rfl, hok, hok, hK⟩
theorem rdOne_gen (M : Ops) (N : Nums) (mag : Int → Int → Nat) (V : Nrl) (G : Gots) (es : List (List D)) (s : ByteArray) (e : Int) (b : Bool) (x y : Int) (K : D → Prop) (hb : (es.all fun c => (byteN c).isSome) = true) (okS : G.ok s) (okL : V.ok es)
    (hn : V.n es = G.n s) (he : e = G.e s) (hl : V.looks es = G.looks s) (hE : Prf (rdEnd M N mag G s b x y K)) : Prf (rdOne M N mag V G es s e b x y K) := by
  refine ⟨?_⟩
  unfold rdOne
  have e1 : (G.n s != G.n s) = false := bne_self_eq_false _
  have e2 : (G.e s != G.e s) = false := bne_self_eq_false _
  rw [hb, cond_true, hn, he, hl, e1, e2, beq_self_eq_true]
  refine ⟨okS, rfl, okL, okS, ?_⟩
  cases hE; assumption
theorem rdAll_gen (M : Ops) (N : Nums) (mag : Int → Int → Nat) (V : Nrl) (G : Gots) (es : List (List D)) (s : ByteArray) (K : D → Prop) (hb : (es.all fun c => (byteN c).isSome) = true) (okS : G.ok s) (okL : V.ok es) (hn : V.n es = G.n s) (hl : V.looks es = G.looks s) (hK : K (.v (.bool true)))
    (h1 : V.pbig es = true → G.e s = 2 ∧ M.good false 0 0 = true ∧ N.dd (mag 0 0) = G.es s ∧ N.ok (G.es s) ∧ G.ng s = false)
    (h2 : V.pbig es = false → G.e s = 0 ∧ M.good (M.sg (V.pval es)) (M.hi (V.pval es)) (M.lo (V.pval es)) = true ∧ N.dd (mag (M.hi (V.pval es)) (M.lo (V.pval es))) = G.es s ∧ N.ok (G.es s) ∧ G.ng s = M.sg (V.pval es)) :
    Prf (bif V.pbig es then rdOne M N mag V G es s 2 false 0 0 K else rdOne M N mag V G es s 0 (M.sg (V.pval es)) (M.hi (V.pval es)) (M.lo (V.pval es)) K) := by
  cases hp : V.pbig es with
  | true =>
    obtain ⟨a1, a2, a3, a4, a5⟩ := h1 hp
    exact rdOne_gen M N mag V G es s 2 false 0 0 K hb okS okL hn a1.symm hl (rdEnd_gen M N mag G s _ _ _ K a2 a3 a4 a5.symm hK)
  | false =>
    obtain ⟨a1, a2, a3, a4, a5⟩ := h2 hp
    exact rdOne_gen M N mag V G es s 0 _ _ _ K hb okS okL hn a1.symm hl (rdEnd_gen M N mag G s _ _ _ K a2 a3 a4 a5.symm hK)
theorem got_big {l : List Nat} (hp : pBig l = true) : gotE l = 2 ∧ gotEs l = [] ∧ gotNg l = false := by
  unfold pBig at hp
  obtain ⟨h0, hb⟩ := and_true2 hp
  refine ⟨by unfold gotE; rw [hp]; rfl, by unfold gotEs; rw [hb]; simp, by unfold gotNg; rw [hb]; simp⟩
theorem got_not {l : List Nat} (hB : byteL l) (hp : pBig l = false) : gotE l = 0 ∧ gotEs l = dD (dig (pVal l).natAbs) ∧ gotNg l = decide (pVal l < 0) ∧ (pVal l).natAbs < 1000000000000000000000000000000000000 := by
  unfold pBig at hp
  refine ⟨by unfold gotE; rw [hp]; rfl, ?_, ?_, ?_⟩
  · rw [pVal_abs]
    unfold gotEs
    cases h0 : scN l == 0 with
    | true => rw [Bool.true_or, cond_true, cond_true, dig_zero]; rfl
    | false => rw [h0] at hp; rw [show bigN (scW l) = false by simpa using hp, Bool.or_false, cond_false, cond_false]
  · rw [pVal_sg]
    unfold gotNg
    cases h0 : scN l == 0 with
    | true => rfl
    | false => rw [h0] at hp; rw [show bigN (scW l) = false by simpa using hp]; rfl
  · rw [pVal_abs]
    cases h0 : scN l == 0 with
    | true => rw [cond_true]; omega
    | false =>
      rw [h0] at hp
      rw [cond_false]
      exact numV_fit (scR_dg hB) (by simpa using hp)
theorem dig_ok {n : Nat} (h : n < 1000000000000000000000000000000000000) : numsR.ok (dD (dig n)) := nums_ok n (Nat.lt_trans h (by decide))
theorem rd_ps (l : List Nat) (hB : byteL l) : PS Tryd.prog 7 [.list false 5 (bD l)] (.v (.bool true)) := by
  refine callX_eq (n := 2) (ctxL_ok (l := rdL opsR numsR magI nrlR gotsR) (ll := []) (fuel := 0) rdL_ok (by intro x hx; cases hx)) ?_
  rw [rd_tree, strOfD_bD]
  by_cases h2 : l.length > 200
  · have : decide (((bD l).length : Int) > 200) = true := by rw [bD_len, decide_eq_true_eq]; omega
    rw [this]; rfl
  · have : decide (((bD l).length : Int) > 200) = false := by rw [bD_len, decide_eq_false_iff_not]; omega
    obtain ⟨g1, g2, g3, g4, g5⟩ := gots_s hB
    have okL : nrlR.ok (bD l) := ⟨l, rfl, hB, by omega⟩
    have okS : gotsR.ok (strB l) := by show (strB l).size < 100000; rw [strB_size]; omega
    rw [this, cond_false]
    refine ⟨rfl, okL, ?_⟩
    have h := rdAll_gen opsR numsR magI nrlR gotsR (bD l) (strB l) (fun d => d = .v (.bool true)) (bD_all l) okS okL ((nrl_n l).trans g3.symm) ((nrl_looks l).trans g5.symm) rfl (fun hp => ?_) (fun hp => ?_)
    · cases h; assumption
    · rw [nrl_pbig] at hp
      obtain ⟨a1, a2, a3⟩ := got_big hp
      rw [g1, g2, g4, a1, a2, a3, mag_none, nums_dd, dig_zero]
      exact ⟨rfl, ops_good0, rfl, by have h0 := dig_ok (n := 0) (by decide); rw [dig_zero] at h0; exact h0, rfl⟩
    · rw [nrl_pbig] at hp
      obtain ⟨a1, a2, a3, a4⟩ := got_not hB hp
      rw [nrl_pval, g1, g2, g4, a1, a2, a3, l_mag, nums_dd]
      exact ⟨rfl, (ops_good _).trans (fit_mk a4), rfl, dig_ok a4, (ops_sg _).symm⟩
end Go.Proofs.YthhfnggigmfmjaaDoor
