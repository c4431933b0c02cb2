/-
  fieldfareref01's signed, Neg, Same, Good, Trunc, by numbers.
-/
import Derived.Test.YtnjhmlnmdnocmaaDigE
namespace Go.Proofs.Ytnjhmlnmdnocmaa
set_option linter.unusedSimpArgs false
set_option linter.unusedVariables false
open Go.RowKit

/-- A context without loops' contracts. -/
theorem ctx0_ok {l : List (Nat × Orc)} (h : ∀ x ∈ l, Sound x.1 x.2) : CtxOK Try.prog (ctxL l [] 0) := ctxL_ok h (by intro x hx; cases hx)

/-! ### signed, Neg -/
def signedC (N : Nums) : Orc := fun _ ds K => match ds with
  | [.v (.bool b), .list false T es] => T = 3 ∧ N.ok es ∧ K (.agg [.v (.bool (b && !(N.num es == 0))), .list false 3 es])
  | _ => False
def refNegC (N : Nums) : Orc := fun _ ds K => match ds with
  | [.agg [.v (.bool b), .list false T es]] => T = 3 ∧ N.ok es ∧ K (.agg [.v (.bool (!b && !(N.num es == 0))), .list false 3 es])
  | _ => False
set_option maxRecDepth 100000 in
theorem signed_tree (es : List (List D)) (b : Bool) (K : D → Prop) : callX Try.prog (ctxL [] [] 0) 2 43 [.v (.bool b), .list false 3 es] K = (
    bif b then K (.agg [.v (.bool (bif true then decide (((es.length : Nat) : Int) > 0) else false)), .list false 3 es]) else K (.agg [.v (.bool false), .list false 3 es])) := by kernel_rfl
set_option maxRecDepth 100000 in
theorem refneg_tree (es : List (List D)) (b : Bool) (K : D → Prop) : callX Try.prog (ctxL [] [] 0) 3 20 [.agg [.v (.bool b), .list false 3 es]] K = (
    bif !b then K (.agg [.v (.bool (bif true then decide (((es.length : Nat) : Int) > 0) else false)), .list false 3 es]) else K (.agg [.v (.bool false), .list false 3 es])) := by kernel_rfl
theorem dig_len_pos (n : Nat) : decide (((dig n).length : Int) > 0) = !(n == 0) := by
  by_cases h : n = 0
  · subst h; rw [dig_zero]; rfl
  · rw [dig_pos h]
    have : (n == 0) = false := by simpa using h
    have h2 : decide (((n % 10 :: dig (n / 10)).length : Int) > 0) = true := by rw [decide_eq_true_eq]; simp only [List.length_cons]; omega
    rw [this, h2]; rfl
theorem signedC_ok : Sound 43 (signedC numsR) := by
  intro ds K hK
  unfold signedC at hK
  split at hK
  · obtain ⟨rfl, ⟨n, rfl, hl⟩, hK⟩ := hK
    refine ⟨_, hK, fun K' h => ⟨rfl, ⟨n, rfl, hl⟩, h⟩, ?_⟩
    rename_i b
    refine callX_eq (n := 2) (ctx0_ok none_ok) ?_
    rw [signed_tree, dD_len, dig_len_pos, nums_num']
    cases b <;> rfl
  · exact hK.elim
theorem refNegC_ok : Sound 20 (refNegC numsR) := by
  intro ds K hK
  unfold refNegC at hK
  split at hK
  · obtain ⟨rfl, ⟨n, rfl, hl⟩, hK⟩ := hK
    refine ⟨_, hK, fun K' h => ⟨rfl, ⟨n, rfl, hl⟩, h⟩, ?_⟩
    rename_i b
    refine callX_eq (n := 3) (ctx0_ok none_ok) ?_
    rw [refneg_tree, dD_len, dig_len_pos, nums_num']
    cases b <;> rfl
  · exact hK.elim

/-! ### Same -/
def sameC (N : Nums) : Orc := fun _ ds K => match ds with
  | [.agg [.v (.bool b), .list false T es], .agg [.v (.bool c), .list false T' fs]] => T = 3 ∧ T' = 3 ∧ N.ok es ∧ N.ok fs ∧ K (.v (.bool (b == c && N.num es == N.num fs)))
  | _ => False
set_option maxRecDepth 100000 in
theorem same_tree (N : Nums) (es fs : List (List D)) (b c : Bool) (K : D → Prop) : callX Try.prog (ctxL [(42, lessC N)] [] 0) 2 18 [.agg [.v (.bool b), .list false 3 es], .agg [.v (.bool c), .list false 3 fs]] K = (
    bif b == c then 3 = 3 ∧ 3 = 3 ∧ N.ok es ∧ N.ok fs ∧ bif bif true then !decide (N.num es < N.num fs) else false then
        3 = 3 ∧ 3 = 3 ∧ N.ok fs ∧ N.ok es ∧ K (.v (.bool (bif true then !decide (N.num fs < N.num es) else false)))
      else K (.v (.bool false))
    else K (.v (.bool false))) := by kernel_rfl
theorem sameC_ok : Sound 18 (sameC numsR) := by
  intro ds K hK
  unfold sameC at hK
  split at hK
  · obtain ⟨rfl, rfl, ⟨n, rfl, hl⟩, ⟨m, rfl, hm⟩, hK⟩ := hK
    refine ⟨_, hK, fun K' h => ⟨rfl, rfl, ⟨n, rfl, hl⟩, ⟨m, rfl, hm⟩, h⟩, ?_⟩
    rename_i b c
    refine callX_eq (n := 2) (C := ctxL [(42, lessC numsR)] [] 0) (ctx0_ok (by intro x hx; obtain rfl := List.mem_singleton.1 hx; exact lessC_ok)) ?_
    rw [same_tree, nums_num', nums_num']
    have e : (n == m) = (!decide (n < m) && !decide (m < n)) := by
      rw [Bool.eq_iff_iff]; simp; omega
    rw [e]
    cases hb : b == c
    · rfl
    · refine ⟨rfl, rfl, ⟨n, rfl, hl⟩, ⟨m, rfl, hm⟩, ?_⟩
      cases decide (n < m)
      · exact ⟨rfl, rfl, ⟨m, rfl, hm⟩, ⟨n, rfl, hl⟩, rfl⟩
      · rfl
  · exact hK.elim

/-! ### Good -/
set_option maxRecDepth 100000 in
theorem refgood_tree (N : Nums) (mag : Int → Int → Nat) (s : Bool) (x y : Int) (K : D → Prop) : callX Try.prog (ctxL [(16, ofO N mag)] [] 0) 2 14 [.agg [.v (.bool s), .v (.int .u64 x), .v (.int .u64 y)]] K = (
    bif decide (((N.dd (mag x y)).length : Int) ≤ 36) then
      bif s then K (.v (.bool (bif true then !bif true then ((N.dd (mag x y)).length : Int) == 0 else false else false))) else K (.v (.bool (bif true then !false else false)))
    else K (.v (.bool false))) := by kernel_rfl
theorem dig_len0 (n : Nat) : (((dig n).length : Int) == 0) = decide (n = 0) := by
  by_cases h : n = 0
  · subst h; rw [dig_zero]; rfl
  · rw [dig_pos h, Bool.eq_iff_iff, beq_iff_eq, decide_eq_true_eq]
    simp only [List.length_cons]; omega
theorem refGoodC_ok : Sound 14 (goodC opsR) := by
  refine sound1 (m := fun s x y K => K (.v (.bool (goodI s x y)))) (fun _ _ => rfl) fun s x y => Says.ret ?_
  refine callX_eq (n := 2) (C := ctxL [(16, ofO numsR magI)] [] 0) (ctx0_ok (by intro x hx; obtain rfl := List.mem_singleton.1 hx; exact ofO_ok)) ?_
  rw [refgood_tree, nums_dd, dD_len, dig_len0]
  unfold goodI goodB
  have e : decide ((((dig (magI x y)).length : Nat) : Int) ≤ 36) = decide (magI x y < 1000000000000000000000000000000000000) := by
    rw [Bool.eq_iff_iff, decide_eq_true_eq, decide_eq_true_eq]
    have := dig_len (magI x y) 36
    rw [show (10 : Nat) ^ 36 = 1000000000000000000000000000000000000 from by decide] at this
    rw [← this]; omega
  rw [e]
  generalize decide (magI x y < 1000000000000000000000000000000000000) = p
  generalize decide (magI x y = 0) = q
  cases p <;> cases s <;> cases q <;> rfl

/-! ### Trunc -/
def dz : List (List D) := dD [0, 0, 0, 0, 0, 0]
def refTruncC (N : Nums) : Orc := fun _ ds K => match ds with
  | [.agg [.v (.bool b), .list false T es]] => T = 3 ∧ N.ok es ∧ K (.agg [.v (.bool (b && !(N.num es / 1000000 == 0))), .list false 3 (N.dd (N.num es / 1000000 * 1000000))])
  | _ => False
def truncL (N : Nums) : List (Nat × Orc) := [(41, lowerC N), (40, cutC N), (43, signedC N)]
set_option maxRecDepth 100000 in
theorem reftrunc_tree (N : Nums) (es : List (List D)) (b : Bool) (K : D → Prop) : callX Try.prog (ctxL (truncL N) [] 0) 2 19 [.agg [.v (.bool b), .list false 3 es]] K = (
    3 = 3 ∧ N.ok es ∧ bif decide ((dz.length + (N.dd (N.num es / 1000000)).length) * (Try.prog.bytesOf 3 + 1) ≤ 70368744177664) then
      3 = 3 ∧ N.okD (dz ++ N.dd (N.num es / 1000000)) ∧ 3 = 3 ∧ N.ok (N.dd (N.num (dz ++ N.dd (N.num es / 1000000)))) ∧
        K (.agg [.v (.bool (b && !(N.num (N.dd (N.num (dz ++ N.dd (N.num es / 1000000)))) == 0))), .list false 3 (N.dd (N.num (dz ++ N.dd (N.num es / 1000000))))])
    else False) := by kernel_rfl
theorem truncL_ok : ∀ x ∈ truncL numsR, Sound x.1 x.2 := by
  intro x hx
  simp only [truncL, List.mem_cons, List.not_mem_nil, or_false] at hx
  rcases hx with rfl | rfl | rfl
  · exact lowerC_ok
  · exact cutC_ok
  · exact signedC_ok

theorem refTruncC_ok : Sound 19 (refTruncC numsR) := by
  intro ds K hK
  unfold refTruncC at hK
  split at hK
  · obtain ⟨rfl, ⟨n, rfl, hl⟩, hK⟩ := hK
    refine ⟨_, hK, fun K' h => ⟨rfl, ⟨n, rfl, hl⟩, h⟩, ?_⟩
    rename_i b
    refine callX_eq (n := 2) (C := ctxL (truncL numsR) [] 0) (ctx0_ok truncL_ok) ?_
    have hd := dig_drop n 6
    rw [show n / 10 ^ 6 = n / 1000000 from rfl] at hd
    have hlen : (dig (n / 1000000)).length = (dig n).length - 6 := by rw [← hd, List.length_drop]
    have e0 : dz ++ dD (dig (n / 1000000)) = dD ([0, 0, 0, 0, 0, 0] ++ dig (n / 1000000)) := (dD_app _ _).symm
    have e1 : num ([0, 0, 0, 0, 0, 0] ++ dig (n / 1000000)) = n / 1000000 * 1000000 := by
      rw [num_app, num_dig, show num [0, 0, 0, 0, 0, 0] = 0 from rfl, show [0, 0, 0, 0, 0, 0].length = 6 from rfl]
      omega
    have e2 : (n / 1000000 * 1000000 == 0) = (n / 1000000 == 0) := by rw [Bool.eq_iff_iff, beq_iff_eq, beq_iff_eq]; omega
    have e3 : dz.length = 6 := rfl
    have hlen2 : (dig (n / 1000000 * 1000000)).length < 100000 := by
      have := (dig_len (n / 1000000 * 1000000) (dig n).length).2 (Nat.lt_of_le_of_lt (Nat.div_mul_le_self _ _) ((dig_len n _).1 (Nat.le_refl _)))
      omega
    rw [reftrunc_tree, nums_num', nums_dd, e0, nums_num, e1, nums_dd, nums_num', e2, e3, dD_len, bytes_int]
    refine ⟨rfl, ⟨n, rfl, hl⟩, ?_⟩
    rw [show decide ((6 + (dig (n / 1000000)).length) * (8 + 1) ≤ 70368744177664) = true from by rw [decide_eq_true_eq]; omega]
    refine ⟨rfl, ⟨_, rfl, ?_, by simp; omega⟩, rfl, ⟨_, rfl, hlen2⟩, rfl⟩
    intro x hx
    rcases List.mem_append.1 hx with hx | hx
    · simp at hx; omega
    · exact dig_lt _ _ hx
  · exact hK.elim

/-! ### Whole -/
def whS (b : Bool) (es ds : List (List D)) (u i : Int) : List D := [.agg [.v (.bool b), .list false 3 es], .obj 33 [.v (.bool b), .list false 3 es], .v (.int .i64 0), .v (.bool false), .list false 3 ds, .v (.int .u64 u), .v (.int .i64 i)] ++ List.replicate 39 .undef
set_option maxRecDepth 100000 in
theorem wh_round (b : Bool) (es ds : List (List D)) (u i : Int) (K : AExit → List D → Prop) : roundJ Try.prog (orcOf []) (fun _ _ _ => False) ([] ++ junk (loopN Try.f17 0)) (loopN Try.f17 0) (whS b es ds u i) K = (
    bif decide (i ≥ 0) then bif decide (0 ≤ i) && decide (i < ds.length) then bif isD Try.prog 3 ((ds.getD i.toNat []).getD 0 D.undef) then
      K .normal (whS b es ds (IntKind.u64.wrap (IntKind.u64.wrap (10 * u) + IntKind.u64.wrap (intOf ((ds.getD i.toNat []).getD 0 D.undef)))) (IntKind.i64.wrap (i - 1)))
    else False else False
    else K (.exit 0) (whS b es ds u i)) := by kernel_rfl
/-- From the greatest digit down, k being left. -/
theorem wh_runs (b : Bool) (es : List (List D)) (l : List Nat) (hd : ∀ x ∈ l, x < 10) (hl : l.length ≤ 19) (k : Nat) : k ≤ l.length →
    Runs [] Try.f17 0 [] (k + 1) (whS b es (dD l) (num (l.drop k) : Nat) ((k : Int) - 1)) (.exit 0) (whS b es (dD l) (num l : Nat) (-1)) := by
  induction k with
  | zero =>
    intro _
    refine Runs.stop ⟨fun K h => ?_⟩
    rw [wh_round]
    have : decide (((0 : Nat) : Int) - 1 ≥ 0) = false := by decide
    rw [this, cond_false, List.drop_zero]
    exact h
  | succ k ih =>
    intro hk
    refine Runs.go ⟨fun K h => ?_⟩ (ih (by omega))
    have g1 : decide ((k : Int) < (l.length : Nat)) = true := by rw [decide_eq_true_eq]; omega
    have e1 : l.drop k = l.getD k 0 :: l.drop (k + 1) := by
      rw [List.drop_eq_getElem_cons (by omega), List.getD_eq_getElem?_getD, List.getElem?_eq_getElem (by omega)]; rfl
    have hb := num_lt (l.drop k) fun x hx => hd x (List.mem_of_mem_drop hx)
    rw [List.length_drop] at hb
    have hb2 : 10 ^ (l.length - k) ≤ 10 ^ 19 := Nat.pow_le_pow_right (by omega) (by omega)
    have e2 : num (l.drop k) = l.getD k 0 + 10 * num (l.drop (k + 1)) := by rw [e1]; rfl
    have w1 : IntKind.u64.wrap (10 * ((num (l.drop (k + 1)) : Nat) : Int)) = ((10 * num (l.drop (k + 1)) : Nat) : Int) := by
      rw [show 10 * ((num (l.drop (k + 1)) : Nat) : Int) = ((10 * num (l.drop (k + 1)) : Nat) : Int) by omega]
      exact wrapN _ (by omega)
    have w2 : IntKind.u64.wrap ((l.getD k 0 : Nat) : Int) = ((l.getD k 0 : Nat) : Int) := wrapN _ (by omega)
    have w3 : IntKind.u64.wrap (((10 * num (l.drop (k + 1)) : Nat) : Int) + ((l.getD k 0 : Nat) : Int)) = ((num (l.drop k) : Nat) : Int) := by
      rw [show ((10 * num (l.drop (k + 1)) : Nat) : Int) + ((l.getD k 0 : Nat) : Int) = ((num (l.drop k) : Nat) : Int) by omega]
      exact wrapN _ (by omega)
    rw [show ((k + 1 : Nat) : Int) - 1 = (k : Int) by omega]
    rw [wh_round, ge_cast, dD_len, g1, Int.toNat_natCast, dD_get l k (by omega), is_int, intOf_v, w1, w2, w3, wrap_small (by omega) (by omega)]
    exact h

/-- A whole part as an int64: is it one; which. -/
def whB (b : Bool) (q : Nat) : Bool := bif b then decide (q ≤ 9223372036854775808) else decide (q < 9223372036854775808)
def whI (b : Bool) (q : Nat) : Int := bif whB b q then (bif b then -(q : Int) else (q : Int)) else 0
def whJ : List Nat := [7, 8, 9, 10, 11, 12, 13, 14, 15]
def wholeTree (b : Bool) (u : Int) (K : D → Prop) : Prop :=
  bif b then
    bif bif true then decide (u ≤ 9223372036854775808) else false then K (.tup [.v (.int .i64 (IntKind.i64.wrap (IntKind.u64.wrap (0 - u)))), .v (.bool true)])
    else bif !b then bif bif true then decide (u < 9223372036854775808) else false then K (.tup [.v (.int .i64 (IntKind.i64.wrap u)), .v (.bool true)]) else K (.tup [.v (.int .i64 0), .v (.bool false)])
      else K (.tup [.v (.int .i64 0), .v (.bool false)])
  else bif !b then bif bif true then decide (u < 9223372036854775808) else false then K (.tup [.v (.int .i64 (IntKind.i64.wrap u)), .v (.bool true)]) else K (.tup [.v (.int .i64 0), .v (.bool false)])
    else K (.tup [.v (.int .i64 0), .v (.bool false)])
set_option maxRecDepth 100000 in
theorem refwhole_tree (N : Nums) (b : Bool) (es : List (List D)) (u i j : Int) (K : D → Prop) (hj : IntKind.i64.wrap (((N.dd (N.num es / 1000000)).length : Nat) - 1) = j) :
    callX Try.prog (ctxL [(41, lowerC N)] [(17, 6, onceL whJ (whS b es (N.dd (N.num es / 1000000)) 0 j) (whS b es (N.dd (N.num es / 1000000)) u i) (.exit 0))] 0) 2 17 [.agg [.v (.bool b), .list false 3 es]] K = (
    3 = 3 ∧ N.ok es ∧ bif decide (((N.dd (N.num es / 1000000)).length : Int) > 19) then K (.tup [.v (.int .i64 0), .v (.bool false)])
      else whS b es (N.dd (N.num es / 1000000)) 0 j = whS b es (N.dd (N.num es / 1000000)) 0 j ∧ wholeTree b u K) := by
  subst hj; kernel_rfl
end Go.Proofs.Ytnjhmlnmdnocmaa
