/-
  The law DecSums, proved: the sum, the difference, the order of any two numbers is as on paper. For every input; no condition.
-/
import Derived.Test.YtnjhmlnmdnocmaaDigI
import Derived.Test.YtnjhmlnmdnocmaaDecY
namespace Go.Proofs.Ytnjhmlnmdnocmaa
set_option linter.unusedSimpArgs false
set_option linter.unusedVariables false
open Go.ChangeShapes Go.WideShapes Go.ChangeAt Go.RowKit Go.Joins

/-- The contracts on right numbers; on any. -/
def sumsC (M : Ops) (N : Nums) (S : Sg) (mag : Int → Int → Nat) : List (Nat × Orc) := [(9, awakeC), (21, addT M), (23, subT M), (12, goodT M), (14, goodT M), (16, ofO N mag), (20, refNegC N), (29, refAddC N S), (30, heldC M N mag), (22, cmpT M), (31, refCmpC N S)]
def sumsC2 (M : Ops) : List (Nat × Orc) := [(9, awakeC), (21, addW M), (23, addW M), (12, goodC M), (14, goodC M), (22, cmpW M), (28, codeC)]
theorem sumsC_ok : ∀ x ∈ sumsC opsR numsR sgR magI, Sound x.1 x.2 := by
  intro x hx
  simp only [sumsC, List.mem_cons, List.not_mem_nil, or_false] at hx
  rcases hx with rfl | rfl | rfl | rfl | rfl | rfl | rfl | rfl | rfl | rfl | rfl
  · exact awakeC_ok
  · exact soundT addC_ok fun _ _ h => addT_to h
  · exact soundT subC_ok fun _ _ h => subT_to h
  · exact soundT goodC_ok fun _ _ h => goodT_to h
  · exact soundT refGoodC_ok fun _ _ h => goodT_to h
  · exact ofO_ok
  · exact refNegC_ok
  · exact refAddC_ok
  · exact heldC_ok
  · exact soundT cmpC_ok fun _ _ h => cmpT_to h
  · exact refCmpC_ok
theorem sumsC2_ok : ∀ x ∈ sumsC2 opsR, Sound x.1 x.2 := by
  intro x hx
  simp only [sumsC2, List.mem_cons, List.not_mem_nil, or_false] at hx
  rcases hx with rfl | rfl | rfl | rfl | rfl | rfl | rfl
  · exact awakeC_ok
  · exact soundT addC_ok fun _ _ h => addW_to h
  · exact soundT subC_ok fun _ _ h => subW_to h
  · exact goodC_ok
  · exact refGoodC_ok
  · exact soundT cmpC_ok fun _ _ h => cmpW_to h
  · exact codeC_ok

set_option maxRecDepth 100000 in
theorem sums_tree (M : Ops) (N : Nums) (S : Sg) (mag : Int → Int → Nat) (p q : Int) (K : D → Prop) : callX Try.prog (ctxL (sumsC M N S mag) [] 0) 2 8 [decM M p, decM M q] K = (
    let x1 := mag (M.hi p) (M.lo p); let x2 := N.num (N.dd x1); let x3 := mag (M.hi q) (M.lo q); let x4 := N.num (N.dd x3); let x5 := S.mg (M.sg p) x2 (M.sg q) x4; let x6 := M.val (M.sg p) (M.hi p) (M.lo p); let x7 := M.val (M.sg q) (M.hi q) (M.lo q); let x8 := M.add x6 x7; let x9 := M.sub x6 x7; let x10 := mag (M.hi x8) (M.lo x8); let x11 := mag (M.hi x9) (M.lo x9); let x12 := !M.sg q && !N.num (N.dd x3) == 0; let x13 := S.mg (M.sg p) x2 x12 x4; let x14 := N.num (N.dd x1) + N.num (N.dd x3); M.good (M.sg p) (M.hi p) (M.lo p) = true ∧ M.good (M.sg q) (M.hi q) (M.lo q) = true ∧ bif M.fit x8 then M.good (M.sg p) (M.hi p) (M.lo p) = true ∧ M.good (M.sg q) (M.hi q) (M.lo q) = true ∧ bif M.fit x9 then M.good (M.sg p) (M.hi p) (M.lo p) = true ∧ M.good (M.sg p) (M.hi p) (M.lo p) = true ∧ M.good (M.sg q) (M.hi q) (M.lo q) = true ∧ M.good (M.sg q) (M.hi q) (M.lo q) = true ∧ M.good (M.sg p) (M.hi p) (M.lo p) = true ∧ M.good (M.sg q) (M.hi q) (M.lo q) = true ∧ 3 = 3 ∧ 3 = 3 ∧ N.ok (N.dd x1) ∧ N.ok (N.dd x3) ∧ N.ok (N.dd x14) ∧ bif S.fit x5 then 3 = 3 ∧ N.ok (N.dd x3) ∧ 3 = 3 ∧ 3 = 3 ∧ N.ok (N.dd x1) ∧ N.ok (N.dd x3) ∧ N.ok (N.dd x14) ∧ bif S.fit x13 then 3 = 3 ∧ M.good (M.sg x8) (M.hi x8) (M.lo x8) = true ∧ N.ok (N.dd x10) ∧ N.ok (N.dd x5) ∧ bif M.sg x8 == S.ng (M.sg p) x2 (M.sg q) x4 && N.num (N.dd x10) == N.num (N.dd x5) then 3 = 3 ∧ M.good (M.sg x9) (M.hi x9) (M.lo x9) = true ∧ N.ok (N.dd x11) ∧ N.ok (N.dd x13) ∧ bif bif true then M.sg x9 == S.ng (M.sg p) x2 x12 x4 && N.num (N.dd x11) == N.num (N.dd x13) else false then M.good (M.sg p) (M.hi p) (M.lo p) = true ∧ M.good (M.sg q) (M.hi q) (M.lo q) = true ∧ 3 = 3 ∧ 3 = 3 ∧ N.ok (N.dd x1) ∧ N.ok (N.dd x3) ∧ K (.v (.bool (bif true then M.cmp x6 x7 == S.cm (M.sg p) x2 (M.sg q) x4 else false))) else K (.v (.bool false)) else K (.v (.bool false)) else 3 = 3 ∧ M.good (M.sg x8) (M.hi x8) (M.lo x8) = true ∧ N.ok (N.dd x10) ∧ N.ok (N.dd x5) ∧ bif M.sg x8 == S.ng (M.sg p) x2 (M.sg q) x4 && N.num (N.dd x10) == N.num (N.dd x5) then False else K (.v (.bool false)) else 3 = 3 ∧ N.ok (N.dd x3) ∧ 3 = 3 ∧ 3 = 3 ∧ N.ok (N.dd x1) ∧ N.ok (N.dd x3) ∧ N.ok (N.dd x14) ∧ bif S.fit x13 then False else False else M.good (M.sg p) (M.hi p) (M.lo p) = true ∧ M.good (M.sg p) (M.hi p) (M.lo p) = true ∧ M.good (M.sg q) (M.hi q) (M.lo q) = true ∧ M.good (M.sg q) (M.hi q) (M.lo q) = true ∧ M.good (M.sg p) (M.hi p) (M.lo p) = true ∧ M.good (M.sg q) (M.hi q) (M.lo q) = true ∧ 3 = 3 ∧ 3 = 3 ∧ N.ok (N.dd x1) ∧ N.ok (N.dd x3) ∧ N.ok (N.dd x14) ∧ bif S.fit x5 then 3 = 3 ∧ N.ok (N.dd x3) ∧ 3 = 3 ∧ 3 = 3 ∧ N.ok (N.dd x1) ∧ N.ok (N.dd x3) ∧ N.ok (N.dd x14) ∧ bif S.fit x13 then 3 = 3 ∧ M.good (M.sg x8) (M.hi x8) (M.lo x8) = true ∧ N.ok (N.dd x10) ∧ N.ok (N.dd x5) ∧ bif M.sg x8 == S.ng (M.sg p) x2 (M.sg q) x4 && N.num (N.dd x10) == N.num (N.dd x5) then False else K (.v (.bool false)) else 3 = 3 ∧ M.good (M.sg x8) (M.hi x8) (M.lo x8) = true ∧ N.ok (N.dd x10) ∧ N.ok (N.dd x5) ∧ bif M.sg x8 == S.ng (M.sg p) x2 (M.sg q) x4 && N.num (N.dd x10) == N.num (N.dd x5) then 68 = 68 ∧ 3 = 3 ∧ M.good (M.sg p) (M.hi p) (M.lo p) = true ∧ M.good (M.sg q) (M.hi q) (M.lo q) = true ∧ 3 = 3 ∧ 3 = 3 ∧ N.ok (N.dd x1) ∧ N.ok (N.dd x3) ∧ K (.v (.bool (bif true then M.cmp x6 x7 == S.cm (M.sg p) x2 (M.sg q) x4 else false))) else K (.v (.bool false)) else 3 = 3 ∧ N.ok (N.dd x3) ∧ 3 = 3 ∧ 3 = 3 ∧ N.ok (N.dd x1) ∧ N.ok (N.dd x3) ∧ N.ok (N.dd x14) ∧ bif S.fit x13 then False else False else M.good (M.sg p) (M.hi p) (M.lo p) = true ∧ M.good (M.sg q) (M.hi q) (M.lo q) = true ∧ bif M.fit x9 then M.good (M.sg p) (M.hi p) (M.lo p) = true ∧ M.good (M.sg p) (M.hi p) (M.lo p) = true ∧ M.good (M.sg q) (M.hi q) (M.lo q) = true ∧ M.good (M.sg q) (M.hi q) (M.lo q) = true ∧ M.good (M.sg p) (M.hi p) (M.lo p) = true ∧ M.good (M.sg q) (M.hi q) (M.lo q) = true ∧ 3 = 3 ∧ 3 = 3 ∧ N.ok (N.dd x1) ∧ N.ok (N.dd x3) ∧ N.ok (N.dd x14) ∧ bif S.fit x5 then 3 = 3 ∧ N.ok (N.dd x3) ∧ 3 = 3 ∧ 3 = 3 ∧ N.ok (N.dd x1) ∧ N.ok (N.dd x3) ∧ N.ok (N.dd x14) ∧ bif S.fit x13 then False else False else 3 = 3 ∧ N.ok (N.dd x3) ∧ 3 = 3 ∧ 3 = 3 ∧ N.ok (N.dd x1) ∧ N.ok (N.dd x3) ∧ N.ok (N.dd x14) ∧ bif S.fit x13 then 68 = 68 ∧ 3 = 3 ∧ 3 = 3 ∧ M.good (M.sg x9) (M.hi x9) (M.lo x9) = true ∧ N.ok (N.dd x11) ∧ N.ok (N.dd x13) ∧ bif bif true then M.sg x9 == S.ng (M.sg p) x2 x12 x4 && N.num (N.dd x11) == N.num (N.dd x13) else false then M.good (M.sg p) (M.hi p) (M.lo p) = true ∧ M.good (M.sg q) (M.hi q) (M.lo q) = true ∧ 3 = 3 ∧ 3 = 3 ∧ N.ok (N.dd x1) ∧ N.ok (N.dd x3) ∧ K (.v (.bool (bif true then M.cmp x6 x7 == S.cm (M.sg p) x2 (M.sg q) x4 else false))) else K (.v (.bool false)) else 68 = 68 ∧ 3 = 3 ∧ False else M.good (M.sg p) (M.hi p) (M.lo p) = true ∧ M.good (M.sg p) (M.hi p) (M.lo p) = true ∧ M.good (M.sg q) (M.hi q) (M.lo q) = true ∧ M.good (M.sg q) (M.hi q) (M.lo q) = true ∧ M.good (M.sg p) (M.hi p) (M.lo p) = true ∧ M.good (M.sg q) (M.hi q) (M.lo q) = true ∧ 3 = 3 ∧ 3 = 3 ∧ N.ok (N.dd x1) ∧ N.ok (N.dd x3) ∧ N.ok (N.dd x14) ∧ bif S.fit x5 then 3 = 3 ∧ N.ok (N.dd x3) ∧ 3 = 3 ∧ 3 = 3 ∧ N.ok (N.dd x1) ∧ N.ok (N.dd x3) ∧ N.ok (N.dd x14) ∧ bif S.fit x13 then False else False else 3 = 3 ∧ N.ok (N.dd x3) ∧ 3 = 3 ∧ 3 = 3 ∧ N.ok (N.dd x1) ∧ N.ok (N.dd x3) ∧ N.ok (N.dd x14) ∧ bif S.fit x13 then 68 = 68 ∧ 3 = 3 ∧ False else 68 = 68 ∧ 3 = 3 ∧ 68 = 68 ∧ 3 = 3 ∧ M.good (M.sg p) (M.hi p) (M.lo p) = true ∧ M.good (M.sg q) (M.hi q) (M.lo q) = true ∧ 3 = 3 ∧ 3 = 3 ∧ N.ok (N.dd x1) ∧ N.ok (N.dd x3) ∧ K (.v (.bool (bif true then M.cmp x6 x7 == S.cm (M.sg p) x2 (M.sg q) x4 else false)))) := by kernel_rfl

set_option maxRecDepth 100000 in
theorem sums_tree2 (M : Ops) (s s' : Bool) (x y x' y' : Int) (K : D → Prop) : callX Try.prog (ctxL (sumsC2 M) [] 0) 2 8 [.agg [.v (.bool s), .v (.int .u64 x), .v (.int .u64 y)], .agg [.v (.bool s'), .v (.int .u64 x'), .v (.int .u64 y')]] K = (
    (M.good s x y && M.good s' x' y') = false ∧ (M.good s x y && M.good s' x' y') = false ∧
      bif !(M.good s x y == M.good s x y) then K (.v (.bool false)) else bif bif false then true else !(M.good s' x' y' == M.good s' x' y') then K (.v (.bool false))
      else bif !M.good s x y then (M.good s x y && M.good s' x' y') = false ∧ K (.v (.bool (bif true then (0 : Int) == 0 else false)))
        else bif bif false then true else !M.good s' x' y' then (M.good s x y && M.good s' x' y') = false ∧ K (.v (.bool (bif true then (0 : Int) == 0 else false))) else False) := by kernel_rfl

theorem sg_sum (p q : Int) : sgR.ng (opsR.sg p) p.natAbs (opsR.sg q) q.natAbs = opsR.sg (p + q) ∧ sgR.mg (opsR.sg p) p.natAbs (opsR.sg q) q.natAbs = (p + q).natAbs := by
  show (bif decide (p < 0) == decide (q < 0) then decide (p < 0) && !(p.natAbs + q.natAbs == 0) else bif decide (p.natAbs < q.natAbs) then decide (q < 0) && !(q.natAbs - p.natAbs == 0) else decide (p < 0) && !(p.natAbs - q.natAbs == 0)) = decide (p + q < 0) ∧
    (bif decide (p < 0) == decide (q < 0) then p.natAbs + q.natAbs else bif decide (p.natAbs < q.natAbs) then q.natAbs - p.natAbs else p.natAbs - q.natAbs) = (p + q).natAbs
  by_cases h1 : p < 0 <;> by_cases h2 : q < 0 <;> by_cases h3 : p.natAbs < q.natAbs <;> simp only [h1, h2, h3, decide_true, decide_false, beq_self_eq_true, cond_true, cond_false, Bool.true_and, Bool.false_and, show (true == false) = false from rfl, show (false == true) = false from rfl] <;>
    refine ⟨?_, by omega⟩ <;> rw [Bool.eq_iff_iff] <;> simp only [Bool.not_eq_true', beq_eq_false_iff_ne, decide_eq_true_eq, Bool.false_eq_true, false_iff, ne_eq] <;> omega
theorem sg_cmp (p q : Int) : sgR.cm (opsR.sg p) p.natAbs (opsR.sg q) q.natAbs = opsR.cmp p q := by
  show (bif decide (p < 0) == decide (q < 0) && p.natAbs == q.natAbs then (0 : Int) else bif !(decide (p < 0) == decide (q < 0)) then (bif decide (p < 0) then -1 else 1) else bif (!decide (p.natAbs < q.natAbs)) == decide (p < 0) then -1 else 1) = sgn p q
  unfold sgn
  by_cases h1 : p < 0 <;> by_cases h2 : q < 0 <;> by_cases h3 : p.natAbs < q.natAbs <;> by_cases h4 : p.natAbs = q.natAbs <;> simp [h1, h2, h3, h4] <;> grind
theorem sg_fit (z : Int) : sgR.fit z.natAbs = opsR.fit z := rfl

theorem sums_right (p q : Int) (hp : opsR.fit p = true) (hq : opsR.fit q = true) : PS Try.prog 8 [decM opsR p, decM opsR q] (.v (.bool true)) := by
  refine callX_eq (C := ctxL (sumsC opsR numsR sgR magI) [] 0) (n := 2) (ctx0_ok sumsC_ok) ?_
  rw [sums_tree opsR numsR sgR magI p q]
  obtain ⟨n1, n2⟩ := l_neg q
  have hp2 := fit_lt hp
  have hq2 := fit_lt hq
  have k1 := l_ok hp2
  have k2 := l_ok hq2
  have k3 : numsR.ok (numsR.dd (p.natAbs + q.natAbs)) := nums_ok _ (by omega)
  have k4 : numsR.ok (numsR.dd (p + q).natAbs) := nums_ok _ (by omega)
  have k5 : numsR.ok (numsR.dd (p - q).natAbs) := nums_ok _ (by omega)
  obtain ⟨a1, a2⟩ := sg_sum p q
  obtain ⟨b1, b2⟩ := sg_sum p (-q)
  rw [show opsR.sg (-q) = (!opsR.sg q && !(q.natAbs == 0)) from n2, Int.natAbs_neg, ← Int.sub_eq_add_neg] at b1 b2
  have c1 := sg_cmp p q
  simp only [ops_val, ops_good, ops_add, ops_sub, l_mag, l_numdd, hp, hq, a1, a2, b1, b2, c1, sg_fit, k1, k2, k3, k4, k5, bne_self_eq_false, beq_self_eq_true, Bool.and_self, Bool.not_true, cond_true, cond_false, true_and, and_true]
  cases h1 : opsR.fit (p + q) <;> cases h2 : opsR.fit (p - q) <;> simp [h1, h2]
theorem sums_wrong (s : Bool) (m : Nat) (s' : Bool) (m' : Nat) (h : (goodB s m && goodB s' m') = false) : PS Try.prog 8 [decA s m, decA s' m'] (.v (.bool true)) := by
  refine callX_eq (C := ctxL (sumsC2 opsR) [] 0) (n := 2) (ctx0_ok sumsC2_ok) ?_
  unfold decA
  rw [sums_tree2 opsR]
  simp only [ops_good_of]
  cases h1 : goodB s m <;> cases h2 : goodB s' m' <;> simp_all

theorem sums_any (s : Bool) (m : Nat) (s' : Bool) (m' : Nat) : PS Try.prog 8 [decA s m, decA s' m'] (.v (.bool true)) := by
  cases h : (goodB s m && goodB s' m')
  · exact sums_wrong s m s' m' h
  · obtain ⟨h1, h2⟩ := and_true2 h
    obtain ⟨p, e1, f1, _⟩ := decA_good h1
    obtain ⟨q, e2, f2, _⟩ := decA_good h2
    rw [e1, e2]
    exact sums_right p q f1 f2
theorem sums_walk (s : Bool) (m : Nat) (s' : Bool) (m' : Nat) (hm : m < 340282366920938463463374607431768211456) (hm' : m' < 340282366920938463463374607431768211456) (w : World) :
    Calls Try.prog 8 #[(.agg #[.bool (s), .int .u64 ((hiN (m) : Nat) : Int), .int .u64 ((loN (m) : Nat) : Int)]), (.agg #[.bool (s'), .int .u64 ((hiN (m') : Nat) : Int), .int .u64 ((loN (m') : Nat) : Int)])] w fun e w' => e = .returned (.bool true) ∧ Ext w w' :=
  calls_of_ps Try.func8 (by kernel_rfl) rfl (sums_any s m s' m') rfl (fun role w => args_of_two (rd_decA _ _ _ s hm) (rd_decA _ _ _ s' hm')) w

set_option maxRecDepth 100000 in
theorem sums_lifted (os : Os) (started : os.Started) (H : Type) (enc : TypeId × Value → H) :
    ReturnsInHanded {} Try.checked os 8 .any (Rows.decSumsSpec.pre6 enc Try.prog Try.f8 Rows.decSumsRow.domain false) (Rows.decSumsSpec.post enc Try.prog Try.f8 false true false false) := by
  refine returnsInHanded_of_change (C := Try.checked) dec_own started (by kernel_rfl) Try.func8
    (ChangeSpec.witness6 (enc := enc) (C := Try.checked) false ⟨#[], #[.agg #[.bool false, .int .u64 0, .int .u64 0], .agg #[.bool false, .int .u64 0, .int .u64 0]], []⟩ 8 (by kernel_rfl) (by kernel_rfl) (by kernel_rfl) (by kernel_rfl)) ?_
  intro W base args ds gs before hval0 hW _ _
  have hval : ∀ (j : Nat) t v, Try.f8.params[j]? = some t → args[j]? = some v → Value.okWide Try.prog W .any base t v := hval0
  have hW' := hW
  obtain ⟨p, q, hA0, hV, rfl, hfz, hnd⟩ := hW
  have hA : DataW.TrodAll enc Try.prog W 0 (fun _ => true) true Try.f8.params.toList args.toList ds p := hA0
  rw [Try.params8] at hA hval
  obtain ⟨v0, v1, d0, d1, p0, p1, rfl, rfl, rfl, h0, h1⟩ := trodAll_two hA
  obtain ⟨rfl, rfl⟩ := trodVars_none hV
  obtain ⟨s0, m0, rfl, rfl, rfl, b0⟩ := dec_open (hval 0 24 v0 rfl rfl) h0
  obtain ⟨s1, m1, rfl, rfl, rfl, b1⟩ := dec_open (hval 1 24 v1 rfl rfl) h1
  clear hA0 hval0
  simp only [List.append_nil] at hW'
  refine (sums_walk s0 m0 s1 m1 b0 b1 W).mono fun e W' ⟨he, hx⟩ => ?_
  subst he
  exact ⟨_, rfl, _, _, _, [], [], [], hW', trodAll_mk1 (shut_bool Try.underlying4 _), trodAll_mk2 (dec_shut _ _ s0 m0 b0) (dec_shut _ _ s1 m1 b1), rfl, Below.frame hx _, fun h => by cases h⟩

theorem decSums_holds : Rows.DecSumsSaid :=
  OpenClaim.holds_of_wide 8 Try.f8 rfl rfl rfl rfl rfl rfl rfl ⟨rfl, rfl, rfl, rfl, rfl⟩ rfl rfl rfl rfl rfl (by kernel_rfl) Try.func8 (by kernel_rfl)
    (of_decide_eq_true (by kernel_rfl)) (by unfold Func.isWrapper; first | (rw [if_pos (by decide +kernel)]; kernel_rfl) | (rw [if_neg (by decide +kernel)]; exact ⟨rfl, rfl⟩))
    (fun os started H enc _ => sums_lifted os started H enc)
end Go.Proofs.Ytnjhmlnmdnocmaa
