/-
  The law DecSigns, proved: a number and the one of the other sign sum to nothing; a product with the other sign has the other sign. For every input; no condition.
-/
import Derived.Test.YtnjhmlnmdnocmaaCtx
import Derived.Test.YtnjhmlnmdnocmaaDecY
namespace Go.Proofs.Ytnjhmlnmdnocmaa
set_option linter.unusedSimpArgs false
set_option linter.unusedVariables false
open Go.ChangeShapes Go.WideShapes Go.ChangeAt Go.RowKit Go.Joins

/-- The contracts on right numbers; on any. -/
def signsC (M : Ops) : List (Nat × Orc) := [(9, awakeC), (12, goodT M), (15, negT M), (21, addF M), (25, mulT M), (28, codeC)]
def lookC (M : Ops) : List (Nat × Orc) := [(9, awakeC), (12, goodC M)]
theorem signsC_ok : ∀ x ∈ signsC opsR, Sound x.1 x.2 := by
  intro x hx
  simp only [signsC, List.mem_cons, List.not_mem_nil, or_false] at hx
  rcases hx with rfl | rfl | rfl | rfl | rfl | rfl
  · exact awakeC_ok
  · exact soundT goodC_ok fun _ _ h => goodT_to h
  · exact soundT negC_ok fun _ _ h => negT_to h
  · exact soundT addC_ok fun _ _ h => addF_to h
  · exact soundT mulC_ok fun _ _ h => mulT_to h
  · exact codeC_ok
theorem lookC_ok : ∀ x ∈ lookC opsR, Sound x.1 x.2 := by
  intro x hx
  simp only [lookC, List.mem_cons, List.not_mem_nil, or_false] at hx
  rcases hx with rfl | rfl
  · exact awakeC_ok
  · exact goodC_ok

set_option maxRecDepth 100000 in
theorem signs_tree (M : Ops) (p q : Int) (K : D → Prop) : callX Try.prog (ctxOf (signsC M) 0) 2 7 [decM M p, decM M q] K = (
    let x1 := M.val false 0 0; let x2 := M.val (M.sg p) (M.hi p) (M.lo p); let x3 := M.sg (M.neg x2); let x4 := M.hi (M.neg x2); let x5 := M.lo (M.neg x2); let x6 := M.val x3 x4 x5; let x7 := M.add x2 x6; let x8 := M.lo x7 == 0 && true; let x9 := M.hi x7 == 0 && x8; let x10 := M.val (M.sg q) (M.hi q) (M.lo q); let x11 := M.mul x2 x10; let x12 := M.mul x6 x10; let x13 := M.lo (M.neg x6) == M.lo p && true; let x14 := M.hi (M.neg x6) == M.hi p && x13; let x15 := M.val (M.sg x11) (M.hi x11) (M.lo x11); M.good (M.sg p) (M.hi p) (M.lo p) = true ∧ M.good (M.sg q) (M.hi q) (M.lo q) = true ∧ M.good (M.sg p) (M.hi p) (M.lo p) = true ∧ M.good (M.sg p) (M.hi p) (M.lo p) = true ∧ M.good x3 x4 x5 = true ∧ M.fit x7 = true ∧ M.good (M.sg p) (M.hi p) (M.lo p) = true ∧ M.good (M.sg q) (M.hi q) (M.lo q) = true ∧ bif M.fit x11 then M.good (M.sg p) (M.hi p) (M.lo p) = true ∧ M.good x3 x4 x5 = true ∧ M.good (M.sg q) (M.hi q) (M.lo q) = true ∧ bif M.fit x12 then bif bif true then M.sg x7 == false && x9 else false then M.good (M.sg p) (M.hi p) (M.lo p) = true ∧ M.good x3 x4 x5 = true ∧ bif bif true then M.sg (M.neg x6) == M.sg p && x14 else false then M.good (M.sg x11) (M.hi x11) (M.lo x11) = true ∧ K (.v (.bool (bif true then M.sg x12 == M.sg (M.neg x15) && (M.hi x12 == M.hi (M.neg x15) && (M.lo x12 == M.lo (M.neg x15) && true)) else false))) else K (.v (.bool false)) else K (.v (.bool false)) else bif bif true then M.sg x7 == false && x9 else false then M.good (M.sg p) (M.hi p) (M.lo p) = true ∧ M.good x3 x4 x5 = true ∧ bif bif true then M.sg (M.neg x6) == M.sg p && x14 else false then K (.v (.bool false)) else K (.v (.bool false)) else K (.v (.bool false)) else M.good (M.sg p) (M.hi p) (M.lo p) = true ∧ M.good x3 x4 x5 = true ∧ M.good (M.sg q) (M.hi q) (M.lo q) = true ∧ bif M.fit x12 then bif bif true then M.sg x7 == false && x9 else false then M.good (M.sg p) (M.hi p) (M.lo p) = true ∧ M.good x3 x4 x5 = true ∧ bif bif true then M.sg (M.neg x6) == M.sg p && x14 else false then K (.v (.bool false)) else K (.v (.bool false)) else K (.v (.bool false)) else bif bif true then M.sg x7 == false && x9 else false then M.good (M.sg p) (M.hi p) (M.lo p) = true ∧ M.good x3 x4 x5 = true ∧ bif bif true then M.sg (M.neg x6) == M.sg p && x14 else false then M.good false 0 0 = true ∧ K (.v (.bool (bif true then false == M.sg (M.neg x1) && (0 == M.hi (M.neg x1) && (0 == M.lo (M.neg x1) && true)) else false))) else K (.v (.bool false)) else K (.v (.bool false))) := by kernel_rfl

set_option maxRecDepth 100000 in
theorem signs_look (M : Ops) (s s' : Bool) (x y x' y' : Int) (K : D → Prop) : callX Try.prog (ctxOf (lookC M) 0) 2 7 [.agg [.v (.bool s), .v (.int .u64 x), .v (.int .u64 y)], .agg [.v (.bool s'), .v (.int .u64 x'), .v (.int .u64 y')]] K = (
    bif !M.good s x y then K (.v (.bool true)) else bif bif false then true else !M.good s' x' y' then K (.v (.bool true)) else False) := by kernel_rfl

theorem signs_right (p q : Int) (hp : opsR.fit p = true) (hq : opsR.fit q = true) : PS Try.prog 7 [decM opsR p, decM opsR q] (.v (.bool true)) := by
  refine callX_eq (C := ctxOf (signsC opsR) 0) (n := 2) (ctxOf_ok signsC_ok) ?_
  rw [signs_tree opsR p q]
  have e1 : p + -p = 0 := by omega
  have e2 : (-p * q).tdiv 1000000 = -((p * q).tdiv 1000000) := by rw [Int.neg_mul, Int.neg_tdiv]
  simp only [ops_val, ops_good, ops_neg, ops_add, ops_mul, ops_fitn, ops_fit0, hp, hq, e1, e2, ops_zero.1, ops_zero.2.1, ops_zero.2.2, ops_val0, ops_good0, Int.neg_neg, Int.neg_zero, beq_self_eq_true, Bool.and_self, cond_true, cond_false, true_and]
  cases opsR.fit ((p * q).tdiv 1000000) <;> simp
theorem signs_wrong (s : Bool) (m : Nat) (s' : Bool) (m' : Nat) (h : (goodB s m && goodB s' m') = false) : PS Try.prog 7 [decA s m, decA s' m'] (.v (.bool true)) := by
  refine callX_eq (C := ctxOf (lookC opsR) 0) (n := 2) (ctxOf_ok lookC_ok) ?_
  unfold decA
  rw [signs_look opsR]
  simp only [ops_good_of]
  cases h1 : goodB s m <;> cases h2 : goodB s' m' <;> simp_all

theorem signs_any (s : Bool) (m : Nat) (s' : Bool) (m' : Nat) : PS Try.prog 7 [decA s m, decA s' m'] (.v (.bool true)) := by
  cases h : (goodB s m && goodB s' m')
  · exact signs_wrong s m s' m' h
  · obtain ⟨h1, h2⟩ := and_true2 h
    obtain ⟨p, e1, f1, _⟩ := decA_good h1
    obtain ⟨q, e2, f2, _⟩ := decA_good h2
    rw [e1, e2]
    exact signs_right p q f1 f2
theorem signs_walk (s : Bool) (m : Nat) (s' : Bool) (m' : Nat) (hm : m < 340282366920938463463374607431768211456) (hm' : m' < 340282366920938463463374607431768211456) (w : World) :
    Calls Try.prog 7 #[(.agg #[.bool (s), .int .u64 ((hiN (m) : Nat) : Int), .int .u64 ((loN (m) : Nat) : Int)]), (.agg #[.bool (s'), .int .u64 ((hiN (m') : Nat) : Int), .int .u64 ((loN (m') : Nat) : Int)])] w fun e w' => e = .returned (.bool true) ∧ Ext w w' :=
  calls_of_ps Try.func7 (by kernel_rfl) rfl (signs_any s m s' m') rfl (fun role w => args_of_two (rd_decA _ _ _ s hm) (rd_decA _ _ _ s' hm')) w

set_option maxRecDepth 100000 in
theorem signs_lifted (os : Os) (started : os.Started) (H : Type) (enc : TypeId × Value → H) :
    ReturnsInHanded {} Try.checked os 7 .any (Rows.decSignsSpec.pre6 enc Try.prog Try.f7 Rows.decSignsRow.domain false) (Rows.decSignsSpec.post enc Try.prog Try.f7 false true false false) := by
  refine returnsInHanded_of_change (C := Try.checked) dec_own started (by kernel_rfl) Try.func7
    (ChangeSpec.witness6 (enc := enc) (C := Try.checked) false ⟨#[], #[.agg #[.bool false, .int .u64 0, .int .u64 0], .agg #[.bool false, .int .u64 0, .int .u64 0]], []⟩ 8 (by kernel_rfl) (by kernel_rfl) (by kernel_rfl) (by kernel_rfl)) ?_
  intro W base args ds gs before hval0 hW _ _
  have hval : ∀ (j : Nat) t v, Try.f7.params[j]? = some t → args[j]? = some v → Value.okWide Try.prog W .any base t v := hval0
  have hW' := hW
  obtain ⟨p, q, hA0, hV, rfl, hfz, hnd⟩ := hW
  have hA : DataW.TrodAll enc Try.prog W 0 (fun _ => true) true Try.f7.params.toList args.toList ds p := hA0
  rw [Try.params7] at hA hval
  obtain ⟨v0, v1, d0, d1, p0, p1, rfl, rfl, rfl, h0, h1⟩ := trodAll_two hA
  obtain ⟨rfl, rfl⟩ := trodVars_none hV
  obtain ⟨s0, m0, rfl, rfl, rfl, b0⟩ := dec_open (hval 0 24 v0 rfl rfl) h0
  obtain ⟨s1, m1, rfl, rfl, rfl, b1⟩ := dec_open (hval 1 24 v1 rfl rfl) h1
  clear hA0 hval0
  simp only [List.append_nil] at hW'
  refine (signs_walk s0 m0 s1 m1 b0 b1 W).mono fun e W' ⟨he, hx⟩ => ?_
  subst he
  exact ⟨_, rfl, _, _, _, [], [], [], hW', trodAll_mk1 (shut_bool Try.underlying4 _), trodAll_mk2 (dec_shut _ _ s0 m0 b0) (dec_shut _ _ s1 m1 b1), rfl, Below.frame hx _, fun h => by cases h⟩

theorem decSigns_holds : Rows.DecSignsSaid :=
  OpenClaim.holds_of_wide 7 Try.f7 rfl rfl rfl rfl rfl rfl rfl ⟨rfl, rfl, rfl, rfl, rfl⟩ rfl rfl rfl rfl rfl (by kernel_rfl) Try.func7 (by kernel_rfl)
    (of_decide_eq_true (by kernel_rfl)) (by unfold Func.isWrapper; first | (rw [if_pos (by decide +kernel)]; kernel_rfl) | (rw [if_neg (by decide +kernel)]; exact ⟨rfl, rfl⟩))
    (fun os started H enc _ => signs_lifted os started H enc)
end Go.Proofs.Ytnjhmlnmdnocmaa
