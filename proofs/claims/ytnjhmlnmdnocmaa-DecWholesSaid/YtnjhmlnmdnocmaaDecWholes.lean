/-
  The law DecWholes, proved: any whole number, the other sign, the whole part of any number is as on paper. For every input; no condition.
-/
import Derived.Test.YtnjhmlnmdnocmaaDigI
import Derived.Test.YtnjhmlnmdnocmaaDecY
namespace Go.Proofs.Ytnjhmlnmdnocmaa
set_option linter.unusedSimpArgs false
set_option linter.unusedVariables false
open Go.ChangeShapes Go.WideShapes Go.ChangeAt Go.RowKit Go.Joins

def wholesC (M : Ops) (N : Nums) (W : Wh) (mag mq : Int → Int → Nat) : List (Nat × Orc) := [(9, awakeC), (10, intT M), (11, wholeT M W mq), (12, goodT M), (13, truncT M), (14, goodT M), (15, negT M), (16, ofO N mag), (17, refWholeC N W), (18, sameC N), (19, refTruncC N), (20, refNegC N)]
def wholesC2 (M : Ops) (W : Wh) (mq : Int → Int → Nat) : List (Nat × Orc) := [(9, awakeC), (10, intT M), (11, wholeC M W mq), (12, goodT M), (13, truncC M), (14, goodC M), (15, negC M)]
theorem wholesC_ok : ∀ x ∈ wholesC opsR numsR whR magI mqR, Sound x.1 x.2 := by
  intro x hx
  simp only [wholesC, List.mem_cons, List.not_mem_nil, or_false] at hx
  rcases hx with rfl | rfl | rfl | rfl | rfl | rfl | rfl | rfl | rfl | rfl | rfl | rfl
  · exact awakeC_ok
  · exact intT_ok
  · exact soundT wholeC_ok fun _ _ h => wholeT_to h
  · exact soundT goodC_ok fun _ _ h => goodT_to h
  · exact soundT truncC_ok fun _ _ h => truncT_to h
  · exact soundT refGoodC_ok fun _ _ h => goodT_to h
  · exact soundT negC_ok fun _ _ h => negT_to h
  · exact ofO_ok
  · exact refWholeC_ok
  · exact sameC_ok
  · exact refTruncC_ok
  · exact refNegC_ok
theorem wholesC2_ok : ∀ x ∈ wholesC2 opsR whR mqR, Sound x.1 x.2 := by
  intro x hx
  simp only [wholesC2, List.mem_cons, List.not_mem_nil, or_false] at hx
  rcases hx with rfl | rfl | rfl | rfl | rfl | rfl | rfl
  · exact awakeC_ok
  · exact intT_ok
  · exact wholeC_ok
  · exact soundT goodC_ok fun _ _ h => goodT_to h
  · exact truncC_ok
  · exact refGoodC_ok
  · exact negC_ok

set_option maxRecDepth 100000 in
theorem wholes_tree (M : Ops) (N : Nums) (W : Wh) (mag mq : Int → Int → Nat) (z n : Int) (K : D → Prop) : callX Try.prog (ctxL (wholesC M N W mag mq) [] 0) 2 3 [decM M z, .v (.int .i64 n)] K = (
    let x1 := M.sg (M.int n); let x2 := M.hi (M.int n); let x3 := M.lo (M.int n); let x4 := M.val x1 x2 x3; let x5 := mq (M.hi z) (M.lo z); let x6 := mag (M.hi z) (M.lo z); let x7 := N.num (N.dd x6) / 1000000; let x8 := M.val (M.sg z) (M.hi z) (M.lo z); let x9 := M.hi (M.neg x8); let x10 := M.lo (M.neg x8); let x11 := M.hi (M.trunc x8); let x12 := M.lo (M.trunc x8); let x13 := mag x11 x12; let x14 := N.dd (mag x9 x10); let x15 := N.num (N.dd x6) / 1000000 * 1000000; M.isInt n = true ∧ M.good x1 x2 x3 = true ∧ M.good x1 x2 x3 = true ∧ bif bif false then true else W.i x1 (mq x2 x3) != n then K (.v (.bool false)) else bif bif false then true else !W.b x1 (mq x2 x3) then K (.v (.bool false)) else bif bif false then true else !boolOf (D.v (Value.bool x1)) == decide (n < 0) then K (.v (.bool false)) else M.good x1 x2 x3 = true ∧ bif bif false then true else !(M.sg (M.trunc x4) == M.sg (M.int n) && (M.hi (M.trunc x4) == M.hi (M.int n) && (M.lo (M.trunc x4) == M.lo (M.int n) && true))) then K (.v (.bool false)) else M.good (M.sg z) (M.hi z) (M.lo z) = true ∧ M.good (M.sg z) (M.hi z) (M.lo z) = true ∧ 3 = 3 ∧ N.ok (N.dd x6) ∧ bif W.i (M.sg z) x5 == W.i (M.sg z) x7 then bif bif true then W.b (M.sg z) x5 == W.b (M.sg z) x7 else false then M.good (M.sg z) (M.hi z) (M.lo z) = true ∧ 3 = 3 ∧ N.ok (N.dd x6) ∧ 3 = 3 ∧ 3 = 3 ∧ N.ok (N.dd x13) ∧ N.ok (N.dd x15) ∧ bif bif true then M.sg (M.trunc x8) == (M.sg z && !N.num (N.dd x6) / 1000000 == 0) && N.num (N.dd x13) == N.num (N.dd x15) else false then M.good (M.sg z) (M.hi z) (M.lo z) = true ∧ 3 = 3 ∧ N.ok (N.dd x6) ∧ 3 = 3 ∧ 3 = 3 ∧ N.ok x14 ∧ N.ok (N.dd x6) ∧ K (.v (.bool (bif true then M.sg (M.neg x8) == (!M.sg z && !N.num (N.dd x6) == 0) && N.num x14 == N.num (N.dd x6) else false))) else K (.v (.bool false)) else K (.v (.bool false)) else K (.v (.bool false))) := by kernel_rfl
set_option maxRecDepth 100000 in
theorem wholes_tree2 (M : Ops) (W : Wh) (mq : Int → Int → Nat) (s : Bool) (x y n : Int) (K : D → Prop) : callX Try.prog (ctxL (wholesC2 M W mq) [] 0) 2 3 [.agg [.v (.bool s), .v (.int .u64 x), .v (.int .u64 y)], .v (.int .i64 n)] K = (
    let x1 := M.val s x y; let x2 := M.sg (M.int n); let x3 := M.hi (M.int n); let x4 := M.lo (M.int n); let x5 := M.val x2 x3 x4; let x6 := (0 : Int) == 0 && true; let x7 := (0 : Int) == 0 && x6; let x8 := M.lo (M.neg x1) == 0 && true; let x9 := M.hi (M.neg x1) == 0 && x8; let x10 := M.lo (M.trunc x1) == 0 && true; let x11 := M.hi (M.trunc x1) == 0 && x10; M.isInt n = true ∧ bif M.good x2 x3 x4 then M.good x2 x3 x4 = true ∧ bif bif false then true else W.i x2 (mq x3 x4) != n then K (.v (.bool false)) else bif bif false then true else !W.b x2 (mq x3 x4) then K (.v (.bool false)) else bif bif false then true else !boolOf (D.v (Value.bool x2)) == decide (n < 0) then K (.v (.bool false)) else bif M.good x2 x3 x4 then bif bif false then true else !(M.sg (M.trunc x5) == M.sg (M.int n) && (M.hi (M.trunc x5) == M.hi (M.int n) && (M.lo (M.trunc x5) == M.lo (M.int n) && true))) then K (.v (.bool false)) else bif M.good s x y then bif !M.good s x y then bif W.i s (mq x y) == 0 then bif bif true then !W.b s (mq x y) else false then bif M.good s x y then bif bif true then M.sg (M.trunc x1) == false && x11 else false then bif M.good s x y then K (.v (.bool (bif true then M.sg (M.neg x1) == false && x9 else false))) else K (.v (.bool (bif true then false == false && x7 else false))) else K (.v (.bool false)) else bif M.good s x y then K (.v (.bool (bif true then M.sg (M.neg x1) == false && x9 else false))) else K (.v (.bool (bif true then false == false && x7 else false))) else K (.v (.bool false)) else K (.v (.bool false)) else False else bif !M.good s x y then bif M.good s x y then bif bif true then M.sg (M.trunc x1) == false && x11 else false then bif M.good s x y then K (.v (.bool (bif true then M.sg (M.neg x1) == false && x9 else false))) else K (.v (.bool (bif true then false == false && x7 else false))) else K (.v (.bool false)) else bif M.good s x y then K (.v (.bool (bif true then M.sg (M.neg x1) == false && x9 else false))) else K (.v (.bool (bif true then false == false && x7 else false))) else False else bif bif false then true else !(false == M.sg (M.int n) && (0 == M.hi (M.int n) && (0 == M.lo (M.int n) && true))) then K (.v (.bool false)) else bif M.good s x y then bif !M.good s x y then bif W.i s (mq x y) == 0 then bif bif true then !W.b s (mq x y) else false then bif M.good s x y then bif bif true then M.sg (M.trunc x1) == false && x11 else false then bif M.good s x y then K (.v (.bool (bif true then M.sg (M.neg x1) == false && x9 else false))) else K (.v (.bool (bif true then false == false && x7 else false))) else K (.v (.bool false)) else bif M.good s x y then K (.v (.bool (bif true then M.sg (M.neg x1) == false && x9 else false))) else K (.v (.bool (bif true then false == false && x7 else false))) else K (.v (.bool false)) else K (.v (.bool false)) else False else bif !M.good s x y then bif M.good s x y then bif bif true then M.sg (M.trunc x1) == false && x11 else false then bif M.good s x y then K (.v (.bool (bif true then M.sg (M.neg x1) == false && x9 else false))) else K (.v (.bool (bif true then false == false && x7 else false))) else K (.v (.bool false)) else bif M.good s x y then K (.v (.bool (bif true then M.sg (M.neg x1) == false && x9 else false))) else K (.v (.bool (bif true then false == false && x7 else false))) else False else M.good x2 x3 x4 = true ∧ bif bif false then true else 0 != n then K (.v (.bool false)) else K (.v (.bool false))) := by kernel_rfl

theorem l_mag (z : Int) : magI (opsR.hi z) (opsR.lo z) = z.natAbs := magI_halves _
theorem l_mq (z : Int) : mqR (opsR.hi z) (opsR.lo z) = z.natAbs / 1000000 := by unfold mqR; rw [l_mag]
theorem l_numdd (k : Nat) : numsR.num (numsR.dd k) = k := nums_num' k
theorem l_ok {k : Nat} (h : k < 1000000000000000000000000000000000000) : numsR.ok (numsR.dd k) := ⟨k, rfl, by have := (dig_len k 36).2 h; omega⟩
theorem l_int (n : Int) (h : -9223372036854775808 ≤ n) (h' : n < 9223372036854775808) : opsR.isInt n = true ∧ opsR.fit (opsR.int n) = true ∧ whR.i (opsR.sg (opsR.int n)) ((opsR.int n).natAbs / 1000000) = n ∧ whR.b (opsR.sg (opsR.int n)) ((opsR.int n).natAbs / 1000000) = true ∧ opsR.sg (opsR.int n) = decide (n < 0) ∧ opsR.trunc (opsR.int n) = opsR.int n := by
  have e1 : (n * 1000000).natAbs / 1000000 = n.natAbs := by omega
  have e2 : decide (n * 1000000 < 0) = decide (n < 0) := by rw [Bool.eq_iff_iff, decide_eq_true_eq, decide_eq_true_eq]; omega
  have e3 : (n * 1000000).tmod 1000000 = 0 := Int.mul_tmod_left _ _
  have hB : whB (decide (n < 0)) n.natAbs = true := by
    unfold whB
    by_cases hn : n < 0
    · rw [decide_eq_true hn, cond_true, decide_eq_true_eq]; omega
    · rw [decide_eq_false hn, cond_false, decide_eq_true_eq]; omega
  have hI : whI (decide (n < 0)) n.natAbs = n := by
    unfold whI; rw [hB, cond_true]
    by_cases hn : n < 0
    · rw [decide_eq_true hn, cond_true]; omega
    · rw [decide_eq_false hn, cond_false]; omega
  refine ⟨?_, fit_int h h', ?_, ?_, e2, ?_⟩
  · show (decide (-9223372036854775808 ≤ n) && decide (n < 9223372036854775808)) = true
    simp [h, h']
  · show whI (decide (n * 1000000 < 0)) ((n * 1000000).natAbs / 1000000) = n
    rw [e1, e2]; exact hI
  · show whB (decide (n * 1000000 < 0)) ((n * 1000000).natAbs / 1000000) = true
    rw [e1, e2]; exact hB
  · show n * 1000000 - (n * 1000000).tmod 1000000 = n * 1000000
    rw [e3]; omega
theorem tmod_nat (z : Int) : z.tmod 1000000 = if z < 0 then -((z.natAbs % 1000000 : Nat) : Int) else ((z.natAbs % 1000000 : Nat) : Int) := by
  split
  · obtain ⟨k, rfl⟩ : ∃ k : Nat, z = -(k : Int) := ⟨z.natAbs, by omega⟩
    rw [Int.neg_tmod, Int.natAbs_neg, Int.natAbs_natCast]; rfl
  · obtain ⟨k, rfl⟩ : ∃ k : Nat, z = (k : Int) := ⟨z.natAbs, by omega⟩
    rfl
theorem l_trunc (z : Int) : (opsR.trunc z).natAbs = z.natAbs / 1000000 * 1000000 ∧ opsR.sg (opsR.trunc z) = (opsR.sg z && !(z.natAbs / 1000000 == 0)) := by
  have e := tmod_nat z
  have hz : opsR.trunc z = z - z.tmod 1000000 := rfl
  rw [hz]
  refine ⟨?_, ?_⟩
  · rw [e]; split <;> omega
  · show decide (z - z.tmod 1000000 < 0) = (decide (z < 0) && !(z.natAbs / 1000000 == 0))
    rw [e, Bool.eq_iff_iff]
    simp only [decide_eq_true_eq, Bool.and_eq_true, Bool.not_eq_true', beq_eq_false_iff_ne]
    split <;> omega
theorem l_neg (z : Int) : (opsR.neg z).natAbs = z.natAbs ∧ opsR.sg (opsR.neg z) = (!opsR.sg z && !(z.natAbs == 0)) := by
  refine ⟨Int.natAbs_neg z, ?_⟩
  show decide (-z < 0) = (!decide (z < 0) && !(z.natAbs == 0))
  rw [Bool.eq_iff_iff]
  simp only [decide_eq_true_eq, Bool.and_eq_true, Bool.not_eq_true', beq_eq_false_iff_ne, decide_eq_false_iff_not]
  omega

theorem wholes_right (z n : Int) (hz : opsR.fit z = true) (h : -9223372036854775808 ≤ n) (h' : n < 9223372036854775808) : PS Try.prog 3 [decM opsR z, .v (.int .i64 n)] (.v (.bool true)) := by
  refine callX_eq (C := ctxL (wholesC opsR numsR whR magI mqR) [] 0) (n := 2) (ctx0_ok wholesC_ok) ?_
  rw [wholes_tree opsR numsR whR magI mqR z n]
  obtain ⟨i1, i2, i3, i4, i5, i6⟩ := l_int n h h'
  obtain ⟨t1, t2⟩ := l_trunc z
  obtain ⟨n1, n2⟩ := l_neg z
  have hlt := fit_lt hz
  have k1 := l_ok hlt
  have k2 : numsR.ok (numsR.dd (z.natAbs / 1000000 * 1000000)) := l_ok (by omega)
  simp only [ops_val, ops_good, l_mag, l_mq, l_numdd, i1, i2, i3, i4, i6, t1, t2, n1, n2, hz, k1, k2, bne_self_eq_false, beq_self_eq_true, Bool.and_self, Bool.not_true, cond_true, cond_false, true_and, and_true]
  have e : boolOf (D.v (Value.bool (opsR.sg (opsR.int n)))) = decide (n < 0) := i5
  rw [e]
  simp
theorem wholes_wrong (s : Bool) (m : Nat) (n : Int) (hb : goodB s m = false) (h : -9223372036854775808 ≤ n) (h' : n < 9223372036854775808) : PS Try.prog 3 [decA s m, .v (.int .i64 n)] (.v (.bool true)) := by
  refine callX_eq (C := ctxL (wholesC2 opsR whR mqR) [] 0) (n := 2) (ctx0_ok wholesC2_ok) ?_
  unfold decA
  rw [wholes_tree2 opsR whR mqR]
  obtain ⟨i1, i2, i3, i4, i5, i6⟩ := l_int n h h'
  have e : boolOf (D.v (Value.bool (opsR.sg (opsR.int n)))) = decide (n < 0) := i5
  simp only [ops_val, ops_good, ops_good_of, l_mq, i1, i2, i3, i4, i6, hb, e, bne_self_eq_false, beq_self_eq_true, Bool.and_self, Bool.not_true, Bool.not_false, cond_true, cond_false, true_and, and_true]
theorem wholes_any (s : Bool) (m : Nat) (n : Int) (h : -9223372036854775808 ≤ n) (h' : n < 9223372036854775808) : PS Try.prog 3 [decA s m, .v (.int .i64 n)] (.v (.bool true)) := by
  cases hg : goodB s m
  · exact wholes_wrong s m n hg h h'
  · obtain ⟨z, e1, f1, _⟩ := decA_good hg
    rw [e1]
    exact wholes_right z n f1 h h'
theorem wholes_walk (s : Bool) (m : Nat) (n : Int) (hm : m < 340282366920938463463374607431768211456) (h : -9223372036854775808 ≤ n) (h' : n < 9223372036854775808) (w : World) :
    Calls Try.prog 3 #[(.agg #[.bool (s), .int .u64 ((hiN (m) : Nat) : Int), .int .u64 ((loN (m) : Nat) : Int)]), .int .i64 n] w fun e w' => e = .returned (.bool true) ∧ Ext w w' :=
  calls_of_ps Try.func3 (by kernel_rfl) rfl (wholes_any s m n h h') rfl (fun role w => args_of_two (rd_decA _ _ _ s hm) (.v rfl)) w

theorem i64_bounds {n : Int} (h : (Lit.int .i64 n).wf = true) : -9223372036854775808 ≤ n ∧ n < 9223372036854775808 := by
  simp [Lit.wf, IntKind.min, IntKind.max, IntKind.signed, IntKind.bits] at h; omega
set_option maxRecDepth 100000 in
theorem wholes_lifted (os : Os) (started : os.Started) (H : Type) (enc : TypeId × Value → H) :
    ReturnsInHanded {} Try.checked os 3 .any (Rows.decWholesSpec.pre6 enc Try.prog Try.f3 Rows.decWholesRow.domain false) (Rows.decWholesSpec.post enc Try.prog Try.f3 false true false false) := by
  refine returnsInHanded_of_change (C := Try.checked) dec_own started (by kernel_rfl) Try.func3
    (ChangeSpec.witness6 (enc := enc) (C := Try.checked) false ⟨#[], #[.agg #[.bool false, .int .u64 0, .int .u64 0], .int .i64 0], []⟩ 8 (by kernel_rfl) (by kernel_rfl) (by kernel_rfl) (by kernel_rfl)) ?_
  intro W base args ds gs before hval0 hW _ _
  have hval : ∀ (j : Nat) t v, Try.f3.params[j]? = some t → args[j]? = some v → Value.okWide Try.prog W .any base t v := hval0
  have hW' := hW
  obtain ⟨p, q, hA0, hV, rfl, hfz, hnd⟩ := hW
  have hA : DataW.TrodAll enc Try.prog W 0 (fun _ => true) true Try.f3.params.toList args.toList ds p := hA0
  rw [Try.params3] at hA hval
  obtain ⟨v0, v1, d0, d1, p0, p1, rfl, rfl, rfl, h0, h1⟩ := trodAll_two hA
  obtain ⟨rfl, rfl⟩ := trodVars_none hV
  obtain ⟨s0, m0, rfl, rfl, rfl, b0⟩ := dec_open (hval 0 24 v0 rfl rfl) h0
  obtain ⟨n, rfl, rfl, rfl, wn⟩ := open_int Try.underlying2 (hval 1 2 v1 rfl rfl) h1
  have bn := i64_bounds wn
  clear hA0 hval0
  simp only [List.append_nil] at hW'
  refine (wholes_walk s0 m0 n b0 bn.1 bn.2 W).mono fun e W' ⟨he, hx⟩ => ?_
  subst he
  exact ⟨_, rfl, _, _, _, [], [], [], hW', trodAll_mk1 (shut_bool Try.underlying4 _), trodAll_mk2 (dec_shut _ _ s0 m0 b0) (shut_int Try.underlying2 wn), rfl, Below.frame hx _, fun h => by cases h⟩

theorem decWholes_holds : Rows.DecWholesSaid :=
  OpenClaim.holds_of_wide 3 Try.f3 rfl rfl rfl rfl rfl rfl rfl ⟨rfl, rfl, rfl, rfl, rfl⟩ rfl rfl rfl rfl rfl (by kernel_rfl) Try.func3 (by kernel_rfl)
    (of_decide_eq_true (by kernel_rfl)) (by unfold Func.isWrapper; first | (rw [if_pos (by decide +kernel)]; kernel_rfl) | (rw [if_neg (by decide +kernel)]; exact ⟨rfl, rfl⟩))
    (fun os started H enc _ => wholes_lifted os started H enc)
end Go.Proofs.Ytnjhmlnmdnocmaa
