/-
  Whole of both, by numbers; fieldfareref01's plus, minus, Add, Cmp; the law's held.
-/
import Derived.Test.YtnjhmlnmdnocmaaDigG
namespace Go.Proofs.Ytnjhmlnmdnocmaa
set_option linter.unusedSimpArgs false
set_option linter.unusedVariables false
open Go.RowKit

structure Wh where
  i : Bool → Nat → Int
  b : Bool → Nat → Bool
def whR : Wh := ⟨whI, whB⟩
def refWholeC (N : Nums) (W : Wh) : Orc := fun _ ds K => match ds with
  | [.agg [.v (.bool b), .list false T es]] => T = 3 ∧ N.ok es ∧ K (.tup [.v (.int .i64 (W.i b (N.num es / 1000000))), .v (.bool (W.b b (N.num es / 1000000)))])
  | _ => False
theorem wholeTree_eq (b : Bool) (q : Nat) (hq : q < 18446744073709551616) (K : D → Prop) : wholeTree b (q : Int) K = K (.tup [.v (.int .i64 (whI b q)), .v (.bool (whB b q))]) := by
  unfold wholeTree whI whB
  cases b
  · by_cases h : q < 9223372036854775808
    · have h1 : decide ((q : Int) < 9223372036854775808) = true := by rw [decide_eq_true_eq]; omega
      have h2 : decide (q < 9223372036854775808) = true := by rw [decide_eq_true_eq]; omega
      have w : IntKind.i64.wrap (q : Int) = (q : Int) := wrap_small (by omega) (by omega)
      rw [h1, h2, w]; rfl
    · have h1 : decide ((q : Int) < 9223372036854775808) = false := by rw [decide_eq_false_iff_not]; omega
      have h2 : decide (q < 9223372036854775808) = false := by rw [decide_eq_false_iff_not]; omega
      rw [h1, h2]; rfl
  · by_cases h : q ≤ 9223372036854775808
    · have h1 : decide ((q : Int) ≤ 9223372036854775808) = true := by rw [decide_eq_true_eq]; omega
      have h2 : decide (q ≤ 9223372036854775808) = true := by rw [decide_eq_true_eq]; omega
      have w : IntKind.i64.wrap (IntKind.u64.wrap (0 - (q : Int))) = -(q : Int) := by rw [IntKind.wrap_u64, IntKind.wrap_i64]; omega
      rw [h1, h2, w]; rfl
    · have h1 : decide ((q : Int) ≤ 9223372036854775808) = false := by rw [decide_eq_false_iff_not]; omega
      have h2 : decide (q ≤ 9223372036854775808) = false := by rw [decide_eq_false_iff_not]; omega
      rw [h1, h2]; rfl
set_option maxRecDepth 100000 in
theorem refwhole_tree2 (N : Nums) (b : Bool) (es : List (List D)) (K : D → Prop) :
    callX Try.prog (ctxL [(41, lowerC N)] [(17, 6, fun _ _ => False)] 0) 2 17 [.agg [.v (.bool b), .list false 3 es]] K = (
    3 = 3 ∧ N.ok es ∧ bif decide (((N.dd (N.num es / 1000000)).length : Int) > 19) then K (.tup [.v (.int .i64 0), .v (.bool false)]) else False) := by kernel_rfl
theorem lowL_ok : ∀ x ∈ [(41, lowerC numsR)], Sound x.1 x.2 := by
  intro x hx
  obtain rfl := List.mem_singleton.1 hx
  exact lowerC_ok
theorem refWholeC_ok : Sound 17 (refWholeC numsR whR) := by
  intro ds K hK
  unfold refWholeC at hK
  split at hK
  · obtain ⟨rfl, ⟨n, rfl, hl⟩, hK⟩ := hK
    refine ⟨_, hK, fun K' h => ⟨rfl, ⟨n, rfl, hl⟩, h⟩, ?_⟩
    rename_i b
    have hd := dig_drop n 6
    rw [show n / 10 ^ 6 = n / 1000000 from rfl] at hd
    have hlen : (dig (n / 1000000)).length = (dig n).length - 6 := by rw [← hd, List.length_drop]
    have hj : IntKind.i64.wrap (((numsR.dd (numsR.num (dD (dig n)) / 1000000)).length : Nat) - 1) = (((dig (n / 1000000)).length : Nat) : Int) - 1 := by
      rw [nums_num', nums_dd, dD_len, wrap_small (by omega) (by omega)]
    by_cases h19 : (dig (n / 1000000)).length ≤ 19
    · have hq := (dig_len (n / 1000000) 19).1 h19
      have hr := wh_runs b (dD (dig n)) (dig (n / 1000000)) (dig_lt _) h19 _ (Nat.le_refl _)
      rw [List.drop_length, num_dig, show ((num [] : Nat) : Int) = 0 from rfl] at hr
      refine callX_eq (n := 2) (ctxL_ok (l := [(41, lowerC numsR)]) (ll := [(17, 6, onceL whJ (whS b (dD (dig n)) (numsR.dd (numsR.num (dD (dig n)) / 1000000)) 0 ((((dig (n / 1000000)).length : Nat) : Int) - 1)) (whS b (dD (dig n)) (numsR.dd (numsR.num (dD (dig n)) / 1000000)) ((n / 1000000 : Nat) : Int) (-1)) (.exit 0))]) (fuel := 0) lowL_ok ?_) ?_
      · intro x hx
        obtain rfl := List.mem_singleton.1 hx
        refine LoopSound.mk (n := 0) Try.func17 rfl (by kernel_rfl) (by kernel_rfl) ?_
        rw [nums_num', nums_dd]
        exact Runs.once none_ok (by kernel_rfl) hr
      · rw [refwhole_tree _ _ _ _ _ _ _ hj]
        refine ⟨rfl, ⟨n, rfl, hl⟩, ?_⟩
        rw [nums_num', nums_dd, dD_len]
        rw [show decide ((((dig (n / 1000000)).length : Nat) : Int) > 19) = false from by rw [decide_eq_false_iff_not]; omega]
        refine ⟨rfl, ?_⟩
        rw [wholeTree_eq b _ (by omega)]
        rfl
    · refine callX_eq (n := 2) (ctxL_ok (l := [(41, lowerC numsR)]) (ll := [(17, 6, fun _ _ => False)]) (fuel := 0) lowL_ok ?_) ?_
      · intro x hx
        obtain rfl := List.mem_singleton.1 hx
        exact LoopSound.mk (n := 0) Try.func17 rfl (by kernel_rfl) (by kernel_rfl) (fun _ _ h => h.elim)
      · rw [refwhole_tree2]
        refine ⟨rfl, ⟨n, rfl, hl⟩, ?_⟩
        rw [nums_num', nums_dd, dD_len]
        rw [show decide ((((dig (n / 1000000)).length : Nat) : Int) > 19) = true from by rw [decide_eq_true_eq]; omega]
        have hq : ¬ n / 1000000 < 10 ^ 19 := fun h => h19 ((dig_len _ 19).2 h)
        have hB : whB b (n / 1000000) = false := by
          unfold whB; cases b
          · rw [cond_false, decide_eq_false_iff_not]; omega
          · rw [cond_true, decide_eq_false_iff_not]; omega
        have hI : whI b (n / 1000000) = 0 := by unfold whI; rw [hB]; rfl
        show _ = D.tup [.v (.int .i64 (whI b (n / 1000000))), .v (.bool (whB b (n / 1000000)))]
        rw [hB, hI]
  · exact hK.elim

def wholeC (M : Ops) (W : Wh) (mq : Int → Int → Nat) : Orc := fun _ ds K => match one? ds with
  | some (s, x, y) => bif M.good s x y then K (.tup [.v (.int .i64 (W.i s (mq x y))), .v (.bool (W.b s (mq x y)))]) else K (.tup [.v (.int .i64 0), .v (.bool false)])
  | none => False
def wholeT (M : Ops) (W : Wh) (mq : Int → Int → Nat) : Orc := fun _ ds K => match one? ds with
  | some (s, x, y) => M.good s x y = true ∧ K (.tup [.v (.int .i64 (W.i s (mq x y))), .v (.bool (W.b s (mq x y)))])
  | none => False
def mqR (x y : Int) : Nat := magI x y / 1000000
theorem wholeT_to {M : Ops} {W : Wh} {mq : Int → Int → Nat} {f : Nat} {ds : List D} {K : D → Prop} (h : wholeT M W mq f ds K) : wholeC M W mq f ds K ∧ ∀ K' : D → Prop, wholeC M W mq f ds K' → wholeT M W mq f ds K' := by
  revert h; unfold wholeT wholeC; generalize one? ds = r; intro h
  match r, h with
  | none, h => exact h.elim
  | some (s, x, y), h => exact ⟨by simp only [h.1, cond_true]; exact h.2, fun K' hK => ⟨h.1, by simp only [h.1, cond_true] at hK; exact hK⟩⟩
theorem whole_val (s : Bool) (m : Nat) (hm : m < 1000000000000000000000000000000000000) (h : goodB s m = true) (w : World) :
    Calls Try.prog 11 #[(.agg #[.bool (s), .int .u64 ((hiN (m) : Nat) : Int), .int .u64 ((loN (m) : Nat) : Int)])] w fun e w' => e = .returned (.tuple #[.int .i64 (whI s (m / 1000000)), .bool (whB s (m / 1000000))]) ∧ Ext w w' := by
  have H1 := Lib.hid fun w => good_any s m w true h
  have H2 := Lib.hid fun w => div_mega m hm w
  clear h
  have hq := Nat.div_lt_of_lt_mul (show m < 1000000 * 1000000000000000000000000000000 by omega)
  by_cases hh : hiN (m / 1000000) = 0
  · have hne : ((hiN (m / 1000000) : Int) != 0) = false := by rw [hh]; rfl
    have hlo : loN (m / 1000000) = m / 1000000 := by unfold hiN at hh; unfold loN; omega
    cases s
    · by_cases hc : m / 1000000 < 9223372036854775808
      · have e := whole_d m _ _ 0 _ w H1 H2 hne (by rw [decide_eq_true_eq, hlo]; omega) rfl
        have w1 : IntKind.i64.wrap ((loN (m / 1000000) : Nat) : Int) = ((m / 1000000 : Nat) : Int) := by rw [hlo]; exact wrap_small (by omega) (by omega)
        rw [w1] at e
        have hB : whB false (m / 1000000) = true := by unfold whB; rw [cond_false, decide_eq_true_eq]; exact hc
        have hI : whI false (m / 1000000) = ((m / 1000000 : Nat) : Int) := by unfold whI; rw [hB]; rfl
        rw [hB, hI]; exact e
      · have e := whole_e m _ _ 0 0 w H1 H2 hne (by rw [decide_eq_false_iff_not, hlo]; omega)
        have hB : whB false (m / 1000000) = false := by unfold whB; rw [cond_false, decide_eq_false_iff_not]; exact hc
        have hI : whI false (m / 1000000) = 0 := by unfold whI; rw [hB]; rfl
        rw [hB, hI]; exact e
    · by_cases hc : m / 1000000 ≤ 9223372036854775808
      · have e := whole_b m _ _ _ _ w H1 H2 hne (by rw [decide_eq_true_eq, hlo]; omega) rfl rfl
        have w1 : IntKind.i64.wrap (IntKind.u64.wrap (-((loN (m / 1000000) : Nat) : Int))) = -((m / 1000000 : Nat) : Int) := by rw [hlo, IntKind.wrap_u64, IntKind.wrap_i64]; omega
        rw [w1] at e
        have hB : whB true (m / 1000000) = true := by unfold whB; rw [cond_true, decide_eq_true_eq]; exact hc
        have hI : whI true (m / 1000000) = -((m / 1000000 : Nat) : Int) := by unfold whI; rw [hB]; rfl
        rw [hB, hI]; exact e
      · have e := whole_c m _ _ 0 0 w H1 H2 hne (by rw [decide_eq_false_iff_not, hlo]; omega)
        have hB : whB true (m / 1000000) = false := by unfold whB; rw [cond_true, decide_eq_false_iff_not]; exact hc
        have hI : whI true (m / 1000000) = 0 := by unfold whI; rw [hB]; rfl
        rw [hB, hI]; exact e
  · have hne : ((hiN (m / 1000000) : Int) != 0) = true := by rw [bne_iff_ne]; omega
    have e := whole_a s m _ _ 0 0 w H1 H2 hne
    have hbig : 18446744073709551616 ≤ m / 1000000 := by unfold hiN at hh; omega
    have hB : whB s (m / 1000000) = false := by
      unfold whB; cases s
      · rw [cond_false, decide_eq_false_iff_not]; omega
      · rw [cond_true, decide_eq_false_iff_not]; omega
    have hI : whI s (m / 1000000) = 0 := by unfold whI; rw [hB]; rfl
    rw [hB, hI]; exact e
theorem wholeC_ok : Sound 11 (wholeC opsR whR mqR) := by
  refine sound1 (m := fun s x y K => bif goodI s x y then K (.tup [.v (.int .i64 (whI s (mqR x y))), .v (.bool (whB s (mqR x y)))]) else K (.tup [.v (.int .i64 0), .v (.bool false)])) (fun _ _ => rfl) fun s x y => Says.ite (fun hg => Says.ret (ps_one Try.func11 (by kernel_rfl) rfl fun m hm => ?_)) (fun hg => Says.ret (ps_one Try.func11 (by kernel_rfl) rfl fun m hm => ?_))
  · unfold goodI at hg; rw [← hm] at hg
    unfold mqR; rw [← hm]
    exact ⟨_, fun w => whole_val s m (good_lt hg) hg w, fun role w => rd_two (.v rfl) (.v rfl)⟩
  · unfold goodI at hg; rw [← hm] at hg
    exact ⟨_, fun w => whole_bad s m w hg, fun role w => rd_two (.v rfl) (.v rfl)⟩

def intT (M : Ops) : Orc := fun _ ds K => match ds with
  | [.v (.int .i64 n)] => M.isInt n = true ∧ K (decM M (M.int n))
  | _ => False
theorem fit_int {n : Int} (h : -9223372036854775808 ≤ n) (h' : n < 9223372036854775808) : fitB (n * 1000000) = true := fit_mk (by omega)
theorem intT_ok : Sound 10 (intT opsR) := by
  intro ds K hK
  unfold intT at hK
  split at hK
  · rename_i n
    obtain ⟨hn, hK⟩ := hK
    refine ⟨_, hK, fun K' h => ⟨hn, h⟩, ps_of_calls Try.func10 (by kernel_rfl) rfl fun role w args hsz hargs => ?_⟩
    obtain ⟨a, rfl, ha⟩ := args_one rfl hsz hargs
    obtain ⟨rfl, _⟩ := rd_v ha
    have hn' : (decide (-9223372036854775808 ≤ n) && decide (n < 9223372036854775808)) = true := hn
    simp only [Bool.and_eq_true, decide_eq_true_eq] at hn'
    have hf := fit_int hn'.1 hn'.2
    by_cases h0 : n < 0
    · obtain ⟨k, hk⟩ : ∃ k : Nat, n = -(k : Int) := ⟨n.natAbs, by omega⟩
      subst hk
      exact ⟨_, int_neg k (by omega) (by omega) w, fun w' => rd_decV _ _ _ hf (by symm; rw [decide_eq_true_eq]; omega) (by omega)⟩
    · obtain ⟨k, hk⟩ : ∃ k : Nat, n = (k : Int) := ⟨n.natAbs, by omega⟩
      subst hk
      exact ⟨_, int_pos k (by omega) w, fun w' => rd_decV _ _ _ hf (by symm; rw [decide_eq_false_iff_not]; omega) (by omega)⟩
  · exact hK.elim
theorem l_mag (z : Int) : magI (opsR.hi z) (opsR.lo z) = z.natAbs := magI_halves _
theorem l_numdd (k : Nat) : numsR.num (numsR.dd k) = k := nums_num' k
theorem l_ok {k : Nat} (h : k < 1000000000000000000000000000000000000) : numsR.ok (numsR.dd k) := ⟨k, rfl, by have := (dig_len k 36).2 h; omega⟩
theorem l_neg (z : Int) : (opsR.neg z).natAbs = z.natAbs ∧ opsR.sg (opsR.neg z) = (!opsR.sg z && !(z.natAbs == 0)) := by
  refine ⟨Int.natAbs_neg z, ?_⟩
  show decide (-z < 0) = (!decide (z < 0) && !(z.natAbs == 0))
  rw [Bool.eq_iff_iff]
  simp only [decide_eq_true_eq, Bool.and_eq_true, Bool.not_eq_true', beq_eq_false_iff_ne, decide_eq_false_iff_not]
  omega

def getI (es : List (List D)) (i : Int) : Int := intOf ((es.getD i.toNat []).getD 0 .undef)
/-- A place in a list of ints. -/
def inR (es : List (List D)) (i : Int) (X : Prop) : Prop := bif decide (0 ≤ i) && decide (i < es.length) then bif isD Try.prog 3 ((es.getD i.toNat []).getD 0 .undef) then X else False else False
/-- Room for one more. -/
def roomD (out : List (List D)) (x : Int) (X : Prop) : Prop := bif decide ((out.length + [[D.v (.int .i64 x)]].length) * (Try.prog.bytesOf 3 + 1) ≤ 70368744177664) then X else False
theorem getI_eq (l : List Nat) (i : Nat) (h : i < l.length) : getI (dD l) (i : Int) = ((l.getD i 0 : Nat) : Int) := by
  unfold getI; rw [Int.toNat_natCast, dD_get l i h]; rfl
theorem inR_eq (l : List Nat) (i : Nat) (h : i < l.length) (X : Prop) : inR (dD l) (i : Int) X = X := by
  unfold inR
  have g1 : decide ((i : Int) < (l.length : Nat)) = true := by rw [decide_eq_true_eq]; omega
  have g2 : decide (0 ≤ (i : Int)) = true := by rw [decide_eq_true_eq]; omega
  rw [dD_len, g1, g2, Int.toNat_natCast, dD_get l i h, is_int]
  rfl
theorem roomD_eq (out : List Nat) (h : out.length < 1000000) (x : Int) (X : Prop) : roomD (dD out) x X = X := by
  unfold roomD
  rw [dD_len, bytes_int]
  have : decide ((out.length + [[D.v (.int .i64 x)]].length) * (8 + 1) ≤ 70368744177664) = true := by
    simp only [List.length_singleton, decide_eq_true_eq]; omega
  rw [this]; rfl
theorem num_drop (l : List Nat) (i : Nat) : num (l.drop i) = l.getD i 0 + 10 * num (l.drop (i + 1)) := by
  by_cases h : i < l.length
  · rw [List.drop_eq_getElem_cons h, List.getD_eq_getElem?_getD, List.getElem?_eq_getElem h]; rfl
  · rw [List.drop_eq_nil_of_le (by omega), List.drop_eq_nil_of_le (by omega), List.getD_eq_getElem?_getD, List.getElem?_eq_none (by omega)]; rfl
theorem dig_at (l : List Nat) (hd : ∀ x ∈ l, x < 10) (i : Nat) : l.getD i 0 < 10 := by
  by_cases h : i < l.length
  · rw [List.getD_eq_getElem?_getD, List.getElem?_eq_getElem h]; exact hd _ (List.getElem_mem h)
  · rw [List.getD_eq_getElem?_getD, List.getElem?_eq_none (by omega)]; decide
theorem getD_out (l : List Nat) (i : Nat) (h : ¬ i < l.length) : l.getD i 0 = 0 := by
  rw [List.getD_eq_getElem?_getD, List.getElem?_eq_none (by omega)]; rfl

/-! ### plus -/
def plusS (es fs out : List (List D)) (c i : Int) : List D := [.list false 3 es, .list false 3 fs, .undef, .undef, .list true 3 [], .list true 3 out, .v (.int .i64 c), .v (.int .i64 i)] ++ List.replicate 45 .undef
def plusPut (es fs out : List (List D)) (c i : Int) (K : AExit → List D → Prop) : Prop := roomD out (c.tmod 10) (K .normal (plusS es fs (out ++ [[.v (.int .i64 (c.tmod 10))]]) (IntKind.i64.wrap (c.tdiv 10)) (IntKind.i64.wrap (i + 1))))
def plusB (es fs out : List (List D)) (c i : Int) (K : AExit → List D → Prop) : Prop := bif decide (i < fs.length) then inR fs i (plusPut es fs out (IntKind.i64.wrap (c + getI fs i)) i K) else plusPut es fs out c i K
def plusA (es fs out : List (List D)) (c i : Int) (K : AExit → List D → Prop) : Prop := bif decide (i < es.length) then inR es i (plusB es fs out (IntKind.i64.wrap (c + getI es i)) i K) else plusB es fs out c i K
set_option maxRecDepth 100000 in
theorem plus_round (es fs out : List (List D)) (c i : Int) (K : AExit → List D → Prop) :
    roundJ Try.prog (orcOf []) (fun _ _ _ => False) ([] ++ junk (loopN Try.f49 0)) (loopN Try.f49 0) (plusS es fs out c i) K = (
      bif decide (i < es.length) then plusA es fs out c i K else
        bif bif false then true else decide (i < fs.length) then plusA es fs out c i K else
          bif bif false then true else decide (c > 0) then plusA es fs out c i K else K (.exit 0) (plusS es fs out c i)) := by kernel_rfl
theorem plusPut_eq (l l' out : List Nat) (v i : Nat) (hv : v < 100) (ho : out.length < 1000000) (hi : i < 1000000) (K : AExit → List D → Prop) :
    plusPut (dD l) (dD l') (dD out) (v : Int) (i : Int) K = K .normal (plusS (dD l) (dD l') (dD (out ++ [v % 10])) ((v / 10 : Nat) : Int) ((i + 1 : Nat) : Int)) := by
  unfold plusPut
  rw [roomD_eq out ho]
  have w3 : ((v : Nat) : Int).tdiv 10 = ((v / 10 : Nat) : Int) := rfl
  have w4 : ((v : Nat) : Int).tmod 10 = ((v % 10 : Nat) : Int) := rfl
  have w6 : IntKind.i64.wrap ((i : Int) + 1) = ((i + 1 : Nat) : Int) := by rw [wrap_small (by omega) (by omega)]; omega
  rw [w3, w4, w6, wrap_small (by omega) (by omega), dD_app out [v % 10]]
  rfl
theorem plusB_eq (l l' out : List Nat) (hd : ∀ x ∈ l', x < 10) (v i : Nat) (hv : v < 50) (ho : out.length < 1000000) (hi : i < 1000000) (K : AExit → List D → Prop) :
    plusB (dD l) (dD l') (dD out) (v : Int) (i : Int) K = K .normal (plusS (dD l) (dD l') (dD (out ++ [(v + l'.getD i 0) % 10])) (((v + l'.getD i 0) / 10 : Nat) : Int) ((i + 1 : Nat) : Int)) := by
  unfold plusB
  have hx := dig_at l' hd i
  by_cases hl : i < l'.length
  · have g1 : decide ((i : Int) < (l'.length : Nat)) = true := by rw [decide_eq_true_eq]; omega
    rw [dD_len, g1, cond_true, getI_eq l' i hl, inR_eq l' i hl, wrap_small (by omega) (by omega), ← Int.natCast_add]
    exact plusPut_eq l l' out _ i (by omega) ho hi K
  · have g1 : decide ((i : Int) < (l'.length : Nat)) = false := by rw [decide_eq_false_iff_not]; omega
    rw [dD_len, g1, cond_false, getD_out l' i hl]
    exact plusPut_eq l l' out _ i (by omega) ho hi K
theorem plusA_eq (l l' out : List Nat) (hd : ∀ x ∈ l, x < 10) (hd' : ∀ x ∈ l', x < 10) (v i : Nat) (hv : v < 10) (ho : out.length < 1000000) (hi : i < 1000000) (K : AExit → List D → Prop) :
    plusA (dD l) (dD l') (dD out) (v : Int) (i : Int) K = K .normal (plusS (dD l) (dD l') (dD (out ++ [(v + l.getD i 0 + l'.getD i 0) % 10])) (((v + l.getD i 0 + l'.getD i 0) / 10 : Nat) : Int) ((i + 1 : Nat) : Int)) := by
  unfold plusA
  have hx := dig_at l hd i
  by_cases hl : i < l.length
  · have g1 : decide ((i : Int) < (l.length : Nat)) = true := by rw [decide_eq_true_eq]; omega
    rw [dD_len, g1, cond_true, getI_eq l i hl, inR_eq l i hl, wrap_small (by omega) (by omega), ← Int.natCast_add]
    exact plusB_eq l l' out hd' _ i (by omega) ho hi K
  · have g1 : decide ((i : Int) < (l.length : Nat)) = false := by rw [decide_eq_false_iff_not]; omega
    rw [dD_len, g1, cond_false, getD_out l i hl]
    exact plusB_eq l l' out hd' _ i (by omega) ho hi K
theorem plus_go (l l' out : List Nat) (hd : ∀ x ∈ l, x < 10) (hd' : ∀ x ∈ l', x < 10) (v i : Nat) (hv : v < 10) (ho : out.length < 1000000) (hi : i < 1000000) (h : i < l.length ∨ i < l'.length ∨ 0 < v) :
    Goes [] Try.f49 0 [] (plusS (dD l) (dD l') (dD out) (v : Int) (i : Int)) .normal
      (plusS (dD l) (dD l') (dD (out ++ [(v + l.getD i 0 + l'.getD i 0) % 10])) (((v + l.getD i 0 + l'.getD i 0) / 10 : Nat) : Int) ((i + 1 : Nat) : Int)) := by
  refine ⟨fun K hK => ?_⟩
  have hA := hK
  rw [← plusA_eq l l' out hd hd' v i hv ho hi K] at hA
  rw [plus_round, dD_len, dD_len]
  have c1 : decide ((i : Int) < (l.length : Nat)) = decide (i < l.length) := by rw [Bool.eq_iff_iff, decide_eq_true_eq, decide_eq_true_eq]; omega
  have c2 : decide ((i : Int) < (l'.length : Nat)) = decide (i < l'.length) := by rw [Bool.eq_iff_iff, decide_eq_true_eq, decide_eq_true_eq]; omega
  have c3 : decide ((v : Int) > 0) = decide (0 < v) := by rw [Bool.eq_iff_iff, decide_eq_true_eq, decide_eq_true_eq]; omega
  rw [c1, c2, c3]
  by_cases h1 : i < l.length
  · rw [decide_eq_true h1]; exact hA
  · rw [decide_eq_false h1]
    by_cases h2 : i < l'.length
    · rw [decide_eq_true h2]; exact hA
    · rw [decide_eq_false h2, decide_eq_true (show 0 < v by omega)]; exact hA
theorem plus_runs (l l' : List Nat) (hd : ∀ x ∈ l, x < 10) (hd' : ∀ x ∈ l', x < 10) (n : Nat) (hl : l.length ≤ n) (hl' : l'.length ≤ n) (hn : n < 500000) : ∀ (k i c : Nat) (out : List Nat), i + k = n + 1 → c ≤ 1 → (k = 0 → c = 0) → out.length = i → (∀ x ∈ out, x < 10) →
    num out + 10 ^ i * (c + num (l.drop i) + num (l'.drop i)) = num l + num l' →
    ∃ (m : Nat) (out' : List Nat) (j : Nat), Runs [] Try.f49 0 [] m (plusS (dD l) (dD l') (dD out) (c : Int) (i : Int)) (.exit 0) (plusS (dD l) (dD l') (dD out') 0 (j : Int)) ∧ (∀ x ∈ out', x < 10) ∧ out'.length ≤ n + 1 ∧ num out' = num l + num l' := by
  intro k
  induction k with
  | zero =>
    intro i c out hi _ hc ho hx hs
    obtain rfl := hc rfl
    refine ⟨1, out, i, Runs.stop ⟨fun K h => ?_⟩, hx, by omega, ?_⟩
    · rw [plus_round, dD_len, dD_len]
      have g1 : decide ((i : Int) < (l.length : Nat)) = false := by rw [decide_eq_false_iff_not]; omega
      have g2 : decide ((i : Int) < (l'.length : Nat)) = false := by rw [decide_eq_false_iff_not]; omega
      rw [g1, g2]
      exact h
    · rw [List.drop_eq_nil_of_le (by omega), List.drop_eq_nil_of_le (by omega)] at hs
      simpa [num] using hs
  | succ k ih =>
    intro i c out hi hc _ ho hx hs
    by_cases hgo : i < l.length ∨ i < l'.length ∨ 0 < c
    · have e1 := num_drop l i
      have e2 := num_drop l' i
      have b1 := dig_at l hd i
      have b2 := dig_at l' hd' i
      have hg := plus_go l l' out hd hd' c i (by omega) (by omega) (by omega) hgo
      have hk : k = 0 → (c + l.getD i 0 + l'.getD i 0) / 10 = 0 := by
        intro h0
        rw [getD_out l i (by omega), getD_out l' i (by omega)]; omega
      obtain ⟨m, out', j, h1, h2, h3, h4⟩ := ih (i + 1) ((c + l.getD i 0 + l'.getD i 0) / 10) (out ++ [(c + l.getD i 0 + l'.getD i 0) % 10]) (by omega) (by omega) hk (by simp [ho]) (by
        intro x hx'
        rcases List.mem_append.1 hx' with hx' | hx'
        · exact hx x hx'
        · obtain rfl := List.mem_singleton.1 hx'; omega) (by
        rw [← hs, num_app, ho, e1, e2, Nat.pow_succ]
        simp only [num]
        generalize l.getD i 0 = a
        generalize l'.getD i 0 = b
        generalize num (l.drop (i + 1)) = A
        generalize num (l'.drop (i + 1)) = B
        generalize 10 ^ i = t
        have hv : c + (a + 10 * A) + (b + 10 * B) = ((c + a + b) % 10 + 10 * 0) + 10 * ((c + a + b) / 10 + A + B) := by omega
        rw [Nat.mul_assoc t 10, Nat.add_assoc, ← Nat.mul_add, hv])
      exact ⟨m + 1, out', j, Runs.go hg h1, h2, h3, h4⟩
    · obtain rfl : c = 0 := by omega
      refine ⟨1, out, i, Runs.stop ⟨fun K h => ?_⟩, hx, by omega, ?_⟩
      · rw [plus_round, dD_len, dD_len]
        have g1 : decide ((i : Int) < (l.length : Nat)) = false := by rw [decide_eq_false_iff_not]; omega
        have g2 : decide ((i : Int) < (l'.length : Nat)) = false := by rw [decide_eq_false_iff_not]; omega
        rw [g1, g2]
        exact h
      · rw [List.drop_eq_nil_of_le (by omega), List.drop_eq_nil_of_le (by omega)] at hs
        simpa [num] using hs
def cutL (N : Nums) : List (Nat × Orc) := [(40, cutC N)]
theorem cutL_ok : ∀ x ∈ cutL numsR, Sound x.1 x.2 := by
  intro x hx
  obtain rfl := List.mem_singleton.1 hx
  exact cutC_ok
set_option maxRecDepth 100000 in
theorem plus_tree (N : Nums) (es fs out : List (List D)) (j : Int) (K : D → Prop) : callX Try.prog (ctxL (cutL N) [(49, 4, onceL [] (plusS es fs [] 0 0) (plusS es fs out 0 j) (.exit 0))] 0) 2 49 [.list false 3 es, .list false 3 fs] K = (
    plusS es fs [] 0 0 = plusS es fs [] 0 0 ∧ 3 = 3 ∧ N.okD out ∧ K (.list false 3 (N.dd (N.num out)))) := by kernel_rfl
theorem plus_ps (l l' : List Nat) (hd : ∀ x ∈ l, x < 10) (hd' : ∀ x ∈ l', x < 10) (hl : l.length < 100000) (hl' : l'.length < 100000) : PS Try.prog 49 [.list false 3 (dD l), .list false 3 (dD l')] (.list false 3 (dD (dig (num l + num l')))) := by
  obtain ⟨m, out, j, h1, h2, h3, h4⟩ := plus_runs l l' hd hd' 100000 (by omega) (by omega) (by omega) 100001 0 0 [] (by omega) (by omega) (by omega) rfl (by intro x hx; cases hx) (by simp [num])
  refine callX_eq (n := 2) (ctxL_ok (l := cutL numsR) (ll := [(49, 4, onceL [] (plusS (dD l) (dD l') [] 0 0) (plusS (dD l) (dD l') (dD out) 0 j) (.exit 0))]) (fuel := 0) cutL_ok ?_) ?_
  · intro x hx
    obtain rfl := List.mem_singleton.1 hx
    exact LoopSound.mk (n := 0) Try.func49 rfl (by kernel_rfl) (by kernel_rfl) (Runs.once none_ok (by kernel_rfl) h1)
  · rw [plus_tree, nums_num, nums_dd, h4]
    exact ⟨rfl, rfl, ⟨out, rfl, h2, by omega⟩, rfl⟩
def plusC (N : Nums) : Orc := fun _ ds K => match ds with
  | [.list false T es, .list false T' fs] => T = 3 ∧ T' = 3 ∧ N.ok es ∧ N.ok fs ∧ K (.list false 3 (N.dd (N.num es + N.num fs)))
  | _ => False
theorem plusC_ok : Sound 49 (plusC numsR) := by
  intro ds K hK
  unfold plusC at hK
  split at hK
  · obtain ⟨rfl, rfl, ⟨n, rfl, hl⟩, ⟨m, rfl, hm⟩, hK⟩ := hK
    refine ⟨_, hK, fun K' h => ⟨rfl, rfl, ⟨n, rfl, hl⟩, ⟨m, rfl, hm⟩, h⟩, ?_⟩
    have h := plus_ps (dig n) (dig m) (dig_lt n) (dig_lt m) hl hm
    rw [num_dig, num_dig] at h
    rw [nums_num', nums_num', nums_dd]
    exact h
  · exact hK.elim

/-! ### minus -/
def minusS (es fs out : List (List D)) (c i : Int) : List D := [.list false 3 es, .list false 3 fs, .undef, .undef, .list true 3 [], .list true 3 out, .v (.int .i64 c), .v (.int .i64 i)] ++ List.replicate 33 .undef
def minusPut (es fs out : List (List D)) (v c i : Int) (K : AExit → List D → Prop) : Prop := roomD out v (K .normal (minusS es fs (out ++ [[.v (.int .i64 v)]]) c (IntKind.i64.wrap (i + 1))))
def minusB (es fs out : List (List D)) (v i : Int) (K : AExit → List D → Prop) : Prop := bif decide (v < 0) then minusPut es fs out (IntKind.i64.wrap (v + 10)) 1 i K else minusPut es fs out v 0 i K
set_option maxRecDepth 100000 in
theorem minus_round (es fs out : List (List D)) (c i : Int) (K : AExit → List D → Prop) :
    roundJ Try.prog (orcOf []) (fun _ _ _ => False) ([8] ++ junk (loopN Try.f50 0)) (loopN Try.f50 0) (minusS es fs out c i) K = (
      bif decide (i < es.length) then inR es i (
        bif decide (i < fs.length) then inR fs i (minusB es fs out (IntKind.i64.wrap (IntKind.i64.wrap (getI es i - c) - getI fs i)) i K)
        else minusB es fs out (IntKind.i64.wrap (getI es i - c)) i K)
      else K (.exit 0) (minusS es fs out c i)) := by kernel_rfl
/-- A digit less another one and what is borrowed: the digit; what is borrowed of the next one. -/
def subD (a b : Nat) : Nat := if a < b then a + 10 - b else a - b
def subB (a b : Nat) : Nat := if a < b then 1 else 0
theorem minusB_eq (l l' out : List Nat) (a b i : Nat) (v : Int) (ha : a < 10) (hb : b ≤ 10) (hv : v = (a : Int) - b) (ho : out.length < 1000000) (hi : i < 1000000) (K : AExit → List D → Prop) :
    minusB (dD l) (dD l') (dD out) v (i : Int) K = K .normal (minusS (dD l) (dD l') (dD (out ++ [subD a b])) ((subB a b : Nat) : Int) ((i + 1 : Nat) : Int)) := by
  subst hv
  have w6 : IntKind.i64.wrap ((i : Int) + 1) = ((i + 1 : Nat) : Int) := by rw [wrap_small (by omega) (by omega)]; omega
  rw [dD_app out [subD a b]]
  unfold minusB minusPut
  rw [w6]
  by_cases hc : a < b
  · have g1 : decide ((a : Int) - b < 0) = true := by rw [decide_eq_true_eq]; omega
    have e1 : subD a b = a + 10 - b := if_pos hc
    have e2 : subB a b = 1 := if_pos hc
    rw [e1, e2, g1, cond_true, wrap_small (by omega) (by omega), roomD_eq out ho, show (a : Int) - b + 10 = ((a + 10 - b : Nat) : Int) by omega]
    rfl
  · have g1 : decide ((a : Int) - b < 0) = false := by rw [decide_eq_false_iff_not]; omega
    have e1 : subD a b = a - b := if_neg hc
    have e2 : subB a b = 0 := if_neg hc
    rw [e1, e2, g1, cond_false, roomD_eq out ho, show (a : Int) - b = ((a - b : Nat) : Int) by omega]
    rfl
theorem minus_go (l l' out : List Nat) (hd : ∀ x ∈ l, x < 10) (hd' : ∀ x ∈ l', x < 10) (c i : Nat) (hc : c ≤ 1) (ho : out.length < 1000000) (hi : i < 1000000) (h : i < l.length) :
    Goes [] Try.f50 0 [8] (minusS (dD l) (dD l') (dD out) (c : Int) (i : Int)) .normal
      (minusS (dD l) (dD l') (dD (out ++ [subD (l.getD i 0) (c + l'.getD i 0)])) ((subB (l.getD i 0) (c + l'.getD i 0) : Nat) : Int) ((i + 1 : Nat) : Int)) := by
  refine ⟨fun K hK => ?_⟩
  have b1 := dig_at l hd i
  have b2 := dig_at l' hd' i
  have g1 : decide ((i : Int) < (l.length : Nat)) = true := by rw [decide_eq_true_eq]; omega
  have w1 : IntKind.i64.wrap (((l.getD i 0 : Nat) : Int) - (c : Int)) = ((l.getD i 0 : Nat) : Int) - (c : Int) := wrap_small (by omega) (by omega)
  rw [minus_round, dD_len, dD_len, g1, cond_true, getI_eq l i h, w1, inR_eq l i h]
  by_cases h2 : i < l'.length
  · have g2 : decide ((i : Int) < (l'.length : Nat)) = true := by rw [decide_eq_true_eq]; omega
    rw [g2, cond_true, getI_eq l' i h2, wrap_small (by omega) (by omega), inR_eq l' i h2]
    rw [minusB_eq l l' out (l.getD i 0) (c + l'.getD i 0) i _ b1 (by omega) (by omega) ho hi K]
    exact hK
  · have g2 : decide ((i : Int) < (l'.length : Nat)) = false := by rw [decide_eq_false_iff_not]; omega
    rw [g2, cond_false]
    rw [getD_out l' i h2] at hK
    rw [minusB_eq l l' out (l.getD i 0) (c + 0) i _ b1 (by omega) (by omega) ho hi K]
    exact hK
theorem minus_runs (l l' : List Nat) (hd : ∀ x ∈ l, x < 10) (hd' : ∀ x ∈ l', x < 10) (hl : l.length < 500000) (hle : num l' ≤ num l) : ∀ (k i c : Nat) (out : List Nat), i + k = l.length → c ≤ 1 → out.length = i → (∀ x ∈ out, x < 10) →
    num out + num l' + 10 ^ i * num (l.drop i) = num l + 10 ^ i * (c + num (l'.drop i)) →
    ∃ (m : Nat) (out' : List Nat) (c' : Nat), Runs [] Try.f50 0 [8] m (minusS (dD l) (dD l') (dD out) (c : Int) (i : Int)) (.exit 0) (minusS (dD l) (dD l') (dD out') (c' : Int) (l.length : Int)) ∧ (∀ x ∈ out', x < 10) ∧ out'.length = l.length ∧ num out' = num l - num l' := by
  intro k
  induction k with
  | zero =>
    intro i c out hi hc ho hx hs
    obtain rfl : i = l.length := by omega
    refine ⟨1, out, c, Runs.stop ⟨fun K h => ?_⟩, hx, ho, ?_⟩
    · rw [minus_round, dD_len, dD_len]
      have g1 : decide ((l.length : Int) < (l.length : Nat)) = false := by rw [decide_eq_false_iff_not]; omega
      rw [g1]
      exact h
    · have hlt := num_lt out hx
      rw [ho] at hlt
      rw [List.drop_length] at hs
      rw [show num ([] : List Nat) = 0 from rfl, Nat.mul_zero] at hs
      generalize num (l'.drop l.length) = B at hs
      generalize 10 ^ l.length = t at hs hlt
      by_cases h0 : c + B = 0
      · rw [h0, Nat.mul_zero] at hs; omega
      · have := Nat.mul_le_mul_left t (show 1 ≤ c + B by omega)
        omega
  | succ k ih =>
    intro i c out hi hc ho hx hs
    have e1 := num_drop l i
    have e2 := num_drop l' i
    have b1 := dig_at l hd i
    have b2 := dig_at l' hd' i
    have hg := minus_go l l' out hd hd' c i hc (by omega) (by omega) (by omega)
    have hD : subD (l.getD i 0) (c + l'.getD i 0) + (c + l'.getD i 0) = l.getD i 0 + 10 * subB (l.getD i 0) (c + l'.getD i 0) := by unfold subD subB; split <;> omega
    have hD2 : subD (l.getD i 0) (c + l'.getD i 0) < 10 := by unfold subD; split <;> omega
    have hB : subB (l.getD i 0) (c + l'.getD i 0) ≤ 1 := by unfold subB; split <;> omega
    obtain ⟨m, out', c', h1, h2, h3, h4⟩ := ih (i + 1) (subB (l.getD i 0) (c + l'.getD i 0)) (out ++ [subD (l.getD i 0) (c + l'.getD i 0)]) (by omega) hB (by simp [ho]) (by
      intro x hx'
      rcases List.mem_append.1 hx' with hx' | hx'
      · exact hx x hx'
      · obtain rfl := List.mem_singleton.1 hx'; exact hD2) (by
      rw [e1, e2] at hs
      rw [num_app, ho, Nat.pow_succ]
      simp only [num]
      revert hs hD
      generalize subD (l.getD i 0) (c + l'.getD i 0) = x
      generalize subB (l.getD i 0) (c + l'.getD i 0) = y
      generalize l.getD i 0 = a
      generalize l'.getD i 0 = b
      generalize num (l.drop (i + 1)) = A
      generalize num (l'.drop (i + 1)) = B
      generalize 10 ^ i = t
      intro hs hD
      have h5 : t * (x + (c + b)) = t * (a + 10 * y) := congrArg (t * ·) hD
      simp only [Nat.mul_add, Nat.mul_assoc, Nat.mul_left_comm t 10, Nat.mul_zero, Nat.add_zero] at hs h5 ⊢
      omega)
    exact ⟨m + 1, out', c', Runs.go hg h1, h2, h3, h4⟩
set_option maxRecDepth 100000 in
theorem minus_tree (N : Nums) (es fs out : List (List D)) (c j : Int) (K : D → Prop) : callX Try.prog (ctxL (cutL N) [(50, 4, onceL [] (minusS es fs [] 0 0) (minusS es fs out c j) (.exit 0))] 0) 2 50 [.list false 3 es, .list false 3 fs] K = (
    minusS es fs [] 0 0 = minusS es fs [] 0 0 ∧ 3 = 3 ∧ N.okD out ∧ K (.list false 3 (N.dd (N.num out)))) := by kernel_rfl
theorem minus_ps (l l' : List Nat) (hd : ∀ x ∈ l, x < 10) (hd' : ∀ x ∈ l', x < 10) (hl : l.length < 100000) (hle : num l' ≤ num l) : PS Try.prog 50 [.list false 3 (dD l), .list false 3 (dD l')] (.list false 3 (dD (dig (num l - num l')))) := by
  obtain ⟨m, out, c, h1, h2, h3, h4⟩ := minus_runs l l' hd hd' (by omega) hle l.length 0 0 [] (by omega) (by omega) rfl (by intro x hx; cases hx) (by simp [num]; omega)
  refine callX_eq (n := 2) (ctxL_ok (l := cutL numsR) (ll := [(50, 4, onceL [] (minusS (dD l) (dD l') [] 0 0) (minusS (dD l) (dD l') (dD out) c l.length) (.exit 0))]) (fuel := 0) cutL_ok ?_) ?_
  · intro x hx
    obtain rfl := List.mem_singleton.1 hx
    exact LoopSound.mk (n := 0) Try.func50 rfl (by kernel_rfl) (by kernel_rfl) (Runs.once none_ok (by kernel_rfl) h1)
  · rw [minus_tree, nums_num, nums_dd, h4]
    exact ⟨rfl, rfl, ⟨out, rfl, h2, by omega⟩, rfl⟩
def minusC (N : Nums) : Orc := fun _ ds K => match ds with
  | [.list false T es, .list false T' fs] => T = 3 ∧ T' = 3 ∧ N.ok es ∧ N.ok fs ∧ N.num fs ≤ N.num es ∧ K (.list false 3 (N.dd (N.num es - N.num fs)))
  | _ => False
theorem minusC_ok : Sound 50 (minusC numsR) := by
  intro ds K hK
  unfold minusC at hK
  split at hK
  · obtain ⟨rfl, rfl, ⟨n, rfl, hl⟩, ⟨m, rfl, hm⟩, hle, hK⟩ := hK
    refine ⟨_, hK, fun K' h => ⟨rfl, rfl, ⟨n, rfl, hl⟩, ⟨m, rfl, hm⟩, hle, h⟩, ?_⟩
    rw [nums_num', nums_num'] at hle
    have h := minus_ps (dig n) (dig m) (dig_lt n) (dig_lt m) hl (by rw [num_dig, num_dig]; exact hle)
    rw [num_dig, num_dig] at h
    rw [nums_num', nums_num', nums_dd]
    exact h
  · exact hK.elim

/-! ### Add, Cmp; the law's held -/
/-- A sum's sign and magnitude, is it right, an order; as a variable, so that a run leaves them. -/
structure Sg where
  ng : Bool → Nat → Bool → Nat → Bool
  mg : Bool → Nat → Bool → Nat → Nat
  fit : Nat → Bool
  cm : Bool → Nat → Bool → Nat → Int
def sgR : Sg where
  ng b n c m := bif b == c then b && !(n + m == 0) else bif decide (n < m) then c && !(m - n == 0) else b && !(n - m == 0)
  mg b n c m := bif b == c then n + m else bif decide (n < m) then m - n else n - m
  fit k := decide (k < 1000000000000000000000000000000000000)
  cm b n c m := bif b == c && n == m then 0 else bif !(b == c) then (bif b then -1 else 1) else bif (!decide (n < m)) == b then -1 else 1
def heldN (N : Nums) (S : Sg) (s : Bool) (k : Nat) (K : D → Prop) : Prop :=
  bif S.fit k then K (.tup [.agg [.v (.bool s), .list false 3 (N.dd k)], .v (.int .i64 0)]) else K (.tup [.agg [.v (.bool false), .list false 3 []], .v (.int .i64 2)])
def refAddC (N : Nums) (S : Sg) : Orc := fun _ ds K => match ds with
  | [.agg [.v (.bool b), .list false T es], .agg [.v (.bool c), .list false T' fs]] => T = 3 ∧ T' = 3 ∧ N.ok es ∧ N.ok fs ∧ N.ok (N.dd (N.num es + N.num fs)) ∧ heldN N S (S.ng b (N.num es) c (N.num fs)) (S.mg b (N.num es) c (N.num fs)) K
  | _ => False
def refCmpC (N : Nums) (S : Sg) : Orc := fun _ ds K => match ds with
  | [.agg [.v (.bool b), .list false T es], .agg [.v (.bool c), .list false T' fs]] => T = 3 ∧ T' = 3 ∧ N.ok es ∧ N.ok fs ∧ K (.v (.int .i64 (S.cm b (N.num es) c (N.num fs))))
  | _ => False
def heldC (M : Ops) (N : Nums) (mag : Int → Int → Nat) : Orc := fun _ ds K => match ds with
  | [.agg [.v (.bool s), .v (.int .u64 x), .v (.int .u64 y)], .v .nilIface, .agg [.v (.bool b), .list false T es], .v (.int .i64 (.ofNat 0))] =>
    T = 3 ∧ M.good s x y = true ∧ N.ok (N.dd (mag x y)) ∧ N.ok es ∧ K (.v (.bool (s == b && N.num (N.dd (mag x y)) == N.num es)))
  | [.agg [.v (.bool false), .v (.int .u64 (.ofNat 0)), .v (.int .u64 (.ofNat 0))], .iface t (.v (.int .i64 (.ofNat 2))), .agg [.v (.bool _), .list false T _], .v (.int .i64 (.ofNat 2))] =>
    t = 68 ∧ T = 3 ∧ K (.v (.bool true))
  | _ => False
/-- Of numbers that aren't both right. -/
def addW (M : Ops) : Orc := fun _ ds K => match two? ds with
  | some (s, x, y, s', x', y') => (M.good s x y && M.good s' x' y') = false ∧ K (.tup [decZ, errD 1])
  | none => False
def cmpW (M : Ops) : Orc := fun _ ds K => match two? ds with
  | some (s, x, y, s', x', y') => (M.good s x y && M.good s' x' y') = false ∧ K (.v (.int .i64 0))
  | none => False
section
variable {M : Ops} {f : Nat} {ds : List D} {K : D → Prop}
theorem addW_to (h : addW M f ds K) : addC M f ds K ∧ ∀ K' : D → Prop, addC M f ds K' → addW M f ds K' := by
  revert h; unfold addW addC; generalize two? ds = r; intro h
  match r, h with
  | none, h => exact h.elim
  | some (s, x, y, s', x', y'), h => exact ⟨by simp only [h.1, cond_false]; exact h.2, fun K' hK => ⟨h.1, by simp only [h.1, cond_false] at hK; exact hK⟩⟩
theorem subW_to (h : addW M f ds K) : subC M f ds K ∧ ∀ K' : D → Prop, subC M f ds K' → addW M f ds K' := by
  revert h; unfold addW subC; generalize two? ds = r; intro h
  match r, h with
  | none, h => exact h.elim
  | some (s, x, y, s', x', y'), h => exact ⟨by simp only [h.1, cond_false]; exact h.2, fun K' hK => ⟨h.1, by simp only [h.1, cond_false] at hK; exact hK⟩⟩
theorem cmpW_to (h : cmpW M f ds K) : cmpC M f ds K ∧ ∀ K' : D → Prop, cmpC M f ds K' → cmpW M f ds K' := by
  revert h; unfold cmpW cmpC; generalize two? ds = r; intro h
  match r, h with
  | none, h => exact h.elim
  | some (s, x, y, s', x', y'), h => exact ⟨by simp only [h.1, cond_false]; exact h.2, fun K' hK => ⟨h.1, by simp only [h.1, cond_false] at hK; exact hK⟩⟩
end
def addL (N : Nums) : List (Nat × Orc) := [(42, lessC N), (43, signedC N), (49, plusC N), (50, minusC N)]
theorem addL_ok : ∀ x ∈ addL numsR, Sound x.1 x.2 := by
  intro x hx
  simp only [addL, List.mem_cons, List.not_mem_nil, or_false] at hx
  rcases hx with rfl | rfl | rfl | rfl
  · exact lessC_ok
  · exact signedC_ok
  · exact plusC_ok
  · exact minusC_ok
/-- What held gives of a sign and digits. -/
def heldT (b : Bool) (es : List (List D)) (K : D → Prop) : Prop :=
  bif decide (((es.length : Nat) : Int) > 36) then K (.tup [.agg [.v (.bool false), .list false 3 []], .v (.int .i64 2)]) else K (.tup [.agg [.v (.bool b), .list false 3 es], .v (.int .i64 0)])
set_option maxRecDepth 100000 in
theorem refadd_tree (N : Nums) (es fs : List (List D)) (b c : Bool) (K : D → Prop) : callX Try.prog (ctxL (addL N) [] 0) 3 29 [.agg [.v (.bool b), .list false 3 es], .agg [.v (.bool c), .list false 3 fs]] K = (
    bif b == c then 3 = 3 ∧ 3 = 3 ∧ N.ok es ∧ N.ok fs ∧ 3 = 3 ∧ N.ok (N.dd (N.num es + N.num fs)) ∧ heldT (b && !(N.num (N.dd (N.num es + N.num fs)) == 0)) (N.dd (N.num es + N.num fs)) K
    else 3 = 3 ∧ 3 = 3 ∧ N.ok es ∧ N.ok fs ∧ bif decide (N.num es < N.num fs) then
        3 = 3 ∧ 3 = 3 ∧ N.ok fs ∧ N.ok es ∧ N.num es ≤ N.num fs ∧ 3 = 3 ∧ N.ok (N.dd (N.num fs - N.num es)) ∧ heldT (c && !(N.num (N.dd (N.num fs - N.num es)) == 0)) (N.dd (N.num fs - N.num es)) K
      else 3 = 3 ∧ 3 = 3 ∧ N.ok es ∧ N.ok fs ∧ N.num fs ≤ N.num es ∧ 3 = 3 ∧ N.ok (N.dd (N.num es - N.num fs)) ∧ heldT (b && !(N.num (N.dd (N.num es - N.num fs)) == 0)) (N.dd (N.num es - N.num fs)) K) := by kernel_rfl
theorem heldT_eq (b : Bool) (k : Nat) (K : D → Prop) : heldT b (dD (dig k)) K = heldN numsR sgR b k K := by
  unfold heldT heldN
  rw [dD_len, nums_dd]
  have h := dig_len k 36
  rw [show (10 : Nat) ^ 36 = 1000000000000000000000000000000000000 from by decide] at h
  by_cases hk : k < 1000000000000000000000000000000000000
  · have h2 := h.2 hk
    have e1 : decide ((((dig k).length : Nat) : Int) > 36) = false := by rw [decide_eq_false_iff_not]; omega
    have e2 : sgR.fit k = true := decide_eq_true hk
    rw [e1, e2]; rfl
  · have h2 : ¬ (dig k).length ≤ 36 := fun hc => hk (h.1 hc)
    have e1 : decide ((((dig k).length : Nat) : Int) > 36) = true := by rw [decide_eq_true_eq]; omega
    have e2 : sgR.fit k = false := decide_eq_false hk
    rw [e1, e2]; rfl
theorem dig_mono {n m : Nat} (h : n ≤ m) : (dig n).length ≤ (dig m).length := (dig_len n _).2 (Nat.lt_of_le_of_lt h ((dig_len m _).1 (Nat.le_refl _)))
/-- A walk comes to what K says (a structure, so that the elaborator leaves it as it is). -/
structure Walks (C : Ctx) (n f : Nat) (ds : List D) (K : D → Prop) : Prop where
  out : callX Try.prog C n f ds K
theorem Walks.ps {C : Ctx} {n f : Nat} {ds : List D} {d : D} (hC : CtxOK Try.prog C) (h : Walks C n f ds fun x => x = d) : PS Try.prog f ds d := callX_eq hC h.out
theorem refAdd_says (b c : Bool) (n m : Nat) (hn : (dig n).length < 100000) (hm : (dig m).length < 100000) (hs : (dig (n + m)).length < 100000) (K : D → Prop) (h : heldN numsR sgR (sgR.ng b n c m) (sgR.mg b n c m) K) :
    Walks (ctxL (addL numsR) [] 0) 3 29 [.agg [.v (.bool b), .list false 3 (dD (dig n))], .agg [.v (.bool c), .list false 3 (dD (dig m))]] K := by
  refine ⟨?_⟩
  have okn : numsR.ok (dD (dig n)) := ⟨n, rfl, hn⟩
  have okm : numsR.ok (dD (dig m)) := ⟨m, rfl, hm⟩
  rw [refadd_tree]
  simp only [nums_num', nums_dd, heldT_eq, true_and]
  cases hb : b == c
  · have e1 : sgR.ng b n c m = bif decide (n < m) then c && !(m - n == 0) else b && !(n - m == 0) := by show (bif b == c then _ else _) = _; rw [hb]; rfl
    have e2 : sgR.mg b n c m = bif decide (n < m) then m - n else n - m := by show (bif b == c then _ else _) = _; rw [hb]; rfl
    rw [e1, e2] at h
    refine ⟨okn, okm, ?_⟩
    by_cases hlt : n < m
    · rw [decide_eq_true hlt] at h ⊢
      exact ⟨okm, okn, by omega, ⟨m - n, rfl, by have := dig_mono (show m - n ≤ m by omega); omega⟩, h⟩
    · rw [decide_eq_false hlt] at h ⊢
      exact ⟨okn, okm, by omega, ⟨n - m, rfl, by have := dig_mono (show n - m ≤ n by omega); omega⟩, h⟩
  · have e1 : sgR.ng b n c m = (b && !(n + m == 0)) := by show (bif b == c then _ else _) = _; rw [hb]; rfl
    have e2 : sgR.mg b n c m = n + m := by show (bif b == c then _ else _) = _; rw [hb]; rfl
    rw [e1, e2] at h
    exact ⟨okn, okm, ⟨n + m, rfl, hs⟩, h⟩
theorem refAddC_ok : Sound 29 (refAddC numsR sgR) := by
  intro ds K hK
  unfold refAddC at hK
  split at hK
  · obtain ⟨rfl, rfl, ⟨n, rfl, hl⟩, ⟨m, rfl, hm⟩, ⟨k, hk, hs⟩, hK⟩ := hK
    rename_i b c
    rw [nums_num', nums_num'] at hK hk
    rw [nums_dd] at hk
    have hk2 : k = n + m := by have := congrArg numsR.num hk; rw [nums_num', nums_num'] at this; exact this.symm
    subst hk2
    have key : ∀ d, (∀ K' : D → Prop, K' d → heldN numsR sgR (sgR.ng b n c m) (sgR.mg b n c m) K') → PS Try.prog 29 [.agg [.v (.bool b), .list false 3 (dD (dig n))], .agg [.v (.bool c), .list false 3 (dD (dig m))]] d :=
      fun d hd => by
        have hw := refAdd_says b c n m hl hm hs (fun x => x = d) (hd (fun x => x = d) rfl)
        exact Walks.ps (ctx0_ok addL_ok) hw
    have back : ∀ d, (∀ K' : D → Prop, K' d → heldN numsR sgR (sgR.ng b n c m) (sgR.mg b n c m) K') → ∀ K' : D → Prop, K' d → refAddC numsR sgR 29 [.agg [.v (.bool b), .list false 3 (dD (dig n))], .agg [.v (.bool c), .list false 3 (dD (dig m))]] K' := by
      intro d hd K' h
      refine ⟨rfl, rfl, ⟨n, rfl, hl⟩, ⟨m, rfl, hm⟩, ⟨n + m, ?_, hs⟩, ?_⟩
      · rw [nums_num', nums_num', nums_dd]
      · rw [nums_num', nums_num']; exact hd K' h
    unfold heldN at hK
    cases hf : sgR.fit (sgR.mg b n c m) with
    | true =>
      rw [hf] at hK
      have hd : ∀ K' : D → Prop, K' _ → heldN numsR sgR (sgR.ng b n c m) (sgR.mg b n c m) K' := fun K' h => by unfold heldN; rw [hf]; exact h
      exact ⟨_, hK, back _ hd, key _ hd⟩
    | false =>
      rw [hf] at hK
      have hd : ∀ K' : D → Prop, K' _ → heldN numsR sgR (sgR.ng b n c m) (sgR.mg b n c m) K' := fun K' h => by unfold heldN; rw [hf]; exact h
      exact ⟨_, hK, back _ hd, key _ hd⟩
  · exact hK.elim

def cmpL (N : Nums) : List (Nat × Orc) := [(18, sameC N), (42, lessC N)]
theorem cmpL_ok : ∀ x ∈ cmpL numsR, Sound x.1 x.2 := by
  intro x hx
  simp only [cmpL, List.mem_cons, List.not_mem_nil, or_false] at hx
  rcases hx with rfl | rfl
  · exact sameC_ok
  · exact lessC_ok
set_option maxRecDepth 100000 in
theorem refcmp_tree (N : Nums) (es fs : List (List D)) (b c : Bool) (K : D → Prop) : callX Try.prog (ctxL (cmpL N) [] 0) 3 31 [.agg [.v (.bool b), .list false 3 es], .agg [.v (.bool c), .list false 3 fs]] K = (
    3 = 3 ∧ 3 = 3 ∧ N.ok es ∧ N.ok fs ∧ bif b == c && N.num es == N.num fs then K (.v (.int .i64 0)) else
      bif !(b == c) then bif b then K (.v (.int .i64 (-1))) else K (.v (.int .i64 1))
      else 3 = 3 ∧ 3 = 3 ∧ N.ok es ∧ N.ok fs ∧ bif !(decide (N.num es < N.num fs) == b) then K (.v (.int .i64 (-1))) else K (.v (.int .i64 1))) := by kernel_rfl
theorem refCmpC_ok : Sound 31 (refCmpC numsR sgR) := by
  intro ds K hK
  unfold refCmpC at hK
  split at hK
  · obtain ⟨rfl, rfl, ⟨n, rfl, hl⟩, ⟨m, rfl, hm⟩, hK⟩ := hK
    refine ⟨_, hK, fun K' h => ⟨rfl, rfl, ⟨n, rfl, hl⟩, ⟨m, rfl, hm⟩, h⟩, ?_⟩
    rename_i b c
    refine callX_eq (n := 3) (C := ctxL (cmpL numsR) [] 0) (ctx0_ok cmpL_ok) ?_
    rw [refcmp_tree, nums_num', nums_num']
    refine ⟨rfl, rfl, ⟨n, rfl, hl⟩, ⟨m, rfl, hm⟩, ?_⟩
    have e : sgR.cm b n c m = bif b == c && n == m then 0 else bif !(b == c) then (bif b then -1 else 1) else bif (!decide (n < m)) == b then -1 else 1 := rfl
    rw [e]
    have e2 : (!(decide (n < m) == b)) = ((!decide (n < m)) == b) := by cases decide (n < m) <;> cases b <;> rfl
    rw [e2]
    cases b == c && n == m
    · cases hbc : b == c
      · cases b <;> rfl
      · refine ⟨rfl, rfl, ⟨n, rfl, hl⟩, ⟨m, rfl, hm⟩, ?_⟩
        cases (!decide (n < m)) == b <;> rfl
    · rfl
  · exact hK.elim

def heldL (M : Ops) (N : Nums) (mag : Int → Int → Nat) : List (Nat × Orc) := [(28, codeC), (12, goodC M), (16, ofO N mag), (18, sameC N)]
theorem heldL_ok : ∀ x ∈ heldL opsR numsR magI, Sound x.1 x.2 := by
  intro x hx
  simp only [heldL, List.mem_cons, List.not_mem_nil, or_false] at hx
  rcases hx with rfl | rfl | rfl | rfl
  · exact codeC_ok
  · exact goodC_ok
  · exact ofO_ok
  · exact sameC_ok
set_option maxRecDepth 100000 in
theorem held_tree (M : Ops) (N : Nums) (mag : Int → Int → Nat) (s : Bool) (x y : Int) (es : List (List D)) (b : Bool) (K : D → Prop) : callX Try.prog (ctxL (heldL M N mag) [] 0) 3 30 [.agg [.v (.bool s), .v (.int .u64 x), .v (.int .u64 y)], nilD, .agg [.v (.bool b), .list false 3 es], .v (.int .i64 0)] K = (
    bif bif true then M.good s x y else false then 3 = 3 ∧ 3 = 3 ∧ N.ok (N.dd (mag x y)) ∧ N.ok es ∧ bif bif true then s == b && N.num (N.dd (mag x y)) == N.num es else false then K (.v (.bool true)) else K (.v (.bool (bif false then true else false)))
    else K (.v (.bool (bif false then true else false)))) := by kernel_rfl
set_option maxRecDepth 100000 in
theorem held_tree2 (M : Ops) (N : Nums) (mag : Int → Int → Nat) (es : List (List D)) (b : Bool) (K : D → Prop) : callX Try.prog (ctxL (heldL M N mag) [] 0) 3 30 [decZ, errD 2, .agg [.v (.bool b), .list false 3 es], .v (.int .i64 2)] K = K (.v (.bool true)) := by kernel_rfl
theorem heldC_ok : Sound 30 (heldC opsR numsR magI) := by
  intro ds K hK
  unfold heldC at hK
  split at hK
  · obtain ⟨rfl, hg, h1, h2, hK⟩ := hK
    rename_i s x y b es
    refine ⟨_, hK, fun K' h => ⟨rfl, hg, h1, h2, h⟩, ?_⟩
    refine callX_eq (n := 3) (C := ctxL (heldL opsR numsR magI) [] 0) (ctx0_ok heldL_ok) ?_
    show callX Try.prog _ 3 _ [_, nilD, _, .v (.int .i64 0)] _
    rw [held_tree, hg]
    refine ⟨rfl, rfl, h1, h2, ?_⟩
    cases s == b && numsR.num (numsR.dd (magI x y)) == numsR.num es <;> rfl
  · obtain ⟨rfl, rfl, hK⟩ := hK
    refine ⟨_, hK, fun K' h => ⟨rfl, rfl, h⟩, ?_⟩
    refine callX_eq (n := 3) (C := ctxL (heldL opsR numsR magI) [] 0) (ctx0_ok heldL_ok) ?_
    show callX Try.prog _ 3 _ [decZ, errD 2, _, .v (.int .i64 2)] _
    rw [held_tree2]
  · exact hK.elim
end Go.Proofs.Ytnjhmlnmdnocmaa
