/-
  Whole of both, by numbers.
-/
import Derived.Test.YtnjhmlnmdnocmaaDigG
namespace Go.Proofs.Ytnjhmlnmdnocmaa
set_option linter.unusedSimpArgs false
set_option linter.unusedVariables false
open Go.RowKit

structure Wh where
  i : Bool → Nat → Int
  b : Bool → Nat → Bool
def whR : Wh := ⟨whI, whB⟩
def refWholeC (N : Nums) (W : Wh) : Orc := fun _ ds K => match ds with
  | [.agg [.v (.bool b), .list false T es]] => T = 3 ∧ N.ok es ∧ K (.tup [.v (.int .i64 (W.i b (N.num es / 1000000))), .v (.bool (W.b b (N.num es / 1000000)))])
  | _ => False
theorem wholeTree_eq (b : Bool) (q : Nat) (hq : q < 18446744073709551616) (K : D → Prop) : wholeTree b (q : Int) K = K (.tup [.v (.int .i64 (whI b q)), .v (.bool (whB b q))]) := by
  unfold wholeTree whI whB
  cases b
  · by_cases h : q < 9223372036854775808
    · have h1 : decide ((q : Int) < 9223372036854775808) = true := by rw [decide_eq_true_eq]; omega
      have h2 : decide (q < 9223372036854775808) = true := by rw [decide_eq_true_eq]; omega
      have w : IntKind.i64.wrap (q : Int) = (q : Int) := wrap_small (by omega) (by omega)
      rw [h1, h2, w]; rfl
    · have h1 : decide ((q : Int) < 9223372036854775808) = false := by rw [decide_eq_false_iff_not]; omega
      have h2 : decide (q < 9223372036854775808) = false := by rw [decide_eq_false_iff_not]; omega
      rw [h1, h2]; rfl
  · by_cases h : q ≤ 9223372036854775808
    · have h1 : decide ((q : Int) ≤ 9223372036854775808) = true := by rw [decide_eq_true_eq]; omega
      have h2 : decide (q ≤ 9223372036854775808) = true := by rw [decide_eq_true_eq]; omega
      have w : IntKind.i64.wrap (IntKind.u64.wrap (0 - (q : Int))) = -(q : Int) := by rw [IntKind.wrap_u64, IntKind.wrap_i64]; omega
      rw [h1, h2, w]; rfl
    · have h1 : decide ((q : Int) ≤ 9223372036854775808) = false := by rw [decide_eq_false_iff_not]; omega
      have h2 : decide (q ≤ 9223372036854775808) = false := by rw [decide_eq_false_iff_not]; omega
      rw [h1, h2]; rfl
set_option maxRecDepth 100000 in
theorem refwhole_tree2 (N : Nums) (b : Bool) (es : List (List D)) (K : D → Prop) :
    callX Try.prog (ctxL [(41, lowerC N)] [(17, 6, fun _ _ => False)] 0) 2 17 [.agg [.v (.bool b), .list false 3 es]] K = (
    3 = 3 ∧ N.ok es ∧ bif decide (((N.dd (N.num es / 1000000)).length : Int) > 19) then K (.tup [.v (.int .i64 0), .v (.bool false)]) else False) := by kernel_rfl
theorem lowL_ok : ∀ x ∈ [(41, lowerC numsR)], Sound x.1 x.2 := by
  intro x hx
  obtain rfl := List.mem_singleton.1 hx
  exact lowerC_ok
theorem refWholeC_ok : Sound 17 (refWholeC numsR whR) := by
  intro ds K hK
  unfold refWholeC at hK
  split at hK
  · obtain ⟨rfl, ⟨n, rfl, hl⟩, hK⟩ := hK
    refine ⟨_, hK, fun K' h => ⟨rfl, ⟨n, rfl, hl⟩, h⟩, ?_⟩
    rename_i b
    have hd := dig_drop n 6
    rw [show n / 10 ^ 6 = n / 1000000 from rfl] at hd
    have hlen : (dig (n / 1000000)).length = (dig n).length - 6 := by rw [← hd, List.length_drop]
    have hj : IntKind.i64.wrap (((numsR.dd (numsR.num (dD (dig n)) / 1000000)).length : Nat) - 1) = (((dig (n / 1000000)).length : Nat) : Int) - 1 := by
      rw [nums_num', nums_dd, dD_len, wrap_small (by omega) (by omega)]
    by_cases h19 : (dig (n / 1000000)).length ≤ 19
    · have hq := (dig_len (n / 1000000) 19).1 h19
      have hr := wh_runs b (dD (dig n)) (dig (n / 1000000)) (dig_lt _) h19 _ (Nat.le_refl _)
      rw [List.drop_length, num_dig, show ((num [] : Nat) : Int) = 0 from rfl] at hr
      refine callX_eq (n := 2) (ctxL_ok (l := [(41, lowerC numsR)]) (ll := [(17, 6, onceL whJ (whS b (dD (dig n)) (numsR.dd (numsR.num (dD (dig n)) / 1000000)) 0 ((((dig (n / 1000000)).length : Nat) : Int) - 1)) (whS b (dD (dig n)) (numsR.dd (numsR.num (dD (dig n)) / 1000000)) ((n / 1000000 : Nat) : Int) (-1)) (.exit 0))]) (fuel := 0) lowL_ok ?_) ?_
      · intro x hx
        obtain rfl := List.mem_singleton.1 hx
        refine LoopSound.mk (n := 0) Try.func17 rfl (by kernel_rfl) (by kernel_rfl) ?_
        rw [nums_num', nums_dd]
        exact Runs.once none_ok (by kernel_rfl) hr
      · rw [refwhole_tree _ _ _ _ _ _ _ hj]
        refine ⟨rfl, ⟨n, rfl, hl⟩, ?_⟩
        rw [nums_num', nums_dd, dD_len]
        rw [show decide ((((dig (n / 1000000)).length : Nat) : Int) > 19) = false from by rw [decide_eq_false_iff_not]; omega]
        refine ⟨rfl, ?_⟩
        rw [wholeTree_eq b _ (by omega)]
        rfl
    · refine callX_eq (n := 2) (ctxL_ok (l := [(41, lowerC numsR)]) (ll := [(17, 6, fun _ _ => False)]) (fuel := 0) lowL_ok ?_) ?_
      · intro x hx
        obtain rfl := List.mem_singleton.1 hx
        exact LoopSound.mk (n := 0) Try.func17 rfl (by kernel_rfl) (by kernel_rfl) (fun _ _ h => h.elim)
      · rw [refwhole_tree2]
        refine ⟨rfl, ⟨n, rfl, hl⟩, ?_⟩
        rw [nums_num', nums_dd, dD_len]
        rw [show decide ((((dig (n / 1000000)).length : Nat) : Int) > 19) = true from by rw [decide_eq_true_eq]; omega]
        have hq : ¬ n / 1000000 < 10 ^ 19 := fun h => h19 ((dig_len _ 19).2 h)
        have hB : whB b (n / 1000000) = false := by
          unfold whB; cases b
          · rw [cond_false, decide_eq_false_iff_not]; omega
          · rw [cond_true, decide_eq_false_iff_not]; omega
        have hI : whI b (n / 1000000) = 0 := by unfold whI; rw [hB]; rfl
        show _ = D.tup [.v (.int .i64 (whI b (n / 1000000))), .v (.bool (whB b (n / 1000000)))]
        rw [hB, hI]
  · exact hK.elim

def wholeC (M : Ops) (W : Wh) (mq : Int → Int → Nat) : Orc := fun _ ds K => match one? ds with
  | some (s, x, y) => bif M.good s x y then K (.tup [.v (.int .i64 (W.i s (mq x y))), .v (.bool (W.b s (mq x y)))]) else K (.tup [.v (.int .i64 0), .v (.bool false)])
  | none => False
def wholeT (M : Ops) (W : Wh) (mq : Int → Int → Nat) : Orc := fun _ ds K => match one? ds with
  | some (s, x, y) => M.good s x y = true ∧ K (.tup [.v (.int .i64 (W.i s (mq x y))), .v (.bool (W.b s (mq x y)))])
  | none => False
def mqR (x y : Int) : Nat := magI x y / 1000000
theorem wholeT_to {M : Ops} {W : Wh} {mq : Int → Int → Nat} {f : Nat} {ds : List D} {K : D → Prop} (h : wholeT M W mq f ds K) : wholeC M W mq f ds K ∧ ∀ K' : D → Prop, wholeC M W mq f ds K' → wholeT M W mq f ds K' := by
  revert h; unfold wholeT wholeC; generalize one? ds = r; intro h
  match r, h with
  | none, h => exact h.elim
  | some (s, x, y), h => exact ⟨by simp only [h.1, cond_true]; exact h.2, fun K' hK => ⟨h.1, by simp only [h.1, cond_true] at hK; exact hK⟩⟩
theorem whole_val (s : Bool) (m : Nat) (hm : m < 1000000000000000000000000000000000000) (h : goodB s m = true) (w : World) :
    Calls Try.prog 11 #[(.agg #[.bool (s), .int .u64 ((hiN (m) : Nat) : Int), .int .u64 ((loN (m) : Nat) : Int)])] w fun e w' => e = .returned (.tuple #[.int .i64 (whI s (m / 1000000)), .bool (whB s (m / 1000000))]) ∧ Ext w w' := by
  have H1 := Lib.hid fun w => good_any s m w true h
  have H2 := Lib.hid fun w => div_mega m hm w
  clear h
  have hq := Nat.div_lt_of_lt_mul (show m < 1000000 * 1000000000000000000000000000000 by omega)
  by_cases hh : hiN (m / 1000000) = 0
  · have hne : ((hiN (m / 1000000) : Int) != 0) = false := by rw [hh]; rfl
    have hlo : loN (m / 1000000) = m / 1000000 := by unfold hiN at hh; unfold loN; omega
    cases s
    · by_cases hc : m / 1000000 < 9223372036854775808
      · have e := whole_d m _ _ 0 _ w H1 H2 hne (by rw [decide_eq_true_eq, hlo]; omega) rfl
        have w1 : IntKind.i64.wrap ((loN (m / 1000000) : Nat) : Int) = ((m / 1000000 : Nat) : Int) := by rw [hlo]; exact wrap_small (by omega) (by omega)
        rw [w1] at e
        have hB : whB false (m / 1000000) = true := by unfold whB; rw [cond_false, decide_eq_true_eq]; exact hc
        have hI : whI false (m / 1000000) = ((m / 1000000 : Nat) : Int) := by unfold whI; rw [hB]; rfl
        rw [hB, hI]; exact e
      · have e := whole_e m _ _ 0 0 w H1 H2 hne (by rw [decide_eq_false_iff_not, hlo]; omega)
        have hB : whB false (m / 1000000) = false := by unfold whB; rw [cond_false, decide_eq_false_iff_not]; exact hc
        have hI : whI false (m / 1000000) = 0 := by unfold whI; rw [hB]; rfl
        rw [hB, hI]; exact e
    · by_cases hc : m / 1000000 ≤ 9223372036854775808
      · have e := whole_b m _ _ _ _ w H1 H2 hne (by rw [decide_eq_true_eq, hlo]; omega) rfl rfl
        have w1 : IntKind.i64.wrap (IntKind.u64.wrap (-((loN (m / 1000000) : Nat) : Int))) = -((m / 1000000 : Nat) : Int) := by rw [hlo, IntKind.wrap_u64, IntKind.wrap_i64]; omega
        rw [w1] at e
        have hB : whB true (m / 1000000) = true := by unfold whB; rw [cond_true, decide_eq_true_eq]; exact hc
        have hI : whI true (m / 1000000) = -((m / 1000000 : Nat) : Int) := by unfold whI; rw [hB]; rfl
        rw [hB, hI]; exact e
      · have e := whole_c m _ _ 0 0 w H1 H2 hne (by rw [decide_eq_false_iff_not, hlo]; omega)
        have hB : whB true (m / 1000000) = false := by unfold whB; rw [cond_true, decide_eq_false_iff_not]; exact hc
        have hI : whI true (m / 1000000) = 0 := by unfold whI; rw [hB]; rfl
        rw [hB, hI]; exact e
  · have hne : ((hiN (m / 1000000) : Int) != 0) = true := by rw [bne_iff_ne]; omega
    have e := whole_a s m _ _ 0 0 w H1 H2 hne
    have hbig : 18446744073709551616 ≤ m / 1000000 := by unfold hiN at hh; omega
    have hB : whB s (m / 1000000) = false := by
      unfold whB; cases s
      · rw [cond_false, decide_eq_false_iff_not]; omega
      · rw [cond_true, decide_eq_false_iff_not]; omega
    have hI : whI s (m / 1000000) = 0 := by unfold whI; rw [hB]; rfl
    rw [hB, hI]; exact e
theorem wholeC_ok : Sound 11 (wholeC opsR whR mqR) := by
  refine sound1 (m := fun s x y K => bif goodI s x y then K (.tup [.v (.int .i64 (whI s (mqR x y))), .v (.bool (whB s (mqR x y)))]) else K (.tup [.v (.int .i64 0), .v (.bool false)])) (fun _ _ => rfl) fun s x y => Says.ite (fun hg => Says.ret (ps_one Try.func11 (by kernel_rfl) rfl fun m hm => ?_)) (fun hg => Says.ret (ps_one Try.func11 (by kernel_rfl) rfl fun m hm => ?_))
  · unfold goodI at hg; rw [← hm] at hg
    unfold mqR; rw [← hm]
    exact ⟨_, fun w => whole_val s m (good_lt hg) hg w, fun role w => rd_two (.v rfl) (.v rfl)⟩
  · unfold goodI at hg; rw [← hm] at hg
    exact ⟨_, fun w => whole_bad s m w hg, fun role w => rd_two (.v rfl) (.v rfl)⟩

def intT (M : Ops) : Orc := fun _ ds K => match ds with
  | [.v (.int .i64 n)] => M.isInt n = true ∧ K (decM M (M.int n))
  | _ => False
theorem fit_int {n : Int} (h : -9223372036854775808 ≤ n) (h' : n < 9223372036854775808) : fitB (n * 1000000) = true := fit_mk (by omega)
theorem intT_ok : Sound 10 (intT opsR) := by
  intro ds K hK
  unfold intT at hK
  split at hK
  · rename_i n
    obtain ⟨hn, hK⟩ := hK
    refine ⟨_, hK, fun K' h => ⟨hn, h⟩, ps_of_calls Try.func10 (by kernel_rfl) rfl fun role w args hsz hargs => ?_⟩
    obtain ⟨a, rfl, ha⟩ := args_one rfl hsz hargs
    obtain ⟨rfl, _⟩ := rd_v ha
    have hn' : (decide (-9223372036854775808 ≤ n) && decide (n < 9223372036854775808)) = true := hn
    simp only [Bool.and_eq_true, decide_eq_true_eq] at hn'
    have hf := fit_int hn'.1 hn'.2
    by_cases h0 : n < 0
    · obtain ⟨k, hk⟩ : ∃ k : Nat, n = -(k : Int) := ⟨n.natAbs, by omega⟩
      subst hk
      exact ⟨_, int_neg k (by omega) (by omega) w, fun w' => rd_decV _ _ _ hf (by symm; rw [decide_eq_true_eq]; omega) (by omega)⟩
    · obtain ⟨k, hk⟩ : ∃ k : Nat, n = (k : Int) := ⟨n.natAbs, by omega⟩
      subst hk
      exact ⟨_, int_pos k (by omega) w, fun w' => rd_decV _ _ _ hf (by symm; rw [decide_eq_false_iff_not]; omega) (by omega)⟩
  · exact hK.elim
end Go.Proofs.Ytnjhmlnmdnocmaa
