/-
  Digits, rounds, contexts; contracts of dec.Whole, dec.Int. For every seat that holds dec.
-/
import Derived.Test.YtlfdelobjbdimaaDoorCtx
set_option maxRecDepth 20000
namespace Go.Proofs.YtlfdelobjbdimaaDoor
set_option linter.unusedSimpArgs false
set_option linter.unusedVariables false
open Go.RowKit

/-- A number's digits, the least first, without a 0 as greatest. -/
def dig (n : Nat) : List Nat := if h : n = 0 then [] else n % 10 :: dig (n / 10)
termination_by n
decreasing_by omega
theorem dig_zero : dig 0 = [] := by rw [dig]; simp
theorem dig_pos {n : Nat} (h : n ≠ 0) : dig n = n % 10 :: dig (n / 10) := by rw [dig]; simp [h]
theorem dig_lt : ∀ (n x : Nat), x ∈ dig n → x < 10 := by
  intro n
  induction n using Nat.strongRecOn with
  | ind n ih =>
    intro x hx
    by_cases h : n = 0
    · subst h; rw [dig_zero] at hx; cases hx
    · rw [dig_pos h] at hx
      rcases List.mem_cons.1 hx with rfl | hx
      · omega
      · exact ih (n / 10) (by omega) x hx
/-- The number of digits. -/
def num : List Nat → Nat
  | [] => 0
  | x :: l => x + 10 * num l
theorem num_dig (n : Nat) : num (dig n) = n := by
  induction n using Nat.strongRecOn with
  | ind n ih =>
    by_cases h : n = 0
    · subst h; rw [dig_zero]; rfl
    · rw [dig_pos h]; simp only [num]; rw [ih (n / 10) (by omega)]; omega
theorem dig_len (n k : Nat) : (dig n).length ≤ k ↔ n < 10 ^ k := by
  induction k generalizing n with
  | zero =>
    by_cases h : n = 0
    · subst h; rw [dig_zero]; simp
    · rw [dig_pos h]; simp; omega
  | succ k ih =>
    by_cases h : n = 0
    · subst h; rw [dig_zero]; simp [Nat.pow_pos]
    · rw [dig_pos h]
      simp only [List.length_cons, Nat.add_le_add_iff_right]
      rw [ih, Nat.pow_succ]; omega

def dD (l : List Nat) : List (List D) := l.map fun (x : Nat) => [D.v (.int .i64 (x : Int))]
theorem dD_len (l : List Nat) : (dD l).length = l.length := by simp [dD]
theorem dD_app (l r : List Nat) : dD (l ++ r) = dD l ++ dD r := by simp [dD]
theorem dD_at (p r : List Nat) (x : Nat) (i : Int) (hi : i = (p.length : Int)) : ((dD (p ++ x :: r)).getD i.toNat []).getD 0 .undef = .v (.int .i64 (x : Int)) := by
  subst hi
  simp [dD]
theorem is_int (x : Int) : isD Tryd.prog 3 (.v (.int .i64 x)) = true := by kernel_rfl
theorem bytes_int : Tryd.prog.bytesOf 3 = 8 := by kernel_rfl
theorem intOf_v (x : Int) : intOf (.v (.int .i64 x)) = x := rfl
theorem wrap_small {x : Int} (h : -9223372036854775808 ≤ x) (h' : x < 9223372036854775808) : IntKind.i64.wrap x = x := by rw [IntKind.wrap_i64]; omega
/-- No contracts. -/
theorem no_orc : OrcOK Tryd.prog fun _ _ _ => False := fun _ _ _ h => h.elim

abbrev LO := List D → (AExit → List D → Prop) → Prop
/-- A loop that leads from one frame to another, but for some temporaries. -/
def onceL (j : List Nat) (s0 s1 : List D) (e : AExit) : LO := fun s K => kill j s = s0 ∧ K e s1
theorem onceL_ok {j j' : List Nat} {c : Code} {s0 s1 : List D} {e : AExit} {n : Nat} (hL : loopsOf c = []) (h : RoundsJ Tryd.prog (fun _ _ _ => False) (fun _ _ _ => False) j' c n s0 e s1) : LoopOK Tryd.prog c (onceL j s0 s1 e) :=
  loopJ_ok no_orc prog_mixed j j' (by rw [hL]; intro x hx; cases hx) fun s K hK => ⟨e, s1, hK.2, fun K' h' => ⟨hK.1, h'⟩, n, by rw [hK.1]; exact h⟩

theorem dD_get (l : List Nat) (k : Nat) (h : k < l.length) : ((dD l).getD k []).getD 0 .undef = .v (.int .i64 ((l.getD k 0 : Nat) : Int)) := by
  simp [dD, h]
theorem dD_take (l : List Nat) (k : Nat) : (dD l).take k = dD (l.take k) := by simp [dD, List.map_take]
def natsOf (es : List (List D)) : List Nat := es.map fun c => match c with
  | [.v (.int _ x)] => x.toNat
  | _ => 0
/-- The contracts of a list, as they are called. -/
def orcOf (l : List (Nat × Orc)) : Orc := fun f ds K => match lookO l f with
  | some o => o f ds K
  | none => False
theorem orcOf_ok {l : List (Nat × Orc)} (h : ∀ x ∈ l, Sound x.1 x.2) : OrcOK Tryd.prog (orcOf l) := fun f ds K hK => by
  unfold orcOf at hK
  cases ho : lookO l f with
  | none => rw [ho] at hK; exact hK.elim
  | some o =>
    rw [ho] at hK
    obtain ⟨d, h1, h2, h3⟩ := h _ (lookO_mem ho) ds K hK
    exact ⟨d, h1, fun K' h' => by unfold orcOf; rw [ho]; exact h2 K' h', h3⟩
theorem onceO_ok {l : List (Nat × Orc)} (hl : ∀ x ∈ l, Sound x.1 x.2) {j j' : List Nat} {c : Code} {s0 s1 : List D} {e : AExit} {n : Nat} (hL : loopsOf c = []) (h : RoundsJ Tryd.prog (orcOf l) (fun _ _ _ => False) j' c n s0 e s1) : LoopOK Tryd.prog c (onceL j s0 s1 e) :=
  loopJ_ok (orcOf_ok hl) prog_mixed j j' (by rw [hL]; intro x hx; cases hx) fun s K hK => ⟨e, s1, hK.2, fun K' h' => ⟨hK.1, h'⟩, n, by rw [hK.1]; exact h⟩

/-- A round of a function's loop leads from a frame to a frame. -/
structure Goes (l : List (Nat × Orc)) (f : Func) (n : Nat) (j : List Nat) (s : List D) (e : AExit) (s' : List D) : Prop where
  out : ∀ K : AExit → List D → Prop, K e s' → roundJ Tryd.prog (orcOf l) (fun _ _ _ => False) (j ++ junk (loopN f n)) (loopN f n) s K
/-- So many rounds do. -/
structure Runs (l : List (Nat × Orc)) (f : Func) (n : Nat) (j : List Nat) (k : Nat) (s : List D) (e : AExit) (s' : List D) : Prop where
  out : RoundsJ Tryd.prog (orcOf l) (fun _ _ _ => False) (j ++ junk (loopN f n)) (loopN f n) k s e s'
theorem Runs.go {l : List (Nat × Orc)} {f : Func} {n : Nat} {j : List Nat} {k : Nat} {s s1 s' : List D} {e : AExit} (h : Goes l f n j s .normal s1) (h2 : Runs l f n j k s1 e s') : Runs l f n j (k + 1) s e s' := ⟨by
  unfold RoundsJ; exact h.out _ h2.out⟩
theorem Runs.stop {l : List (Nat × Orc)} {f : Func} {n : Nat} {j : List Nat} {k : Nat} {s s' : List D} {id : Nat} (h : Goes l f n j s (.exit id) s') : Runs l f n j (k + 1) s (.exit id) s' := ⟨by
  unfold RoundsJ; exact h.out _ ⟨rfl, rfl⟩⟩
theorem Runs.ret {l : List (Nat × Orc)} {f : Func} {n : Nat} {j : List Nat} {k : Nat} {s s' : List D} (h : Goes l f n j s .ret s') : Runs l f n j (k + 1) s .ret s' := ⟨by
  unfold RoundsJ; exact h.out _ ⟨rfl, rfl⟩⟩
theorem Runs.once {l : List (Nat × Orc)} (hl : ∀ x ∈ l, Sound x.1 x.2) {f : Func} {n : Nat} {j j' : List Nat} {k : Nat} {s s' : List D} {e : AExit} (hL : loopsOf (loopN f n) = []) (h : Runs l f n j' k s e s') : LoopOK Tryd.prog (loopN f n) (onceL j s s' e) :=
  onceO_ok hl hL h.out
theorem ge_cast (k : Nat) : decide ((k : Int) ≥ 0) = true := by simp
theorem wrapu_cast (k : Nat) (hk : k < 64) : decide (0 ≤ IntKind.u64.wrap (k : Int)) = true := by rw [wrapN k (by omega)]; simp
theorem dig_drop (n : Nat) : ∀ k, (dig n).drop k = dig (n / 10 ^ k) := by
  intro k
  induction k generalizing n with
  | zero => simp
  | succ k ih =>
    by_cases h : n = 0
    · subst h; simp [dig_zero]
    · rw [dig_pos h, List.drop_succ_cons, ih, Nat.pow_succ, Nat.div_div_eq_div_mul, Nat.mul_comm]
theorem num_app (l r : List Nat) : num (l ++ r) = num l + 10 ^ l.length * num r := by
  induction l with
  | nil => simp [num]
  | cons x l ih => simp only [List.cons_append, num, ih, List.length_cons, Nat.pow_succ]; grind
theorem num_lt : ∀ (l : List Nat), (∀ x ∈ l, x < 10) → num l < 10 ^ l.length
  | [], _ => by simp [num]
  | x :: l, h => by
    have h1 := num_lt l fun y hy => h y (by simp [hy])
    have h2 := h x (by simp)
    simp only [num, List.length_cons, Nat.pow_succ]
    omega
theorem num_take (l : List Nat) (k : Nat) (h : k < l.length) : num (l.take (k + 1)) = num (l.take k) + 10 ^ k * l.getD k 0 := by
  have e : l.take (k + 1) = l.take k ++ [l.getD k 0] := by
    rw [List.take_add_one, List.getD_eq_getElem?_getD, List.getElem?_eq_getElem h]; rfl
  rw [e, num_app, List.length_take, Nat.min_eq_left (by omega)]
  simp [num]
theorem len_lt {n m : Nat} (h : (dig n).length < (dig m).length) : n < m := by
  have h1 := (dig_len n (dig n).length).1 (Nat.le_refl _)
  have h2 : ¬ m < 10 ^ (dig n).length := fun hc => by have := (dig_len m (dig n).length).2 hc; omega
  omega

theorem none_ok : ∀ x ∈ ([] : List (Nat × Orc)), Sound x.1 x.2 := by intro x hx; cases hx
/-- A context without loops' contracts. -/
theorem ctx0_ok {l : List (Nat × Orc)} (h : ∀ x ∈ l, Sound x.1 x.2) : CtxOK Tryd.prog (ctxL l [] 0) := ctxL_ok h (by intro x hx; cases hx)

theorem dig_len_pos (n : Nat) : decide (((dig n).length : Int) > 0) = !(n == 0) := by
  by_cases h : n = 0
  · subst h; rw [dig_zero]; rfl
  · rw [dig_pos h]
    have : (n == 0) = false := by simpa using h
    have h2 : decide (((n % 10 :: dig (n / 10)).length : Int) > 0) = true := by rw [decide_eq_true_eq]; simp only [List.length_cons]; omega
    rw [this, h2]; rfl
theorem dig_len0 (n : Nat) : (((dig n).length : Int) == 0) = decide (n = 0) := by
  by_cases h : n = 0
  · subst h; rw [dig_zero]; rfl
  · rw [dig_pos h, Bool.eq_iff_iff, beq_iff_eq, decide_eq_true_eq]
    simp only [List.length_cons]; omega
/-- A whole part as an int64: is it one; which. -/
def whB (b : Bool) (q : Nat) : Bool := bif b then decide (q ≤ 9223372036854775808) else decide (q < 9223372036854775808)
def whI (b : Bool) (q : Nat) : Int := bif whB b q then (bif b then -(q : Int) else (q : Int)) else 0
structure Wh where
  i : Bool → Nat → Int
  b : Bool → Nat → Bool
def whR : Wh := ⟨whI, whB⟩
def wholeC (M : Ops) (W : Wh) (mq : Int → Int → Nat) : Orc := fun _ ds K => match one? ds with
  | some (s, x, y) => bif M.good s x y then K (.tup [.v (.int .i64 (W.i s (mq x y))), .v (.bool (W.b s (mq x y)))]) else K (.tup [.v (.int .i64 0), .v (.bool false)])
  | none => False
def wholeT (M : Ops) (W : Wh) (mq : Int → Int → Nat) : Orc := fun _ ds K => match one? ds with
  | some (s, x, y) => M.good s x y = true ∧ K (.tup [.v (.int .i64 (W.i s (mq x y))), .v (.bool (W.b s (mq x y)))])
  | none => False
def mqR (x y : Int) : Nat := magI x y / 1000000
theorem wholeT_to {M : Ops} {W : Wh} {mq : Int → Int → Nat} {f : Nat} {ds : List D} {K : D → Prop} (h : wholeT M W mq f ds K) : wholeC M W mq f ds K ∧ ∀ K' : D → Prop, wholeC M W mq f ds K' → wholeT M W mq f ds K' := by
  revert h; unfold wholeT wholeC; generalize one? ds = r; intro h
  match r, h with
  | none, h => exact h.elim
  | some (s, x, y), h => exact ⟨by simp only [h.1, cond_true]; exact h.2, fun K' hK => ⟨h.1, by simp only [h.1, cond_true] at hK; exact hK⟩⟩
theorem whole_val (s : Bool) (m : Nat) (hm : m < 1000000000000000000000000000000000000) (h : goodB s m = true) (w : World) :
    Calls Tryd.prog 33 #[(.agg #[.bool (s), .int .u64 ((hiN (m) : Nat) : Int), .int .u64 ((loN (m) : Nat) : Int)])] w fun e w' => e = .returned (.tuple #[.int .i64 (whI s (m / 1000000)), .bool (whB s (m / 1000000))]) ∧ Ext w w' := by
  have H1 := Lib.hid fun w => good_any s m w true h
  have H2 := Lib.hid fun w => div_mega m hm w
  clear h
  have hq := Nat.div_lt_of_lt_mul (show m < 1000000 * 1000000000000000000000000000000 by omega)
  by_cases hh : hiN (m / 1000000) = 0
  · have hne : ((hiN (m / 1000000) : Int) != 0) = false := by rw [hh]; rfl
    have hlo : loN (m / 1000000) = m / 1000000 := by unfold hiN at hh; unfold loN; omega
    cases s
    · by_cases hc : m / 1000000 < 9223372036854775808
      · have e := whole_d m _ _ 0 _ w H1 H2 hne (by rw [decide_eq_true_eq, hlo]; omega) rfl
        have w1 : IntKind.i64.wrap ((loN (m / 1000000) : Nat) : Int) = ((m / 1000000 : Nat) : Int) := by rw [hlo]; exact wrap_small (by omega) (by omega)
        rw [w1] at e
        have hB : whB false (m / 1000000) = true := by unfold whB; rw [cond_false, decide_eq_true_eq]; exact hc
        have hI : whI false (m / 1000000) = ((m / 1000000 : Nat) : Int) := by unfold whI; rw [hB]; rfl
        rw [hB, hI]; exact e
      · have e := whole_e m _ _ 0 0 w H1 H2 hne (by rw [decide_eq_false_iff_not, hlo]; omega)
        have hB : whB false (m / 1000000) = false := by unfold whB; rw [cond_false, decide_eq_false_iff_not]; exact hc
        have hI : whI false (m / 1000000) = 0 := by unfold whI; rw [hB]; rfl
        rw [hB, hI]; exact e
    · by_cases hc : m / 1000000 ≤ 9223372036854775808
      · have e := whole_b m _ _ _ _ w H1 H2 hne (by rw [decide_eq_true_eq, hlo]; omega) rfl rfl
        have w1 : IntKind.i64.wrap (IntKind.u64.wrap (-((loN (m / 1000000) : Nat) : Int))) = -((m / 1000000 : Nat) : Int) := by rw [hlo, IntKind.wrap_u64, IntKind.wrap_i64]; omega
        rw [w1] at e
        have hB : whB true (m / 1000000) = true := by unfold whB; rw [cond_true, decide_eq_true_eq]; exact hc
        have hI : whI true (m / 1000000) = -((m / 1000000 : Nat) : Int) := by unfold whI; rw [hB]; rfl
        rw [hB, hI]; exact e
      · have e := whole_c m _ _ 0 0 w H1 H2 hne (by rw [decide_eq_false_iff_not, hlo]; omega)
        have hB : whB true (m / 1000000) = false := by unfold whB; rw [cond_true, decide_eq_false_iff_not]; exact hc
        have hI : whI true (m / 1000000) = 0 := by unfold whI; rw [hB]; rfl
        rw [hB, hI]; exact e
  · have hne : ((hiN (m / 1000000) : Int) != 0) = true := by rw [bne_iff_ne]; omega
    have e := whole_a s m _ _ 0 0 w H1 H2 hne
    have hbig : 18446744073709551616 ≤ m / 1000000 := by unfold hiN at hh; omega
    have hB : whB s (m / 1000000) = false := by
      unfold whB; cases s
      · rw [cond_false, decide_eq_false_iff_not]; omega
      · rw [cond_true, decide_eq_false_iff_not]; omega
    have hI : whI s (m / 1000000) = 0 := by unfold whI; rw [hB]; rfl
    rw [hB, hI]; exact e
theorem wholeC_ok : Sound 33 (wholeC opsR whR mqR) := by
  refine sound1 (m := fun s x y K => bif goodI s x y then K (.tup [.v (.int .i64 (whI s (mqR x y))), .v (.bool (whB s (mqR x y)))]) else K (.tup [.v (.int .i64 0), .v (.bool false)])) (fun _ _ => rfl) fun s x y => Says.ite (fun hg => Says.ret (ps_one Tryd.func33 (by kernel_rfl) rfl fun m hm => ?_)) (fun hg => Says.ret (ps_one Tryd.func33 (by kernel_rfl) rfl fun m hm => ?_))
  · unfold goodI at hg; rw [← hm] at hg
    unfold mqR; rw [← hm]
    exact ⟨_, fun w => whole_val s m (good_lt hg) hg w, fun role w => rd_two (.v rfl) (.v rfl)⟩
  · unfold goodI at hg; rw [← hm] at hg
    exact ⟨_, fun w => whole_bad s m w hg, fun role w => rd_two (.v rfl) (.v rfl)⟩

def intT (M : Ops) : Orc := fun _ ds K => match ds with
  | [.v (.int .i64 n)] => M.isInt n = true ∧ K (decM M (M.int n))
  | _ => False
theorem fit_int {n : Int} (h : -9223372036854775808 ≤ n) (h' : n < 9223372036854775808) : fitB (n * 1000000) = true := fit_mk (by omega)
theorem intT_ok : Sound 25 (intT opsR) := by
  intro ds K hK
  unfold intT at hK
  split at hK
  · rename_i n
    obtain ⟨hn, hK⟩ := hK
    refine ⟨_, hK, fun K' h => ⟨hn, h⟩, ps_of_calls Tryd.func25 (by kernel_rfl) rfl fun role w args hsz hargs => ?_⟩
    obtain ⟨a, rfl, ha⟩ := args_one rfl hsz hargs
    obtain ⟨rfl, _⟩ := rd_v ha
    have hn' : (decide (-9223372036854775808 ≤ n) && decide (n < 9223372036854775808)) = true := hn
    simp only [Bool.and_eq_true, decide_eq_true_eq] at hn'
    have hf := fit_int hn'.1 hn'.2
    by_cases h0 : n < 0
    · obtain ⟨k, hk⟩ : ∃ k : Nat, n = -(k : Int) := ⟨n.natAbs, by omega⟩
      subst hk
      exact ⟨_, int_neg k (by omega) (by omega) w, fun w' => rd_decV _ _ _ hf (by symm; rw [decide_eq_true_eq]; omega) (by omega)⟩
    · obtain ⟨k, hk⟩ : ∃ k : Nat, n = (k : Int) := ⟨n.natAbs, by omega⟩
      subst hk
      exact ⟨_, int_pos k (by omega) w, fun w' => rd_decV _ _ _ hf (by symm; rw [decide_eq_false_iff_not]; omega) (by omega)⟩
  · exact hK.elim
theorem l_mag (z : Int) : magI (opsR.hi z) (opsR.lo z) = z.natAbs := magI_halves _
def getI (es : List (List D)) (i : Int) : Int := intOf ((es.getD i.toNat []).getD 0 .undef)
/-- A place in a list of ints. -/
def inR (es : List (List D)) (i : Int) (X : Prop) : Prop := bif decide (0 ≤ i) && decide (i < es.length) then bif isD Tryd.prog 3 ((es.getD i.toNat []).getD 0 .undef) then X else False else False
/-- Room for one more. -/
def roomD (out : List (List D)) (x : Int) (X : Prop) : Prop := bif decide ((out.length + [[D.v (.int .i64 x)]].length) * (Tryd.prog.bytesOf 3 + 1) ≤ 70368744177664) then X else False
theorem getI_eq (l : List Nat) (i : Nat) (h : i < l.length) : getI (dD l) (i : Int) = ((l.getD i 0 : Nat) : Int) := by
  unfold getI; rw [Int.toNat_natCast, dD_get l i h]; rfl
theorem inR_eq (l : List Nat) (i : Nat) (h : i < l.length) (X : Prop) : inR (dD l) (i : Int) X = X := by
  unfold inR
  have g1 : decide ((i : Int) < (l.length : Nat)) = true := by rw [decide_eq_true_eq]; omega
  have g2 : decide (0 ≤ (i : Int)) = true := by rw [decide_eq_true_eq]; omega
  rw [dD_len, g1, g2, Int.toNat_natCast, dD_get l i h, is_int]
  rfl
theorem roomD_eq (out : List Nat) (h : out.length < 1000000) (x : Int) (X : Prop) : roomD (dD out) x X = X := by
  unfold roomD
  rw [dD_len, bytes_int]
  have : decide ((out.length + [[D.v (.int .i64 x)]].length) * (8 + 1) ≤ 70368744177664) = true := by
    simp only [List.length_singleton, decide_eq_true_eq]; omega
  rw [this]; rfl
theorem num_drop (l : List Nat) (i : Nat) : num (l.drop i) = l.getD i 0 + 10 * num (l.drop (i + 1)) := by
  by_cases h : i < l.length
  · rw [List.drop_eq_getElem_cons h, List.getD_eq_getElem?_getD, List.getElem?_eq_getElem h]; rfl
  · rw [List.drop_eq_nil_of_le (by omega), List.drop_eq_nil_of_le (by omega), List.getD_eq_getElem?_getD, List.getElem?_eq_none (by omega)]; rfl
theorem dig_at (l : List Nat) (hd : ∀ x ∈ l, x < 10) (i : Nat) : l.getD i 0 < 10 := by
  by_cases h : i < l.length
  · rw [List.getD_eq_getElem?_getD, List.getElem?_eq_getElem h]; exact hd _ (List.getElem_mem h)
  · rw [List.getD_eq_getElem?_getD, List.getElem?_eq_none (by omega)]; decide
theorem getD_out (l : List Nat) (i : Nat) (h : ¬ i < l.length) : l.getD i 0 = 0 := by
  rw [List.getD_eq_getElem?_getD, List.getElem?_eq_none (by omega)]; rfl

theorem dig_mono {n m : Nat} (h : n ≤ m) : (dig n).length ≤ (dig m).length := (dig_len n _).2 (Nat.lt_of_le_of_lt h ((dig_len m _).1 (Nat.le_refl _)))
/-- A walk comes to what K says (a structure, so that the elaborator leaves it as it is). -/
structure Walks (C : Ctx) (n f : Nat) (ds : List D) (K : D → Prop) : Prop where
  out : callX Tryd.prog C n f ds K
theorem Walks.ps {C : Ctx} {n f : Nat} {ds : List D} {d : D} (hC : CtxOK Tryd.prog C) (h : Walks C n f ds fun x => x = d) : PS Tryd.prog f ds d := callX_eq hC h.out
end Go.Proofs.YtlfdelobjbdimaaDoor
