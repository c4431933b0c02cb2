/-
  fieldfareref01's lower and Less, by numbers; the contract of Of.
-/
import Derived.Test.YtnjhmlnmdnocmaaDigC
namespace Go.Proofs.Ytnjhmlnmdnocmaa
set_option linter.unusedSimpArgs false
set_option linter.unusedVariables false
open Go.RowKit

/-! ### Of's contract -/
def ofO (N : Nums) (mag : Int → Int → Nat) : Orc := fun _ ds K => match one? ds with
  | some (s, x, y) => K (.agg [.v (.bool s), .list false 3 (N.dd (mag x y))])
  | none => False
theorem ofO_ok : Sound 16 (ofO numsR magI) := by
  refine sound1 (m := fun s x y K => K (.agg [.v (.bool s), .list false 3 (numsR.dd (magI x y))])) (fun _ _ => rfl) fun s x y => Says.ret ?_
  intro role w args hlow hmask hsz hargs
  obtain ⟨a, rfl, ha⟩ := args_one rfl hsz hargs
  obtain ⟨_, hx, hy⟩ := rd_dec ha
  have bx := nat_u64 hx; have by_ := nat_u64 hy
  have ex : ((x.toNat : Nat) : Int) = x := Int.toNat_of_nonneg bx.1
  have ey : ((y.toNat : Nat) : Int) = y := Int.toNat_of_nonneg by_.1
  have h := of_ps s x.toNat y.toNat (by omega) (by omega)
  rw [ex, ey] at h
  exact h role w _ hlow hmask hsz hargs

/-! ### lower -/
set_option maxRecDepth 100000 in
theorem lower_tree (es : List (List D)) (K : D → Prop) : callX Try.prog (ctxL [] [] 0) 2 41 [.list false 3 es] K = (
    bif decide (((es.length : Nat) : Int) ≤ 6) then K (.list false 3 [])
    else bif 3 == 3 && (Try.prog.info? 3).isSome && decide (0 ≤ Int.ofNat 6) && decide (Int.ofNat 6 ≤ Int.ofNat es.length) && decide (Int.ofNat es.length ≤ es.length) then
      K (.list false 3 (List.drop (Int.ofNat 6).toNat (List.take (Int.ofNat es.length).toNat es))) else False) := by kernel_rfl
theorem dig_drop (n : Nat) : ∀ k, (dig n).drop k = dig (n / 10 ^ k) := by
  intro k
  induction k generalizing n with
  | zero => simp
  | succ k ih =>
    by_cases h : n = 0
    · subst h; simp [dig_zero]
    · rw [dig_pos h, List.drop_succ_cons, ih, Nat.pow_succ, Nat.div_div_eq_div_mul, Nat.mul_comm]
theorem lower_ps (n : Nat) : PS Try.prog 41 [.list false 3 (dD (dig n))] (.list false 3 (dD (dig (n / 1000000)))) := by
  refine callX_eq (n := 2) (ctxL_ok (l := []) (ll := []) (fuel := 0) (by intro x hx; cases hx) (by intro x hx; cases hx)) ?_
  rw [lower_tree, dD_len]
  have hd := dig_drop n 6
  by_cases h : (dig n).length ≤ 6
  · have h1 : decide ((((dig n).length : Nat) : Int) ≤ 6) = true := by rw [decide_eq_true_eq]; omega
    rw [h1, cond_true]
    rw [show n / 1000000 = n / 10 ^ 6 from rfl, ← hd, List.drop_eq_nil_of_le h]; rfl
  · have h1 : decide ((((dig n).length : Nat) : Int) ≤ 6) = false := by rw [decide_eq_false_iff_not]; omega
    have h2 : (3 == 3 && (Try.prog.info? 3).isSome && decide (0 ≤ Int.ofNat 6)) = true := by kernel_rfl
    have h3 : decide (Int.ofNat 6 ≤ Int.ofNat (dig n).length) = true := by rw [decide_eq_true_eq]; show (6 : Int) ≤ ((dig n).length : Nat); omega
    have h4 : decide (Int.ofNat (dig n).length ≤ ((dig n).length : Nat)) = true := by rw [decide_eq_true_eq]; exact Int.le_refl _
    have h5 : List.drop (Int.ofNat 6).toNat (List.take (Int.ofNat (dig n).length).toNat (dD (dig n))) = dD (dig (n / 1000000)) := by
      show List.drop 6 (List.take (dig n).length (dD (dig n))) = _
      rw [List.take_of_length_le (by rw [dD_len]; omega), show n / 1000000 = n / 10 ^ 6 from rfl, ← hd]
      simp [dD]
    rw [h1, h2, h3, h4, h5]; rfl
def lowerC (N : Nums) : Orc := fun _ ds K => match ds with
  | [.list false T es] => T = 3 ∧ N.ok es ∧ K (.list false 3 (N.dd (N.num es / 1000000)))
  | _ => False
theorem lowerC_ok : Sound 41 (lowerC numsR) := by
  intro ds K hK
  unfold lowerC at hK
  split at hK
  · obtain ⟨rfl, ⟨n, rfl, hl⟩, hK⟩ := hK
    refine ⟨_, hK, fun K' h => ⟨rfl, ⟨n, rfl, hl⟩, h⟩, ?_⟩
    rw [nums_num', nums_dd]
    exact lower_ps n
  · exact hK.elim

/-! ### Less -/
def lessS (es fs : List (List D)) (r : Bool) (i : Int) : List D := [.list false 3 es, .list false 3 fs, .undef, .undef, .v (.bool r), .v (.int .i64 i)] ++ List.replicate 35 .undef
set_option maxRecDepth 100000 in
theorem less_round (es fs : List (List D)) (r : Bool) (i : Int) (K : AExit → List D → Prop) :
    roundJ Try.prog (orcOf []) (fun _ _ _ => False) ([] ++ junk (loopN Try.f42 0)) (loopN Try.f42 0) (lessS es fs r i) K = (
      bif decide (i ≥ 0) then
        bif decide (0 ≤ i) && decide (i < es.length) then bif isD Try.prog 3 ((es.getD i.toNat []).getD 0 D.undef) then
        bif decide (0 ≤ i) && decide (i < fs.length) then bif isD Try.prog 3 ((fs.getD i.toNat []).getD 0 D.undef) then
          bif intOf ((es.getD i.toNat []).getD 0 D.undef) != intOf ((fs.getD i.toNat []).getD 0 D.undef) then
            bif decide (0 ≤ i) && decide (i < es.length) then bif isD Try.prog 3 ((es.getD i.toNat []).getD 0 D.undef) then
            bif decide (0 ≤ i) && decide (i < fs.length) then bif isD Try.prog 3 ((fs.getD i.toNat []).getD 0 D.undef) then
              K .ret (lessS es fs (decide (intOf ((es.getD i.toNat []).getD 0 D.undef) < intOf ((fs.getD i.toNat []).getD 0 D.undef))) i)
            else False else False else False else False
          else K .normal (lessS es fs r (IntKind.i64.wrap (i - 1)))
        else False else False else False else False
      else K (.exit 0) (lessS es fs r i)) := by kernel_rfl
/-- Of digits, from the greatest down: are they below? -/
def lessN (l l' : List Nat) : Nat → Bool
  | 0 => false
  | k + 1 => if l.getD k 0 = l'.getD k 0 then lessN l l' k else decide (l.getD k 0 < l'.getD k 0)
theorem less_runs (l l' : List Nat) (hl : l.length < 1000000) (hll : l'.length = l.length) (k : Nat) : k ≤ l.length →
    ∃ e s', Runs [] Try.f42 0 [] (k + 1) (lessS (dD l) (dD l') false ((k : Int) - 1)) e s' ∧ ((e = .ret ∧ ∃ i, s' = lessS (dD l) (dD l') (lessN l l' k) i) ∨ (e = .exit 0 ∧ lessN l l' k = false ∧ s' = lessS (dD l) (dD l') false (-1))) := by
  induction k with
  | zero =>
    intro _
    refine ⟨_, _, Runs.stop (id := 0) (s' := lessS (dD l) (dD l') false (-1)) ⟨fun K h => ?_⟩, .inr ⟨rfl, rfl, rfl⟩⟩
    rw [less_round]
    have : decide (((0 : Nat) : Int) - 1 ≥ 0) = false := by decide
    rw [this, cond_false]
    exact h
  | succ k ih =>
    intro hk
    obtain ⟨e, s', h1, h2⟩ := ih (by omega)
    rw [show ((k + 1 : Nat) : Int) - 1 = (k : Int) by omega]
    have g1 : decide ((k : Int) < (l.length : Nat)) = true := by rw [decide_eq_true_eq]; omega
    have g2 : decide (0 ≤ (k : Int)) = true := by rw [decide_eq_true_eq]; omega
    have g3 : decide ((k : Int) < (l'.length : Nat)) = true := by rw [decide_eq_true_eq]; omega
    unfold lessN
    by_cases he : l.getD k 0 = l'.getD k 0
    · rw [if_pos he]
      refine ⟨e, s', Runs.go ⟨fun K h => ?_⟩ h1, h2⟩
      rw [less_round, ge_cast, dD_len, dD_len, g1, g3, Int.toNat_natCast, dD_get l k (by omega), dD_get l' k (by omega), is_int, is_int, intOf_v, intOf_v, he, bne_self_eq_false, wrap_small (by omega) (by omega)]
      exact h
    · rw [if_neg he]
      refine ⟨.ret, lessS (dD l) (dD l') (decide (l.getD k 0 < l'.getD k 0)) (k : Int), Runs.ret ⟨fun K h => ?_⟩, .inl ⟨rfl, _, rfl⟩⟩
      have hb : (((l.getD k 0 : Nat) : Int) != ((l'.getD k 0 : Nat) : Int)) = true := by rw [bne_iff_ne]; omega
      have hd : decide (((l.getD k 0 : Nat) : Int) < ((l'.getD k 0 : Nat) : Int)) = decide (l.getD k 0 < l'.getD k 0) := by
        rw [Bool.eq_iff_iff, decide_eq_true_eq, decide_eq_true_eq]; omega
      rw [less_round, ge_cast, dD_len, dD_len, g1, g3, Int.toNat_natCast, dD_get l k (by omega), dD_get l' k (by omega), is_int, is_int, intOf_v, intOf_v, hb, hd]
      exact h

theorem num_app (l r : List Nat) : num (l ++ r) = num l + 10 ^ l.length * num r := by
  induction l with
  | nil => simp [num]
  | cons x l ih => simp only [List.cons_append, num, ih, List.length_cons, Nat.pow_succ]; grind
theorem num_lt : ∀ (l : List Nat), (∀ x ∈ l, x < 10) → num l < 10 ^ l.length
  | [], _ => by simp [num]
  | x :: l, h => by
    have h1 := num_lt l fun y hy => h y (by simp [hy])
    have h2 := h x (by simp)
    simp only [num, List.length_cons, Nat.pow_succ]
    omega
theorem num_take (l : List Nat) (k : Nat) (h : k < l.length) : num (l.take (k + 1)) = num (l.take k) + 10 ^ k * l.getD k 0 := by
  have e : l.take (k + 1) = l.take k ++ [l.getD k 0] := by
    rw [List.take_add_one, List.getD_eq_getElem?_getD, List.getElem?_eq_getElem h]; rfl
  rw [e, num_app, List.length_take, Nat.min_eq_left (by omega)]
  simp [num]
theorem lessN_eq (l l' : List Nat) (hd : ∀ x ∈ l, x < 10) (hd' : ∀ x ∈ l', x < 10) (hl : l'.length = l.length) (k : Nat) : k ≤ l.length → lessN l l' k = decide (num (l.take k) < num (l'.take k)) := by
  induction k with
  | zero => intro _; simp [lessN, num]
  | succ k ih =>
    intro hk
    have h1 := num_lt (l.take k) fun x hx => hd x (List.mem_of_mem_take hx)
    have h2 := num_lt (l'.take k) fun x hx => hd' x (List.mem_of_mem_take hx)
    rw [List.length_take, Nat.min_eq_left (by omega)] at h1 h2
    rw [num_take l k (by omega), num_take l' k (by omega), lessN, ih (by omega)]
    generalize l.getD k 0 = a
    generalize l'.getD k 0 = b
    generalize num (l.take k) = u at *
    generalize num (l'.take k) = v at *
    generalize 10 ^ k = t at *
    by_cases he : a = b
    · subst he; rw [if_pos rfl, Bool.eq_iff_iff, decide_eq_true_eq, decide_eq_true_eq]; omega
    · rw [if_neg he, Bool.eq_iff_iff, decide_eq_true_eq, decide_eq_true_eq]
      constructor
      · intro h
        have : t * (a + 1) ≤ t * b := Nat.mul_le_mul_left _ h
        rw [Nat.mul_add] at this; omega
      · intro h
        rcases Nat.lt_or_ge a b with h3 | h3
        · exact h3
        · have : t * (b + 1) ≤ t * a := Nat.mul_le_mul_left _ (by omega)
          rw [Nat.mul_add] at this; omega
theorem len_lt {n m : Nat} (h : (dig n).length < (dig m).length) : n < m := by
  have h1 := (dig_len n (dig n).length).1 (Nat.le_refl _)
  have h2 : ¬ m < 10 ^ (dig n).length := fun hc => by have := (dig_len m (dig n).length).2 hc; omega
  omega

def lessJ : List Nat := [6, 7, 8, 9, 10, 16, 17, 18]
set_option maxRecDepth 100000 in
theorem less_tree1 (es fs : List (List D)) (i j : Int) (r : Bool) (K : D → Prop) (hj : IntKind.i64.wrap ((es.length : Nat) - 1) = j) : callX Try.prog (ctxL [] [(42, 4, onceL lessJ (lessS es fs false j) (lessS es fs r i) .ret)] 0) 2 42 [.list false 3 es, .list false 3 fs] K = (
    bif ((es.length : Nat) : Int) != ((fs.length : Nat) : Int) then K (.v (.bool (decide (((es.length : Nat) : Int) < ((fs.length : Nat) : Int))))) else lessS es fs false j = lessS es fs false j ∧ K (.v (.bool r))) := by
  subst hj; kernel_rfl
set_option maxRecDepth 100000 in
theorem less_tree2 (es fs : List (List D)) (j : Int) (K : D → Prop) (hj : IntKind.i64.wrap ((es.length : Nat) - 1) = j) : callX Try.prog (ctxL [] [(42, 4, onceL lessJ (lessS es fs false j) (lessS es fs false (-1)) (.exit 0))] 0) 2 42 [.list false 3 es, .list false 3 fs] K = (
    bif ((es.length : Nat) : Int) != ((fs.length : Nat) : Int) then K (.v (.bool (decide (((es.length : Nat) : Int) < ((fs.length : Nat) : Int))))) else lessS es fs false j = lessS es fs false j ∧ K (.v (.bool false))) := by
  subst hj; kernel_rfl
set_option maxRecDepth 100000 in
theorem less_tree3 (es fs : List (List D)) (K : D → Prop) : callX Try.prog (ctxL [] [(42, 4, fun _ _ => False)] 0) 2 42 [.list false 3 es, .list false 3 fs] K = (
    bif ((es.length : Nat) : Int) != ((fs.length : Nat) : Int) then K (.v (.bool (decide (((es.length : Nat) : Int) < ((fs.length : Nat) : Int))))) else False) := by kernel_rfl
theorem none_ok : ∀ x ∈ ([] : List (Nat × Orc)), Sound x.1 x.2 := by intro x hx; cases hx
theorem less_ps (n m : Nat) (hn : (dig n).length < 100000) (hm : (dig m).length < 100000) : PS Try.prog 42 [.list false 3 (dD (dig n)), .list false 3 (dD (dig m))] (.v (.bool (decide (n < m)))) := by
  by_cases hl : (dig m).length = (dig n).length
  · obtain ⟨e, s', h1, h2⟩ := less_runs (dig n) (dig m) (by omega) hl (dig n).length (Nat.le_refl _)
    have hv := lessN_eq (dig n) (dig m) (dig_lt n) (dig_lt m) hl (dig n).length (Nat.le_refl _)
    rw [List.take_length, ← hl, List.take_length, num_dig, num_dig, hl] at hv
    have hj : IntKind.i64.wrap (((dD (dig n)).length : Nat) - 1) = (((dig n).length : Nat) : Int) - 1 := by rw [dD_len, wrap_small (by omega) (by omega)]
    have hne : ((((dD (dig n)).length : Nat) : Int) != (((dD (dig m)).length : Nat) : Int)) = false := by rw [dD_len, dD_len, hl]; exact bne_self_eq_false _
    rcases h2 with ⟨rfl, i, rfl⟩ | ⟨rfl, h3, rfl⟩
    · rw [hv] at h1
      refine callX_eq (n := 2) (ctxL_ok (l := []) (ll := [(42, 4, onceL lessJ (lessS (dD (dig n)) (dD (dig m)) false ((((dig n).length : Nat) : Int) - 1)) (lessS (dD (dig n)) (dD (dig m)) (decide (n < m)) i) .ret)]) (fuel := 0) none_ok ?_) ?_
      · intro x hx
        obtain rfl := List.mem_singleton.1 hx
        exact LoopSound.mk (n := 0) Try.func42 rfl (by kernel_rfl) (by kernel_rfl) (Runs.once none_ok (by kernel_rfl) h1)
      · rw [less_tree1 _ _ _ _ _ _ hj, hne]
        exact ⟨rfl, rfl⟩
    · rw [h3] at hv
      refine callX_eq (n := 2) (ctxL_ok (l := []) (ll := [(42, 4, onceL lessJ (lessS (dD (dig n)) (dD (dig m)) false ((((dig n).length : Nat) : Int) - 1)) (lessS (dD (dig n)) (dD (dig m)) false (-1)) (.exit 0))]) (fuel := 0) none_ok ?_) ?_
      · intro x hx
        obtain rfl := List.mem_singleton.1 hx
        exact LoopSound.mk (n := 0) Try.func42 rfl (by kernel_rfl) (by kernel_rfl) (Runs.once none_ok (by kernel_rfl) h1)
      · rw [less_tree2 _ _ _ _ hj, hne, ← hv]
        exact ⟨rfl, rfl⟩
  · have hne : ((((dD (dig n)).length : Nat) : Int) != (((dD (dig m)).length : Nat) : Int)) = true := by rw [dD_len, dD_len, bne_iff_ne]; omega
    have hv : decide ((((dD (dig n)).length : Nat) : Int) < (((dD (dig m)).length : Nat) : Int)) = decide (n < m) := by
      rw [dD_len, dD_len, Bool.eq_iff_iff, decide_eq_true_eq, decide_eq_true_eq]
      constructor
      · intro h; exact len_lt (by omega)
      · intro h
        rcases Nat.lt_or_ge (dig n).length (dig m).length with h3 | h3
        · omega
        · have := len_lt (n := m) (m := n) (by omega); omega
    refine callX_eq (n := 2) (ctxL_ok (l := []) (ll := [(42, 4, fun _ _ => False)]) (fuel := 0) none_ok ?_) ?_
    · intro x hx
      obtain rfl := List.mem_singleton.1 hx
      exact LoopSound.mk (n := 0) Try.func42 rfl (by kernel_rfl) (by kernel_rfl) (fun _ _ h => h.elim)
    · rw [less_tree3, hne, hv]
      exact rfl
def lessC (N : Nums) : Orc := fun _ ds K => match ds with
  | [.list false T es, .list false T' fs] => T = 3 ∧ T' = 3 ∧ N.ok es ∧ N.ok fs ∧ K (.v (.bool (decide (N.num es < N.num fs))))
  | _ => False
theorem lessC_ok : Sound 42 (lessC numsR) := by
  intro ds K hK
  unfold lessC at hK
  split at hK
  · obtain ⟨rfl, rfl, ⟨n, rfl, hl⟩, ⟨m, rfl, hl'⟩, hK⟩ := hK
    refine ⟨_, hK, fun K' h => ⟨rfl, rfl, ⟨n, rfl, hl⟩, ⟨m, rfl, hl'⟩, h⟩, ?_⟩
    rw [nums_num', nums_num']
    exact less_ps n m hl hl'
  · exact hK.elim
end Go.Proofs.Ytnjhmlnmdnocmaa
