/-
  fieldfareref01's lower and Less, by numbers; the contract of Of.
-/
import Derived.Test.YthhfnggigmfmjaaDoorDigC
namespace Go.Proofs.YthhfnggigmfmjaaDoor
set_option linter.unusedSimpArgs false
set_option linter.unusedVariables false
open Go.RowKit

/-! ### Of's contract -/
def ofO (N : Nums) (mag : Int → Int → Nat) : Orc := fun _ ds K => match one? ds with
  | some (s, x, y) => K (.agg [.v (.bool s), .list false 3 (N.dd (mag x y))])
  | none => False
theorem ofO_ok : Sound 22 (ofO numsR magI) := by
  refine sound1 (m := fun s x y K => K (.agg [.v (.bool s), .list false 3 (numsR.dd (magI x y))])) (fun _ _ => rfl) fun s x y => Says.ret ?_
  intro role w args hlow hmask hsz hargs
  obtain ⟨a, rfl, ha⟩ := args_one rfl hsz hargs
  obtain ⟨_, hx, hy⟩ := rd_dec ha
  have bx := nat_u64 hx; have by_ := nat_u64 hy
  have ex : ((x.toNat : Nat) : Int) = x := Int.toNat_of_nonneg bx.1
  have ey : ((y.toNat : Nat) : Int) = y := Int.toNat_of_nonneg by_.1
  have h := of_ps s x.toNat y.toNat (by omega) (by omega)
  rw [ex, ey] at h
  exact h role w _ hlow hmask hsz hargs

/-! ### Less -/
def lessS (es fs : List (List D)) (r : Bool) (i : Int) : List D := [.list false 3 es, .list false 3 fs, .undef, .undef, .v (.bool r), .v (.int .i64 i)] ++ List.replicate 35 .undef
set_option maxRecDepth 100000 in
theorem less_round (es fs : List (List D)) (r : Bool) (i : Int) (K : AExit → List D → Prop) :
    roundJ Tryd.prog (orcOf []) (fun _ _ _ => False) ([] ++ junk (loopN Tryd.f41 0)) (loopN Tryd.f41 0) (lessS es fs r i) K = (
      bif decide (i ≥ 0) then
        bif decide (0 ≤ i) && decide (i < es.length) then bif isD Tryd.prog 3 ((es.getD i.toNat []).getD 0 D.undef) then
        bif decide (0 ≤ i) && decide (i < fs.length) then bif isD Tryd.prog 3 ((fs.getD i.toNat []).getD 0 D.undef) then
          bif intOf ((es.getD i.toNat []).getD 0 D.undef) != intOf ((fs.getD i.toNat []).getD 0 D.undef) then
            bif decide (0 ≤ i) && decide (i < es.length) then bif isD Tryd.prog 3 ((es.getD i.toNat []).getD 0 D.undef) then
            bif decide (0 ≤ i) && decide (i < fs.length) then bif isD Tryd.prog 3 ((fs.getD i.toNat []).getD 0 D.undef) then
              K .ret (lessS es fs (decide (intOf ((es.getD i.toNat []).getD 0 D.undef) < intOf ((fs.getD i.toNat []).getD 0 D.undef))) i)
            else False else False else False else False
          else K .normal (lessS es fs r (IntKind.i64.wrap (i - 1)))
        else False else False else False else False
      else K (.exit 0) (lessS es fs r i)) := by kernel_rfl
/-- Of digits, from the greatest down: are they below? -/
def lessN (l l' : List Nat) : Nat → Bool
  | 0 => false
  | k + 1 => if l.getD k 0 = l'.getD k 0 then lessN l l' k else decide (l.getD k 0 < l'.getD k 0)
theorem less_runs (l l' : List Nat) (hl : l.length < 1000000) (hll : l'.length = l.length) (k : Nat) : k ≤ l.length →
    ∃ e s', Runs [] Tryd.f41 0 [] (k + 1) (lessS (dD l) (dD l') false ((k : Int) - 1)) e s' ∧ ((e = .ret ∧ ∃ i, s' = lessS (dD l) (dD l') (lessN l l' k) i) ∨ (e = .exit 0 ∧ lessN l l' k = false ∧ s' = lessS (dD l) (dD l') false (-1))) := by
  induction k with
  | zero =>
    intro _
    refine ⟨_, _, Runs.stop (id := 0) (s' := lessS (dD l) (dD l') false (-1)) ⟨fun K h => ?_⟩, .inr ⟨rfl, rfl, rfl⟩⟩
    rw [less_round]
    have : decide (((0 : Nat) : Int) - 1 ≥ 0) = false := by decide
    rw [this, cond_false]
    exact h
  | succ k ih =>
    intro hk
    obtain ⟨e, s', h1, h2⟩ := ih (by omega)
    rw [show ((k + 1 : Nat) : Int) - 1 = (k : Int) by omega]
    have g1 : decide ((k : Int) < (l.length : Nat)) = true := by rw [decide_eq_true_eq]; omega
    have g2 : decide (0 ≤ (k : Int)) = true := by rw [decide_eq_true_eq]; omega
    have g3 : decide ((k : Int) < (l'.length : Nat)) = true := by rw [decide_eq_true_eq]; omega
    unfold lessN
    by_cases he : l.getD k 0 = l'.getD k 0
    · rw [if_pos he]
      refine ⟨e, s', Runs.go ⟨fun K h => ?_⟩ h1, h2⟩
      rw [less_round, ge_cast, dD_len, dD_len, g1, g3, Int.toNat_natCast, dD_get l k (by omega), dD_get l' k (by omega), is_int, is_int, intOf_v, intOf_v, he, bne_self_eq_false, wrap_small (by omega) (by omega)]
      exact h
    · rw [if_neg he]
      refine ⟨.ret, lessS (dD l) (dD l') (decide (l.getD k 0 < l'.getD k 0)) (k : Int), Runs.ret ⟨fun K h => ?_⟩, .inl ⟨rfl, _, rfl⟩⟩
      have hb : (((l.getD k 0 : Nat) : Int) != ((l'.getD k 0 : Nat) : Int)) = true := by rw [bne_iff_ne]; omega
      have hd : decide (((l.getD k 0 : Nat) : Int) < ((l'.getD k 0 : Nat) : Int)) = decide (l.getD k 0 < l'.getD k 0) := by
        rw [Bool.eq_iff_iff, decide_eq_true_eq, decide_eq_true_eq]; omega
      rw [less_round, ge_cast, dD_len, dD_len, g1, g3, Int.toNat_natCast, dD_get l k (by omega), dD_get l' k (by omega), is_int, is_int, intOf_v, intOf_v, hb, hd]
      exact h

theorem lessN_eq (l l' : List Nat) (hd : ∀ x ∈ l, x < 10) (hd' : ∀ x ∈ l', x < 10) (hl : l'.length = l.length) (k : Nat) : k ≤ l.length → lessN l l' k = decide (num (l.take k) < num (l'.take k)) := by
  induction k with
  | zero => intro _; simp [lessN, num]
  | succ k ih =>
    intro hk
    have h1 := num_lt (l.take k) fun x hx => hd x (List.mem_of_mem_take hx)
    have h2 := num_lt (l'.take k) fun x hx => hd' x (List.mem_of_mem_take hx)
    rw [List.length_take, Nat.min_eq_left (by omega)] at h1 h2
    rw [num_take l k (by omega), num_take l' k (by omega), lessN, ih (by omega)]
    generalize l.getD k 0 = a
    generalize l'.getD k 0 = b
    generalize num (l.take k) = u at *
    generalize num (l'.take k) = v at *
    generalize 10 ^ k = t at *
    by_cases he : a = b
    · subst he; rw [if_pos rfl, Bool.eq_iff_iff, decide_eq_true_eq, decide_eq_true_eq]; omega
    · rw [if_neg he, Bool.eq_iff_iff, decide_eq_true_eq, decide_eq_true_eq]
      constructor
      · intro h
        have : t * (a + 1) ≤ t * b := Nat.mul_le_mul_left _ h
        rw [Nat.mul_add] at this; omega
      · intro h
        rcases Nat.lt_or_ge a b with h3 | h3
        · exact h3
        · have : t * (b + 1) ≤ t * a := Nat.mul_le_mul_left _ (by omega)
          rw [Nat.mul_add] at this; omega
def lessJ : List Nat := [6, 7, 8, 9, 10, 16, 17, 18]
set_option maxRecDepth 100000 in
theorem less_tree1 (es fs : List (List D)) (i j : Int) (r : Bool) (K : D → Prop) (hj : IntKind.i64.wrap ((es.length : Nat) - 1) = j) : callX Tryd.prog (ctxL [] [(41, 4, onceL lessJ (lessS es fs false j) (lessS es fs r i) .ret)] 0) 2 41 [.list false 3 es, .list false 3 fs] K = (
    bif ((es.length : Nat) : Int) != ((fs.length : Nat) : Int) then K (.v (.bool (decide (((es.length : Nat) : Int) < ((fs.length : Nat) : Int))))) else lessS es fs false j = lessS es fs false j ∧ K (.v (.bool r))) := by
  subst hj; kernel_rfl
set_option maxRecDepth 100000 in
theorem less_tree2 (es fs : List (List D)) (j : Int) (K : D → Prop) (hj : IntKind.i64.wrap ((es.length : Nat) - 1) = j) : callX Tryd.prog (ctxL [] [(41, 4, onceL lessJ (lessS es fs false j) (lessS es fs false (-1)) (.exit 0))] 0) 2 41 [.list false 3 es, .list false 3 fs] K = (
    bif ((es.length : Nat) : Int) != ((fs.length : Nat) : Int) then K (.v (.bool (decide (((es.length : Nat) : Int) < ((fs.length : Nat) : Int))))) else lessS es fs false j = lessS es fs false j ∧ K (.v (.bool false))) := by
  subst hj; kernel_rfl
set_option maxRecDepth 100000 in
theorem less_tree3 (es fs : List (List D)) (K : D → Prop) : callX Tryd.prog (ctxL [] [(41, 4, fun _ _ => False)] 0) 2 41 [.list false 3 es, .list false 3 fs] K = (
    bif ((es.length : Nat) : Int) != ((fs.length : Nat) : Int) then K (.v (.bool (decide (((es.length : Nat) : Int) < ((fs.length : Nat) : Int))))) else False) := by kernel_rfl
theorem less_ps (n m : Nat) (hn : (dig n).length < 100000) (hm : (dig m).length < 100000) : PS Tryd.prog 41 [.list false 3 (dD (dig n)), .list false 3 (dD (dig m))] (.v (.bool (decide (n < m)))) := by
  by_cases hl : (dig m).length = (dig n).length
  · obtain ⟨e, s', h1, h2⟩ := less_runs (dig n) (dig m) (by omega) hl (dig n).length (Nat.le_refl _)
    have hv := lessN_eq (dig n) (dig m) (dig_lt n) (dig_lt m) hl (dig n).length (Nat.le_refl _)
    rw [List.take_length, ← hl, List.take_length, num_dig, num_dig, hl] at hv
    have hj : IntKind.i64.wrap (((dD (dig n)).length : Nat) - 1) = (((dig n).length : Nat) : Int) - 1 := by rw [dD_len, wrap_small (by omega) (by omega)]
    have hne : ((((dD (dig n)).length : Nat) : Int) != (((dD (dig m)).length : Nat) : Int)) = false := by rw [dD_len, dD_len, hl]; exact bne_self_eq_false _
    rcases h2 with ⟨rfl, i, rfl⟩ | ⟨rfl, h3, rfl⟩
    · rw [hv] at h1
      refine callX_eq (n := 2) (ctxL_ok (l := []) (ll := [(41, 4, onceL lessJ (lessS (dD (dig n)) (dD (dig m)) false ((((dig n).length : Nat) : Int) - 1)) (lessS (dD (dig n)) (dD (dig m)) (decide (n < m)) i) .ret)]) (fuel := 0) none_ok ?_) ?_
      · intro x hx
        obtain rfl := List.mem_singleton.1 hx
        exact LoopSound.mk (n := 0) Tryd.func41 rfl (by kernel_rfl) (by kernel_rfl) (Runs.once none_ok (by kernel_rfl) h1)
      · rw [less_tree1 _ _ _ _ _ _ hj, hne]
        exact ⟨rfl, rfl⟩
    · rw [h3] at hv
      refine callX_eq (n := 2) (ctxL_ok (l := []) (ll := [(41, 4, onceL lessJ (lessS (dD (dig n)) (dD (dig m)) false ((((dig n).length : Nat) : Int) - 1)) (lessS (dD (dig n)) (dD (dig m)) false (-1)) (.exit 0))]) (fuel := 0) none_ok ?_) ?_
      · intro x hx
        obtain rfl := List.mem_singleton.1 hx
        exact LoopSound.mk (n := 0) Tryd.func41 rfl (by kernel_rfl) (by kernel_rfl) (Runs.once none_ok (by kernel_rfl) h1)
      · rw [less_tree2 _ _ _ _ hj, hne, ← hv]
        exact ⟨rfl, rfl⟩
  · have hne : ((((dD (dig n)).length : Nat) : Int) != (((dD (dig m)).length : Nat) : Int)) = true := by rw [dD_len, dD_len, bne_iff_ne]; omega
    have hv : decide ((((dD (dig n)).length : Nat) : Int) < (((dD (dig m)).length : Nat) : Int)) = decide (n < m) := by
      rw [dD_len, dD_len, Bool.eq_iff_iff, decide_eq_true_eq, decide_eq_true_eq]
      constructor
      · intro h; exact len_lt (by omega)
      · intro h
        rcases Nat.lt_or_ge (dig n).length (dig m).length with h3 | h3
        · omega
        · have := len_lt (n := m) (m := n) (by omega); omega
    refine callX_eq (n := 2) (ctxL_ok (l := []) (ll := [(41, 4, fun _ _ => False)]) (fuel := 0) none_ok ?_) ?_
    · intro x hx
      obtain rfl := List.mem_singleton.1 hx
      exact LoopSound.mk (n := 0) Tryd.func41 rfl (by kernel_rfl) (by kernel_rfl) (fun _ _ h => h.elim)
    · rw [less_tree3, hne, hv]
      exact rfl
def lessC (N : Nums) : Orc := fun _ ds K => match ds with
  | [.list false T es, .list false T' fs] => T = 3 ∧ T' = 3 ∧ N.ok es ∧ N.ok fs ∧ K (.v (.bool (decide (N.num es < N.num fs))))
  | _ => False
theorem lessC_ok : Sound 41 (lessC numsR) := by
  intro ds K hK
  unfold lessC at hK
  split at hK
  · obtain ⟨rfl, rfl, ⟨n, rfl, hl⟩, ⟨m, rfl, hl'⟩, hK⟩ := hK
    refine ⟨_, hK, fun K' h => ⟨rfl, rfl, ⟨n, rfl, hl⟩, ⟨m, rfl, hl'⟩, h⟩, ?_⟩
    rw [nums_num', nums_num']
    exact less_ps n m hl hl'
  · exact hK.elim
end Go.Proofs.YthhfnggigmfmjaaDoor
