/-
  A region that draws its order: whatever order its edges allow comes to what the text's order comes to. No program in sight.
-/
import Derived.Test.YtnjhmlnmdnocmaaAbsO
namespace Go.Proofs.Ytnjhmlnmdnocmaa
set_option linter.unusedSimpArgs false
set_option linter.unusedVariables false
open Go.RowKit
open Look (ret rd chk)

/-- What each operation waits for, by whatever road. -/
def ancs : List Oper → List (List Nat) → List (List Nat)
  | [], acc => acc
  | o :: rest, acc => ancs rest (acc ++ [(o.after.toList.filter (Region.binds .any ·)).flatMap fun e => e.on :: acc.getD e.on []])
def disj (a b : List Nat) : Bool := a.all fun x => !b.contains x
def early : Nat → List Oper → Bool
  | _, [] => true
  | i, o :: rest => (o.after.toList.all fun e => !Region.binds .any e || decide (e.on < i)) && early (i + 1) rest
/-- Operations that no edge orders meet at nothing that one of them writes. -/
def okPairs (an : List (List Nat)) (lg : List (List Nat × List Nat)) : Bool :=
  (List.range lg.length).all fun j => (List.range j).all fun i => (an.getD j []).contains i ||
    (disj (lg.getD i ([], [])).1 ((lg.getD j ([], [])).2 ++ (lg.getD j ([], [])).1) && disj (lg.getD i ([], [])).2 (lg.getD j ([], [])).1)
def okRegion (ops : List Oper) (lg : List (List Nat × List Nat)) : Bool := early 0 ops && okPairs (ancs ops []) lg

theorem early_spec : ∀ (ops : List Oper) (k i : Nat) (o : Oper), early k ops = true → ops[i]? = some o → ∀ e ∈ o.after, Region.binds .any e = true → e.on < k + i
  | [], k, i, o, _, h => by simp at h
  | p :: ops, k, i, o, h, hi => by
    simp only [early, Bool.and_eq_true] at h
    cases i with
    | zero =>
      simp at hi; subst hi
      intro e he hb
      have := List.all_eq_true.1 h.1 e (by simpa using he)
      simp only [hb, Bool.not_true, Bool.false_or, decide_eq_true_eq] at this
      omega
    | succ i =>
      simp at hi
      intro e he hb
      have := early_spec ops (k + 1) i o h.2 hi e he hb
      omega

theorem ancs_acc : ∀ (ops : List Oper) (acc : List (List Nat)), (∃ l, ancs ops acc = acc ++ l ∧ l.length = ops.length)
  | [], acc => ⟨[], by simp [ancs], rfl⟩
  | o :: ops, acc => by
    obtain ⟨l, h, hl⟩ := ancs_acc ops (acc ++ [(o.after.toList.filter (Region.binds .any ·)).flatMap fun e => e.on :: acc.getD e.on []])
    exact ⟨_ :: l, by simp only [ancs]; rw [h, List.append_assoc]; rfl, by simp [hl]⟩

theorem ancs_spec : ∀ (ops : List Oper) (acc : List (List Nat)) (i : Nat) (o : Oper), ops[i]? = some o → ∀ x ∈ (ancs ops acc).getD (acc.length + i) [],
    ∃ e ∈ o.after, Region.binds .any e = true ∧ (x = e.on ∨ e.on < acc.length + i ∧ x ∈ (ancs ops acc).getD e.on [])
  | [], acc, i, o, h => by simp at h
  | p :: ops, acc, i, o, h => by
    intro x hx
    simp only [ancs] at hx ⊢
    cases i with
    | zero =>
      simp at h; subst h
      obtain ⟨l, hl, _⟩ := ancs_acc ops (acc ++ [(p.after.toList.filter (Region.binds .any ·)).flatMap fun e => e.on :: acc.getD e.on []])
      rw [hl] at hx ⊢
      have e1 : (acc ++ [(p.after.toList.filter (Region.binds .any ·)).flatMap fun e => e.on :: acc.getD e.on []] ++ l).getD (acc.length + 0) [] = (p.after.toList.filter (Region.binds .any ·)).flatMap fun e => e.on :: acc.getD e.on [] := by
        simp [List.getD_eq_getElem?_getD]
      rw [e1] at hx
      simp only [List.mem_flatMap, List.mem_filter] at hx
      obtain ⟨e, ⟨he, hb⟩, hx⟩ := hx
      refine ⟨e, by simpa using he, hb, ?_⟩
      simp only [List.mem_cons] at hx
      rcases hx with hx | hx
      · exact .inl hx
      · refine .inr ?_
        have hlt : e.on < acc.length := by
          rcases Nat.lt_or_ge e.on acc.length with h0 | h0
          · exact h0
          · rw [List.getD_eq_getElem?_getD, List.getElem?_eq_none h0] at hx; simp at hx
        refine ⟨by omega, ?_⟩
        rw [List.getD_eq_getElem?_getD, List.append_assoc, List.getElem?_append_left hlt, ← List.getD_eq_getElem?_getD]
        exact hx
    | succ i =>
      simp at h
      have := ancs_spec ops (acc ++ [(p.after.toList.filter (Region.binds .any ·)).flatMap fun e => e.on :: acc.getD e.on []]) i o h x
      simp only [List.length_append, List.length_singleton] at this
      rw [show acc.length + (i + 1) = acc.length + 1 + i by omega] at hx ⊢
      exact this hx

/-- What is done is closed: of what is done all is done that it waits for. -/
theorem closed_anc {ops : List Oper} {S : Nat → Prop} (hS : ∀ (i : Nat) (o : Oper), ops[i]? = some o → S i → ∀ e ∈ o.after, Region.binds .any e = true → S e.on) (hE : early 0 ops = true) :
    ∀ (i : Nat) (o : Oper), ops[i]? = some o → (∀ e ∈ o.after, Region.binds .any e = true → S e.on) → ∀ x ∈ (ancs ops []).getD i [], S x := by
  intro i
  induction i using Nat.strongRecOn with
  | _ i ih =>
    intro o ho hS' x hx
    have := ancs_spec ops [] i o ho x (by simpa using hx)
    obtain ⟨e, he, hb, h⟩ := this
    rcases h with rfl | ⟨_, h⟩
    · exact hS' e he hb
    · have hlt := early_spec ops 0 i o hE ho e he hb
      have hi := (List.getElem?_eq_some_iff.1 ho).1
      have ho' : ops[e.on]? = some (ops[e.on]'(by omega)) := List.getElem?_eq_getElem (by omega)
      exact ih e.on (by omega) _ ho' (hS _ _ ho' (hS' e he hb)) x h

theorem anc_lt {ops : List Oper} (hE : early 0 ops = true) : ∀ (i : Nat) (o : Oper), ops[i]? = some o → ∀ x ∈ (ancs ops []).getD i [], x < i := by
  intro i
  induction i using Nat.strongRecOn with
  | _ i ih =>
    intro o ho x hx
    obtain ⟨e, he, hb, h⟩ := ancs_spec ops [] i o ho x (by simpa using hx)
    have hlt := early_spec ops 0 i o hE ho e he hb
    rcases h with rfl | ⟨_, h⟩
    · omega
    · have hi := (List.getElem?_eq_some_iff.1 ho).1
      have ho' : ops[e.on]? = some (ops[e.on]'(by omega)) := List.getElem?_eq_getElem (by omega)
      have := ih e.on (by omega) _ ho' x h
      omega

/-- The last write to a temporary. -/
def wr (ws : List (Nat × D)) (t : Nat) (d : D) : D := ws.foldl (fun d p => if p.1 = t then p.2 else d) d
theorem wr_not {ws : List (Nat × D)} {t : Nat} : ∀ {d : D}, t ∉ ws.map (·.1) → wr ws t d = d := by
  induction ws with
  | nil => intro d _; rfl
  | cons p ws ih =>
    intro d h
    simp only [List.map_cons, List.mem_cons, not_or] at h
    show wr ws t (if p.1 = t then p.2 else d) = d
    rw [if_neg (fun e => h.1 e.symm)]
    exact ih h.2
theorem wr_mem {ws : List (Nat × D)} {t : Nat} : ∀ {d d' : D}, t ∈ ws.map (·.1) → wr ws t d = wr ws t d' := by
  induction ws with
  | nil => intro d d' h; simp at h
  | cons p ws ih =>
    intro d d' h
    show wr ws t (if p.1 = t then p.2 else d) = wr ws t (if p.1 = t then p.2 else d')
    by_cases hp : p.1 = t
    · rw [if_pos hp, if_pos hp]
    · rw [if_neg hp, if_neg hp]
      simp only [List.map_cons, List.mem_cons] at h
      rcases h with h | h
      · exact absurd h.symm hp
      · exact ih h
theorem apply_length : ∀ (ws : List (Nat × D)) (s : List D), (apply ws s).length = s.length
  | [], s => rfl
  | p :: ws, s => by rw [apply_cons, apply_length ws]; simp
theorem get_apply : ∀ (ws : List (Nat × D)) (s : List D) (t : Nat), t < s.length → get (apply ws s) t = wr ws t (get s t)
  | [], s, t, _ => rfl
  | p :: ws, s, t, h => by
    rw [apply_cons, get_apply ws _ t (by simpa using h), get_set]
    show _ = wr ws t (if p.1 = t then p.2 else get s t)
    by_cases hp : p.1 = t
    · rw [if_pos ⟨hp, by omega⟩, if_pos hp]
    · rw [if_neg (fun e => hp e.1), if_neg hp]

/-- The frame behind those of some operations that are done. -/
def stS (tr : Nat → List (Nat × D)) (s0 : List D) (S : Nat → Bool) : Nat → List D
  | 0 => s0
  | n + 1 => if S n then apply (tr n) (stS tr s0 S n) else stS tr s0 S n
theorem stS_length (tr : Nat → List (Nat × D)) (s0 : List D) (S : Nat → Bool) : ∀ n, (stS tr s0 S n).length = s0.length
  | 0 => rfl
  | n + 1 => by
    simp only [stS]
    split
    · rw [apply_length, stS_length tr s0 S n]
    · exact stS_length tr s0 S n
/-- Where those that write a temporary are the same, it holds the same. -/
theorem stS_same {tr : Nat → List (Nat × D)} {s0 : List D} {S S' : Nat → Bool} {t : Nat} : ∀ n, (∀ i, i < n → t ∈ (tr i).map (·.1) → S i = S' i) → get (stS tr s0 S n) t = get (stS tr s0 S' n) t
  | 0, _ => rfl
  | n + 1, h => by
    have ih := stS_same (s0 := s0) n fun i hi => h i (by omega)
    by_cases ht : t < s0.length
    · simp only [stS]
      by_cases hm : t ∈ (tr n).map (·.1)
      · have := h n (by omega) hm
        rw [this]
        split
        · rw [get_apply _ _ _ (by rw [stS_length]; exact ht), get_apply _ _ _ (by rw [stS_length]; exact ht), ih]
        · exact ih
      · have f : ∀ S : Nat → Bool, get (if S n then apply (tr n) (stS tr s0 S n) else stS tr s0 S n) t = get (stS tr s0 S n) t := by
          intro S
          split
          · rw [get_apply _ _ _ (by rw [stS_length]; exact ht), wr_not hm]
          · rfl
        rw [f, f]; exact ih
    · rw [get_ge (by rw [stS_length]; omega), get_ge (by rw [stS_length]; omega)]
theorem stS_cut {tr : Nat → List (Nat × D)} {s0 : List D} {S : Nat → Bool} {k : Nat} : ∀ n, k ≤ n → (∀ i, k ≤ i → i < n → S i = false) → stS tr s0 S n = stS tr s0 S k
  | 0, h, _ => by have : k = 0 := by omega
                  subst this; rfl
  | n + 1, h, hS => by
    by_cases hk : k = n + 1
    · rw [hk]
    · simp only [stS]
      rw [hS n (by omega) (by omega)]
      exact stS_cut n (by omega) fun i h1 h2 => hS i h1 (by omega)
theorem stS_congr {tr : Nat → List (Nat × D)} {s0 : List D} {S S' : Nat → Bool} : ∀ n, (∀ i, i < n → S i = S' i) → stS tr s0 S n = stS tr s0 S' n
  | 0, _ => rfl
  | n + 1, h => by simp only [stS]; rw [h n (by omega), stS_congr n fun i hi => h i (by omega)]

theorem list_ext_get {s s' : List D} (hl : s.length = s'.length) (h : ∀ t, t < s.length → get s t = get s' t) : s = s' := by
  apply List.ext_getElem hl
  intro i h1 h2
  have := h i h1
  simpa [get, h1, h2] using this

/-- One more is done. -/
theorem stS_add {tr : Nat → List (Nat × D)} {s0 : List D} {S S' : Nat → Bool} {n j : Nat} (hj : j < n) (hSj : S j = false) (hS' : ∀ i, S' i = (S i || i == j))
    (hlast : ∀ i t, j < i → i < n → S i = true → t ∈ (tr j).map (·.1) → t ∉ (tr i).map (·.1)) : stS tr s0 S' n = apply (tr j) (stS tr s0 S n) := by
  refine list_ext_get (by rw [apply_length, stS_length, stS_length]) fun t ht => ?_
  rw [stS_length] at ht
  rw [get_apply _ _ _ (by rw [stS_length]; exact ht)]
  by_cases hm : t ∈ (tr j).map (·.1)
  · -- the last write is j's
    have key : ∀ m, j < m → m ≤ n → get (stS tr s0 S' m) t = wr (tr j) t .undef := by
      intro m
      induction m with
      | zero => intro h; omega
      | succ m ih =>
        intro h1 h2
        simp only [stS]
        by_cases hjm : m = j
        · subst hjm
          rw [hS' m]
          simp only [beq_self_eq_true, Bool.or_true, if_true]
          rw [get_apply _ _ _ (by rw [stS_length]; exact ht)]
          exact wr_mem hm
        · have ihm := ih (by omega) (by omega)
          split
          · rename_i hs
            rw [hS' m] at hs
            have hsm : S m = true := by simpa [hjm] using hs
            rw [get_apply _ _ _ (by rw [stS_length]; exact ht), wr_not (hlast m t (by omega) (by omega) hsm hm)]
            exact ihm
          · exact ihm
    rw [key n hj (Nat.le_refl _)]
    exact wr_mem hm
  · rw [wr_not hm]
    exact stS_same n fun i _ hi => by
      rw [hS' i]
      by_cases e : i = j
      · subst e; exact absurd hi hm
      · simp [e]
end Go.Proofs.Ytnjhmlnmdnocmaa
