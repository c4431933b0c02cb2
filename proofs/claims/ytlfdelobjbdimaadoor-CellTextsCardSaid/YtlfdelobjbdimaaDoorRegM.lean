/-
  A region that draws its order: operations whose value hangs neither on the order nor on the world (loads of cells that stay, sums, calls that hand back plain values and only make new memory) are taken first, a call too: behind each step the world may have grown ('Ext'). No program in sight.
-/
import Derived.Deep.RegionHeld3
import Derived.WalkKit
namespace Go.Proofs.YtlfdelobjbdimaaDoor
set_option linter.unusedSimpArgs false
set_option linter.unusedVariables false
open Go.RowKit

/-- w' is w with new blocks, and nothing else: what was there stands as it stood. -/
def Ext (w w' : World) : Prop := Below w.heap.size w w'
theorem Ext.refl (w : World) : Ext w w := Below.refl _ _
theorem Ext.trans {a b c : World} (h : Ext a b) (k : Ext b c) : Ext a c := Below.trans h (Below.mono k h.size)
theorem Ext.below {B : Nat} {a b : World} (h : Ext a b) (hB : B ≤ a.heap.size) : Below B a b := Below.mono h hB
theorem Ext.alloc (w : World) (o : Obj) : Ext w (w.alloc o) := (Below.refl _ _).alloc (Nat.le_refl _) o
theorem size_alloc (w : World) (o : Obj) : (w.alloc o).heap.size = w.heap.size + 1 := by show (w.heap.push o).size = _; simp
theorem at_alloc (w : World) (o : Obj) : (w.alloc o).heap[w.heap.size]? = some o := by show (w.heap.push o)[w.heap.size]? = _; simp
theorem Ext.set {a w : World} {p : Addr} {u : Value} (h : Ext a w) (hp : a.heap.size ≤ p.block) : Ext a (w.setCell p u) := Below.setCell h hp u
theorem Ext.al {a w : World} {o : Obj} (h : Ext a w) : Ext a (w.alloc o) := Below.alloc h h.size o
theorem Ext.dr {a w : World} (h : Ext a w) : Ext a w.drew := Below.drew h
theorem Ext.drew (w : World) : Ext w w.drew := (Below.refl _ _).drew

/-- The n-th of a list, so that it reads at once. -/
def nth {α : Type} : List α → Nat → Option α
  | [], _ => none
  | x :: _, 0 => some x
  | _ :: l, n + 1 => nth l n
theorem nth_eq {α : Type} : ∀ (l : List α) (i : Nat), nth l i = l[i]?
  | [], _ => by simp [nth]
  | _ :: _, 0 => by simp [nth]
  | _ :: l, n + 1 => by simp [nth, nth_eq l n]
theorem at_of_nth {ops : Array Oper} {i : Nat} {o : Oper} (h : nth ops.toList i = some o) : ops[i]? = some o := by
  rw [nth_eq, Array.getElem?_toList] at h; exact h

section
variable {P : Program} {ops : Array Oper} {Q : Exit → Act → World → Prop} {md : Region.Mode} {S : World → Prop}

/-- What an operation hands back at world w is v, in a world that has only grown and meets S. -/
def Hands (P : Program) (S : World → Prop) (w : World) (v : Value) : Result Next → Prop
  | .ok (.value u) w' => u = v ∧ Ext w w' ∧ S w'
  | .ok .skip w' => undef = v ∧ Ext w w' ∧ S w'
  | .ok (.enter f args) w' => Calls P f args w' fun e w'' => e = .returned v ∧ Ext w w'' ∧ S w''
  | _ => False

/-- In state a, in every world that meets S, operation o hands back v and the world only grows. -/
def Steady (P : Program) (ops : Array Oper) (S : World → Prop) (o : Oper) (v : Value) (a : Act) : Prop :=
  (Region.wanted o (yielded ops a.tmps) = true ∧ ∀ w, S w → Hands P S w v ((execOp a.eval o).run P w)) ∨
  (Region.wanted o (yielded ops a.tmps) = false ∧ v = undef)

theorem Steady.of_same {o : Oper} {v : Value} {a a' : Act} (h : Steady P ops S o v a) (he : execOp a'.eval o = execOp a.eval o)
    (hw : Region.wanted o (yielded ops a'.tmps) = Region.wanted o (yielded ops a.tmps)) : Steady P ops S o v a' := by
  unfold Steady at *; rw [he, hw]; exact h

theorem Steady.wpOp {i : Nat} {o : Oper} {v : Value} {a : Act} (hi : ops[i]? = some o) (hy : Steady P ops S o v a)
    {K : Act → World → Prop} {w : World} (hS : S w) (h : ∀ w', Ext w w' → S w' → K (a.put o.dst v) w') : wpOp P ops Q i K a w := by
  unfold Go.wpOp
  simp only [hi]
  rcases hy with ⟨hw, hv⟩ | ⟨hw, rfl⟩
  · simp only [hw, if_true]
    refine .inl ?_
    have h1 := hv w hS
    unfold Oper.wp
    generalize (execOp a.eval o).run P w = r at *
    cases r with
    | ok n w' =>
      cases n <;> simp only [Oper.upon, Hands] at h1 ⊢
      case value u => obtain ⟨rfl, h2, h3⟩ := h1; exact h w' h2 h3
      case skip => obtain ⟨rfl, h2, h3⟩ := h1; exact h w' h2 h3
      case enter f args =>
        refine Calls.mono h1 ?_
        rintro e w'' ⟨rfl, h2, h3⟩
        exact h w'' h2 h3
    | halt x w' => exact h1.elim
  · simp only [hw, Bool.false_eq_true, if_false]; exact h w (Ext.refl w) hS

/-- An operation run in a frame in which a slot that it does not look at is already filled runs as well ahead of that. -/
theorem wpOp_ahead {j : Nat} {oj : Oper} {d : Option Tmp} {v : Value} (T : Act → Prop) (hj : ops[j]? = some oj) (hsj : ∀ cs b, oj.op ≠ .select cs b)
    (hlook : ∀ t, d = some t → t ∉ oj.looksAt ops) (hne : ∀ t, d = some t → oj.dst ≠ some t)
    (hkeep : ∀ a u, T a → T (a.put oj.dst u)) (hkeepD : ∀ (a : Act) x, T a → T { a with defers := x :: a.defers })
    (hQ : ∀ c a w, Q (.panic c) (a.put d v) w → Q (.panic c) a w) {K : Act → World → Prop} {a : Act} {w : World} (hT : T a)
    (h : wpOp P ops Q j K (a.put d v) w) : wpOp P ops Q j (fun a' w' => T a' ∧ K (a'.put d v) w') a w := by
  have hx := execOp_put (ops := ops) oj hsj a d v hlook
  have hwn := wanted_put (ops := ops) oj a d v hlook
  have hc : ∀ (b : Act) u, (b.put d v).put oj.dst u = (b.put oj.dst u).put d v := fun b u => Act.put_comm b v u hne
  unfold Go.wpOp at *
  simp only [hj, hwn] at *
  by_cases hw : Region.wanted oj (yielded ops a.tmps) = true
  · simp only [hw, if_true] at h ⊢
    rcases h with h | ⟨hasks, hlets⟩
    · refine .inl ?_
      unfold Oper.wp at *
      rw [hx] at h
      generalize (execOp a.eval oj).run P w = r at *
      match r, h with
      | .ok (.value u) w', h => exact ⟨hkeep a u hT, by rw [← hc]; exact h⟩
      | .ok .skip w', h => exact ⟨hkeep a _ hT, by rw [← hc]; exact h⟩
      | .ok (.defer x) w', h => exact ⟨hkeep _ _ (hkeepD a x hT), by rw [← hc, ← Act.put_defers]; exact h⟩
      | .ok (.row row args) w', h => exact Rows.mono h fun u w'' he => ⟨hkeep a u hT, by rw [← hc]; exact he⟩
      | .ok (.enter f args) w', h =>
        refine Calls.mono h fun e w'' he => ?_
        match e, he with
        | .returned u, he => exact ⟨hkeep a u hT, by rw [← hc]; exact he⟩
        | .panicked c, he => exact hQ _ _ _ he
        | .outgrown, he => exact he
      | .halt (.panic u) w', h => exact hQ _ _ _ h
    · exact .inr ⟨by unfold Oper.asks at *; rw [hx] at hasks; exact hasks, hlets⟩
  · simp only [hw] at h ⊢
    exact ⟨hkeep a _ hT, by rw [← hc]; exact h⟩

/-- An operation that moves or picks: its value hangs on the frame alone. -/
def calm (o : Oper) : Bool := match o.op with | .move _ | .assign _ | .pick .. | .extract .. | .unOp .not .. => true | _ => false

theorem calm_run {o : Oper} (h : calm o = true) (ρ : Operand → Value) : (∃ u, execOp ρ o = Sem.pure (.value u)) ∨ (∃ t, execOp ρ o = stuck t) := by
  obtain ⟨dst, op, type, pos, after, guard⟩ := o
  cases op <;> simp only [calm] at h <;> try cases h
  case move x => exact .inl ⟨_, rfl⟩
  case assign x => exact .inl ⟨_, rfl⟩
  case pick c x y =>
    simp only [execOp]
    cases hc : ρ c
    case bool b => exact .inl ⟨_, rfl⟩
    all_goals exact .inr ⟨_, rfl⟩
  case extract x i =>
    simp only [execOp]
    cases hc : ρ x
    case tuple vs =>
      simp only [Instr.extract]
      cases vs[i]? with
      | some v => exact .inl ⟨_, rfl⟩
      | none => exact .inr ⟨_, rfl⟩
    all_goals exact .inr ⟨_, rfl⟩
  case unOp uo ty x =>
    cases uo <;> simp only [calm] at h <;> try cases h
    simp only [execOp]
    cases hc : ρ x
    case bool b => exact .inl ⟨_, rfl⟩
    all_goals exact .inr ⟨_, rfl⟩

theorem calm_wpOp {j : Nat} {oj : Oper} {a b : Act} {w : World} {K : Act → World → Prop} (hj : ops[j]? = some oj) (hc : calm oj = true)
    (hx : execOp a.eval oj = execOp b.eval oj) (hw : Region.wanted oj (yielded ops a.tmps) = Region.wanted oj (yielded ops b.tmps)) (h : wpOp P ops Q j K b w) :
    ∃ u, (∀ K' w', K' (a.put oj.dst u) w' → wpOp P ops Q j K' a w') ∧ (∀ K' w', wpOp P ops Q j K' b w' → K' (b.put oj.dst u) w') := by
  unfold Go.wpOp at *
  simp only [hj] at *
  rw [hw]
  by_cases hwn : Region.wanted oj (yielded ops b.tmps) = true
  · simp only [hwn, if_true] at *
    rcases calm_run hc b.eval with ⟨u, hu⟩ | ⟨t, ht⟩
    · refine ⟨u, fun K' w' hK => .inl ?_, fun K' w' hK => ?_⟩
      · unfold Oper.wp; rw [hx, hu]; exact hK
      · rcases hK with hK | hK
        · unfold Oper.wp at hK; rw [hu] at hK; exact hK
        · unfold Oper.asks at hK; rw [hu] at hK
          exact absurd hK.1.1 (by show ¬ _ ∈ (#[] : Array Event); simp)
    · rcases h with h | h
      · unfold Oper.wp at h; rw [ht] at h; exact h.elim
      · unfold Oper.asks at h; rw [ht] at h
        exact absurd h.1.1 (by show ¬ _ ∈ (#[] : Array Event); simp)
  · simp only [hwn] at *
    exact ⟨undef, fun K' w' hK => hK, fun K' w' hK => hK⟩

/-- All of A are listed. -/
def doneA (ops : Array Oper) (A : Nat → Bool) (listed : Array Bool) : Bool := (List.range ops.size).all fun i => !A i || listed.getD i true
/-- Operation j waits for operation i, by a road of at most n + 1 edges. -/
def waits (md : Region.Mode) (ops : Array Oper) : Nat → Nat → Nat → Bool
  | 0, j, i => ((ops[j]?).map fun o => o.after.any fun e => Region.binds md e && e.on == i).getD false
  | n + 1, j, i => waits md ops n j i || ((ops[j]?).map fun o => o.after.any fun e => Region.binds md e && waits md ops n e.on i).getD false
/-- Who is not of A moves or picks, or waits for all of A. -/
def lastA (md : Region.Mode) (ops : Array Oper) (A : Nat → Bool) : Bool :=
  (List.range ops.size).all fun j => A j || (((ops[j]?).map calm).getD false || (List.range ops.size).all fun i => !A i || waits md ops 3 j i)
/-- What has come up has come up behind all that it waits for. -/
def closedB (md : Region.Mode) (ops : Array Oper) (listed : Array Bool) : Bool :=
  (List.range ops.size).all fun j => !listed.getD j false || ((ops[j]?).map fun o => o.after.all fun e => !Region.binds md e || listed.getD e.on false).getD true
def Closed (md : Region.Mode) (ops : Array Oper) (listed : Array Bool) : Prop :=
  ∀ j o, ops[j]? = some o → listed.getD j false = true → ∀ e ∈ o.after, Region.binds md e = true → listed.getD e.on false = true
theorem closed_of {listed : Array Bool} (h : closedB md ops listed = true) : Closed md ops listed := fun j o ho hl e he hb => by
  have h1 := List.all_eq_true.1 h j (List.mem_range.2 (Array.getElem?_eq_some_iff.1 ho).1)
  simp only [ho, Option.map_some, Option.getD_some, hl, Bool.not_true, Bool.false_or] at h1
  have h2 := Array.all_eq_true_iff_forall_mem.1 h1 e he
  simpa [hb] using h2
theorem closed_set {listed : Array Bool} {j : Nat} (h : Closed md ops listed) (hj : j ∈ Region.ready md ops listed) : Closed md ops (listed.setIfInBounds j true) := fun k o ho hl e he hb => by
  by_cases hk : k = j
  · subst hk
    obtain ⟨_, o', ho', hall⟩ := mem_ready.1 hj
    obtain rfl : o' = o := by rw [ho] at ho'; exact (Option.some.inj ho').symm
    exact getD_set_true (hall e he hb)
  · refine getD_set_true (h k o ho ?_ e he hb)
    rwa [getD_set_ne false (Ne.symm hk)] at hl
theorem waits_listed {listed : Array Bool} (hc : Closed md ops listed) {i : Nat} : ∀ (n j : Nat), (∀ o, ops[j]? = some o → ∀ e ∈ o.after, Region.binds md e = true → listed.getD e.on false = true) → waits md ops n j i = true → listed.getD i false = true
  | 0, j, hj, h => by
    cases ho : ops[j]? with
    | none => simp [waits, ho] at h
    | some o =>
      simp only [waits, ho, Option.map_some, Option.getD_some] at h
      obtain ⟨e, he, hb⟩ := Array.any_eq_true'.1 h
      simp only [Bool.and_eq_true, beq_iff_eq] at hb
      exact hb.2 ▸ hj o ho e he hb.1
  | n + 1, j, hj, h => by
    simp only [waits, Bool.or_eq_true] at h
    rcases h with h | h
    · exact waits_listed hc n j hj h
    · cases ho : ops[j]? with
      | none => simp [ho] at h
      | some o =>
        simp only [ho, Option.map_some, Option.getD_some] at h
        obtain ⟨e, he, hb⟩ := Array.any_eq_true'.1 h
        simp only [Bool.and_eq_true] at hb
        exact waits_listed hc n e.on (fun o' ho' => hc e.on o' ho' (hj o ho e he hb.1)) hb.2

/-- Whatever order is picked from here on, as long as there is one of A to come; ahead of every step, and behind the last one, the world may have grown within S. Behind the last one of A: any order. -/
def wpAnyM (P : Program) (md : Region.Mode) (ops : Array Oper) (Q : Exit → Act → World → Prop) (S : World → Prop) (A : Nat → Bool) : Nat → Array Bool → Act → World → Prop
  | 0, listed, a, w => ∀ w', Ext w w' → S w' → wpAny P md ops Q 0 listed a w'
  | fuel + 1, listed, a, w => ∀ w', Ext w w' → S w' →
    if doneA ops A listed = true then wpAny P md ops Q (fuel + 1) listed a w' else
    (Region.ready md ops listed = [] → Q .normal a w') ∧
    ∀ i ∈ Region.ready md ops listed, wpOp P ops Q i (fun a' w'' => S w'' ∧ wpAnyM P md ops Q S A fuel (listed.setIfInBounds i true) a' w'') a w'

variable {A : Nat → Bool}
theorem wpAnyM.grow : ∀ (fuel : Nat) (listed : Array Bool) (a : Act) (w w1 : World), Ext w w1 → wpAnyM P md ops Q S A fuel listed a w → wpAnyM P md ops Q S A fuel listed a w1
  | 0, _, _, _, _, hx, h => fun w' hw' hS => h w' (hx.trans hw') hS
  | _ + 1, _, _, _, _, hx, h => fun w' hw' hS => h w' (hx.trans hw') hS

theorem wpAny_of_M : ∀ (fuel : Nat) (listed : Array Bool) (a : Act) (w : World), S w → wpAnyM P md ops Q S A fuel listed a w → wpAny P md ops Q fuel listed a w
  | 0, _, _, w, hS, h => h w (Ext.refl w) hS
  | fuel + 1, listed, _, w, hS, h => by
    have h1 := h w (Ext.refl w) hS
    by_cases hd : doneA ops A listed = true
    · rw [if_pos hd] at h1; exact h1
    · rw [if_neg hd] at h1
      exact ⟨h1.1, fun i hi => wpOp_mono (fun a' w' h' => wpAny_of_M fuel _ a' w' h'.1 h'.2) (h1.2 i hi)⟩

theorem doneA_not {listed : Array Bool} {i : Nat} (hi : i < ops.size) (hA : A i = true) (hl : listed.getD i true = false) : ¬ doneA ops A listed = true := fun h => by
  have h1 := List.all_eq_true.1 h i (List.mem_range.2 hi)
  rw [hA, hl] at h1; cases h1

theorem wpAnyM_first {i : Nat} {oi : Oper} {v : Value} (hi : ops[i]? = some oi) (hA : A i = true) (hlast : lastA md ops A = true) (hsel : ∀ (j : Nat) (o : Oper) cs b, ops[j]? = some o → o.op ≠ .select cs b)
    (hQ : ∀ c a w, Q (.panic c) (a.put oi.dst v) w → Q (.panic c) a w) :
    ∀ (fuel : Nat) (listed : Array Bool) (a : Act) (w : World),
      (∀ j oj, ops[j]? = some oj → j ≠ i → listed.getD j true = false → (∀ e ∈ oj.after, Region.binds md e = true → e.on ≠ i) → oi.apart ops oj = true) →
      Closed md ops listed → i ∈ Region.ready md ops listed → Steady P ops S oi v a →
      wpAnyM P md ops Q S A fuel (listed.setIfInBounds i true) (a.put oi.dst v) w → wpAnyM P md ops Q S A (fuel + 1) listed a w := by
  have hlt : i < ops.size := (Array.getElem?_eq_some_iff.1 hi).1
  intro fuel
  induction fuel with
  | zero =>
    intro listed a w hfree hcl hr hy H w' hx hS
    rw [if_neg (doneA_not hlt hA (mem_ready.1 hr).1)]
    refine ⟨fun h => (by rw [h] at hr; cases hr), fun j hj => ?_⟩
    by_cases hji : j = i
    · subst hji; exact hy.wpOp hi hS fun w'' hx' hS' => ⟨hS', wpAnyM.grow _ _ _ _ _ (hx.trans hx') H⟩
    · have h1 := ready_mono hj hji
      rw [(H w' hx hS).1] at h1
      cases h1
  | succ fuel ih =>
    intro listed a w hfree hcl hr hy H w' hx hS
    rw [if_neg (doneA_not hlt hA (mem_ready.1 hr).1)]
    refine ⟨fun h => (by rw [h] at hr; cases hr), fun j hj => ?_⟩
    by_cases hji : j = i
    · subst hji; exact hy.wpOp hi hS fun w'' hx' hS' => ⟨hS', wpAnyM.grow _ _ _ _ _ (hx.trans hx') H⟩
    · obtain ⟨hjun, oj, hoj, hall⟩ := mem_ready.1 hj
      have hjlt : j < ops.size := (Array.getElem?_eq_some_iff.1 hoj).1
      have hiun := (mem_ready.1 hr).1
      have hiun' : ¬ listed.getD i false = true := by
        rcases Nat.lt_or_ge i listed.size with h' | h'
        · simp [h'] at hiun ⊢; exact hiun
        · simp [Array.getElem?_eq_none h']
      have hji' : listed.getD j true = false := hjun
      have hjun' : (listed.setIfInBounds i true).getD j true = false := by rw [getD_set_ne true (Ne.symm hji)]; exact hji'
      have hnot : ∀ e ∈ oj.after, Region.binds md e = true → e.on ≠ i := fun e he hb heq => by
        have h1 := hall e he hb
        rw [heq] at h1
        exact hiun' h1
      obtain ⟨p1, p2, p3⟩ := Oper.apart_spec (hfree j oj hoj hji hjun hnot)
      have hseli : ∀ cs b, oi.op ≠ .select cs b := fun cs b => hsel i oi cs b hi
      have hselj : ∀ cs b, oj.op ≠ .select cs b := fun cs b => hsel j oj cs b hoj
      have hfree' : ∀ k ok, ops[k]? = some ok → k ≠ i → (listed.setIfInBounds j true).getD k true = false → (∀ e ∈ ok.after, Region.binds md e = true → e.on ≠ i) → oi.apart ops ok = true := by
        intro k ok hk hki hun hno
        refine hfree k ok hk hki ?_ hno
        by_cases hjk : j = k
        · subst hjk; exact hjun
        · rw [getD_set_ne true hjk] at hun; exact hun
      by_cases hd : doneA ops A (listed.setIfInBounds i true) = true
      · -- it is none of A: it moves or picks
        have hAj : ¬ A j = true := fun hA' => doneA_not hjlt hA' hjun' hd
        have hcm : calm oj = true := by
          have hl := List.all_eq_true.1 hlast j (List.mem_range.2 hjlt)
          simp only [hoj, Option.map_some, Option.getD_some, Bool.or_eq_true] at hl
          rcases hl with hl | hl | hl
          · exact absurd hl hAj
          · exact hl
          · have h2 := List.all_eq_true.1 hl i (List.mem_range.2 hlt)
            simp only [hA, Bool.not_true, Bool.false_or] at h2
            exact absurd (waits_listed hcl 3 j (fun o ho e he hb => by rw [hoj] at ho; cases ho; exact hall e he hb) h2) hiun'
        have h0 := H w' hx hS
        rw [if_pos hd] at h0
        obtain ⟨u, hu1, hu2⟩ := calm_wpOp (a := a) hoj hcm (execOp_put oj hselj a oi.dst v p1).symm (wanted_put oj a oi.dst v p1).symm (h0.2 j (ready_mono hj hji))
        refine hu1 _ _ ⟨hS, ih (listed.setIfInBounds j true) _ w' hfree' (closed_set hcl hj) (ready_mono hr (Ne.symm hji)) (hy.of_same (execOp_put oi hseli a oj.dst u p3) (wanted_put oi a oj.dst u p3)) ?_⟩
        have hd2 : doneA ops A ((listed.setIfInBounds j true).setIfInBounds i true) = true := by
          refine List.all_eq_true.2 fun k hk => ?_
          have h3 := List.all_eq_true.1 hd k hk
          rw [Array.setIfInBounds_comm _ _ hji]
          by_cases hjk : j = k
          · subst hjk; simp [hAj]
          · rw [getD_set_ne true hjk]; exact h3
        have hgo : ∀ w'', Ext w' w'' → S w'' → wpAny P md ops Q fuel ((listed.setIfInBounds j true).setIfInBounds i true) ((a.put oj.dst u).put oi.dst v) w'' := fun w'' hx' hS' => by
          have h5 := H w'' (hx.trans hx') hS'
          rw [if_pos hd] at h5
          have h6 := hu2 _ _ (h5.2 j (ready_mono hj hji))
          rw [Array.setIfInBounds_comm _ _ hji, ← Act.put_comm a v u p2]
          exact h6
        cases fuel with
        | zero => exact hgo
        | succ n => intro w'' hx' hS'; rw [if_pos hd2]; exact hgo w'' hx' hS'
      have h0 := H w' hx hS
      rw [if_neg hd] at h0
      have h1 := h0.2 j (ready_mono hj hji)
      have h2 := wpOp_ahead (Steady P ops S oi v) hoj hselj p1 p2
        (fun b u hb => hb.of_same (execOp_put oi hseli b oj.dst u p3) (wanted_put oi b oj.dst u p3)) (fun b x hb => hb.of_same rfl rfl) hQ hy h1
      refine wpOp_mono (fun a' w'' h3 => ⟨h3.2.1, ih (listed.setIfInBounds j true) a' w'' hfree' (closed_set hcl hj) (ready_mono hr (Ne.symm hji)) h3.1 ?_⟩) h2
      rw [Array.setIfInBounds_comm _ _ hji]
      exact h3.2.2

/-- The like for an operation that is none of A and yields its value in whatever world. -/
theorem wpAnyM_firstW {i : Nat} {oi : Oper} {v : Value} (hi : ops[i]? = some oi) (hA : A i = false) (hsel : ∀ (j : Nat) (o : Oper) cs b, ops[j]? = some o → o.op ≠ .select cs b)
    (hQ : ∀ c a w, Q (.panic c) (a.put oi.dst v) w → Q (.panic c) a w) :
    ∀ (fuel : Nat) (listed : Array Bool) (a : Act) (w : World),
      (∀ j oj, ops[j]? = some oj → j ≠ i → listed.getD j true = false → (∀ e ∈ oj.after, Region.binds md e = true → e.on ≠ i) → oi.apart ops oj = true) →
      i ∈ Region.ready md ops listed → Yields P ops oi v a →
      wpAnyM P md ops Q S A fuel (listed.setIfInBounds i true) (a.put oi.dst v) w → wpAnyM P md ops Q S A (fuel + 1) listed a w := by
  have hset : ∀ listed : Array Bool, doneA ops A (listed.setIfInBounds i true) = doneA ops A listed := fun listed => by
    rw [Bool.eq_iff_iff]
    unfold doneA
    simp only [List.all_eq_true]
    refine forall_congr' fun k => forall_congr' fun _ => ?_
    by_cases hk : i = k
    · subst hk; simp [hA]
    · rw [getD_set_ne true hk]
  intro fuel
  induction fuel with
  | zero =>
    intro listed a w hfree hr hy H w' hx hS
    by_cases hd : doneA ops A listed = true
    · rw [if_pos hd]
      exact wpAny_first hi hsel hQ 0 listed a w' hfree hr hy (H w' hx hS)
    · rw [if_neg hd]
      refine ⟨fun h => (by rw [h] at hr; cases hr), fun j hj => ?_⟩
      by_cases hji : j = i
      · subst hji; exact hy.wpOp hi ⟨hS, wpAnyM.grow _ _ _ _ _ hx H⟩
      · have h1 := ready_mono hj hji
        rw [(H w' hx hS).1] at h1
        cases h1
  | succ fuel ih =>
    intro listed a w hfree hr hy H w' hx hS
    by_cases hd : doneA ops A listed = true
    · rw [if_pos hd]
      have h0 := H w' hx hS
      rw [if_pos (by rw [hset]; exact hd)] at h0
      exact wpAny_first hi hsel hQ (fuel + 1) listed a w' hfree hr hy h0
    · rw [if_neg hd]
      refine ⟨fun h => (by rw [h] at hr; cases hr), fun j hj => ?_⟩
      by_cases hji : j = i
      · subst hji; exact hy.wpOp hi ⟨hS, wpAnyM.grow _ _ _ _ _ hx H⟩
      · have h0 := H w' hx hS
        rw [if_neg (by rw [hset]; exact hd)] at h0
        have h1 := h0.2 j (ready_mono hj hji)
        obtain ⟨hjun, oj, hoj, hall⟩ := mem_ready.1 hj
        have hiun := (mem_ready.1 hr).1
        have hiun' : ¬ listed.getD i false = true := by
          rcases Nat.lt_or_ge i listed.size with h' | h'
          · simp [h'] at hiun ⊢; exact hiun
          · simp [Array.getElem?_eq_none h']
        have hnot : ∀ e ∈ oj.after, Region.binds md e = true → e.on ≠ i := fun e he hb heq => by
          have h1 := hall e he hb
          rw [heq] at h1
          exact hiun' h1
        obtain ⟨p1, p2, p3⟩ := Oper.apart_spec (hfree j oj hoj hji hjun hnot)
        have hseli : ∀ cs b, oi.op ≠ .select cs b := fun cs b => hsel i oi cs b hi
        have hselj : ∀ cs b, oj.op ≠ .select cs b := fun cs b => hsel j oj cs b hoj
        have h2 := wpOp_ahead (Yields P ops oi v) hoj hselj p1 p2
          (fun b u hb => hb.of_same (execOp_put oi hseli b oj.dst u p3) (wanted_put oi b oj.dst u p3)) (fun b x hb => hb.of_same rfl rfl) hQ hy h1
        refine wpOp_mono (fun a' w'' h3 => ⟨h3.2.1, ih (listed.setIfInBounds j true) a' w'' ?_ (ready_mono hr (Ne.symm hji)) h3.1 ?_⟩) h2
        · intro k ok hk hki hun hno
          refine hfree k ok hk hki ?_ hno
          by_cases hjk : j = k
          · subst hjk; exact hjun
          · rw [getD_set_ne true hjk] at hun; exact hun
        · rw [Array.setIfInBounds_comm _ _ hji]
          exact h3.2.2

/-- The bookkeeping of a take, as one Bool. -/
def takesB (md : Region.Mode) (ops : Array Oper) (A : Nat → Bool) (listed : Array Bool) (i : Nat) : Bool :=
  A i && (lastA md ops A && (Region.noSelect ops && (Region.free md ops listed i && ((Region.ready md ops listed).contains i && closedB md ops listed))))

theorem wpAnyM_take (i : Nat) {oi : Oper} {v : Value} {fuel : Nat} {listed : Array Bool} {a : Act} {w : World} (hi : ops[i]? = some oi) (ht : takesB md ops A listed i = true)
    (hQ : ∀ c a w, Q (.panic c) (a.put oi.dst v) w → Q (.panic c) a w) (hy : Steady P ops S oi v a)
    (h : wpAnyM P md ops Q S A fuel (listed.setIfInBounds i true) (a.put oi.dst v) w) : wpAnyM P md ops Q S A (fuel + 1) listed a w := by
  simp only [takesB, Bool.and_eq_true] at ht
  exact wpAnyM_first hi ht.1 ht.2.1 (Region.noSelect_spec ht.2.2.1) hQ fuel listed a w (Region.free_spec hi ht.2.2.2.1) (closed_of ht.2.2.2.2.2) (by simpa using ht.2.2.2.2.1) hy h

/-- TAKEN FIRST: what yields a value in every world that meets S, and leaves it as it is. -/
theorem takeV (i : Nat) {oi : Oper} {v : Value} {fuel : Nat} {listed : Array Bool} {a : Act} {w : World} (hi : nth ops.toList i = some oi) (ht : takesB md ops A listed i = true)
    (hQ : ∀ c a w, Q (.panic c) (a.put oi.dst v) w → Q (.panic c) a w) (hw : Region.wanted oi (yielded ops a.tmps) = true)
    (hy : ∀ w, S w → (execOp a.eval oi).run P w = .ok (.value v) w)
    (h : wpAnyM P md ops Q S A fuel (listed.setIfInBounds i true) (a.put oi.dst v) w) : wpAnyM P md ops Q S A (fuel + 1) listed a w :=
  wpAnyM_take i (at_of_nth hi) ht hQ (.inl ⟨hw, fun w hS => by rw [hy w hS]; exact ⟨rfl, Ext.refl w, hS⟩⟩) h

/-- TAKEN FIRST: what is none of A and yields a value in whatever world. -/
theorem takeW (i : Nat) {oi : Oper} {v : Value} {fuel : Nat} {listed : Array Bool} {a : Act} {w : World} (hi : nth ops.toList i = some oi)
    (ht : (!A i && (Region.noSelect ops && (Region.free md ops listed i && (Region.ready md ops listed).contains i))) = true)
    (hQ : ∀ c a w, Q (.panic c) (a.put oi.dst v) w → Q (.panic c) a w) (hw : Region.wanted oi (yielded ops a.tmps) = true)
    (hy : ∀ w, (execOp a.eval oi).run P w = .ok (.value v) w)
    (h : wpAnyM P md ops Q S A fuel (listed.setIfInBounds i true) (a.put oi.dst v) w) : wpAnyM P md ops Q S A (fuel + 1) listed a w := by
  simp only [Bool.and_eq_true, Bool.not_eq_true'] at ht
  exact wpAnyM_firstW (at_of_nth hi) ht.1 (Region.noSelect_spec ht.2.1) hQ fuel listed a w (Region.free_spec (at_of_nth hi) ht.2.2.1) (by simpa using ht.2.2.2) (.inl ⟨hw, hy⟩) h

/-- TAKEN FIRST: what is passed over. -/
theorem takeN (i : Nat) {oi : Oper} {fuel : Nat} {listed : Array Bool} {a : Act} {w : World} (hi : nth ops.toList i = some oi) (ht : takesB md ops A listed i = true)
    (hQ : ∀ c a w, Q (.panic c) (a.put oi.dst undef) w → Q (.panic c) a w) (hw : Region.wanted oi (yielded ops a.tmps) = false)
    (h : wpAnyM P md ops Q S A fuel (listed.setIfInBounds i true) (a.put oi.dst undef) w) : wpAnyM P md ops Q S A (fuel + 1) listed a w :=
  wpAnyM_take i (at_of_nth hi) ht hQ (.inr ⟨hw, rfl⟩) h

/-- TAKEN FIRST: a call of a named function that hands back v in every world that meets S, and only makes memory. -/
theorem takeC (i : Nat) {oi : Oper} {v : Value} {f : FuncId} {args : Array Value} {fuel : Nat} {listed : Array Bool} {a : Act} {w : World} (hi : nth ops.toList i = some oi) (ht : takesB md ops A listed i = true)
    (hQ : ∀ c a w, Q (.panic c) (a.put oi.dst v) w → Q (.panic c) a w) (hw : Region.wanted oi (yielded ops a.tmps) = true)
    (hrun : ∀ w, (execOp a.eval oi).run P w = .ok (.enter f args) w)
    (hy : ∀ w, S w → Calls P f args w fun e w' => e = .returned v ∧ Ext w w' ∧ S w')
    (h : wpAnyM P md ops Q S A fuel (listed.setIfInBounds i true) (a.put oi.dst v) w) : wpAnyM P md ops Q S A (fuel + 1) listed a w :=
  wpAnyM_take i (at_of_nth hi) ht hQ (.inl ⟨hw, fun w hS => by rw [hrun w]; exact hy w hS⟩) h

/-- The only one that may come up: carried out in a world that has grown. -/
theorem oneM (i : Nat) {fuel : Nat} {listed : Array Bool} {a : Act} {w : World} {oi : Oper} (hi : nth ops.toList i = some oi) (hr : (A i && (!listed.getD i true && (Region.ready md ops listed == [i]))) = true)
    (hw : Region.wanted oi (yielded ops a.tmps) = true)
    (h : ∀ w', Ext w w' → S w' → oi.wp P a w' (fun a' w'' => S w'' ∧ wpAnyM P md ops Q S A fuel (listed.setIfInBounds i true) a' w'') Q) : wpAnyM P md ops Q S A (fuel + 1) listed a w := by
  replace hi := at_of_nth hi
  simp only [Bool.and_eq_true, Bool.not_eq_true', beq_iff_eq] at hr
  intro w' hx hS
  rw [if_neg (doneA_not (Array.getElem?_eq_some_iff.1 hi).1 hr.1 hr.2.1)]
  refine ⟨fun h0 => (by rw [h0] at hr; cases hr.2.2), fun j hj => ?_⟩
  rw [hr.2.2] at hj
  obtain rfl : j = i := by simpa using hj
  have h1 := h w' hx hS
  unfold Go.wpOp; simp only [hi, hw, if_true]; exact .inl h1

/-- The only one that may come up is a call that hands back something of a make R (memory of its own, say), and only makes memory. -/
theorem oneC (i : Nat) {oi : Oper} {f : FuncId} {args : Array Value} {fuel : Nat} {listed : Array Bool} {a : Act} {w : World} (R : Value → World → Prop) (hi : nth ops.toList i = some oi)
    (hr : (A i && (!listed.getD i true && (Region.ready md ops listed == [i]))) = true) (hw : Region.wanted oi (yielded ops a.tmps) = true)
    (hrun : ∀ w, (execOp a.eval oi).run P w = .ok (.enter f args) w)
    (hy : ∀ w', Ext w w' → S w' → Calls P f args w' fun e w'' => ∃ v, e = .returned v ∧ Ext w' w'' ∧ S w'' ∧ R v w'')
    (h : ∀ v w', Ext w w' → S w' → R v w' → wpAnyM P md ops Q S A fuel (listed.setIfInBounds i true) (a.put oi.dst v) w') : wpAnyM P md ops Q S A (fuel + 1) listed a w :=
  oneM i hi hr hw fun w' hx hS => by
    unfold Oper.wp; rw [hrun w']
    refine Calls.mono (hy w' hx hS) ?_
    rintro e w'' ⟨v, rfl, hx', hS', hR⟩
    exact ⟨hS', h v w'' (hx.trans hx') hS' hR⟩

/-- A new variable: at a block of its own. -/
theorem oneA (i : Nat) {oi : Oper} {obj : Obj} {fuel : Nat} {listed : Array Bool} {a : Act} {w : World} (hi : nth ops.toList i = some oi)
    (hr : (A i && (!listed.getD i true && (Region.ready md ops listed == [i]))) = true) (hw : Region.wanted oi (yielded ops a.tmps) = true)
    (hrun : ∀ w, (execOp a.eval oi).run P w = .ok (.value (.pointer (some ⟨w.heap.size, 0, none⟩))) (w.alloc obj)) (hS : ∀ w', Ext w w' → S w' → S (w'.alloc obj))
    (h : ∀ b w', Ext w w' → S w' → w.heap.size ≤ b → b < w'.heap.size → w'.heap[b]? = some obj →
      wpAnyM P md ops Q S A fuel (listed.setIfInBounds i true) (a.put oi.dst (.pointer (some ⟨b, 0, none⟩))) w') : wpAnyM P md ops Q S A (fuel + 1) listed a w :=
  oneM i hi hr hw fun w' hx hS' => by
    unfold Oper.wp; rw [hrun w']
    exact ⟨hS w' hx hS', h w'.heap.size _ (hx.trans (Ext.alloc _ _)) (hS w' hx hS') hx.size (by rw [size_alloc]; omega) (at_alloc _ _)⟩

/-- Two new variables, whichever is made first. -/
theorem twoA (i j : Nat) {oi oj : Oper} {x y : Obj} {fuel : Nat} {listed : Array Bool} {a : Act} {w : World} (hi : nth ops.toList i = some oi) (hj : nth ops.toList j = some oj)
    (hr : (A i && (A j && (!listed.getD i true && (!listed.getD j true && (i != j && ((Region.ready md ops listed == [i, j]) && ((Region.ready md ops (listed.setIfInBounds i true) == [j]) && ((Region.ready md ops (listed.setIfInBounds j true) == [i]))))))))) = true)
    (hgi : oi.guard = none) (hgj : oj.guard = none) (hd : oi.dst ≠ oj.dst)
    (hri : ∀ ρ w, (execOp ρ oi).run P w = .ok (.value (.pointer (some ⟨w.heap.size, 0, none⟩))) (w.alloc x)) (hrj : ∀ ρ w, (execOp ρ oj).run P w = .ok (.value (.pointer (some ⟨w.heap.size, 0, none⟩))) (w.alloc y))
    (hSx : ∀ w', Ext w w' → S w' → S (w'.alloc x)) (hSy : ∀ w', Ext w w' → S w' → S (w'.alloc y))
    (h : ∀ b c w', Ext w w' → S w' → w.heap.size ≤ b → b < w'.heap.size → w.heap.size ≤ c → c < w'.heap.size → b ≠ c → w'.heap[b]? = some x → w'.heap[c]? = some y →
      wpAnyM P md ops Q S A fuel ((listed.setIfInBounds i true).setIfInBounds j true) ((a.put oi.dst (.pointer (some ⟨b, 0, none⟩))).put oj.dst (.pointer (some ⟨c, 0, none⟩))) w') :
    wpAnyM P md ops Q S A (fuel + 2) listed a w := by
  replace hi := at_of_nth hi
  replace hj := at_of_nth hj
  simp only [Bool.and_eq_true, Bool.not_eq_true', beq_iff_eq, bne_iff_ne] at hr
  obtain ⟨hAi, hAj, hli, hlj, hne, hrd, hrdi, hrdj⟩ := hr
  have hsi : i < ops.size := (Array.getElem?_eq_some_iff.1 hi).1
  have hsj : j < ops.size := (Array.getElem?_eq_some_iff.1 hj).1
  have wi : ∀ t, Region.wanted oi t = true := fun t => by simp [Region.wanted, hgi]
  have wj : ∀ t, Region.wanted oj t = true := fun t => by simp [Region.wanted, hgj]
  have hput : ∀ (b : Act) u v, (b.put oi.dst u).put oj.dst v = (b.put oj.dst v).put oi.dst u := fun b u v =>
    Act.put_comm b u v fun d hd' e => hd (by rw [hd', e])
  intro w' hx hS
  rw [if_neg (doneA_not hsi hAi hli)]
  refine ⟨fun h0 => (by rw [h0] at hrd; cases hrd), fun k hk => ?_⟩
  rw [hrd] at hk
  simp only [List.mem_cons, List.not_mem_nil, or_false] at hk
  have hsz : ∀ (w : World) (o : Obj), (w.alloc o).heap.size = w.heap.size + 1 := size_alloc
  have hat : ∀ (w : World) (o : Obj), (w.alloc o).heap[w.heap.size]? = some o := at_alloc
  rcases hk with rfl | rfl
  · unfold Go.wpOp; simp only [hi, wi, if_true]
    refine .inl ?_
    unfold Oper.wp; rw [hri]
    refine ⟨hSx w' hx hS, fun w'' hx' hS' => ?_⟩
    rw [if_neg (doneA_not hsj hAj (by rw [getD_set_ne true hne]; exact hlj))]
    refine ⟨fun h0 => (by rw [h0] at hrdi; cases hrdi), fun k hk => ?_⟩
    rw [hrdi] at hk
    obtain rfl : k = j := by simpa using hk
    unfold Go.wpOp; simp only [hj, wj, if_true]
    refine .inl ?_
    unfold Oper.wp; rw [hrj]
    have hxx : Ext w w'' := (hx.trans (Ext.alloc _ _)).trans hx'
    have h1 := hx'.size; have h2 := hx.size; rw [hsz] at h1
    refine ⟨hSy w'' hxx hS', h w'.heap.size w''.heap.size _ (hxx.trans (Ext.alloc _ _)) (hSy w'' hxx hS') h2 (by rw [hsz]; omega) hxx.size (by rw [hsz]; omega) (by omega) ?_ (hat _ _)⟩
    rw [(Ext.alloc w'' y).block _ (by omega), hx'.block _ (by rw [hsz]; omega)]; exact hat _ _
  · unfold Go.wpOp; simp only [hj, wj, if_true]
    refine .inl ?_
    unfold Oper.wp; rw [hrj]
    refine ⟨hSy w' hx hS, fun w'' hx' hS' => ?_⟩
    rw [if_neg (doneA_not hsi hAi (by rw [getD_set_ne true (Ne.symm hne)]; exact hli))]
    refine ⟨fun h0 => (by rw [h0] at hrdj; cases hrdj), fun l hl => ?_⟩
    rw [hrdj] at hl
    obtain rfl : l = i := by simpa using hl
    unfold Go.wpOp; simp only [hi, wi, if_true]
    refine .inl ?_
    unfold Oper.wp; rw [hri]
    have hxx : Ext w w'' := (hx.trans (Ext.alloc _ _)).trans hx'
    have h1 := hx'.size; have h2 := hx.size; rw [hsz] at h1
    have h3 := h w''.heap.size w'.heap.size (w''.alloc x) (hxx.trans (Ext.alloc _ _)) (hSx w'' hxx hS') hxx.size (by rw [hsz]; omega) h2 (by rw [hsz]; omega) (by omega) (hat _ _) (by
      rw [(Ext.alloc w'' x).block _ (by omega), hx'.block _ (by rw [hsz]; omega)]; exact hat _ _)
    rw [hput, Array.setIfInBounds_comm _ _ hne] at h3
    exact ⟨hSx w'' hxx hS', h3⟩

/-- The rest comes up in one order. -/
def chainB (md : Region.Mode) (ops : Array Oper) : List Nat → Array Bool → Bool
  | [], listed => Region.ready md ops listed == []
  | z :: zs, listed => (Region.ready md ops listed == [z]) && ((ops[z]?).isSome && chainB md ops zs (listed.setIfInBounds z true))

theorem wpAny_chain : ∀ (zs : List Nat) (fuel : Nat) (listed : Array Bool) (a : Act) (w : World), chainB md ops zs listed = true → zs.length ≤ fuel →
    wpList P ops Q (zs.filterMap (ops[·]?)) a w → wpAny P md ops Q fuel listed a w
  | [], fuel, listed, a, w, hc, _, h => by
    simp only [chainB, beq_iff_eq] at hc
    cases fuel with
    | zero => exact ⟨hc, h⟩
    | succ n => exact ⟨fun _ => h, by rw [hc]; simp⟩
  | z :: zs, 0, _, _, _, _, hl, _ => by simp at hl
  | z :: zs, fuel + 1, listed, a, w, hc, hl, h => by
    simp only [chainB, Bool.and_eq_true, beq_iff_eq] at hc
    obtain ⟨hr, hs, hc⟩ := hc
    obtain ⟨o, ho⟩ := Option.isSome_iff_exists.1 hs
    refine ⟨fun h0 => (by rw [h0] at hr; cases hr), fun k hk => ?_⟩
    rw [hr] at hk
    obtain rfl : k = z := by simpa using hk
    simp only [List.filterMap_cons, ho, wpList] at h
    have ih := fun a' w' => wpAny_chain zs fuel (listed.setIfInBounds k true) a' w' hc (by simpa using hl)
    unfold Go.wpOp; simp only [ho]
    by_cases hw : Region.wanted o (yielded ops a.tmps) = true
    · simp only [hw, if_true] at h ⊢; exact h.imp (Oper.wp_mono fun a' w' => ih a' w') id
    · simp only [hw] at h ⊢; exact ih _ _ h

/-- All of A have come up. -/
theorem doneM {fuel : Nat} {listed : Array Bool} {a : Act} {w : World} (hd : doneA ops A listed = true)
    (h : ∀ w', Ext w w' → S w' → wpAny P md ops Q fuel listed a w') : wpAnyM P md ops Q S A fuel listed a w := by
  cases fuel with
  | zero => exact fun w' hx hS => h w' hx hS
  | succ n => intro w' hx hS; rw [if_pos hd]; exact h w' hx hS

/-- The rest comes up in one order: walked on from there. -/
theorem chainM (zs : List Nat) {l : List Oper} {fuel : Nat} {listed : Array Bool} {a : Act} {w : World} (hd : (decide (zs.length ≤ fuel) && chainB md ops zs listed) = true) (hl : zs.filterMap (nth ops.toList) = l)
    (h : wpList P ops Q l a w) : wpAny P md ops Q fuel listed a w := by
  simp only [Bool.and_eq_true, decide_eq_true_eq] at hd
  subst hl
  rw [show nth ops.toList = (ops[·]?) from funext fun i => by rw [nth_eq, Array.getElem?_toList]] at h
  exact wpAny_chain zs fuel listed a w hd.2 hd.1 h

/-- In the rest: what yields a value in whatever world is taken first. -/
theorem takeZ (i : Nat) {oi : Oper} {v : Value} {fuel : Nat} {listed : Array Bool} {a : Act} {w : World} (hi : nth ops.toList i = some oi)
    (ht : (Region.noSelect ops && (Region.free md ops listed i && (Region.ready md ops listed).contains i)) = true)
    (hQ : ∀ c a w, Q (.panic c) (a.put oi.dst v) w → Q (.panic c) a w) (hw : Region.wanted oi (yielded ops a.tmps) = true) (hy : ∀ w, (execOp a.eval oi).run P w = .ok (.value v) w)
    (h : wpAny P md ops Q fuel (listed.setIfInBounds i true) (a.put oi.dst v) w) : wpAny P md ops Q (fuel + 1) listed a w := by
  simp only [Bool.and_eq_true] at ht
  exact wpAny_take (at_of_nth hi) ht.1 ht.2.1 ht.2.2 hQ (.inl ⟨hw, hy⟩) h

theorem wp_region_M (S : World → Prop) (A : Nat → Bool) {id : Nat} {a : Act} {w : World} (hm : P.follows .mixedOrders = true) (hS : S w.drew)
    (h : wpAnyM P .any ops Q S A ops.size (Array.replicate ops.size false) a w.drew) : (Code.region id ops true).wp P Q a w :=
  wp_region_any hm (wpAny_of_M _ _ _ _ hS h)
end
end Go.Proofs.YtlfdelobjbdimaaDoor
