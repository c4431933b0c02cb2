/-
  A region of operations: in the text's order, or in whatever order its edges allow. No program in sight. A region that draws its order: whatever order its edges allow comes to what the text's order comes to. No program in sight. Code and functions by what a walk knows of them. No program in sight. Functions by what a walk knows of them: a run of what is known hands back a contract. No program in sight. The look at a drawn region's orders, by sets of bits. No program in sight. The same runs, in the form in which they are reckoned: what is asked and is so leaves no trace. No program in sight. Runs that walk into the functions that are called, and go round loops, unless a contract is given. No program in sight. Loops whose rounds forget more than what is junk; contexts with contracts of loops. No program in sight.
-/
import Derived.Test.YtlfdelobjbdimaaDoorAbsI
import Derived.Scope
set_option linter.unusedSimpArgs false
set_option linter.unusedVariables false
namespace Go.Proofs.YtlfdelobjbdimaaDoor
set_option linter.unusedSimpArgs false
set_option linter.unusedVariables false
open Go.RowKit
open Look (ret rd chk)

/-- Whether what an operation reads is what a row of ours is appended to by. -/
def takesL (ops : List Oper) (o : Oper) : Bool := match o.dst with
  | none => false
  | some d => ops.any fun p => match p.op with
    | .call { callee := .builtin .append, args, .. } => match args.toList with
      | .tmp u :: _ => u == d
      | _ => false
    | _ => false
def isAddrOp (o : Oper) : Bool := match o.op with
  | .fieldAddr .. | .indexAddr .. => true
  | _ => false
def addrDsts (ops : List Oper) : List Nat := ops.flatMap fun o => if isAddrOp o then o.dst.toList else []

section
variable (P : Program)
def absOp (tk : Bool) (o : Oper) : Look (List (Nat × D)) := match o.op with
  | .move x => moveL P o o.type x tk
  | .assign x => moveL P o o.type x true
  | .pick c x y => pickL P o c x y
  | .alloc T => allocL P o T
  | .box T x => boxL P o T x
  | .build t ps => buildL P o t ps
  | .buildSlice t n ps => buildSliceL P o t n ps
  | .load t x => loadL P o t x tk
  | .store t x y => if o.dst.isNone then storeL P t x y else .fail
  | .binOp op t x y ty => binL P o op t x y ty
  | .unOp op t x => unOpL P o op t x
  | .convert src dst x => convX P o src dst x
  | .makeInterface t x => ifaceL P o t x
  | .slice t x lo hi mx => sliceL P o t x lo hi mx
  | .fieldAddr S x i => fieldAddrL P o S x i
  | .field t x i => fieldL P o t x i
  | .indexAddr t x i => indexAddrL P o t x i
  | .index t x i => indexL P o t x i
  | .extract x i => extractL P o x i
  | .call { callee := .value (.func f), args, argTypes } => callL P o f args argTypes
  | .call { callee := .builtin .len, args, argTypes } => match args.toList, argTypes[0]? with
    | [x], some t => lenL P o t x
    | _, _ => .fail
  | .call { callee := .builtin .append, args, argTypes } => match args.toList, argTypes.toList with
    | [x, y], [t1, t2] => appendL P o t1 t2 x y
    | _, _ => .fail
  | .call { callee := .builtin .min, args, argTypes } => match args.toList, argTypes.toList with
    | [x, y], [t1, t2] => minL P o t1 t2 x y
    | _, _ => .fail
  | _ => .fail
end

section
variable {P : Program} {orc : Orc} {E : Env} {A : List Nat} {role : Nat → Role} {a : Act} {w : World} {s : List D} {l : List Nat}
variable {K : List (Nat × D) → List Nat → Prop} {Q : Exit → Act → World → Prop}

theorem op_sim (hO : OrcOK P orc) (hS : Sim P E A role a w s) {o : Oper} {tk : Bool} (hA : isAddrOp o = true → ∀ t, o.dst = some t → t ∈ A) (h : (absOp P tk o).run orc s l K) : Oper.wp P o a w (After P E A s K) Q := by
  unfold absOp at h
  split at h
  · exact move_sim hS (.inl ‹_›) h
  · exact move_sim hS (.inr ‹_›) h
  · exact pick_sim hS ‹_› h
  · exact alloc_sim hS ‹_› h
  · exact box_sim hS ‹_› h
  · exact build_sim hS ‹_› h
  · exact buildSlice_sim hS ‹_› h
  · exact load_sim hS ‹_› h
  · split at h
    · rename_i hd
      exact store_sim hS ‹_› (by simpa using hd) h
    · exact h.elim
  · exact bin_sim hS ‹_› h
  · exact unOp_sim hS ‹_› h
  · exact convX_sim hS ‹_› h
  · exact iface_sim hS ‹_› h
  · exact slice_sim hS ‹_› h
  · rename_i ho; exact fieldAddr_sim hS ho (hA (by simp [isAddrOp, ho])) h
  · exact field_sim hS ‹_› h
  · rename_i ho; exact indexAddr_sim hS ho (hA (by simp [isAddrOp, ho])) h
  · exact index_sim hS ‹_› h
  · exact extract_sim hS ‹_› h
  · exact call_sim hO hS ‹_› h
  · rename_i args types ho
    split at h
    · rename_i x t hx ht
      have hx' : args = #[x] := by rw [← Array.toArray_toList (xs := args), hx]
      subst hx'
      exact len_sim hS ht ho h
    · exact h.elim
  · rename_i args types ho
    split at h
    · rename_i x y t1 t2 hx ht
      have hx' : args = #[x, y] := by rw [← Array.toArray_toList (xs := args), hx]
      have ht' : types = #[t1, t2] := by rw [← Array.toArray_toList (xs := types), ht]
      subst hx'; subst ht'
      exact append_sim hS ho h
    · exact h.elim
  · rename_i args types ho
    split at h
    · rename_i x y t1 t2 hx ht
      have hx' : args = #[x, y] := by rw [← Array.toArray_toList (xs := args), hx]
      have ht' : types = #[t1, t2] := by rw [← Array.toArray_toList (xs := types), ht]
      subst hx'; subst ht'
      exact min_sim hS ho h
    · exact h.elim
  · exact h.elim
end

/-- What an operation that is passed over leaves. -/
def skipW (o : Oper) : Look (List (Nat × D)) := putW o (.tup []) []

section
variable (P : Program) (orc : Orc)
/-- Operations in the text's order; what each wrote and read. -/
def runOps (all : List Oper) : List Oper → List D → List (List Nat × List Nat) → (List D → List (List Nat × List Nat) → Prop) → Prop
  | [], s, lg, K => K s lg
  | o :: rest, s, lg, K => match o.guard with
    | none => (absOp P (takesL all o) o).run orc s [] fun ws rs => runOps all rest (apply ws s) (lg ++ [(ws.map (·.1), rs)]) K
    | some (j, b) => match (all[j]?).bind (·.dst) with
      | none => False
      | some u => match get s u with
        | .v (.bool c) => bif c
          then (bif b then (absOp P (takesL all o) o).run orc (s.set u (.v (.bool true))) [u] fun ws rs => runOps all rest (apply ws (s.set u (.v (.bool true)))) (lg ++ [(ws.map (·.1), rs)]) K
            else (skipW o).run orc (s.set u (.v (.bool true))) [u] fun ws rs => runOps all rest (apply ws (s.set u (.v (.bool true)))) (lg ++ [(ws.map (·.1), rs)]) K)
          else (bif b then (skipW o).run orc (s.set u (.v (.bool false))) [u] fun ws rs => runOps all rest (apply ws (s.set u (.v (.bool false)))) (lg ++ [(ws.map (·.1), rs)]) K
            else (absOp P (takesL all o) o).run orc (s.set u (.v (.bool false))) [u] fun ws rs => runOps all rest (apply ws (s.set u (.v (.bool false)))) (lg ++ [(ws.map (·.1), rs)]) K)
        | .tup [] => (skipW o).run orc s [u] fun ws rs => runOps all rest (apply ws s) (lg ++ [(ws.map (·.1), rs)]) K
        | _ => False

/-- One operation's step. -/
def Step1 (all : List Oper) (o : Oper) (s : List D) (K : List (Nat × D) → List Nat → Prop) : Prop := match o.guard with
  | none => (absOp P (takesL all o) o).run orc s [] K
  | some (j, b) => ∃ u, (all[j]?).bind (·.dst) = some u ∧ (get s u = .v (.bool b) ∧ (absOp P (takesL all o) o).run orc s [u] K ∨ (get s u = .v (.bool (!b)) ∨ get s u = .tup []) ∧ (skipW o).run orc s [u] K)
end

theorem set_get {s : List D} {u : Nat} {d : D} (h : get s u = d) (hd : d ≠ .undef) : s.set u d = s := by
  have hlt : u < s.length := by
    rcases Nat.lt_or_ge u s.length with h0 | h0
    · exact h0
    · rw [get_ge h0] at h; exact absurd h.symm hd
  subst h
  apply List.ext_getElem? 
  intro i
  rw [List.getElem?_set]
  split
  · rename_i e; subst e; simp [get, hlt]
  · rfl

section
variable {P : Program} {orc : Orc} {E : Env} {A : List Nat} {role : Nat → Role} {a : Act} {w : World} {s : List D}
variable {Q : Exit → Act → World → Prop}

theorem runOps_step {all : List Oper} {o : Oper} {rest : List Oper} {lg : List (List Nat × List Nat)} {K : List D → List (List Nat × List Nat) → Prop} (h : runOps P orc all (o :: rest) s lg K) :
    Step1 P orc all o s fun ws rs => runOps P orc all rest (apply ws s) (lg ++ [(ws.map (·.1), rs)]) K := by
  unfold Step1
  simp only [runOps] at h
  split at h
  · exact h
  · rename_i j b hg
    split at h
    · exact h.elim
    · rename_i u hu
      refine ⟨u, hu, ?_⟩
      split at h
      · rename_i c hc
        cases c <;> cases b <;> simp only [cond_true, cond_false] at h <;> rw [set_get hc (by simp)] at h
        · exact .inl ⟨hc, h⟩
        · exact .inr ⟨.inl hc, h⟩
        · exact .inr ⟨.inl hc, h⟩
        · exact .inl ⟨hc, h⟩
      · rename_i hc; exact .inr ⟨.inr hc, h⟩
      · exact h.elim

theorem skip_sim (hS : Sim P E A role a w s) {o : Oper} {l : List Nat} {K : List (Nat × D) → List Nat → Prop} (h : (skipW o).run orc s l K) : After P E A s K (a.put o.dst undef) w := by
  obtain ⟨l', hno, hK⟩ := putW_sim h
  exact ⟨_, l', role, hK, put_sim hS hno (.tup (by rfl) (fun i x d hx => by simp at hx)) rfl⟩

theorem tmps_of {t : Nat} {b : Bool} (hS : Sim P E A role a w s) (h : get s t = .v (.bool b)) : a.tmps[t]? = some (.bool b) := by
  have := hS.tm t
  rw [h] at this
  have e := this.1.bool
  rw [Array.getD_eq_getD_getElem?] at e
  cases ht : a.tmps[t]? with
  | none => rw [ht] at e; simp [undef] at e
  | some v => rw [ht] at e; simp at e; rw [e]
theorem tmps_of_skip {t : Nat} (hS : Sim P E A role a w s) (h : get s t = .tup []) : ∀ b, a.tmps[t]? ≠ some (.bool b) := by
  intro b hb
  have := hS.tm t
  rw [h] at this
  have e := this.1
  have : a.tmps.getD t undef = .bool b := by rw [Array.getD_eq_getD_getElem?, hb]; rfl
  rw [this] at e
  cases e

theorem step1_sim (hO : OrcOK P orc) {ops : Array Oper} {i : Nat} {o : Oper} (hi : ops[i]? = some o) (hA : ∀ t, t ∈ addrDsts ops.toList → t ∈ A) (hS : Sim P E A role a w s) {K : List (Nat × D) → List Nat → Prop} {N : Act → World → Prop}
    (h : Step1 P orc ops.toList o s K) (hN : ∀ a' w', After P E A s K a' w' → N a' w') : wpOp P ops Q i N a w := by
  have hA' : isAddrOp o = true → ∀ t, o.dst = some t → t ∈ A := fun h1 t ht => hA t (by
    simp only [addrDsts, List.mem_flatMap]
    exact ⟨o, by simpa using List.mem_of_getElem? (l := ops.toList) (by simpa using hi), by simp [h1, ht]⟩)
  unfold wpOp
  rw [hi]
  simp only
  unfold Step1 at h
  split at h
  · rename_i hg
    have hw : Region.wanted o (yielded ops a.tmps) = true := by simp [Region.wanted, hg]
    rw [if_pos hw]
    exact .inl (Oper.wp_mono hN (op_sim hO hS hA' h))
  · rename_i j b hg
    obtain ⟨u, hu, h⟩ := h
    have hu' : (ops[j]?).bind (·.dst) = some u := by simpa using hu
    rcases h with ⟨hc, h⟩ | ⟨hc, h⟩
    · have hw : Region.wanted o (yielded ops a.tmps) = true := by
        simp [Region.wanted, hg, yielded, hu', tmps_of hS hc]
      rw [if_pos hw]
      exact .inl (Oper.wp_mono hN (op_sim hO hS hA' h))
    · have hw : ¬ Region.wanted o (yielded ops a.tmps) = true := by
        rcases hc with hc | hc
        · simp [Region.wanted, hg, yielded, hu', tmps_of hS hc]
        · have := tmps_of_skip hS hc
          have hy : yielded ops a.tmps j = none := by
            unfold yielded
            rw [hu']
            show (match a.tmps[u]? with | some (.bool b) => some b | _ => none) = none
            split
            · rename_i ht; exact absurd ht (this _)
            · rfl
          simp [Region.wanted, hg, hy]
      rw [if_neg hw]
      exact hN _ _ (skip_sim hS h)

/-- A region in the text's order. -/
theorem ops_sim (hO : OrcOK P orc) {ops : Array Oper} (hA : ∀ t, t ∈ addrDsts ops.toList → t ∈ A) : ∀ (rest : List Oper) (k : Nat) (role : Nat → Role) (a : Act) (w : World) (s : List D) (lg : List (List Nat × List Nat)) (K : List D → List (List Nat × List Nat) → Prop),
    ops.toList.drop k = rest → Sim P E A role a w s → runOps P orc ops.toList rest s lg K → (∀ a' w' s' lg' role', K s' lg' → Sim P E A role' a' w' s' → Q .normal a' w') → wpOps P ops Q ((List.range ops.size).drop k) a w
  | [], k, role, a, w, s, lg, K, hk, hS, h, hQ => by
    have : ops.size ≤ k := by
      have := congrArg List.length hk; simp at this; omega
    rw [List.drop_eq_nil_of_le (by simpa using this)]
    exact hQ a w s lg role h hS
  | o :: rest, k, role, a, w, s, lg, K, hk, hS, h, hQ => by
    have hlt : k < ops.size := by
      rcases Nat.lt_or_ge k ops.size with h0 | h0
      · exact h0
      · rw [List.drop_eq_nil_of_le (by simpa using h0)] at hk; cases hk
    have hcons := List.drop_eq_getElem_cons (l := ops.toList) (i := k) (by simpa using hlt)
    rw [hcons] at hk
    have ho : ops[k]? = some o := by
      injection hk with h1 _
      rw [Array.getElem?_eq_getElem hlt, ← h1]; simp
    have hrest : ops.toList.drop (k + 1) = rest := by injection hk
    have hr := List.drop_eq_getElem_cons (l := List.range ops.size) (i := k) (by simpa using hlt)
    rw [hr]
    simp only [List.getElem_range]
    rw [wpOps_cons]
    refine step1_sim hO ho hA hS (runOps_step h) ?_
    rintro a' w' ⟨ws, rs, role', hK, hS'⟩
    exact ops_sim hO hA rest (k + 1) role' a' w' _ _ K hrest hS' hK hQ
end
end Go.Proofs.YtlfdelobjbdimaaDoor

namespace Go.Proofs.YtlfdelobjbdimaaDoor
open Go.RowKit
open Look (ret rd chk)

/-- What each operation waits for, by whatever road. -/
def ancs : List Oper → List (List Nat) → List (List Nat)
  | [], acc => acc
  | o :: rest, acc => ancs rest (acc ++ [(o.after.toList.filter (Region.binds .any ·)).flatMap fun e => e.on :: acc.getD e.on []])
def disj (a b : List Nat) : Bool := a.all fun x => !b.contains x
def early : Nat → List Oper → Bool
  | _, [] => true
  | i, o :: rest => (o.after.toList.all fun e => !Region.binds .any e || decide (e.on < i)) && early (i + 1) rest
/-- Operations that no edge orders meet at nothing that one of them writes. -/
def okPairs (an : List (List Nat)) (lg : List (List Nat × List Nat)) : Bool :=
  (List.range lg.length).all fun j => (List.range j).all fun i => (an.getD j []).contains i ||
    (disj (lg.getD i ([], [])).1 ((lg.getD j ([], [])).2 ++ (lg.getD j ([], [])).1) && disj (lg.getD i ([], [])).2 (lg.getD j ([], [])).1)
def okRegion (ops : List Oper) (lg : List (List Nat × List Nat)) : Bool := early 0 ops && okPairs (ancs ops []) lg

theorem early_spec : ∀ (ops : List Oper) (k i : Nat) (o : Oper), early k ops = true → ops[i]? = some o → ∀ e ∈ o.after, Region.binds .any e = true → e.on < k + i
  | [], k, i, o, _, h => by simp at h
  | p :: ops, k, i, o, h, hi => by
    simp only [early, Bool.and_eq_true] at h
    cases i with
    | zero =>
      simp at hi; subst hi
      intro e he hb
      have := List.all_eq_true.1 h.1 e (by simpa using he)
      simp only [hb, Bool.not_true, Bool.false_or, decide_eq_true_eq] at this
      omega
    | succ i =>
      simp at hi
      intro e he hb
      have := early_spec ops (k + 1) i o h.2 hi e he hb
      omega

theorem ancs_acc : ∀ (ops : List Oper) (acc : List (List Nat)), (∃ l, ancs ops acc = acc ++ l ∧ l.length = ops.length)
  | [], acc => ⟨[], by simp [ancs], rfl⟩
  | o :: ops, acc => by
    obtain ⟨l, h, hl⟩ := ancs_acc ops (acc ++ [(o.after.toList.filter (Region.binds .any ·)).flatMap fun e => e.on :: acc.getD e.on []])
    exact ⟨_ :: l, by simp only [ancs]; rw [h, List.append_assoc]; rfl, by simp [hl]⟩

theorem ancs_spec : ∀ (ops : List Oper) (acc : List (List Nat)) (i : Nat) (o : Oper), ops[i]? = some o → ∀ x ∈ (ancs ops acc).getD (acc.length + i) [],
    ∃ e ∈ o.after, Region.binds .any e = true ∧ (x = e.on ∨ e.on < acc.length + i ∧ x ∈ (ancs ops acc).getD e.on [])
  | [], acc, i, o, h => by simp at h
  | p :: ops, acc, i, o, h => by
    intro x hx
    simp only [ancs] at hx ⊢
    cases i with
    | zero =>
      simp at h; subst h
      obtain ⟨l, hl, _⟩ := ancs_acc ops (acc ++ [(p.after.toList.filter (Region.binds .any ·)).flatMap fun e => e.on :: acc.getD e.on []])
      rw [hl] at hx ⊢
      have e1 : (acc ++ [(p.after.toList.filter (Region.binds .any ·)).flatMap fun e => e.on :: acc.getD e.on []] ++ l).getD (acc.length + 0) [] = (p.after.toList.filter (Region.binds .any ·)).flatMap fun e => e.on :: acc.getD e.on [] := by
        simp [List.getD_eq_getElem?_getD]
      rw [e1] at hx
      simp only [List.mem_flatMap, List.mem_filter] at hx
      obtain ⟨e, ⟨he, hb⟩, hx⟩ := hx
      refine ⟨e, by simpa using he, hb, ?_⟩
      simp only [List.mem_cons] at hx
      rcases hx with hx | hx
      · exact .inl hx
      · refine .inr ?_
        have hlt : e.on < acc.length := by
          rcases Nat.lt_or_ge e.on acc.length with h0 | h0
          · exact h0
          · rw [List.getD_eq_getElem?_getD, List.getElem?_eq_none h0] at hx; simp at hx
        refine ⟨by omega, ?_⟩
        rw [List.getD_eq_getElem?_getD, List.append_assoc, List.getElem?_append_left hlt, ← List.getD_eq_getElem?_getD]
        exact hx
    | succ i =>
      simp at h
      have := ancs_spec ops (acc ++ [(p.after.toList.filter (Region.binds .any ·)).flatMap fun e => e.on :: acc.getD e.on []]) i o h x
      simp only [List.length_append, List.length_singleton] at this
      rw [show acc.length + (i + 1) = acc.length + 1 + i by omega] at hx ⊢
      exact this hx

/-- What is done is closed: of what is done all is done that it waits for. -/
theorem closed_anc {ops : List Oper} {S : Nat → Prop} (hS : ∀ (i : Nat) (o : Oper), ops[i]? = some o → S i → ∀ e ∈ o.after, Region.binds .any e = true → S e.on) (hE : early 0 ops = true) :
    ∀ (i : Nat) (o : Oper), ops[i]? = some o → (∀ e ∈ o.after, Region.binds .any e = true → S e.on) → ∀ x ∈ (ancs ops []).getD i [], S x := by
  intro i
  induction i using Nat.strongRecOn with
  | _ i ih =>
    intro o ho hS' x hx
    have := ancs_spec ops [] i o ho x (by simpa using hx)
    obtain ⟨e, he, hb, h⟩ := this
    rcases h with rfl | ⟨_, h⟩
    · exact hS' e he hb
    · have hlt := early_spec ops 0 i o hE ho e he hb
      have hi := (List.getElem?_eq_some_iff.1 ho).1
      have ho' : ops[e.on]? = some (ops[e.on]'(by omega)) := List.getElem?_eq_getElem (by omega)
      exact ih e.on (by omega) _ ho' (hS _ _ ho' (hS' e he hb)) x h

theorem anc_lt {ops : List Oper} (hE : early 0 ops = true) : ∀ (i : Nat) (o : Oper), ops[i]? = some o → ∀ x ∈ (ancs ops []).getD i [], x < i := by
  intro i
  induction i using Nat.strongRecOn with
  | _ i ih =>
    intro o ho x hx
    obtain ⟨e, he, hb, h⟩ := ancs_spec ops [] i o ho x (by simpa using hx)
    have hlt := early_spec ops 0 i o hE ho e he hb
    rcases h with rfl | ⟨_, h⟩
    · omega
    · have hi := (List.getElem?_eq_some_iff.1 ho).1
      have ho' : ops[e.on]? = some (ops[e.on]'(by omega)) := List.getElem?_eq_getElem (by omega)
      have := ih e.on (by omega) _ ho' x h
      omega

/-- The last write to a temporary. -/
def wr (ws : List (Nat × D)) (t : Nat) (d : D) : D := ws.foldl (fun d p => if p.1 = t then p.2 else d) d
theorem wr_not {ws : List (Nat × D)} {t : Nat} : ∀ {d : D}, t ∉ ws.map (·.1) → wr ws t d = d := by
  induction ws with
  | nil => intro d _; rfl
  | cons p ws ih =>
    intro d h
    simp only [List.map_cons, List.mem_cons, not_or] at h
    show wr ws t (if p.1 = t then p.2 else d) = d
    rw [if_neg (fun e => h.1 e.symm)]
    exact ih h.2
theorem wr_mem {ws : List (Nat × D)} {t : Nat} : ∀ {d d' : D}, t ∈ ws.map (·.1) → wr ws t d = wr ws t d' := by
  induction ws with
  | nil => intro d d' h; simp at h
  | cons p ws ih =>
    intro d d' h
    show wr ws t (if p.1 = t then p.2 else d) = wr ws t (if p.1 = t then p.2 else d')
    by_cases hp : p.1 = t
    · rw [if_pos hp, if_pos hp]
    · rw [if_neg hp, if_neg hp]
      simp only [List.map_cons, List.mem_cons] at h
      rcases h with h | h
      · exact absurd h.symm hp
      · exact ih h
theorem apply_length : ∀ (ws : List (Nat × D)) (s : List D), (apply ws s).length = s.length
  | [], s => rfl
  | p :: ws, s => by rw [apply_cons, apply_length ws]; simp
theorem get_apply : ∀ (ws : List (Nat × D)) (s : List D) (t : Nat), t < s.length → get (apply ws s) t = wr ws t (get s t)
  | [], s, t, _ => rfl
  | p :: ws, s, t, h => by
    rw [apply_cons, get_apply ws _ t (by simpa using h), get_set]
    show _ = wr ws t (if p.1 = t then p.2 else get s t)
    by_cases hp : p.1 = t
    · rw [if_pos ⟨hp, by omega⟩, if_pos hp]
    · rw [if_neg (fun e => hp e.1), if_neg hp]

/-- The frame behind those of some operations that are done. -/
def stS (tr : Nat → List (Nat × D)) (s0 : List D) (S : Nat → Bool) : Nat → List D
  | 0 => s0
  | n + 1 => if S n then apply (tr n) (stS tr s0 S n) else stS tr s0 S n
theorem stS_length (tr : Nat → List (Nat × D)) (s0 : List D) (S : Nat → Bool) : ∀ n, (stS tr s0 S n).length = s0.length
  | 0 => rfl
  | n + 1 => by
    simp only [stS]
    split
    · rw [apply_length, stS_length tr s0 S n]
    · exact stS_length tr s0 S n
/-- Where those that write a temporary are the same, it holds the same. -/
theorem stS_same {tr : Nat → List (Nat × D)} {s0 : List D} {S S' : Nat → Bool} {t : Nat} : ∀ n, (∀ i, i < n → t ∈ (tr i).map (·.1) → S i = S' i) → get (stS tr s0 S n) t = get (stS tr s0 S' n) t
  | 0, _ => rfl
  | n + 1, h => by
    have ih := stS_same (s0 := s0) n fun i hi => h i (by omega)
    by_cases ht : t < s0.length
    · simp only [stS]
      by_cases hm : t ∈ (tr n).map (·.1)
      · have := h n (by omega) hm
        rw [this]
        split
        · rw [get_apply _ _ _ (by rw [stS_length]; exact ht), get_apply _ _ _ (by rw [stS_length]; exact ht), ih]
        · exact ih
      · have f : ∀ S : Nat → Bool, get (if S n then apply (tr n) (stS tr s0 S n) else stS tr s0 S n) t = get (stS tr s0 S n) t := by
          intro S
          split
          · rw [get_apply _ _ _ (by rw [stS_length]; exact ht), wr_not hm]
          · rfl
        rw [f, f]; exact ih
    · rw [get_ge (by rw [stS_length]; omega), get_ge (by rw [stS_length]; omega)]
theorem stS_cut {tr : Nat → List (Nat × D)} {s0 : List D} {S : Nat → Bool} {k : Nat} : ∀ n, k ≤ n → (∀ i, k ≤ i → i < n → S i = false) → stS tr s0 S n = stS tr s0 S k
  | 0, h, _ => by have : k = 0 := by omega
                  subst this; rfl
  | n + 1, h, hS => by
    by_cases hk : k = n + 1
    · rw [hk]
    · simp only [stS]
      rw [hS n (by omega) (by omega)]
      exact stS_cut n (by omega) fun i h1 h2 => hS i h1 (by omega)
theorem stS_congr {tr : Nat → List (Nat × D)} {s0 : List D} {S S' : Nat → Bool} : ∀ n, (∀ i, i < n → S i = S' i) → stS tr s0 S n = stS tr s0 S' n
  | 0, _ => rfl
  | n + 1, h => by simp only [stS]; rw [h n (by omega), stS_congr n fun i hi => h i (by omega)]

theorem list_ext_get {s s' : List D} (hl : s.length = s'.length) (h : ∀ t, t < s.length → get s t = get s' t) : s = s' := by
  apply List.ext_getElem hl
  intro i h1 h2
  have := h i h1
  simpa [get, h1, h2] using this

/-- One more is done. -/
theorem stS_add {tr : Nat → List (Nat × D)} {s0 : List D} {S S' : Nat → Bool} {n j : Nat} (hj : j < n) (hSj : S j = false) (hS' : ∀ i, S' i = (S i || i == j))
    (hlast : ∀ i t, j < i → i < n → S i = true → t ∈ (tr j).map (·.1) → t ∉ (tr i).map (·.1)) : stS tr s0 S' n = apply (tr j) (stS tr s0 S n) := by
  refine list_ext_get (by rw [apply_length, stS_length, stS_length]) fun t ht => ?_
  rw [stS_length] at ht
  rw [get_apply _ _ _ (by rw [stS_length]; exact ht)]
  by_cases hm : t ∈ (tr j).map (·.1)
  · -- the last write is j's
    have key : ∀ m, j < m → m ≤ n → get (stS tr s0 S' m) t = wr (tr j) t .undef := by
      intro m
      induction m with
      | zero => intro h; omega
      | succ m ih =>
        intro h1 h2
        simp only [stS]
        by_cases hjm : m = j
        · subst hjm
          rw [hS' m]
          simp only [beq_self_eq_true, Bool.or_true, if_true]
          rw [get_apply _ _ _ (by rw [stS_length]; exact ht)]
          exact wr_mem hm
        · have ihm := ih (by omega) (by omega)
          split
          · rename_i hs
            rw [hS' m] at hs
            have hsm : S m = true := by simpa [hjm] using hs
            rw [get_apply _ _ _ (by rw [stS_length]; exact ht), wr_not (hlast m t (by omega) (by omega) hsm hm)]
            exact ihm
          · exact ihm
    rw [key n hj (Nat.le_refl _)]
    exact wr_mem hm
  · rw [wr_not hm]
    exact stS_same n fun i _ hi => by
      rw [hS' i]
      by_cases e : i = j
      · subst e; exact absurd hi hm
      · simp [e]
end Go.Proofs.YtlfdelobjbdimaaDoor

namespace Go.Proofs.YtlfdelobjbdimaaDoor
open Go.RowKit
open Look (ret rd chk)

section
variable {P : Program} {orc : Orc} {E : Env} {A : List Nat} {role : Nat → Role} {a : Act} {w : World} {s : List D}
variable {Q : Exit → Act → World → Prop}

theorem step1_out (hO : OrcOK P orc) {all : List Oper} {o : Oper} {K : List (Nat × D) → List Nat → Prop} (h : Step1 P orc all o s K) :
    ∃ ws rs, K ws rs ∧ ∀ s', (∀ t, t ∈ rs → get s' t = get s t) → ∀ K' : List (Nat × D) → List Nat → Prop, K' ws rs → Step1 P orc all o s' K' := by
  unfold Step1 at h ⊢
  split at h
  · obtain ⟨ws, rs, h1, r, hr, h2⟩ := run_out (fun f ds => hO.det f ds) _ _ _ h
    exact ⟨ws, rs, h1, fun s' hs K' hK => h2 s' (fun t ht => hs t (by rw [hr]; simp [ht])) K' hK⟩
  · obtain ⟨u, hu, h⟩ := h
    rcases h with ⟨hc, h⟩ | ⟨hc, h⟩
    · obtain ⟨ws, rs, h1, r, hr, h2⟩ := run_out (fun f ds => hO.det f ds) _ _ _ h
      refine ⟨ws, rs, h1, fun s' hs K' hK => ⟨u, hu, .inl ⟨?_, h2 s' (fun t ht => hs t (by rw [hr]; simp [ht])) K' hK⟩⟩⟩
      rw [hs u (by rw [hr]; simp)]; exact hc
    · obtain ⟨ws, rs, h1, r, hr, h2⟩ := run_out (fun f ds => hO.det f ds) _ _ _ h
      refine ⟨ws, rs, h1, fun s' hs K' hK => ⟨u, hu, .inr ⟨?_, h2 s' (fun t ht => hs t (by rw [hr]; simp [ht])) K' hK⟩⟩⟩
      rw [hs u (by rw [hr]; simp)]; exact hc

/-- What the operations did, one by one. -/
theorem runOps_trace (hO : OrcOK P orc) {all : List Oper} : ∀ (rest : List Oper) (s : List D) (lg : List (List Nat × List Nat)) (K : List D → List (List Nat × List Nat) → Prop), runOps P orc all rest s lg K →
    ∃ trl : List (List (Nat × D) × List Nat), trl.length = rest.length ∧ K (trl.foldl (fun s r => apply r.1 s) s) (lg ++ trl.map fun r => (r.1.map (·.1), r.2)) ∧
      ∀ (i : Nat) (o : Oper) (r : List (Nat × D) × List Nat), rest[i]? = some o → trl[i]? = some r → ∀ s', (∀ t, t ∈ r.2 → get s' t = get ((trl.take i).foldl (fun s r => apply r.1 s) s) t) →
        ∀ K' : List (Nat × D) → List Nat → Prop, K' r.1 r.2 → Step1 P orc all o s' K'
  | [], s, lg, K, h => ⟨[], rfl, by simpa [runOps] using h, fun i o r hi => by simp at hi⟩
  | o :: rest, s, lg, K, h => by
    obtain ⟨ws, rs, h1, h2⟩ := step1_out hO (runOps_step h)
    obtain ⟨trl, hl, hK, ht⟩ := runOps_trace hO rest _ _ _ h1
    refine ⟨(ws, rs) :: trl, by simp [hl], by simpa using hK, fun i o' r hi hr s' hs K' hK' => ?_⟩
    cases i with
    | zero =>
      simp at hi hr; subst hi; subst hr
      exact h2 s' (by simpa using hs) K' hK'
    | succ i =>
      simp at hi hr
      exact ht i o' r hi hr s' (by simpa using hs) K' hK'

/-- Operations in the text's order have one outcome. -/
theorem runOps_det (hO : OrcOK P orc) {all : List Oper} : ∀ (rest : List Oper) (s : List D) (lg : List (List Nat × List Nat)) (K : List D → List (List Nat × List Nat) → Prop), runOps P orc all rest s lg K →
    ∃ s' lg', K s' lg' ∧ ∀ K' : List D → List (List Nat × List Nat) → Prop, K' s' lg' → runOps P orc all rest s lg K'
  | [], s, lg, K, h => ⟨s, lg, h, fun K' hK => hK⟩
  | o :: rest, s, lg, K, h => by
    simp only [runOps] at h ⊢
    split at h
    · obtain ⟨ws, rs, h1, r, hr, h2⟩ := run_out (fun f ds => hO.det f ds) _ _ _ h
      obtain ⟨s', lg', h3, h4⟩ := runOps_det hO rest _ _ _ h1
      exact ⟨s', lg', h3, fun K' hK => h2 s (fun _ _ => rfl) _ (h4 K' hK)⟩
    · rename_i j b hg
      split at h
      · exact h.elim
      · split at h
        · rename_i c hc
          cases c <;> cases b <;> simp only [cond_true, cond_false] at h ⊢
          all_goals
            obtain ⟨ws, rs, h1, r, hr, h2⟩ := run_out (fun f ds => hO.det f ds) _ _ _ h
            obtain ⟨s', lg', h3, h4⟩ := runOps_det hO rest _ _ _ h1
            exact ⟨s', lg', h3, fun K' hK => h2 _ (fun _ _ => rfl) _ (h4 K' hK)⟩
        · obtain ⟨ws, rs, h1, r, hr, h2⟩ := run_out (fun f ds => hO.det f ds) _ _ _ h
          obtain ⟨s', lg', h3, h4⟩ := runOps_det hO rest _ _ _ h1
          exact ⟨s', lg', h3, fun K' hK => h2 s (fun _ _ => rfl) _ (h4 K' hK)⟩
        · exact h.elim

theorem stS_fold {trl : List (List (Nat × D) × List Nat)} {s0 : List D} : ∀ i, i ≤ trl.length → stS (fun i => (trl.getD i ([], [])).1) s0 (fun _ => true) i = (trl.take i).foldl (fun s r => apply r.1 s) s0
  | 0, _ => rfl
  | i + 1, h => by
    have hlt : i < trl.length := by omega
    simp only [stS, if_true]
    rw [stS_fold i (by omega), List.take_succ_eq_append_getElem hlt, List.foldl_append]
    simp [List.getD_eq_getElem?_getD, hlt]

theorem disj_spec {a b : List Nat} (h : disj a b = true) {t : Nat} (ha : t ∈ a) : t ∉ b := by
  have := List.all_eq_true.1 h t ha
  simpa using this

/-- A region in whatever order. -/
theorem any_sim (hO : OrcOK P orc) {ops : Array Oper} (hA : ∀ t, t ∈ addrDsts ops.toList → t ∈ A) {s0 : List D} {trl : List (List (Nat × D) × List Nat)} (hl : trl.length = ops.size)
    (hok : okRegion ops.toList (trl.map fun r => (r.1.map (·.1), r.2)) = true)
    (hstep : ∀ (i : Nat) (o : Oper) (r : List (Nat × D) × List Nat), ops[i]? = some o → trl[i]? = some r → ∀ s', (∀ t, t ∈ r.2 → get s' t = get ((trl.take i).foldl (fun s r => apply r.1 s) s0) t) →
        ∀ K' : List (Nat × D) → List Nat → Prop, K' r.1 r.2 → Step1 P orc ops.toList o s' K')
    (hQ : ∀ a' w' role', Sim P E A role' a' w' (trl.foldl (fun s r => apply r.1 s) s0) → Q .normal a' w') :
    ∀ (fuel : Nat) (listed : Array Bool) (role : Nat → Role) (a : Act) (w : World) (todo : List Nat), listed.size = ops.size → todo.length ≤ fuel → (∀ i, i < ops.size → listed.getD i false = false → i ∈ todo) →
      (∀ (i : Nat) (o : Oper), ops.toList[i]? = some o → listed.getD i false = true → ∀ e ∈ o.after, Region.binds .any e = true → listed.getD e.on false = true) →
      Sim P E A role a w (stS (fun i => (trl.getD i ([], [])).1) s0 (fun i => listed.getD i false) ops.size) → wpAny P .any ops Q fuel listed a w := by
  simp only [okRegion, Bool.and_eq_true] at hok
  obtain ⟨hE, hP⟩ := hok
  have hpair : ∀ i j, i < j → j < ops.size → i ∉ (ancs ops.toList []).getD j [] → ∀ t, (t ∈ (trl.getD i ([], [])).1.map (·.1) → t ∉ (trl.getD j ([], [])).2 ∧ t ∉ (trl.getD j ([], [])).1.map (·.1)) ∧ (t ∈ (trl.getD i ([], [])).2 → t ∉ (trl.getD j ([], [])).1.map (·.1)) := by
    intro i j hij hj hna t
    have h1 := List.all_eq_true.1 hP j (by simp; omega)
    have h2 := List.all_eq_true.1 h1 i (by simp; omega)
    simp only [Bool.or_eq_true, Bool.and_eq_true] at h2
    have hgi : (trl.map fun r => (r.1.map (·.1), r.2)).getD i ([], []) = ((trl.getD i ([], [])).1.map (·.1), (trl.getD i ([], [])).2) := by
      simp [List.getD_eq_getElem?_getD, show i < trl.length by omega]
    have hgj : (trl.map fun r => (r.1.map (·.1), r.2)).getD j ([], []) = ((trl.getD j ([], [])).1.map (·.1), (trl.getD j ([], [])).2) := by
      simp [List.getD_eq_getElem?_getD, show j < trl.length by omega]
    rw [hgi, hgj] at h2
    rcases h2 with h2 | ⟨h2, h3⟩
    · exact absurd (by simpa using h2) hna
    · refine ⟨fun ht => ?_, fun ht => disj_spec h3 ht⟩
      have := disj_spec h2 ht
      simp only [List.mem_append, not_or] at this
      exact this
  have done : ∀ (listed : Array Bool) (role : Nat → Role) (a : Act) (w : World), (∀ i, i < ops.size → listed.getD i false = true) → Sim P E A role a w (stS (fun i => (trl.getD i ([], [])).1) s0 (fun i => listed.getD i false) ops.size) → Q .normal a w := by
    intro listed role a w hall hS
    rw [stS_congr (S' := fun _ => true) ops.size hall, ← hl, stS_fold _ (Nat.le_refl _), List.take_length] at hS
    exact hQ a w role hS
  intro fuel
  induction fuel with
  | zero =>
    intro listed role a w todo hsz htd hun hcl hS
    have htd' : todo = [] := List.eq_nil_of_length_eq_zero (by omega)
    have hall : ∀ i, i < ops.size → listed.getD i false = true := fun i hi => by
      cases h : listed.getD i false with
      | true => rfl
      | false => have := hun i hi h; rw [htd'] at this; simp at this
    refine ⟨?_, done listed role a w hall hS⟩
    rw [List.eq_nil_iff_forall_not_mem]
    intro i hi
    obtain ⟨h1, o, ho, _⟩ := mem_ready.1 hi
    have hlt := (Array.getElem?_eq_some_iff.1 ho).1
    have h2 := hall i hlt
    rw [Array.getD_eq_getD_getElem?] at h1 h2
    simp [show i < listed.size by omega] at h1 h2
    rw [h1] at h2; cases h2
  | succ fuel ih =>
    intro listed role a w todo hsz htd hun hcl hS
    have hgd : ∀ i, i < ops.size → listed.getD i true = listed.getD i false := fun i hi => by
      rw [Array.getD_eq_getD_getElem?, Array.getD_eq_getD_getElem?]; simp [show i < listed.size by omega]
    refine ⟨fun hr => ?_, fun i hi => ?_⟩
    · refine done listed role a w (fun i hi => ?_) hS
      induction i using Nat.strongRecOn with
      | _ i ihi =>
        cases h : listed.getD i false with
        | true => rfl
        | false =>
          exfalso
          have ho : ops[i]? = some ops[i] := Array.getElem?_eq_getElem hi
          have hmem : i ∈ Region.ready .any ops listed := mem_ready.2 ⟨(hgd i hi).trans h, _, ho, fun e he hb => by
            have hlt := early_spec ops.toList 0 i ops[i] hE (by simp [hi]) e he hb
            exact ihi e.on (by omega) (by omega)⟩
          rw [hr] at hmem; simp at hmem
    · obtain ⟨h1, o, ho, hdeps⟩ := mem_ready.1 hi
      have hilt := (Array.getElem?_eq_some_iff.1 ho).1
      have hSi : listed.getD i false = false := (hgd i hilt).symm.trans h1
      have hol : ops.toList[i]? = some o := by simpa using ho
      have hri : trl[i]? = some (trl.getD i ([], [])) := by simp [List.getD_eq_getElem?_getD, show i < trl.length by omega]
      have hanc := closed_anc (S := fun x => listed.getD x false = true) hcl hE i o hol hdeps
      have ancS : ∀ k, k < ops.size → listed.getD k false = true → ∀ x ∈ (ancs ops.toList []).getD k [], listed.getD x false = true := fun k hk hSk => by
        have hok' : ops.toList[k]? = some ops[k] := by simp [hk]
        exact closed_anc (S := fun x => listed.getD x false = true) hcl hE k _ hok' (hcl k _ hok' hSk)
      have hread : ∀ t, t ∈ (trl.getD i ([], [])).2 → get (stS (fun i => (trl.getD i ([], [])).1) s0 (fun i => listed.getD i false) ops.size) t = get ((trl.take i).foldl (fun s r => apply r.1 s) s0) t := by
        intro t ht
        rw [← stS_fold i (by omega), ← stS_congr (S := fun k => decide (k < i)) i (fun k hk => by simp [hk]), ← stS_cut (S := fun k => decide (k < i)) ops.size (by omega) (fun k hk _ => by simp; omega)]
        refine stS_same ops.size fun k hk hkt => ?_
        rcases Nat.lt_trichotomy k i with hlt | heq | hgt
        · simp only [hlt, decide_true]
          by_cases hm : k ∈ (ancs ops.toList []).getD i []
          · exact hanc k hm
          · exact absurd ht ((hpair k i hlt hilt hm t).1 hkt).1
        · subst heq; simp [hSi]
        · have : ¬ k < i := by omega
          simp only [this, decide_false]
          cases hSk : listed.getD k false with
          | false => rfl
          | true =>
            exfalso
            by_cases hm : i ∈ (ancs ops.toList []).getD k []
            · have := ancS k hk hSk i hm; rw [hSi] at this; cases this
            · exact absurd hkt ((hpair i k hgt hk hm t).2 ht)
      have hst := hstep i o _ ho hri _ hread (fun ws rs => ws = (trl.getD i ([], [])).1 ∧ rs = (trl.getD i ([], [])).2) ⟨rfl, rfl⟩
      refine step1_sim hO ho hA hS hst ?_
      rintro a' w' ⟨ws, rs, role', ⟨rfl, rfl⟩, hS'⟩
      have hset : ∀ k, (listed.setIfInBounds i true).getD k false = (listed.getD k false || k == i) := by
        intro k
        by_cases e : i = k
        · subst e
          rw [Array.getD_eq_getD_getElem?]
          simp [show i < listed.size by omega]
        · rw [getD_set_ne false e]
          have : (k == i) = false := by simp; omega
          rw [this, Bool.or_false]
      refine ih (listed.setIfInBounds i true) role' a' w' (todo.erase i) (by simp [hsz]) ?_ ?_ ?_ ?_
      · rw [List.length_erase_of_mem (hun i hilt hSi)]; omega
      · intro k hk hk'
        rw [hset] at hk'
        simp only [Bool.or_eq_false_iff, beq_eq_false_iff_ne] at hk'
        exact (List.mem_erase_of_ne hk'.2).2 (hun k hk hk'.1)
      · intro k o' ho' hk e he hb
        rw [hset] at hk ⊢
        simp only [Bool.or_eq_true, beq_iff_eq] at hk ⊢
        rcases hk with hk | rfl
        · exact .inl (hcl k o' ho' hk e he hb)
        · rw [hol] at ho'; cases ho'; exact .inl (hdeps e he hb)
      · rw [stS_add (j := i) hilt hSi hset]
        · exact hS'
        · intro k t hik hk hSk hti htk
          by_cases hm : i ∈ (ancs ops.toList []).getD k []
          · have := ancS k hk hSk i hm; rw [hSi] at this; cases this
          · exact absurd htk ((hpair i k hik hk hm t).1 hti).2

/-- No address is known any more. -/
def kill : List Nat → List D → List D
  | [], s => s
  | t :: ts, s => kill ts (s.set t .undef)
theorem kill_length : ∀ (ts : List Nat) (s : List D), (kill ts s).length = s.length
  | [], _ => rfl
  | t :: ts, s => by rw [kill, kill_length ts]; simp
theorem kill_get : ∀ (ts : List Nat) (s : List D) (t : Nat), get (kill ts s) t = get s t ∧ t ∉ ts ∨ get (kill ts s) t = .undef
  | [], s, t => .inl ⟨rfl, by simp⟩
  | u :: ts, s, t => by
    rcases kill_get ts (s.set u .undef) t with ⟨h, hn⟩ | h
    · simp only [kill]
      rw [h, get_set]
      split
      · exact .inr rfl
      · rename_i hne
        by_cases htu : u = t
        · subst htu
          exact .inr (get_ge (by
            rcases Nat.lt_or_ge u s.length with h0 | h0
            · exact absurd ⟨rfl, h0⟩ hne
            · exact h0))
        · exact .inl ⟨rfl, by simp [hn, Ne.symm htu]⟩
    · exact .inr h
theorem kill_sim (hS : Sim P E A role a w s) {ts : List Nat} (h : ∀ t, t ∈ A → t ∈ ts) : Sim P E [] role a w (kill ts s) where
  ext := hS.ext
  old := hS.old
  low := hS.low
  defers := hS.defers
  size := by rw [kill_length]; exact hS.size
  inj := hS.inj
  tm t := by
    rcases kill_get ts s t with ⟨h1, _⟩ | h1
    · rw [h1]; exact hS.tm t
    · rw [h1]; trivial
  live x u off hx := by
    rcases kill_get ts s x with ⟨h1, h2⟩ | h1
    · rw [h1] at hx; exact absurd (h x (hS.live x u off hx).1) h2
    · rw [h1] at hx; cases hx
theorem Sim.widen (hS : Sim P E [] role a w s) : Sim P E A role a w s where
  ext := hS.ext
  old := hS.old
  low := hS.low
  defers := hS.defers
  size := hS.size
  inj := hS.inj
  tm := hS.tm
  live x u off hx := absurd (hS.live x u off hx).1 (by simp)

/-- A region, in the text's order or drawn. -/
def runRegion (P : Program) (orc : Orc) (ops : Array Oper) (draw : Bool) (s : List D) (K : List D → Prop) : Prop :=
  runOps P orc ops.toList ops.toList s [] fun s' lg => bif draw then (okRegion ops.toList lg = true ∧ K (kill (addrDsts ops.toList) s')) else K (kill (addrDsts ops.toList) s')

theorem region_sim (hO : OrcOK P orc) (hm : P.follows .mixedOrders = true) {id : Nat} {ops : Array Oper} {draw : Bool} {K : List D → Prop} (h : runRegion P orc ops draw s K) (hS : Sim P E [] role a w s)
    (hQ : ∀ a' w' s' role', K s' → Sim P E [] role' a' w' s' → Q .normal a' w') : (Code.region id ops draw).wp P Q a w := by
  unfold runRegion at h
  cases draw with
  | false =>
    simp only [cond_false] at h
    refine wp_region ?_
    have := ops_sim (P := P) (Q := Q) (A := addrDsts ops.toList) hO (ops := ops) (fun t ht => ht) ops.toList 0 role a w s [] _ rfl hS.widen h (fun a' w' s' lg' role' hK hS' => hQ a' w' _ role' hK (kill_sim hS' fun t ht => ht))
    simpa using this
  | true =>
    simp only [cond_true] at h
    refine wp_region_any hm ?_
    obtain ⟨trl, hl, ⟨hok, hK⟩, hst⟩ := runOps_trace hO _ _ _ _ h
    have hS1 : Sim P E (addrDsts ops.toList) role a w.drew s := by
      have := hS.widen (A := addrDsts ops.toList)
      have hkp : Kept role w role w.drew none := ⟨⟨fun _ _ h => h, fun _ _ _ _ _ => rfl⟩, fun _ _ h => h, fun _ _ _ _ => rfl, fun _ _ _ h _ => ⟨h, rfl⟩⟩
      exact this.turn (Exd.dr this.ext) (fun _ _ => rfl) this.low this.inj fun t => (this.tm t).keep hkp (by simp) (by simp)
    refine any_sim hO (A := addrDsts ops.toList) (fun t ht => ht) (by simpa using hl) (by simpa using hok) (fun i o r ho hr => hst i o r (by simpa using ho) hr) (fun a' w' role' hS' => hQ a' w' _ role' hK (kill_sim hS' fun t ht => ht)) ops.size _ role a _ (List.range ops.size) (by simp) (by simp) (fun i hi _ => by simpa using hi) (fun i o hi h => ?_) ?_
    · rw [Array.getD_eq_getD_getElem?] at h
      by_cases hlt : i < ops.size <;> simp [hlt] at h
    · rw [stS_cut (k := 0) ops.size (Nat.zero_le _) (fun i _ hi => by rw [Array.getD_eq_getD_getElem?]; simp [hi])]
      exact hS1
end
end Go.Proofs.YtlfdelobjbdimaaDoor

namespace Go.Proofs.YtlfdelobjbdimaaDoor
open Go.RowKit
open Look (ret rd chk)

inductive AExit where
  | normal
  | exit (id : Nat)
  | ret
def AExit.conc : AExit → Exit
  | .normal => .normal
  | .exit id => .exit id
  | .ret => .ret

/-- The number of the first region of code: a loop's name. -/
def regionOf : Code → Nat
  | .region id _ _ => id
  | .seq a _ => regionOf a
  | .block _ c => regionOf c
  | .scope c => regionOf c
  | .loop c => regionOf c
  | .cond _ a _ => regionOf a
  | _ => 0
/-- The temporaries of operations that assign no variable. -/
def junk : Code → List Nat
  | .region _ ops _ => ops.toList.flatMap fun o => match o.op with
    | .assign _ => []
    | _ => o.dst.toList
  | .seq a b => junk a ++ junk b
  | .cond _ a b => junk a ++ junk b
  | .block _ c => junk c
  | .loop c => junk c
  | .scope c => junk c
  | _ => []
/-- The temporaries of a region's new variables: what they held is forgotten ahead of it. -/
def freshDsts (ops : List Oper) : List Nat := ops.flatMap fun o => match o.op with
  | .alloc _ => o.dst.toList
  | _ => []
/-- The temporaries that are moved to. -/
def movedTo : Code → List Nat
  | .region _ ops _ => ops.toList.flatMap fun o => match o.op with
    | .move _ => o.dst.toList
    | _ => []
  | .seq a b => movedTo a ++ movedTo b
  | .cond _ a b => movedTo a ++ movedTo b
  | .block _ c => movedTo c
  | .loop c => movedTo c
  | .scope c => movedTo c
  | _ => []
/-- What a round forgets where loops are gone round. -/
def junkX (c : Code) : List Nat := (junk c).filter fun t => !(movedTo c).contains t
/-- The loops of code, not those within them. -/
def loopsOf : Code → List Code
  | .seq a b => loopsOf a ++ loopsOf b
  | .cond _ a b => loopsOf a ++ loopsOf b
  | .block _ c => loopsOf c
  | .loop c => [c]
  | .scope c => loopsOf c
  | _ => []

abbrev LOrc := Nat → List D → (AExit → List D → Prop) → Prop
section
variable (P : Program) (orc : Orc) (lorc : LOrc)
def runCode : Code → List D → (AExit → List D → Prop) → Prop
  | .skip, s, K => K .normal s
  | .region _ ops draw, s, K => runRegion P orc ops draw (kill (freshDsts ops.toList) s) (K .normal)
  | .seq a b, s, K => runCode a s fun e s' => match e with
    | .normal => runCode b s' K
    | e => K e s'
  | .cond c x y, s, K => match c with
    | .tmp u => match get s u with
      | .v (.bool b) => bif b then runCode x (s.set u (.v (.bool true))) K else runCode y (s.set u (.v (.bool false))) K
      | _ => False
    | _ => False
  | .block id c, s, K => runCode c s fun e s' => match e with
    | .exit i => bif i == id then K .normal s' else K (.exit i) s'
    | e => K e s'
  | .loop c, s, K => lorc (regionOf c) s K
  | .exit id, s, K => K (.exit id) s
  | .scope c, s, K => runCode c s K
  | .ret, s, K => K .ret s
  | _, _, _ => False

/-- Rounds of a loop: at most n. -/
def Rounds (c : Code) : Nat → List D → AExit → List D → Prop
  | 0, _, _, _ => False
  | n + 1, s, e, s' => runCode P orc lorc c s fun e1 s1 => match e1 with
    | .normal => Rounds c n (kill (junk c) s1) e s'
    | e1 => e1 = e ∧ kill (junk c) s1 = s'
/-- What is said of a loop is so. -/
def LoopOK (c : Code) (m : List D → (AExit → List D → Prop) → Prop) : Prop :=
  ∀ s K, m s K → ∃ e s', K e s' ∧ (∀ K' : AExit → List D → Prop, K' e s' → m s K') ∧ ∀ E role a w, Sim P E [] role a w s → (Code.loop c).wp P (fun e1 a' w' => ∃ role', e1 = e.conc ∧ Sim P E [] role' a' w' s') a w

def resOf (s : List D) : List ResultVar → Option (List D)
  | [] => some []
  | .tmp t :: rs => match resOf s rs with
    | some ds => if (get s t).isVal then some ((get s t).strip :: ds) else none
    | none => none
  | .cell u t :: rs => match resOf s rs, get s u with
    | some ds, .obj _ cs => match partD P t cs 0 with
      | some d => some (d.strip :: ds)
      | none => none
    | _, _ => none
def resD (fn : Func) (s : List D) : Option D := match resOf P s fn.results.toList with
  | some [d] => some d
  | some ds => some (.tup ds)
  | none => none
/-- A function's run: arguments, outcome. -/
def runFn (fn : Func) (c : Code) (ds : List D) (K : D → Prop) : Prop := runCode P orc lorc c (ds.map D.strip ++ List.replicate (fn.ntmps - ds.length) .undef) fun e s => match e with
  | .exit _ => False
  | _ => match resD P fn s with
    | some d => K d
    | none => False
end

section
variable {P : Program} {orc : Orc} {lorc : LOrc}

theorem code_out (hO : OrcOK P orc) : ∀ (c : Code) (s : List D) (K : AExit → List D → Prop), (∀ x ∈ loopsOf c, LoopOK P x (lorc (regionOf x))) → runCode P orc lorc c s K →
    ∃ e s', K e s' ∧ ∀ K' : AExit → List D → Prop, K' e s' → runCode P orc lorc c s K'
  | .skip, s, K, _, h => ⟨.normal, s, h, fun K' hK => hK⟩
  | .region id ops draw, s, K, _, h => by
    simp only [runCode, runRegion] at h ⊢
    obtain ⟨s', lg', h1, h2⟩ := runOps_det hO _ _ _ _ h
    cases draw with
    | false => exact ⟨.normal, _, h1, fun K' hK => h2 _ hK⟩
    | true => exact ⟨.normal, _, h1.2, fun K' hK => h2 _ ⟨h1.1, hK⟩⟩
  | .seq a b, s, K, hL, h => by
    simp only [runCode] at h ⊢
    obtain ⟨e, s1, h1, h2⟩ := code_out hO a s _ (fun x hx => hL x (by simp [loopsOf, hx])) h
    cases e with
    | normal =>
      obtain ⟨e', s', h3, h4⟩ := code_out hO b s1 K (fun x hx => hL x (by simp [loopsOf, hx])) h1
      exact ⟨e', s', h3, fun K' hK => h2 _ (h4 K' hK)⟩
    | exit id => exact ⟨_, _, h1, fun K' hK => h2 _ hK⟩
    | ret => exact ⟨_, _, h1, fun K' hK => h2 _ hK⟩
  | .cond c x y, s, K, hL, h => by
    cases c <;> simp only [runCode] at h ⊢ <;> try exact h.elim
    split at h
    · rename_i b hb
      cases b with
      | true =>
        obtain ⟨e', s', h3, h4⟩ := code_out hO x _ K (fun z hz => hL z (by simp [loopsOf, hz])) h
        exact ⟨e', s', h3, fun K' hK => h4 K' hK⟩
      | false =>
        obtain ⟨e', s', h3, h4⟩ := code_out hO y _ K (fun z hz => hL z (by simp [loopsOf, hz])) h
        exact ⟨e', s', h3, fun K' hK => h4 K' hK⟩
    · exact h.elim
  | .block id c, s, K, hL, h => by
    simp only [runCode] at h ⊢
    obtain ⟨e, s1, h1, h2⟩ := code_out hO c s _ hL h
    cases e with
    | normal => exact ⟨_, _, h1, fun K' hK => h2 _ hK⟩
    | exit i =>
      by_cases hi : (i == id) = true
      · simp only [hi, cond_true] at h1
        exact ⟨_, _, h1, fun K' hK => h2 _ (by simp only [hi, cond_true]; exact hK)⟩
      · simp only [hi, cond_false] at h1
        exact ⟨_, _, h1, fun K' hK => h2 _ (by simp only [hi, cond_false]; exact hK)⟩
    | ret => exact ⟨_, _, h1, fun K' hK => h2 _ hK⟩
  | .loop c, s, K, hL, h => by
    obtain ⟨e, s', h1, h2, _⟩ := hL c (by simp [loopsOf]) s K h
    exact ⟨e, s', h1, h2⟩
  | .exit id, s, K, _, h => ⟨_, s, h, fun K' hK => hK⟩
  | .scope c, s, K, hL, h => code_out hO c s K hL h
  | .ret, s, K, _, h => ⟨_, s, h, fun K' hK => hK⟩
  | .rangeFunc .., _, _, _, h => h.elim
  | .label _, _, _, _, h => h.elim
  | .goto _, _, _, _, h => h.elim
  | .refuse _, _, _, _, h => h.elim

abbrev Post (P : Program) (E : Env) (K : AExit → List D → Prop) (e : Exit) (a' : Act) (w' : World) : Prop := ∃ ae s' role', e = AExit.conc ae ∧ K ae s' ∧ Sim P E [] role' a' w' s'

theorem code_sim (hO : OrcOK P orc) (hm : P.follows .mixedOrders = true) {E : Env} : ∀ (c : Code) (role : Nat → Role) (a : Act) (w : World) (s : List D) (K : AExit → List D → Prop), (∀ x ∈ loopsOf c, LoopOK P x (lorc (regionOf x))) → runCode P orc lorc c s K →
    Sim P E [] role a w s → c.wp P (Post P E K) a w
  | .skip, role, a, w, s, K, _, h, hS => wp_skip ⟨.normal, s, role, rfl, h, hS⟩
  | .region id ops draw, role, a, w, s, K, _, h, hS => region_sim hO hm h (kill_sim hS (ts := freshDsts ops.toList) (by simp)) fun a' w' s' role' hK hS' => ⟨.normal, s', role', rfl, hK, hS'⟩
  | .seq x y, role, a, w, s, K, hL, h, hS => by
    refine wp_seq (wp_mono (code_sim hO hm x role a w s _ (fun z hz => hL z (by simp [loopsOf, hz])) h hS) ?_)
    rintro e a' w' ⟨ae, s', role', rfl, hK, hS'⟩
    cases ae with
    | normal => exact code_sim hO hm y role' a' w' s' K (fun z hz => hL z (by simp [loopsOf, hz])) hK hS'
    | exit id => exact ⟨.exit id, s', role', rfl, hK, hS'⟩
    | ret => exact ⟨.ret, s', role', rfl, hK, hS'⟩
  | .cond c x y, role, a, w, s, K, hL, h, hS => by
    cases c <;> simp only [runCode] at h <;> try exact h.elim
    rename_i u
    split at h
    · rename_i b hb
      have he : a.eval (.tmp u) = .bool b := by
        have := hS.tm u
        rw [hb] at this
        exact this.1.bool
      refine wp_cond he ?_
      cases b with
      | true =>
        simp only [cond_true] at h
        rw [set_get hb (by simp)] at h
        exact code_sim hO hm x role a w s K (fun z hz => hL z (by simp [loopsOf, hz])) h hS
      | false =>
        simp only [cond_false] at h
        rw [set_get hb (by simp)] at h
        exact code_sim hO hm y role a w s K (fun z hz => hL z (by simp [loopsOf, hz])) h hS
    · exact h.elim
  | .block id c, role, a, w, s, K, hL, h, hS => by
    refine wp_block (wp_mono (code_sim hO hm c role a w s _ hL h hS) ?_)
    rintro e a' w' ⟨ae, s', role', rfl, hK, hS'⟩
    cases ae with
    | normal => exact ⟨.normal, s', role', rfl, hK, hS'⟩
    | exit i =>
      show (if i = id then Post P E K .normal a' w' else Post P E K (.exit i) a' w')
      by_cases hi : i = id
      · rw [if_pos hi]; simp only [hi, beq_self_eq_true, cond_true] at hK; exact ⟨.normal, s', role', rfl, hK, hS'⟩
      · rw [if_neg hi]
        have : (i == id) = false := by simpa using hi
        simp only [this, cond_false] at hK
        exact ⟨.exit i, s', role', rfl, hK, hS'⟩
    | ret => exact ⟨.ret, s', role', rfl, hK, hS'⟩
  | .loop c, role, a, w, s, K, hL, h, hS => by
    obtain ⟨e, s', h1, _, h3⟩ := hL c (by simp [loopsOf]) s K h
    refine wp_mono (h3 E role a w hS) ?_
    rintro e1 a' w' ⟨role', rfl, hS'⟩
    exact ⟨e, s', role', rfl, h1, hS'⟩
  | .exit id, role, a, w, s, K, _, h, hS => wp_exit ⟨.exit id, s, role, rfl, h, hS⟩
  | .scope c, role, a, w, s, K, hL, h, hS => by
    refine wp_scope_straight (wp_mono (code_sim hO hm c role a w s K hL h hS) ?_)
    rintro e a' w' ⟨ae, s', role', rfl, hK, hS'⟩
    cases ae <;> exact ⟨_, s', role', rfl, hK, hS'⟩
  | .ret, role, a, w, s, K, _, h, hS => wp_ret ⟨.ret, s, role, rfl, h, hS⟩
  | .rangeFunc .., _, _, _, _, _, _, h, _ => h.elim
  | .label _, _, _, _, _, _, _, h, _ => h.elim
  | .goto _, _, _, _, _, _, _, h, _ => h.elim
  | .refuse _, _, _, _, _, _, _, h, _ => h.elim

/-- Rounds of a loop are the loop. -/
theorem rounds_sim (hO : OrcOK P orc) (hm : P.follows .mixedOrders = true) {c : Code} (hL : ∀ x ∈ loopsOf c, LoopOK P x (lorc (regionOf x))) {E : Env} {e : AExit} {s' : List D} :
    ∀ (n : Nat) (role : Nat → Role) (a : Act) (w : World) (s : List D), Rounds P orc lorc c n s e s' → Sim P E [] role a w s → Code.rounds P c (fun e1 a' w' => ∃ role', e1 = e.conc ∧ Sim P E [] role' a' w' s') n a w
  | 0, _, _, _, _, h, _ => h.elim
  | n + 1, role, a, w, s, h, hS => by
    rw [rounds_succ]
    refine wp_mono (code_sim hO hm c role a w s _ hL h hS) ?_
    rintro e1 a' w' ⟨ae, s1, role', rfl, hK, hS'⟩
    have hS2 := kill_sim hS' (ts := junk c) (by simp)
    cases ae with
    | normal => exact rounds_sim hO hm hL n role' a' w' _ hK hS2
    | exit id => obtain ⟨rfl, rfl⟩ := hK; exact ⟨role', rfl, hS2⟩
    | ret => obtain ⟨rfl, rfl⟩ := hK; exact ⟨role', rfl, hS2⟩

theorem loop_ok (hO : OrcOK P orc) (hm : P.follows .mixedOrders = true) {c : Code} (hL : ∀ x ∈ loopsOf c, LoopOK P x (lorc (regionOf x))) {m : List D → (AExit → List D → Prop) → Prop}
    (h : ∀ s K, m s K → ∃ e s', K e s' ∧ (∀ K' : AExit → List D → Prop, K' e s' → m s K') ∧ ∃ n, Rounds P orc lorc c n s e s') : LoopOK P c m := by
  intro s K hK
  obtain ⟨e, s', h1, h2, n, h3⟩ := h s K hK
  exact ⟨e, s', h1, h2, fun E role a w hS => wp_loop_rounds n (rounds_sim hO hm hL n role a w s h3 hS)⟩

def resOp (tmps : Array Value) : ResultVar → Sem Value
  | .tmp t => pure (tmps.getD t undef)
  | .cell a t => do loadVar t (← asAddr (tmps.getD a undef))

theorem results_sim {E : Env} {role : Nat → Role} {a : Act} {w : World} {s : List D} (hS : Sim P E [] role a w s) : ∀ (rs : List ResultVar) (ds : List D), resOf P s rs = some ds →
    ∃ vs : List Value, (rs.mapM (resOp a.tmps)).run P w = .ok vs w ∧ vs.length = ds.length ∧ ∀ (i : Nat) (v : Value) (d : D), vs[i]? = some v → ds[i]? = some d → Rd P role w v d
  | [], ds, h => by simp only [resOf] at h; cases h; exact ⟨[], by simp, rfl, fun i v d hv => by simp at hv⟩
  | .tmp t :: rs, ds, h => by
    simp only [resOf] at h
    split at h
    · rename_i ds' hd
      split at h
      · rename_i hv
        cases h
        obtain ⟨vs, h1, h2, h3⟩ := results_sim hS rs ds' hd
        refine ⟨a.tmps.getD t undef :: vs, ?_, by simp [h2], fun i v d hi hd' => ?_⟩
        · rw [List.mapM_cons, Sem.run_bind]
          have e9 : (resOp a.tmps (.tmp t)).run P w = .ok (a.tmps.getD t undef) w := rfl
          rw [e9, Result.andThen_ok, Sem.run_bind, h1]; rfl
        · cases i with
          | zero => simp at hi hd'; subst hi; subst hd'; have := (RT.ro (hS.tm t) hv).1.strip; simpa using this
          | succ i => simp at hi hd'; exact h3 i v d hi hd'
      · cases h
    · cases h
  | .cell u t :: rs, ds, h => by
    simp only [resOf] at h
    split at h
    · rename_i ds' T cs hd hu
      split at h
      · rename_i d hp
        cases h
        obtain ⟨vs, h1, h2, h3⟩ := results_sim hS rs ds' hd
        have ht := hS.tm u
        rw [hu] at ht
        obtain ⟨b, vs', e1, e2, e3, hb, hsz, hcells⟩ := ht
        have hc : ∀ (k : Nat) (e : D), cs[k]? = some e → vs'[k]? = some (vs'.getD k undef) := fun k e hk => by
          have := (List.getElem?_eq_some_iff.1 hk).1
          have hlt : k < vs'.size := by omega
          simp [hlt]
        obtain ⟨y, hy1, hy2, _⟩ := run_loadVar_known (P := P) (role := role) (w := w) (b := b) (fun k => vs'.getD k undef) hp 0
          (fun k e hk => by rw [Nat.zero_add]; simp only [World.cell?, hb]; simpa using hc k e hk) (fun k e hk => (hcells k _ e (hc k e hk) hk).1) (fun k e hk => (hcells k _ e (hc k e hk) hk).2.1)
        refine ⟨y :: vs, ?_, by simp [h2], fun i v d hi hd' => ?_⟩
        · rw [List.mapM_cons, Sem.run_bind]
          have e9 : (resOp a.tmps (.cell u t)).run P w = .ok y w := by
            simp only [resOp, e1, asAddr, Sem.run_bind, Sem.run_pure, Result.andThen_ok]
            exact hy1
          rw [e9, Result.andThen_ok, Sem.run_bind, h1]; rfl
        · cases i with
          | zero => simp at hi hd'; subst hi; subst hd'; exact hy2.strip
          | succ i => simp at hi hd'; exact h3 i v d hi hd'
      · cases h
    · cases h

theorem resD_sim {E : Env} {role : Nat → Role} {a : Act} {w : World} {s : List D} (hS : Sim P E [] role a w s) {fn : Func} {d : D} (h : resD P fn s = some d) : ∃ v, (results fn a.tmps).run P w = .ok v w ∧ Rd P role w v d := by
  unfold resD at h
  have key : ∀ ds, resOf P s fn.results.toList = some ds → ∃ vs : List Value, vs.length = ds.length ∧ (results fn a.tmps).run P w = .ok (if h : vs.toArray.size = 1 then vs.toArray[0] else .tuple vs.toArray) w ∧ ∀ (i : Nat) (v : Value) (d : D), vs[i]? = some v → ds[i]? = some d → Rd P role w v d := by
    intro ds hds
    obtain ⟨vs, h1, h2, h3⟩ := results_sim hS _ _ hds
    refine ⟨vs, h2, ?_, h3⟩
    have e9 : results fn a.tmps = (do let vs ← fn.results.mapM (resOp a.tmps); pure (if h : vs.size = 1 then vs[0] else .tuple vs)) := rfl
    rw [e9, Sem.run_bind, Array.mapM_eq_mapM_toList, Sem.run_map, h1]
    rfl
  split at h
  · rename_i d' hd
    cases h
    obtain ⟨vs, h2, h1, h3⟩ := key _ hd
    obtain ⟨v, rfl⟩ := List.length_eq_one_iff.1 h2
    exact ⟨v, by simpa using h1, h3 0 v d rfl rfl⟩
  · rename_i ds hne hd
    cases h
    obtain ⟨vs, h2, h1, h3⟩ := key _ hd
    have hn1 : vs.toArray.size ≠ 1 := by
      intro h; simp at h
      rw [h2] at h
      obtain ⟨d, rfl⟩ := List.length_eq_one_iff.1 h
      exact hne d rfl
    rw [dif_neg hn1] at h1
    exact ⟨_, h1, .tup (by simp [h2]) (fun i v d hi hd => h3 i v d (by simpa using hi) hd)⟩
  · cases h

/-- A run of what is known hands back a contract. -/
theorem fn_ok (hO : OrcOK P orc) (hm : P.follows .mixedOrders = true) {f : Nat} {fn : Func} {c : Code} (hf : P.funcs[f]? = some fn) (hname : (fn.name == "runtime.NumGoroutine") = false) (hb : fn.body = some c) (hL : ∀ x ∈ loopsOf c, LoopOK P x (lorc (regionOf x))) {ds : List D} {K : D → Prop}
    (h : runFn P orc lorc fn c ds K) (hle : ds.length ≤ fn.ntmps) : ∃ d, K d ∧ (∀ K' : D → Prop, K' d → runFn P orc lorc fn c ds K') ∧ PS P f ds d := by
  unfold runFn at h ⊢
  obtain ⟨e, s', h1, h2⟩ := code_out hO c _ _ hL h
  have h3 : ∃ d, resD P fn s' = some d ∧ K d ∧ (∀ i, e ≠ .exit i) := by
    cases e with
    | exit i => exact h1.elim
    | normal =>
      simp only at h1
      split at h1
      · exact ⟨_, by assumption, h1, by simp⟩
      · exact h1.elim
    | ret =>
      simp only at h1
      split at h1
      · exact ⟨_, by assumption, h1, by simp⟩
      · exact h1.elim
  obtain ⟨d, hd, hK, hne⟩ := h3
  refine ⟨d, hK, fun K' hK' => h2 _ (by cases e with | exit i => exact absurd rfl (hne i) | normal => simp only [hd]; exact hK' | ret => simp only [hd]; exact hK'), ?_⟩
  intro role w args hlow hmask hsz hargs
  unfold CallsV
  rw [MuLone.run_callFunc_enter hf hname hb]
  refine calls_of_wp hf hb ?_
  have hS : Sim P ⟨w, role⟩ [] role { tmps := args ++ Array.replicate (fn.ntmps - args.size) undef, defers := [] } w (ds.map D.strip ++ List.replicate (fn.ntmps - ds.length) .undef) := by
    refine { ext := Exd.refl w, old := fun k hk => ⟨rfl, (hmask k).1, (hmask k).2⟩, low := hlow, defers := rfl, size := by simp [hsz], tm := fun t => ?_, inj := fun b b' t hb _ => absurd hb ((hmask b).1 t), live := fun x u off hx => ?_ }
    · by_cases ht : t < ds.length
      · have e1 : get (ds.map D.strip ++ List.replicate (fn.ntmps - ds.length) .undef) t = ds[t].strip := by
          simp [get, List.getD_eq_getElem?_getD, List.getElem?_append_left, ht]
        have e2 : (args ++ Array.replicate (fn.ntmps - args.size) undef).getD t undef = args[t]'(by omega) := by
          rw [Array.getD_eq_getD_getElem?, Array.getElem?_append_left (by omega)]
          simp [show t < args.size by omega]
        rw [e1]
        show RT _ _ _ _ t ((args ++ Array.replicate (fn.ntmps - args.size) undef).getD t undef) _
        rw [e2]
        have := hargs t (args[t]'(by omega)) ds[t] (by simp [show t < args.size by omega]) (by simp [ht])
        exact RO.rt (this.strip.ro (strip_strip _))
      · have e1 : get (ds.map D.strip ++ List.replicate (fn.ntmps - ds.length) .undef) t = .undef := by
          simp only [get, List.getD_eq_getElem?_getD]
          rw [List.getElem?_append_right (by simp; omega)]
          rw [List.getElem?_replicate]
          split <;> rfl
        rw [e1]; trivial
    · exfalso
      by_cases ht : x < ds.length
      · have e1 : get (ds.map D.strip ++ List.replicate (fn.ntmps - ds.length) .undef) x = ds[x].strip := by
          simp [get, List.getD_eq_getElem?_getD, List.getElem?_append_left, ht]
        rw [e1] at hx
        have := hargs x (args[x]'(by omega)) ds[x] (by simp [show x < args.size by omega]) (by simp [ht])
        have hv := this.strip.isVal
        rw [hx] at hv; simp [D.isVal] at hv
      · have e1 : get (ds.map D.strip ++ List.replicate (fn.ntmps - ds.length) .undef) x = .undef := by
          simp only [get, List.getD_eq_getElem?_getD]
          rw [List.getElem?_append_right (by simp; omega)]
          rw [List.getElem?_replicate]
          split <;> rfl
        rw [e1] at hx; cases hx
  have hrun := code_sim hO hm (E := ⟨w, role⟩) c role _ w _ (fun e1 s1 => e1 = e ∧ s1 = s') hL (h2 _ ⟨rfl, rfl⟩) hS
  refine wp_mono hrun ?_
  rintro e1 a' w' ⟨ae, s1, role', rfl, ⟨rfl, rfl⟩, hS'⟩
  obtain ⟨v, hv, hrd⟩ := resD_sim hS' hd
  have fin : ∃ v, (results fn a'.tmps).run P w' = .ok v w' ∧ ∃ v1 role', Ending.returned v = .returned v1 ∧ Exd w w' ∧ (∀ k, k < w.heap.size → role' k = role k) ∧ (∀ k, role' k ≠ .none → k < w'.heap.size) ∧ Rd P role' w' v1 d :=
    ⟨v, hv, v, role', rfl, hS'.ext, fun k hk => (hS'.old k hk).1, hS'.low, hrd⟩
  cases ae with
  | exit i => exact absurd rfl (hne i)
  | normal => exact ⟨hS'.defers, fin⟩
  | ret => exact ⟨hS'.defers, fin⟩
end
end Go.Proofs.YtlfdelobjbdimaaDoor

namespace Go.Proofs.YtlfdelobjbdimaaDoor
open Go.RowKit
open Look (ret rd chk)

def maskN2 : List Nat → Nat
  | [] => 0
  | t :: l => (1 <<< t) ||| maskN2 l
theorem maskN2_bit : ∀ (l : List Nat) (t : Nat), (maskN2 l).testBit t = true ↔ t ∈ l
  | [], t => by simp [maskN2]
  | x :: l, t => by
    simp only [maskN2, Nat.testBit_or, Bool.or_eq_true, maskN2_bit l t, Nat.one_shiftLeft, Nat.testBit_two_pow, decide_eq_true_eq, List.mem_cons]
    exact or_congr ⟨Eq.symm, Eq.symm⟩ Iff.rfl
/-- A number, reckoned first. -/
def strict (n : Nat) (k : Nat → Bool) : Bool := match n with
  | 0 => k 0
  | n + 1 => k (n + 1)
theorem strict_eq (n : Nat) (k : Nat → Bool) : strict n k = k n := by cases n <;> rfl
def ancM : List Edge → List Nat → Nat
  | [], _ => 0
  | e :: l, acc => bif Region.binds .any e then (1 <<< e.on) ||| (acc.getD e.on 0 ||| ancM l acc) else ancM l acc
def bitB (n i : Nat) : Bool := Nat.beq (Nat.land (Nat.shiftRight n i) 1) 1
theorem bitB_eq {n i : Nat} (h : bitB n i = true) : n.testBit i = true := by
  unfold bitB at h
  have := Nat.eq_of_beq_eq_true h
  have h2 : n >>> i % 2 = 1 := by
    have e : Nat.land (Nat.shiftRight n i) 1 = n >>> i % 2 := Nat.and_one_is_mod _
    rw [← e]; exact this
  rw [Nat.testBit_eq_decide_div_mod_eq]
  rw [Nat.shiftRight_eq_div_pow] at h2
  simpa using h2
def pairsM (A w r : Nat) : List (Nat × Nat) → Nat → Bool
  | [], _ => true
  | (w', r') :: l, i => (bitB A (i - 1) || (Nat.beq (Nat.land w' (Nat.lor r w)) 0 && Nat.beq (Nat.land r' w) 0)) && pairsM A w r l (i - 1)
def goM : List Oper → List (List Nat × List Nat) → List Nat → List (Nat × Nat) → Nat → Bool
  | [], [], _, _, _ => true
  | o :: ops, x :: lg, acc, pr, j => strict (ancM o.after.toList acc) fun A => strict (maskN2 x.1) fun w => strict (maskN2 x.2) fun r => pairsM A w r pr j && strict (j + 1) fun j => goM ops lg (acc ++ [A]) ((w, r) :: pr) j
  | _, _, _, _, _ => false

theorem land_zero {a b : Nat} (h : Nat.beq (Nat.land a b) 0 = true) (t : Nat) (ha : a.testBit t = true) : b.testBit t = false := by
  have h1 : a &&& b = 0 := Nat.eq_of_beq_eq_true h
  have h2 : (a &&& b).testBit t = false := by rw [h1]; exact Nat.zero_testBit t
  rw [Nat.testBit_and, ha, Bool.true_and] at h2
  exact h2

theorem ancM_spec (M : List Nat) (L : List (List Nat)) (hML : ∀ k x, (M.getD k 0).testBit x = true → x ∈ L.getD k []) : ∀ (es : List Edge) (x : Nat), (ancM es M).testBit x = true →
    x ∈ (es.filter (Region.binds .any ·)).flatMap fun e => e.on :: L.getD e.on []
  | [], x, h => by simp [ancM] at h
  | e :: es, x, h => by
    unfold ancM at h
    cases hb : Region.binds .any e with
    | false =>
      rw [hb, cond_false] at h
      rw [List.filter_cons_of_neg (by rw [hb]; decide)]
      exact ancM_spec M L hML es x h
    | true =>
      rw [hb, cond_true, Nat.testBit_or, Nat.testBit_or, Bool.or_eq_true, Bool.or_eq_true, Nat.one_shiftLeft, Nat.testBit_two_pow, decide_eq_true_eq] at h
      rw [List.filter_cons_of_pos (by rw [hb])]
      simp only [List.flatMap_cons, List.mem_append, List.mem_cons]
      rcases h with h | h | h
      · exact .inl (.inl h.symm)
      · exact .inl (.inr (hML _ _ h))
      · exact .inr (ancM_spec M L hML es x h)

/-- The pair of operations j, i: is it well? -/
def pairOK (an : List (List Nat)) (lg : List (List Nat × List Nat)) (j i : Nat) : Bool := (an.getD j []).contains i ||
    (disj (lg.getD i ([], [])).1 ((lg.getD j ([], [])).2 ++ (lg.getD j ([], [])).1) && disj (lg.getD i ([], [])).2 (lg.getD j ([], [])).1)

theorem disj_bits {a b : List Nat} (h : ∀ t, t ∈ a → t ∈ b → False) : disj a b = true := by
  unfold disj
  simp only [List.all_eq_true, Bool.not_eq_true', List.contains_eq_mem, decide_eq_false_iff_not]
  intro x hx hb
  exact h x hx hb

theorem pairsM_spec {A w r : Nat} : ∀ (pr : List (Nat × Nat)) (j : Nat), pr.length = j → pairsM A w r pr j = true → ∀ i, i < j → ∃ w' r', pr[j - 1 - i]? = some (w', r') ∧ (A.testBit i = true ∨ (Nat.beq (Nat.land w' (Nat.lor r w)) 0 = true ∧ Nat.beq (Nat.land r' w) 0 = true))
  | [], j, hl, _, i, hi => by simp at hl; omega
  | (w', r') :: pr, j, hl, h, i, hi => by
    simp only [pairsM, Bool.and_eq_true, Bool.or_eq_true] at h
    simp only [List.length_cons] at hl
    by_cases hij : i = j - 1
    · subst hij
      refine ⟨w', r', by rw [Nat.sub_self]; rfl, ?_⟩
      rcases h.1 with h1 | h1
      · exact .inl (bitB_eq h1)
      · exact .inr h1
    · obtain ⟨w2, r2, h1, h2⟩ := pairsM_spec pr (j - 1) (by omega) h.2 i (by omega)
      refine ⟨w2, r2, ?_, h2⟩
      rw [show j - 1 - i = (j - 1 - 1 - i) + 1 by omega, List.getElem?_cons_succ]
      exact h1

theorem goM_spec : ∀ (ops : List Oper) (lg : List (List Nat × List Nat)) (M : List Nat) (pr : List (Nat × Nat)) (j : Nat) (L : List (List Nat)) (dl : List (List Nat × List Nat)),
    goM ops lg M pr j = true → M.length = j → L.length = j → dl.length = j → pr.length = j → (∀ k x, (M.getD k 0).testBit x = true → x ∈ L.getD k []) →
    (∀ i x, dl[i]? = some x → pr[j - 1 - i]? = some (maskN2 x.1, maskN2 x.2)) → ∀ j', j ≤ j' → j' < (dl ++ lg).length → ∀ i, i < j' → pairOK (ancs ops L) (dl ++ lg) j' i = true
  | [], [], M, pr, j, L, dl, _, _, _, hdl, _, _, _ => fun j' h1 h2 => by simp at h2; omega
  | [], _ :: _, _, _, _, _, _, h, _, _, _, _, _, _ => by simp [goM] at h
  | _ :: _, [], _, _, _, _, _, h, _, _, _, _, _, _ => by simp [goM] at h
  | o :: ops, x :: lg, M, pr, j, L, dl, h, hM, hL, hdl, hpr, hML, hd => fun j' h1 h2 i hi => by
    simp only [goM, strict_eq, Bool.and_eq_true] at h
    obtain ⟨hp, hr⟩ := h
    have hsplit : dl ++ x :: lg = (dl ++ [x]) ++ lg := by simp
    have hA := ancM_spec M L hML o.after.toList
    by_cases hj : j' = j
    · subst hj
      obtain ⟨w', r', q1, q2⟩ := pairsM_spec pr j' hpr hp i hi
      have hdi : ∃ y, dl[i]? = some y := by
        have : i < dl.length := by omega
        exact ⟨dl[i], by simp [this]⟩
      obtain ⟨y, hy⟩ := hdi
      have e1 := hd i y hy
      rw [q1] at e1
      obtain ⟨rfl, rfl⟩ : w' = maskN2 y.1 ∧ r' = maskN2 y.2 := by simpa using e1
      unfold pairOK
      have g1 : (dl ++ x :: lg).getD i ([], []) = y := by
        rw [List.getD_eq_getElem?_getD, List.getElem?_append_left (by omega), hy]; rfl
      have g2 : (dl ++ x :: lg).getD j' ([], []) = x := by
        rw [List.getD_eq_getElem?_getD, List.getElem?_append_right (by omega), hdl, Nat.sub_self]; rfl
      rw [g1, g2]
      rw [Bool.or_eq_true]
      rcases q2 with q2 | q2
      · refine .inl ?_
        have := hA i q2
        have e3 : (ancs (o :: ops) L).getD j' [] = (o.after.toList.filter (Region.binds .any ·)).flatMap fun e => e.on :: L.getD e.on [] := by
          obtain ⟨l, hl, _⟩ := ancs_acc ops (L ++ [(o.after.toList.filter (Region.binds .any ·)).flatMap fun e => e.on :: L.getD e.on []])
          show (ancs ops _).getD j' [] = _
          rw [hl, List.getD_eq_getElem?_getD, List.append_assoc, List.getElem?_append_right (by omega), hL, Nat.sub_self]; rfl
        rw [e3]
        simpa [List.contains_eq_mem] using this
      · refine .inr ?_
        rw [Bool.and_eq_true]
        refine ⟨disj_bits fun t ha hb => ?_, disj_bits fun t ha hb => ?_⟩
        · have := land_zero q2.1 t ((maskN2_bit _ _).2 ha)
          have e4 : (Nat.lor (maskN2 x.2) (maskN2 x.1)).testBit t = true := by
            show (maskN2 x.2 ||| maskN2 x.1).testBit t = true
            rw [Nat.testBit_or, Bool.or_eq_true]
            rcases List.mem_append.1 hb with hb | hb
            · exact .inl ((maskN2_bit _ _).2 hb)
            · exact .inr ((maskN2_bit _ _).2 hb)
          rw [e4] at this; cases this
        · have := land_zero q2.2 t ((maskN2_bit _ _).2 ha)
          rw [(maskN2_bit _ _).2 hb] at this; cases this
    · rw [hsplit]
      refine goM_spec ops lg _ _ (j + 1) (L ++ [(o.after.toList.filter (Region.binds .any ·)).flatMap fun e => e.on :: L.getD e.on []]) (dl ++ [x]) hr (by simp [hM]) (by simp [hL]) (by simp [hdl]) (by simp [hpr]) ?_ ?_ j' (by omega) (by rw [← hsplit]; exact h2) i hi
      · intro k t ht
        rw [List.getD_eq_getElem?_getD] at ht ⊢
        by_cases hk : k < j
        · rw [List.getElem?_append_left (by omega)] at ht ⊢
          have := hML k t (by rw [List.getD_eq_getElem?_getD]; exact ht)
          rw [List.getD_eq_getElem?_getD] at this; exact this
        · rw [List.getElem?_append_right (by omega)] at ht ⊢
          by_cases hk2 : k = j
          · subst hk2
            rw [hM, Nat.sub_self] at ht
            rw [hL, Nat.sub_self]
            exact hA t (by simpa using ht)
          · rw [List.getElem?_eq_none (by simp; omega)] at ht
            simp at ht
      · intro k y hy
        by_cases hk : k < j
        · rw [List.getElem?_append_left (by omega)] at hy
          rw [show j + 1 - 1 - k = (j - 1 - k) + 1 by omega, List.getElem?_cons_succ]
          exact hd k y hy
        · rw [List.getElem?_append_right (by omega)] at hy
          have hk2 : k - dl.length = 0 := by
            rcases Nat.eq_zero_or_pos (k - dl.length) with h0 | h0
            · exact h0
            · rw [List.getElem?_eq_none (by simp; omega)] at hy; cases hy
          rw [hk2] at hy
          have : k = j := by omega
          subst this
          simp at hy; subst hy
          rw [show k + 1 - 1 - k = 0 by omega]; rfl

/-- The look, by bits; else as it is said. -/
def okFast (ops : List Oper) (lg : List (List Nat × List Nat)) : Bool := (early 0 ops && goM ops lg [] [] 0) || okRegion ops lg
theorem okFast_eq (ops : List Oper) (lg : List (List Nat × List Nat)) : okFast ops lg = okRegion ops lg := by
  unfold okFast
  cases h : early 0 ops && goM ops lg [] [] 0 with
  | false => rfl
  | true =>
    rw [Bool.true_or]
    simp only [Bool.and_eq_true] at h
    symm
    unfold okRegion okPairs
    rw [h.1, Bool.true_and]
    have := goM_spec ops lg [] [] 0 [] [] h.2 rfl rfl rfl rfl (by simp) (by simp)
    simp only [List.all_eq_true, List.mem_range]
    intro j hj i hi
    exact this j (by omega) (by simpa using hj) i hi
end Go.Proofs.YtlfdelobjbdimaaDoor

namespace Go.Proofs.YtlfdelobjbdimaaDoor
open Go.RowKit
open Look (ret rd chk)

theorem cond_and (b : Bool) (p : Prop) : (bif b then p else False) = (b = true ∧ p) := by cases b <;> simp

def Look.runB {α : Type} (orc : Orc) : Look α → List D → List Nat → (α → List Nat → Prop) → Prop
  | .ret a, _, l, K => K a l
  | .rd t k, s, l, K => (k (get s t)).runB orc s (t :: l) K
  | .chk b k, s, l, K => bif b then k.runB orc s l K else False
  | .call f ds k, s, l, K => orc f ds fun d => (k d).runB orc s l K
  | .fail, _, _, _ => False
theorem runB_eq {α : Type} {orc : Orc} (m : Look α) : ∀ (s : List D) (l : List Nat) (K : α → List Nat → Prop), m.runB orc s l K = m.run orc s l K := by
  induction m with
  | ret a => intros; rfl
  | rd t k ih => intros; exact ih _ _ _ _
  | chk b k ih => intro s l K; simp only [Look.runB, Look.run]; rw [cond_and, ih]
  | call f ds k ih => intro s l K; simp only [Look.runB, Look.run]; congr; funext d; exact ih _ _ _ _
  | fail => intros; rfl

section
variable (P : Program) (orc : Orc) (lorc : LOrc)
def runOpsB (all : List Oper) : List Oper → List D → List (List Nat × List Nat) → (List D → List (List Nat × List Nat) → Prop) → Prop
  | [], s, lg, K => K s lg
  | o :: rest, s, lg, K => match o.guard with
    | none => (absOp P (takesL all o) o).runB orc s [] fun ws rs => runOpsB all rest (apply ws s) (lg ++ [(ws.map (·.1), rs)]) K
    | some (j, b) => match (all[j]?).bind (·.dst) with
      | none => False
      | some u => match get s u with
        | .v (.bool c) => bif c
          then (bif b then (absOp P (takesL all o) o).runB orc (s.set u (.v (.bool true))) [u] fun ws rs => runOpsB all rest (apply ws (s.set u (.v (.bool true)))) (lg ++ [(ws.map (·.1), rs)]) K
            else (skipW o).runB orc (s.set u (.v (.bool true))) [u] fun ws rs => runOpsB all rest (apply ws (s.set u (.v (.bool true)))) (lg ++ [(ws.map (·.1), rs)]) K)
          else (bif b then (skipW o).runB orc (s.set u (.v (.bool false))) [u] fun ws rs => runOpsB all rest (apply ws (s.set u (.v (.bool false)))) (lg ++ [(ws.map (·.1), rs)]) K
            else (absOp P (takesL all o) o).runB orc (s.set u (.v (.bool false))) [u] fun ws rs => runOpsB all rest (apply ws (s.set u (.v (.bool false)))) (lg ++ [(ws.map (·.1), rs)]) K)
        | .tup [] => (skipW o).runB orc s [u] fun ws rs => runOpsB all rest (apply ws s) (lg ++ [(ws.map (·.1), rs)]) K
        | _ => False
def runRegionB (ops : Array Oper) (draw : Bool) (s : List D) (K : List D → Prop) : Prop :=
  runOpsB P orc ops.toList ops.toList s [] fun s' lg => bif draw then (bif okFast ops.toList lg then K (kill (addrDsts ops.toList) s') else False) else K (kill (addrDsts ops.toList) s')
def runCodeB : Code → List D → (AExit → List D → Prop) → Prop
  | .skip, s, K => K .normal s
  | .region _ ops draw, s, K => runRegionB P orc ops draw (kill (freshDsts ops.toList) s) (K .normal)
  | .seq a b, s, K => runCodeB a s fun e s' => match e with
    | .normal => runCodeB b s' K
    | e => K e s'
  | .cond c x y, s, K => match c with
    | .tmp u => match get s u with
      | .v (.bool b) => bif b then runCodeB x (s.set u (.v (.bool true))) K else runCodeB y (s.set u (.v (.bool false))) K
      | _ => False
    | _ => False
  | .block id c, s, K => runCodeB c s fun e s' => match e with
    | .exit i => bif i == id then K .normal s' else K (.exit i) s'
    | e => K e s'
  | .loop c, s, K => lorc (regionOf c) s K
  | .exit id, s, K => K (.exit id) s
  | .scope c, s, K => runCodeB c s K
  | .ret, s, K => K .ret s
  | _, _, _ => False
def runFnB (fn : Func) (c : Code) (ds : List D) (K : D → Prop) : Prop := runCodeB P orc lorc c (ds.map D.strip ++ List.replicate (fn.ntmps - ds.length) .undef) fun e s => match e with
  | .exit _ => False
  | _ => match resD P fn s with
    | some d => K d
    | none => False
/-- A loop's round, with what is junk behind it forgotten. -/
def roundB (c : Code) (s : List D) (K : AExit → List D → Prop) : Prop := runCodeB P orc lorc c s fun e s' => K e (kill (junk c) s')
end

section
variable {P : Program} {orc : Orc} {lorc : LOrc}
theorem runOpsB_eq {all : List Oper} : ∀ (rest : List Oper) (s : List D) (lg : List (List Nat × List Nat)) (K : List D → List (List Nat × List Nat) → Prop), runOpsB P orc all rest s lg K = runOps P orc all rest s lg K
  | [], _, _, _ => rfl
  | o :: rest, s, lg, K => by
    simp only [runOpsB, runOps, runB_eq, runOpsB_eq rest]
    all_goals rfl
theorem runRegionB_eq {ops : Array Oper} {draw : Bool} {s : List D} {K : List D → Prop} : runRegionB P orc ops draw s K = runRegion P orc ops draw s K := by
  unfold runRegionB runRegion
  rw [runOpsB_eq]
  simp only [cond_and, okFast_eq]
theorem runCodeB_eq : ∀ (c : Code) (s : List D) (K : AExit → List D → Prop), runCodeB P orc lorc c s K = runCode P orc lorc c s K
  | .skip, _, _ => rfl
  | .region .., _, _ => runRegionB_eq
  | .seq a b, s, K => by
    simp only [runCodeB, runCode]
    rw [runCodeB_eq a]
    congr; funext e s'
    cases e <;> simp only [runCodeB_eq b]
  | .cond c x y, s, K => by
    cases c <;> simp only [runCodeB, runCode]
    simp only [runCodeB_eq x, runCodeB_eq y]
    all_goals rfl
  | .block id c, s, K => by
    simp only [runCodeB, runCode]; rw [runCodeB_eq c]
    all_goals rfl
  | .loop _, _, _ => rfl
  | .exit _, _, _ => rfl
  | .scope c, s, K => runCodeB_eq c s K
  | .ret, _, _ => rfl
  | .rangeFunc .., _, _ => rfl
  | .label _, _, _ => rfl
  | .goto _, _, _ => rfl
  | .refuse _, _, _ => rfl
theorem runFnB_eq {fn : Func} {c : Code} {ds : List D} {K : D → Prop} : runFnB P orc lorc fn c ds K = runFn P orc lorc fn c ds K := runCodeB_eq _ _ _

/-- A contract, out of a run that is reckoned. -/
theorem fn_okB (hO : OrcOK P orc) (hm : P.follows .mixedOrders = true) {f : Nat} {fn : Func} {c : Code} (hf : P.funcs[f]? = some fn) (hname : (fn.name == "runtime.NumGoroutine") = false) (hb : fn.body = some c) (hL : ∀ x ∈ loopsOf c, LoopOK P x (lorc (regionOf x))) {ds : List D} {K : D → Prop}
    (h : runFnB P orc lorc fn c ds K) (hle : ds.length ≤ fn.ntmps) : ∃ d, K d ∧ PS P f ds d := by
  rw [runFnB_eq] at h
  obtain ⟨d, h1, _, h2⟩ := fn_ok hO hm hf hname hb hL h hle
  exact ⟨d, h1, h2⟩

/-- A round of a loop, reckoned. -/
theorem Rounds.next {c : Code} {n : Nat} {s : List D} {e : AExit} {s' : List D} (h : roundB P orc lorc c s fun e1 s1 => match e1 with
    | .normal => Rounds P orc lorc c n s1 e s'
    | e1 => e1 = e ∧ s1 = s') : Rounds P orc lorc c (n + 1) s e s' := by
  unfold roundB at h
  rw [runCodeB_eq] at h
  exact h
end
end Go.Proofs.YtlfdelobjbdimaaDoor

namespace Go.Proofs.YtlfdelobjbdimaaDoor
open Go.RowKit
open Look (ret rd chk)

/-- The loops of code, those within them too. -/
def allLoops : Code → List Code
  | .seq a b => allLoops a ++ allLoops b
  | .cond _ a b => allLoops a ++ allLoops b
  | .block _ c => allLoops c
  | .loop c => c :: allLoops c
  | .scope c => allLoops c
  | _ => []
/-- Rounds, one behind the other. -/
def iter (f : List D → (AExit → List D → Prop) → Prop) (j : List Nat) : Nat → List D → (AExit → List D → Prop) → Prop
  | 0, _, _ => False
  | n + 1, s, K => f s fun e s1 => match e with
    | .normal => iter f j n (kill j s1) K
    | e => K e (kill j s1)

section
variable (P : Program) (orc : Orc) (hasL : Nat → Bool) (lorc : LOrc) (fuel : Nat)
def runCodeX : Code → List D → (AExit → List D → Prop) → Prop
  | .skip, s, K => K .normal s
  | .region _ ops draw, s, K => runRegionB P orc ops draw (kill (freshDsts ops.toList) s) (K .normal)
  | .seq a b, s, K => runCodeX a s fun e s' => match e with
    | .normal => runCodeX b s' K
    | e => K e s'
  | .cond c x y, s, K => match c with
    | .tmp u => match get s u with
      | .v (.bool b) => bif b then runCodeX x (s.set u (.v (.bool true))) K else runCodeX y (s.set u (.v (.bool false))) K
      | _ => False
    | _ => False
  | .block id c, s, K => runCodeX c s fun e s' => match e with
    | .exit i => bif i == id then K .normal s' else K (.exit i) s'
    | e => K e s'
  | .loop c, s, K => bif hasL (regionOf c) then lorc (regionOf c) s K else iter (runCodeX c) (junkX c) fuel s K
  | .exit id, s, K => K (.exit id) s
  | .scope c, s, K => runCodeX c s K
  | .ret, s, K => K .ret s
  | _, _, _ => False
def runFnX (fn : Func) (c : Code) (ds : List D) (K : D → Prop) : Prop := runCodeX P orc hasL lorc fuel c (ds.map D.strip ++ List.replicate (fn.ntmps - ds.length) .undef) fun e s => match e with
  | .exit _ => False
  | _ => match resD P fn s with
    | some d => K d
    | none => False
end

/-- Code from one frame leads to another. -/
def Leads1 (P : Program) (c : Code) (s : List D) (e : AExit) (s' : List D) : Prop :=
  ∀ E role a w, Sim P E [] role a w s → c.wp P (fun e1 a' w' => ∃ role', e1 = e.conc ∧ Sim P E [] role' a' w' s') a w
def OneOf (m : (AExit → List D → Prop) → Prop) (G : AExit → List D → Prop) (K : AExit → List D → Prop) : Prop := ∃ e s', K e s' ∧ (∀ K' : AExit → List D → Prop, K' e s' → m K') ∧ G e s'

section
variable {P : Program} {orc : Orc} {hasL : Nat → Bool} {lorc : LOrc} {fuel : Nat}

theorem iter_sim {c : Code} {j : List Nat} {f : List D → (AExit → List D → Prop) → Prop} (hf : ∀ s K, f s K → OneOf (f s) (Leads1 P c s) K) : ∀ (n : Nat) (s : List D) (K : AExit → List D → Prop), iter f j n s K →
    ∃ e s', K e s' ∧ (∀ K' : AExit → List D → Prop, K' e s' → iter f j n s K') ∧ ∀ E role a w, Sim P E [] role a w s → Code.rounds P c (fun e1 a' w' => ∃ role', e1 = e.conc ∧ Sim P E [] role' a' w' s') n a w
  | 0, _, _, h => h.elim
  | n + 1, s, K, h => by
    obtain ⟨e, s1, h1, h2, h3⟩ := hf s _ h
    cases e with
    | normal =>
      obtain ⟨e', s', k1, k2, k3⟩ := iter_sim hf n _ K h1
      refine ⟨e', s', k1, fun K' hK => h2 _ (k2 K' hK), fun E role a w hS => ?_⟩
      rw [rounds_succ]
      refine wp_mono (h3 E role a w hS) ?_
      rintro e1 a' w' ⟨role', rfl, hS'⟩
      exact k3 E role' a' w' (kill_sim hS' (by simp))
    | exit id =>
      refine ⟨.exit id, _, h1, fun K' hK => h2 _ hK, fun E role a w hS => ?_⟩
      rw [rounds_succ]
      refine wp_mono (h3 E role a w hS) ?_
      rintro e1 a' w' ⟨role', rfl, hS'⟩
      exact ⟨role', rfl, kill_sim hS' (by simp)⟩
    | ret =>
      refine ⟨.ret, _, h1, fun K' hK => h2 _ hK, fun E role a w hS => ?_⟩
      rw [rounds_succ]
      refine wp_mono (h3 E role a w hS) ?_
      rintro e1 a' w' ⟨role', rfl, hS'⟩
      exact ⟨role', rfl, kill_sim hS' (by simp)⟩

theorem codeX (hO : OrcOK P orc) (hm : P.follows .mixedOrders = true) : ∀ (c : Code), (∀ x ∈ allLoops c, hasL (regionOf x) = true → LoopOK P x (lorc (regionOf x))) → ∀ (s : List D) (K : AExit → List D → Prop), runCodeX P orc hasL lorc fuel c s K →
    OneOf (runCodeX P orc hasL lorc fuel c s) (Leads1 P c s) K
  | .skip, _, s, K, h => ⟨.normal, s, h, fun K' hK => hK, fun E role a w hS => wp_skip ⟨role, rfl, hS⟩⟩
  | .region id ops draw, _, s, K, h => by
    simp only [runCodeX] at h
    rw [runRegionB_eq] at h
    have h' := h
    unfold runRegion at h'
    obtain ⟨s', lg', h1, h2⟩ := runOps_det hO _ _ _ _ h'
    have fin : ∀ K' : List D → Prop, (bif draw then (okRegion ops.toList lg' = true ∧ K' (kill (addrDsts ops.toList) s')) else K' (kill (addrDsts ops.toList) s')) → runRegion P orc ops draw (kill (freshDsts ops.toList) s) K' := fun K' hK => h2 _ hK
    have hk : ∀ K' : List D → Prop, K' (kill (addrDsts ops.toList) s') → runRegion P orc ops draw (kill (freshDsts ops.toList) s) K' := fun K' hK => fin K' (by
      cases draw with
      | false => exact hK
      | true => exact ⟨h1.1, hK⟩)
    refine ⟨.normal, kill (addrDsts ops.toList) s', ?_, fun K' hK => ?_, fun E role a w hS => ?_⟩
    · cases draw with
      | false => exact h1
      | true => exact h1.2
    · simp only [runCodeX]; rw [runRegionB_eq]; exact hk _ hK
    · exact region_sim hO hm (hk (fun x => x = kill (addrDsts ops.toList) s') rfl) (kill_sim hS (ts := freshDsts ops.toList) (by simp)) fun a' w' s'' role' hK hS' => by subst hK; exact ⟨role', rfl, hS'⟩
  | .seq x y, hL, s, K, h => by
    simp only [runCodeX] at h
    obtain ⟨e, s1, h1, h2, h3⟩ := codeX hO hm x (fun z hz => hL z (by simp [allLoops, hz])) s _ h
    cases e with
    | normal =>
      obtain ⟨e', s', k1, k2, k3⟩ := codeX hO hm y (fun z hz => hL z (by simp [allLoops, hz])) s1 K h1
      refine ⟨e', s', k1, fun K' hK => h2 _ (k2 K' hK), fun E role a w hS => ?_⟩
      refine wp_seq (wp_mono (h3 E role a w hS) ?_)
      rintro e1 a' w' ⟨role', rfl, hS'⟩
      exact k3 E role' a' w' hS'
    | exit id =>
      refine ⟨.exit id, s1, h1, fun K' hK => h2 _ hK, fun E role a w hS => ?_⟩
      refine wp_seq (wp_mono (h3 E role a w hS) ?_)
      rintro e1 a' w' ⟨role', rfl, hS'⟩
      exact ⟨role', rfl, hS'⟩
    | ret =>
      refine ⟨.ret, s1, h1, fun K' hK => h2 _ hK, fun E role a w hS => ?_⟩
      refine wp_seq (wp_mono (h3 E role a w hS) ?_)
      rintro e1 a' w' ⟨role', rfl, hS'⟩
      exact ⟨role', rfl, hS'⟩
  | .cond c x y, hL, s, K, h => by
    cases c <;> simp only [runCodeX] at h <;> try exact h.elim
    rename_i u
    split at h
    · rename_i b hb
      have he : ∀ E role a w, Sim P E [] role a w s → a.eval (.tmp u) = .bool b := fun E role a w hS => by
        have := hS.tm u
        rw [hb] at this
        exact this.1.bool
      cases b with
      | true =>
        simp only [cond_true] at h
        obtain ⟨e', s', k1, k2, k3⟩ := codeX hO hm x (fun z hz => hL z (by simp [allLoops, hz])) _ K h
        refine ⟨e', s', k1, fun K' hK => ?_, fun E role a w hS => wp_cond (he E role a w hS) ?_⟩
        · simp only [runCodeX, hb, cond_true]; exact k2 K' hK
        · rw [set_get hb (by simp)] at k3; exact k3 E role a w hS
      | false =>
        simp only [cond_false] at h
        obtain ⟨e', s', k1, k2, k3⟩ := codeX hO hm y (fun z hz => hL z (by simp [allLoops, hz])) _ K h
        refine ⟨e', s', k1, fun K' hK => ?_, fun E role a w hS => wp_cond (he E role a w hS) ?_⟩
        · simp only [runCodeX, hb, cond_false]; exact k2 K' hK
        · rw [set_get hb (by simp)] at k3; exact k3 E role a w hS
    · exact h.elim
  | .block id c, hL, s, K, h => by
    simp only [runCodeX] at h
    obtain ⟨e, s1, h1, h2, h3⟩ := codeX hO hm c hL s _ h
    cases e with
    | normal =>
      refine ⟨.normal, s1, h1, fun K' hK => h2 _ hK, fun E role a w hS => wp_block (wp_mono (h3 E role a w hS) ?_)⟩
      rintro e1 a' w' ⟨role', rfl, hS'⟩
      exact ⟨role', rfl, hS'⟩
    | ret =>
      refine ⟨.ret, s1, h1, fun K' hK => h2 _ hK, fun E role a w hS => wp_block (wp_mono (h3 E role a w hS) ?_)⟩
      rintro e1 a' w' ⟨role', rfl, hS'⟩
      exact ⟨role', rfl, hS'⟩
    | exit i =>
      by_cases hi : i = id
      · subst hi
        simp only [beq_self_eq_true, cond_true] at h1
        refine ⟨.normal, s1, h1, fun K' hK => h2 _ (by simp only [beq_self_eq_true, cond_true]; exact hK), fun E role a w hS => wp_block (wp_mono (h3 E role a w hS) ?_)⟩
        rintro e1 a' w' ⟨role', rfl, hS'⟩
        show (if i = i then ∃ role', Exit.normal = AExit.conc .normal ∧ Sim P E [] role' a' w' s1 else _)
        rw [if_pos rfl]
        exact ⟨role', rfl, hS'⟩
      · have hb : (i == id) = false := by simpa using hi
        simp only [hb, cond_false] at h1
        refine ⟨.exit i, s1, h1, fun K' hK => h2 _ (by simp only [hb, cond_false]; exact hK), fun E role a w hS => wp_block (wp_mono (h3 E role a w hS) ?_)⟩
        rintro e1 a' w' ⟨role', rfl, hS'⟩
        show (if i = id then _ else ∃ role', Exit.exit i = AExit.conc (.exit i) ∧ Sim P E [] role' a' w' s1)
        rw [if_neg hi]
        exact ⟨role', rfl, hS'⟩
  | .loop c, hL, s, K, h => by
    simp only [runCodeX] at h
    by_cases hh : hasL (regionOf c) = true
    · simp only [hh, cond_true] at h
      obtain ⟨e, s', h1, h2, h3⟩ := hL c (by simp [allLoops]) hh s K h
      exact ⟨e, s', h1, fun K' hK => by simp only [runCodeX, hh, cond_true]; exact h2 K' hK, h3⟩
    · simp only [hh, cond_false] at h
      obtain ⟨e, s', h1, h2, h3⟩ := iter_sim (P := P) (c := c) (fun s K hs => codeX hO hm c (fun z hz => hL z (by simp [allLoops, hz])) s K hs) fuel s K h
      exact ⟨e, s', h1, fun K' hK => by simp only [runCodeX, hh, cond_false]; exact h2 K' hK, fun E role a w hS => wp_loop_rounds fuel (h3 E role a w hS)⟩
  | .exit id, _, s, K, h => ⟨.exit id, s, h, fun K' hK => hK, fun E role a w hS => wp_exit ⟨role, rfl, hS⟩⟩
  | .scope c, hL, s, K, h => by
    obtain ⟨e, s', h1, h2, h3⟩ := codeX hO hm c hL s K h
    refine ⟨e, s', h1, h2, fun E role a w hS => wp_scope_straight (wp_mono (h3 E role a w hS) ?_)⟩
    rintro e1 a' w' ⟨role', rfl, hS'⟩
    cases e <;> exact ⟨role', rfl, hS'⟩
  | .ret, _, s, K, h => ⟨.ret, s, h, fun K' hK => hK, fun E role a w hS => wp_ret ⟨role, rfl, hS⟩⟩
  | .rangeFunc .., _, _, _, h => h.elim
  | .label _, _, _, _, h => h.elim
  | .goto _, _, _, _, h => h.elim
  | .refuse _, _, _, _, h => h.elim

/-- A frame at a call's beginning. -/
theorem enter_sim {role : Nat → Role} {w : World} {args : Array Value} {ds : List D} {n : Nat} (hlow : ∀ k, role k ≠ .none → k < w.heap.size) (hmask : ∀ k, (∀ t, role k ≠ .loc t) ∧ ∀ lim p, role k ≠ .row lim (some p))
    (hsz : args.size = ds.length) (hargs : ∀ (i : Nat) (x : Value) (e : D), args[i]? = some x → ds[i]? = some e → Rd P role w x e) :
    Sim P ⟨w, role⟩ [] role { tmps := args ++ Array.replicate (n - args.size) undef, defers := [] } w (ds.map D.strip ++ List.replicate (n - ds.length) .undef) := by
  refine { ext := Exd.refl w, old := fun k hk => ⟨rfl, (hmask k).1, (hmask k).2⟩, low := hlow, defers := rfl, size := by simp [hsz], tm := fun t => ?_, inj := fun b b' t hb _ => absurd hb ((hmask b).1 t), live := fun x u off hx => ?_ }
  · by_cases ht : t < ds.length
    · have e1 : get (ds.map D.strip ++ List.replicate (n - ds.length) .undef) t = ds[t].strip := by
        simp [get, List.getD_eq_getElem?_getD, List.getElem?_append_left, ht]
      have e2 : (args ++ Array.replicate (n - args.size) undef).getD t undef = args[t]'(by omega) := by
        rw [Array.getD_eq_getD_getElem?, Array.getElem?_append_left (by omega)]
        simp [show t < args.size by omega]
      rw [e1]
      show RT _ _ _ _ t ((args ++ Array.replicate (n - args.size) undef).getD t undef) _
      rw [e2]
      have := hargs t (args[t]'(by omega)) ds[t] (by simp [show t < args.size by omega]) (by simp [ht])
      exact RO.rt (this.strip.ro (strip_strip _))
    · have e1 : get (ds.map D.strip ++ List.replicate (n - ds.length) .undef) t = .undef := by
        simp only [get, List.getD_eq_getElem?_getD]
        rw [List.getElem?_append_right (by simp; omega)]
        rw [List.getElem?_replicate]
        split <;> rfl
      rw [e1]; trivial
  · exfalso
    by_cases ht : x < ds.length
    · have e1 : get (ds.map D.strip ++ List.replicate (n - ds.length) .undef) x = ds[x].strip := by
        simp [get, List.getD_eq_getElem?_getD, List.getElem?_append_left, ht]
      rw [e1] at hx
      have := hargs x (args[x]'(by omega)) ds[x] (by simp [show x < args.size by omega]) (by simp [ht])
      have hv := this.strip.isVal
      rw [hx] at hv; simp [D.isVal] at hv
    · have e1 : get (ds.map D.strip ++ List.replicate (n - ds.length) .undef) x = .undef := by
        simp only [get, List.getD_eq_getElem?_getD]
        rw [List.getElem?_append_right (by simp; omega)]
        rw [List.getElem?_replicate]
        split <;> rfl
      rw [e1] at hx; cases hx

theorem fnX (hO : OrcOK P orc) (hm : P.follows .mixedOrders = true) {f : Nat} {fn : Func} {c : Code} (hf : P.funcs[f]? = some fn) (hname : (fn.name == "runtime.NumGoroutine") = false) (hb : fn.body = some c)
    (hL : ∀ x ∈ allLoops c, hasL (regionOf x) = true → LoopOK P x (lorc (regionOf x))) {ds : List D} {K : D → Prop} (h : runFnX P orc hasL lorc fuel fn c ds K) :
    ∃ d, K d ∧ (∀ K' : D → Prop, K' d → runFnX P orc hasL lorc fuel fn c ds K') ∧ PS P f ds d := by
  unfold runFnX at h ⊢
  obtain ⟨e, s', h1, h2, h3⟩ := codeX hO hm c hL _ _ h
  have hres : ∃ d, resD P fn s' = some d ∧ K d ∧ (∀ i, e ≠ .exit i) := by
    cases e with
    | exit i => exact h1.elim
    | normal =>
      simp only at h1
      split at h1
      · exact ⟨_, by assumption, h1, by simp⟩
      · exact h1.elim
    | ret =>
      simp only at h1
      split at h1
      · exact ⟨_, by assumption, h1, by simp⟩
      · exact h1.elim
  obtain ⟨d, hd, hK, hne⟩ := hres
  refine ⟨d, hK, fun K' hK' => h2 _ (by cases e with | exit i => exact absurd rfl (hne i) | normal => simp only [hd]; exact hK' | ret => simp only [hd]; exact hK'), ?_⟩
  intro role w args hlow hmask hsz hargs
  unfold CallsV
  rw [MuLone.run_callFunc_enter hf hname hb]
  refine calls_of_wp hf hb ?_
  refine wp_mono (h3 ⟨w, role⟩ role _ w (enter_sim hlow hmask hsz hargs)) ?_
  rintro e1 a' w' ⟨role', rfl, hS'⟩
  obtain ⟨v, hv, hrd⟩ := resD_sim hS' hd
  have fin : ∃ v, (results fn a'.tmps).run P w' = .ok v w' ∧ ∃ v1 role', Ending.returned v = .returned v1 ∧ Exd w w' ∧ (∀ k, k < w.heap.size → role' k = role k) ∧ (∀ k, role' k ≠ .none → k < w'.heap.size) ∧ Rd P role' w' v1 d :=
    ⟨v, hv, v, role', rfl, hS'.ext, fun k hk => (hS'.old k hk).1, hS'.low, hrd⟩
  cases e with
  | exit i => exact absurd rfl (hne i)
  | normal => exact ⟨hS'.defers, fin⟩
  | ret => exact ⟨hS'.defers, fin⟩
end

/-- What is given to a run: contracts of functions and of loops; how many rounds of the other loops. -/
structure Ctx where
  has : Nat → Bool
  orc : Orc
  hasL : Nat → Nat → Bool
  lorc : Nat → LOrc
  fuel : Nat

/-- A call: by its contract, or walked into. -/
def callX (P : Program) (C : Ctx) : Nat → Orc
  | 0 => fun _ _ _ => False
  | n + 1 => fun f ds K => bif C.has f then C.orc f ds K else match P.funcs[f]? with
    | some fn => match fn.body with
      | some c => runFnX P (callX P C n) (C.hasL f) (C.lorc f) C.fuel fn c ds K
      | none => False
    | none => False

structure CtxOK (P : Program) (C : Ctx) : Prop where
  mixed : P.follows .mixedOrders = true
  names : ∀ (f : Nat) (fn : Func), P.funcs[f]? = some fn → (fn.name == "runtime.NumGoroutine") = false
  orc : ∀ f ds K, C.has f = true → C.orc f ds K → ∃ d, K d ∧ (∀ K' : D → Prop, K' d → C.orc f ds K') ∧ PS P f ds d
  loop : ∀ (f : Nat) (fn : Func) (c : Code), P.funcs[f]? = some fn → fn.body = some c → ∀ x ∈ allLoops c, C.hasL f (regionOf x) = true → LoopOK P x (C.lorc f (regionOf x))

theorem callX_ok {P : Program} {C : Ctx} (hC : CtxOK P C) : ∀ n, OrcOK P (callX P C n)
  | 0 => fun _ _ _ h => h.elim
  | n + 1 => fun f ds K h => by
    simp only [callX] at h ⊢
    by_cases hh : C.has f = true
    · simp only [hh, cond_true] at h ⊢
      exact hC.orc f ds K hh h
    · simp only [hh, cond_false] at h ⊢
      split at h
      · rename_i fn hf
        split at h
        · rename_i c hc
          obtain ⟨d, h1, h2, h3⟩ := fnX (callX_ok hC n) hC.mixed hf (hC.names f fn hf) hc (hC.loop f fn c hf hc) h
          exact ⟨d, h1, fun K' hK => h2 K' hK, h3⟩
        · exact h.elim
      · exact h.elim

/-- A contract, out of a run. -/
theorem callX_ps {P : Program} {C : Ctx} (hC : CtxOK P C) {n f : Nat} {ds : List D} {K : D → Prop} (h : callX P C n f ds K) : ∃ d, K d ∧ PS P f ds d := by
  obtain ⟨d, h1, _, h2⟩ := callX_ok hC n f ds K h
  exact ⟨d, h1, h2⟩
theorem callX_eq {P : Program} {C : Ctx} (hC : CtxOK P C) {n f : Nat} {ds : List D} {d : D} (h : callX P C n f ds fun x => x = d) : PS P f ds d := by
  obtain ⟨d', rfl, h2⟩ := callX_ps hC h
  exact h2
end Go.Proofs.YtlfdelobjbdimaaDoor

namespace Go.Proofs.YtlfdelobjbdimaaDoor
open Go.RowKit
open Look (ret rd chk)

/-- The n-th loop of a function. -/
def loopN (f : Func) (n : Nat) : Code := (allLoops (f.body.getD .skip)).getD n .skip
section
variable (P : Program) (orc : Orc) (lorc : LOrc) (j : List Nat)
/-- A round, behind which some temporaries are forgotten. -/
def roundJ (c : Code) (s : List D) (K : AExit → List D → Prop) : Prop := runCodeB P orc lorc c s fun e s' => K e (kill j s')
def RoundsJ (c : Code) : Nat → List D → AExit → List D → Prop
  | 0, _, _, _ => False
  | n + 1, s, e, s' => roundJ P orc lorc j c s fun e1 s1 => match e1 with
    | .normal => RoundsJ c n s1 e s'
    | e1 => e1 = e ∧ s1 = s'
end
section
variable {P : Program} {orc : Orc} {lorc : LOrc} {j : List Nat}
theorem roundsJ_sim (hO : OrcOK P orc) (hm : P.follows .mixedOrders = true) {c : Code} (hL : ∀ x ∈ loopsOf c, LoopOK P x (lorc (regionOf x))) {E : Env} {e : AExit} {s' : List D} :
    ∀ (n : Nat) (role : Nat → Role) (a : Act) (w : World) (s : List D), RoundsJ P orc lorc j c n s e s' → Sim P E [] role a w s → Code.rounds P c (fun e1 a' w' => ∃ role', e1 = e.conc ∧ Sim P E [] role' a' w' s') n a w
  | 0, _, _, _, _, h, _ => h.elim
  | n + 1, role, a, w, s, h, hS => by
    rw [rounds_succ]
    unfold RoundsJ roundJ at h
    rw [runCodeB_eq] at h
    refine wp_mono (code_sim hO hm c role a w s _ hL h hS) ?_
    rintro e1 a' w' ⟨ae, s1, role', rfl, hK, hS'⟩
    have hS2 := kill_sim hS' (ts := j) (by simp)
    cases ae with
    | normal => exact roundsJ_sim hO hm hL n role' a' w' _ hK hS2
    | exit id => obtain ⟨rfl, rfl⟩ := hK; exact ⟨role', rfl, hS2⟩
    | ret => obtain ⟨rfl, rfl⟩ := hK; exact ⟨role', rfl, hS2⟩
theorem loopJ_ok (hO : OrcOK P orc) (hm : P.follows .mixedOrders = true) (j0 j : List Nat) {c : Code} (hL : ∀ x ∈ loopsOf c, LoopOK P x (lorc (regionOf x))) {m : List D → (AExit → List D → Prop) → Prop}
    (h : ∀ s K, m s K → ∃ e s', K e s' ∧ (∀ K' : AExit → List D → Prop, K' e s' → m s K') ∧ ∃ n, RoundsJ P orc lorc j c n (kill j0 s) e s') : LoopOK P c m := by
  intro s K hK
  obtain ⟨e, s', h1, h2, n, h3⟩ := h s K hK
  exact ⟨e, s', h1, h2, fun E role a w hS => wp_loop_rounds n (roundsJ_sim hO hm hL n role a w _ h3 (kill_sim hS (by simp)))⟩
end

/-- A loop's contract: of which function's, of which first region's. -/
def lookL : List (Nat × Nat × (List D → (AExit → List D → Prop) → Prop)) → Nat → Nat → Option (List D → (AExit → List D → Prop) → Prop)
  | [], _, _ => none
  | (f, r, m) :: l, g, q => bif f == g && r == q then some m else lookL l g q
theorem lookL_mem : ∀ {l : List (Nat × Nat × (List D → (AExit → List D → Prop) → Prop))} {g q : Nat} {m : List D → (AExit → List D → Prop) → Prop}, lookL l g q = some m → (g, q, m) ∈ l
  | (f, r, m') :: l, g, q, m, h => by
    unfold lookL at h
    cases hf : (f == g && r == q) with
    | true =>
      rw [hf, cond_true] at h
      simp only [Bool.and_eq_true, beq_iff_eq] at hf
      obtain ⟨rfl, rfl⟩ := hf
      cases h
      simp
    | false =>
      rw [hf, cond_false] at h
      exact List.mem_cons_of_mem _ (lookL_mem h)
/-- What is said of a function's loop is so. -/
def LoopSound (P : Program) (f r : Nat) (m : List D → (AExit → List D → Prop) → Prop) : Prop :=
  ∀ (fn : Func) (c : Code), P.funcs[f]? = some fn → fn.body = some c → ∀ x ∈ allLoops c, regionOf x = r → LoopOK P x m
theorem LoopSound.mk {P : Program} {f r n : Nat} {m : List D → (AExit → List D → Prop) → Prop} {fn : Func} {l : List Code} (hf : P.funcs[f]? = some fn) (hl : allLoops (fn.body.getD .skip) = l)
    (hr : (l.map regionOf).getD n 0 = r) (hu : (List.range l.length).all (fun k => k == n || !((l.map regionOf).getD k 0 == r)) = true) (h : LoopOK P (loopN fn n) m) : LoopSound P f r m := by
  intro fn' c hf' hb x hx hxr
  rw [hf] at hf'
  obtain rfl := Option.some.inj hf'
  rw [hb] at hl
  have hl' : allLoops c = l := hl
  rw [hl'] at hx
  obtain ⟨k, hk, rfl⟩ := List.getElem_of_mem hx
  have hk2 := List.all_eq_true.1 hu k (by simpa using hk)
  have e1 : (l.map regionOf).getD k 0 = r := by
    rw [List.getD_eq_getElem?_getD, List.getElem?_map, List.getElem?_eq_getElem hk]; exact hxr
  rw [e1] at hk2
  simp at hk2
  subst hk2
  have : loopN fn k = l[k] := by
    unfold loopN
    rw [hb]
    show (allLoops c).getD k .skip = _
    rw [hl', List.getD_eq_getElem?_getD, List.getElem?_eq_getElem hk]; rfl
  rw [← this]; exact h
end Go.Proofs.YtlfdelobjbdimaaDoor
