/-
  A region of operations: in the text's order, or in whatever order its edges allow. No program in sight.
-/
import Derived.Test.YtnjhmlnmdnocmaaAbsN
namespace Go.Proofs.Ytnjhmlnmdnocmaa
set_option linter.unusedSimpArgs false
set_option linter.unusedVariables false
open Go.RowKit
open Look (ret rd chk)

/-- Whether what an operation reads is what a row of ours is appended to by. -/
def takesL (ops : List Oper) (o : Oper) : Bool := match o.dst with
  | none => false
  | some d => ops.any fun p => match p.op with
    | .call { callee := .builtin .append, args, .. } => match args.toList with
      | .tmp u :: _ => u == d
      | _ => false
    | _ => false
def isAddrOp (o : Oper) : Bool := match o.op with
  | .fieldAddr .. | .indexAddr .. => true
  | _ => false
def addrDsts (ops : List Oper) : List Nat := ops.flatMap fun o => if isAddrOp o then o.dst.toList else []

section
variable (P : Program)
def absOp (tk : Bool) (o : Oper) : Look (List (Nat × D)) := match o.op with
  | .move x => moveL P o o.type x tk
  | .assign x => moveL P o o.type x true
  | .pick c x y => pickL P o c x y
  | .alloc T => allocL P o T
  | .box T x => boxL P o T x
  | .build t ps => buildL P o t ps
  | .buildSlice t n ps => buildSliceL P o t n ps
  | .load t x => loadL P o t x tk
  | .store t x y => if o.dst.isNone then storeL P t x y else .fail
  | .binOp op t x y ty => binL P o op t x y ty
  | .unOp op t x => unOpL P o op t x
  | .convert src dst x => convL P o src dst x
  | .makeInterface t x => ifaceL P o t x
  | .slice t x lo hi mx => sliceL P o t x lo hi mx
  | .fieldAddr S x i => fieldAddrL P o S x i
  | .field t x i => fieldL P o t x i
  | .indexAddr t x i => indexAddrL P o t x i
  | .index t x i => indexL P o t x i
  | .extract x i => extractL P o x i
  | .call { callee := .value (.func f), args, argTypes } => callL P o f args argTypes
  | .call { callee := .builtin .len, args, argTypes } => match args.toList, argTypes[0]? with
    | [x], some t => lenL P o t x
    | _, _ => .fail
  | .call { callee := .builtin .append, args, argTypes } => match args.toList, argTypes.toList with
    | [x, y], [t1, t2] => appendL P o t1 t2 x y
    | _, _ => .fail
  | _ => .fail
end

section
variable {P : Program} {orc : Orc} {E : Env} {A : List Nat} {role : Nat → Role} {a : Act} {w : World} {s : List D} {l : List Nat}
variable {K : List (Nat × D) → List Nat → Prop} {Q : Exit → Act → World → Prop}

theorem op_sim (hO : OrcOK P orc) (hS : Sim P E A role a w s) {o : Oper} {tk : Bool} (hA : isAddrOp o = true → ∀ t, o.dst = some t → t ∈ A) (h : (absOp P tk o).run orc s l K) : Oper.wp P o a w (After P E A s K) Q := by
  unfold absOp at h
  split at h
  · exact move_sim hS (.inl ‹_›) h
  · exact move_sim hS (.inr ‹_›) h
  · exact pick_sim hS ‹_› h
  · exact alloc_sim hS ‹_› h
  · exact box_sim hS ‹_› h
  · exact build_sim hS ‹_› h
  · exact buildSlice_sim hS ‹_› h
  · exact load_sim hS ‹_› h
  · split at h
    · rename_i hd
      exact store_sim hS ‹_› (by simpa using hd) h
    · exact h.elim
  · exact bin_sim hS ‹_› h
  · exact unOp_sim hS ‹_› h
  · exact conv_sim hS ‹_› h
  · exact iface_sim hS ‹_› h
  · exact slice_sim hS ‹_› h
  · rename_i ho; exact fieldAddr_sim hS ho (hA (by simp [isAddrOp, ho])) h
  · exact field_sim hS ‹_› h
  · rename_i ho; exact indexAddr_sim hS ho (hA (by simp [isAddrOp, ho])) h
  · exact index_sim hS ‹_› h
  · exact extract_sim hS ‹_› h
  · exact call_sim hO hS ‹_› h
  · rename_i args types ho
    split at h
    · rename_i x t hx ht
      have hx' : args = #[x] := by rw [← Array.toArray_toList (xs := args), hx]
      subst hx'
      exact len_sim hS ht ho h
    · exact h.elim
  · rename_i args types ho
    split at h
    · rename_i x y t1 t2 hx ht
      have hx' : args = #[x, y] := by rw [← Array.toArray_toList (xs := args), hx]
      have ht' : types = #[t1, t2] := by rw [← Array.toArray_toList (xs := types), ht]
      subst hx'; subst ht'
      exact append_sim hS ho h
    · exact h.elim
  · exact h.elim
end

/-- What an operation that is passed over leaves. -/
def skipW (o : Oper) : Look (List (Nat × D)) := putW o (.tup []) []

section
variable (P : Program) (orc : Orc)
/-- Operations in the text's order; what each wrote and read. -/
def runOps (all : List Oper) : List Oper → List D → List (List Nat × List Nat) → (List D → List (List Nat × List Nat) → Prop) → Prop
  | [], s, lg, K => K s lg
  | o :: rest, s, lg, K => match o.guard with
    | none => (absOp P (takesL all o) o).run orc s [] fun ws rs => runOps all rest (apply ws s) (lg ++ [(ws.map (·.1), rs)]) K
    | some (j, b) => match (all[j]?).bind (·.dst) with
      | none => False
      | some u => match get s u with
        | .v (.bool c) => bif c
          then (bif b then (absOp P (takesL all o) o).run orc (s.set u (.v (.bool true))) [u] fun ws rs => runOps all rest (apply ws (s.set u (.v (.bool true)))) (lg ++ [(ws.map (·.1), rs)]) K
            else (skipW o).run orc (s.set u (.v (.bool true))) [u] fun ws rs => runOps all rest (apply ws (s.set u (.v (.bool true)))) (lg ++ [(ws.map (·.1), rs)]) K)
          else (bif b then (skipW o).run orc (s.set u (.v (.bool false))) [u] fun ws rs => runOps all rest (apply ws (s.set u (.v (.bool false)))) (lg ++ [(ws.map (·.1), rs)]) K
            else (absOp P (takesL all o) o).run orc (s.set u (.v (.bool false))) [u] fun ws rs => runOps all rest (apply ws (s.set u (.v (.bool false)))) (lg ++ [(ws.map (·.1), rs)]) K)
        | .tup [] => (skipW o).run orc s [u] fun ws rs => runOps all rest (apply ws s) (lg ++ [(ws.map (·.1), rs)]) K
        | _ => False

/-- One operation's step. -/
def Step1 (all : List Oper) (o : Oper) (s : List D) (K : List (Nat × D) → List Nat → Prop) : Prop := match o.guard with
  | none => (absOp P (takesL all o) o).run orc s [] K
  | some (j, b) => ∃ u, (all[j]?).bind (·.dst) = some u ∧ (get s u = .v (.bool b) ∧ (absOp P (takesL all o) o).run orc s [u] K ∨ (get s u = .v (.bool (!b)) ∨ get s u = .tup []) ∧ (skipW o).run orc s [u] K)
end

theorem set_get {s : List D} {u : Nat} {d : D} (h : get s u = d) (hd : d ≠ .undef) : s.set u d = s := by
  have hlt : u < s.length := by
    rcases Nat.lt_or_ge u s.length with h0 | h0
    · exact h0
    · rw [get_ge h0] at h; exact absurd h.symm hd
  subst h
  apply List.ext_getElem? 
  intro i
  rw [List.getElem?_set]
  split
  · rename_i e; subst e; simp [get, hlt]
  · rfl

section
variable {P : Program} {orc : Orc} {E : Env} {A : List Nat} {role : Nat → Role} {a : Act} {w : World} {s : List D}
variable {Q : Exit → Act → World → Prop}

theorem runOps_step {all : List Oper} {o : Oper} {rest : List Oper} {lg : List (List Nat × List Nat)} {K : List D → List (List Nat × List Nat) → Prop} (h : runOps P orc all (o :: rest) s lg K) :
    Step1 P orc all o s fun ws rs => runOps P orc all rest (apply ws s) (lg ++ [(ws.map (·.1), rs)]) K := by
  unfold Step1
  simp only [runOps] at h
  split at h
  · exact h
  · rename_i j b hg
    split at h
    · exact h.elim
    · rename_i u hu
      refine ⟨u, hu, ?_⟩
      split at h
      · rename_i c hc
        cases c <;> cases b <;> simp only [cond_true, cond_false] at h <;> rw [set_get hc (by simp)] at h
        · exact .inl ⟨hc, h⟩
        · exact .inr ⟨.inl hc, h⟩
        · exact .inr ⟨.inl hc, h⟩
        · exact .inl ⟨hc, h⟩
      · rename_i hc; exact .inr ⟨.inr hc, h⟩
      · exact h.elim

theorem skip_sim (hS : Sim P E A role a w s) {o : Oper} {l : List Nat} {K : List (Nat × D) → List Nat → Prop} (h : (skipW o).run orc s l K) : After P E A s K (a.put o.dst undef) w := by
  obtain ⟨l', hno, hK⟩ := putW_sim h
  exact ⟨_, l', role, hK, put_sim hS hno (.tup (by rfl) (fun i x d hx => by simp at hx)) rfl⟩

theorem tmps_of {t : Nat} {b : Bool} (hS : Sim P E A role a w s) (h : get s t = .v (.bool b)) : a.tmps[t]? = some (.bool b) := by
  have := hS.tm t
  rw [h] at this
  have e := this.1.bool
  rw [Array.getD_eq_getD_getElem?] at e
  cases ht : a.tmps[t]? with
  | none => rw [ht] at e; simp [undef] at e
  | some v => rw [ht] at e; simp at e; rw [e]
theorem tmps_of_skip {t : Nat} (hS : Sim P E A role a w s) (h : get s t = .tup []) : ∀ b, a.tmps[t]? ≠ some (.bool b) := by
  intro b hb
  have := hS.tm t
  rw [h] at this
  have e := this.1
  have : a.tmps.getD t undef = .bool b := by rw [Array.getD_eq_getD_getElem?, hb]; rfl
  rw [this] at e
  cases e

theorem step1_sim (hO : OrcOK P orc) {ops : Array Oper} {i : Nat} {o : Oper} (hi : ops[i]? = some o) (hA : ∀ t, t ∈ addrDsts ops.toList → t ∈ A) (hS : Sim P E A role a w s) {K : List (Nat × D) → List Nat → Prop} {N : Act → World → Prop}
    (h : Step1 P orc ops.toList o s K) (hN : ∀ a' w', After P E A s K a' w' → N a' w') : wpOp P ops Q i N a w := by
  have hA' : isAddrOp o = true → ∀ t, o.dst = some t → t ∈ A := fun h1 t ht => hA t (by
    simp only [addrDsts, List.mem_flatMap]
    exact ⟨o, by simpa using List.mem_of_getElem? (l := ops.toList) (by simpa using hi), by simp [h1, ht]⟩)
  unfold wpOp
  rw [hi]
  simp only
  unfold Step1 at h
  split at h
  · rename_i hg
    have hw : Region.wanted o (yielded ops a.tmps) = true := by simp [Region.wanted, hg]
    rw [if_pos hw]
    exact .inl (Oper.wp_mono hN (op_sim hO hS hA' h))
  · rename_i j b hg
    obtain ⟨u, hu, h⟩ := h
    have hu' : (ops[j]?).bind (·.dst) = some u := by simpa using hu
    rcases h with ⟨hc, h⟩ | ⟨hc, h⟩
    · have hw : Region.wanted o (yielded ops a.tmps) = true := by
        simp [Region.wanted, hg, yielded, hu', tmps_of hS hc]
      rw [if_pos hw]
      exact .inl (Oper.wp_mono hN (op_sim hO hS hA' h))
    · have hw : ¬ Region.wanted o (yielded ops a.tmps) = true := by
        rcases hc with hc | hc
        · simp [Region.wanted, hg, yielded, hu', tmps_of hS hc]
        · have := tmps_of_skip hS hc
          have hy : yielded ops a.tmps j = none := by
            unfold yielded
            rw [hu']
            show (match a.tmps[u]? with | some (.bool b) => some b | _ => none) = none
            split
            · rename_i ht; exact absurd ht (this _)
            · rfl
          simp [Region.wanted, hg, hy]
      rw [if_neg hw]
      exact hN _ _ (skip_sim hS h)

/-- A region in the text's order. -/
theorem ops_sim (hO : OrcOK P orc) {ops : Array Oper} (hA : ∀ t, t ∈ addrDsts ops.toList → t ∈ A) : ∀ (rest : List Oper) (k : Nat) (role : Nat → Role) (a : Act) (w : World) (s : List D) (lg : List (List Nat × List Nat)) (K : List D → List (List Nat × List Nat) → Prop),
    ops.toList.drop k = rest → Sim P E A role a w s → runOps P orc ops.toList rest s lg K → (∀ a' w' s' lg' role', K s' lg' → Sim P E A role' a' w' s' → Q .normal a' w') → wpOps P ops Q ((List.range ops.size).drop k) a w
  | [], k, role, a, w, s, lg, K, hk, hS, h, hQ => by
    have : ops.size ≤ k := by
      have := congrArg List.length hk; simp at this; omega
    rw [List.drop_eq_nil_of_le (by simpa using this)]
    exact hQ a w s lg role h hS
  | o :: rest, k, role, a, w, s, lg, K, hk, hS, h, hQ => by
    have hlt : k < ops.size := by
      rcases Nat.lt_or_ge k ops.size with h0 | h0
      · exact h0
      · rw [List.drop_eq_nil_of_le (by simpa using h0)] at hk; cases hk
    have hcons := List.drop_eq_getElem_cons (l := ops.toList) (i := k) (by simpa using hlt)
    rw [hcons] at hk
    have ho : ops[k]? = some o := by
      injection hk with h1 _
      rw [Array.getElem?_eq_getElem hlt, ← h1]; simp
    have hrest : ops.toList.drop (k + 1) = rest := by injection hk
    have hr := List.drop_eq_getElem_cons (l := List.range ops.size) (i := k) (by simpa using hlt)
    rw [hr]
    simp only [List.getElem_range]
    rw [wpOps_cons]
    refine step1_sim hO ho hA hS (runOps_step h) ?_
    rintro a' w' ⟨ws, rs, role', hK, hS'⟩
    exact ops_sim hO hA rest (k + 1) role' a' w' _ _ K hrest hS' hK hQ
end
end Go.Proofs.Ytnjhmlnmdnocmaa
