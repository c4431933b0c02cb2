/-
  Calls of functions that are named or held; each operation's look, and its step. No program in sight. A region of operations, in the text's order or in whatever order its edges allow, where values may hold addresses. No program in sight. Regions, slots under new names, code, loops, functions, where values may hold addresses. No program in sight. Code, loops, functions, where values may hold addresses; runs that walk into the functions that are called. No program in sight. Functions by what a walk knows of them, where values may hold addresses; runs that walk into the functions that are called. No program in sight.
-/
import Derived.Test.YthhfnggigmfmjaaDoorHpE
set_option linter.unusedSimpArgs false
set_option linter.unusedVariables false
set_option linter.unusedSimpArgs false
set_option linter.unusedVariables false
namespace Go.Proofs.YthhfnggigmfmjaaDoor.Hp
set_option linter.unusedSimpArgs false
set_option linter.unusedVariables false
open Go.RowKit

section
variable (P : Program) (N H : Nat) (old : Nat → Bool)
/-- A call: of a function whose contract speaks of values alone, or of another one. -/
def callP (o : Oper) (f : Nat) (ms : List M) (fr : List Nat) : Lk (List (Nat × M)) := bif old f then
    (pubAll N ms).bind fun r => .call f (r.1.map M.d) [] fun m hs' => match m, hs' with
      | .d x, [] => putM N o (.d x) r.2
      | _, _ => .fail
  else callH N H o f ms fr
def callL (o : Oper) (c : Callee) (args : Array Operand) (types : Array TypeId) (fr : List Nat) : Lk (List (Nat × M)) := match c with
  | .value (.func f) => (rdAll P N (args.toList.zipIdx.map fun (x, i) => (types.getD i 0, x))).bind fun ms => callP N H old o f ms fr
  | .value (.tmp u) => (rdM P N 0 (.tmp u)).bind fun m => match m with
    | .clo f cs => (rdAll P N (args.toList.zipIdx.map fun (x, i) => (types.getD i 0, x))).bind fun ms => callP N H old o f (ms ++ cs) fr
    | .d (.v (.func (.func f) _ _)) => (rdAll P N (args.toList.zipIdx.map fun (x, i) => (types.getD i 0, x))).bind fun ms => callP N H old o f ms fr
    | _ => .fail
  | .builtin .len => match args.toList, types[0]? with
    | [x], some t => (rdM P N t x).bind fun m => bif isD m then delegL P N o else lenL P N o t x
    | _, _ => .fail
  | .builtin .append => match args.toList, types.toList with
    | [x, y], [t1, t2] => appendL P N H o t1 t2 x y fr
    | _, _ => .fail
  | _ => delegL P N o
/-- How many new slots an operation may want. -/
def needs (o : Oper) : Nat := match o.op with
  | .alloc _ | .box _ _ | .makeSlice .. | .buildSlice .. => 1
  | .convert _ dst _ => bif isSl P dst then 1 else 0
  | .call { callee := .builtin .append, .. } => 1
  | .call { callee := .builtin _, .. } => 0
  | .call { callee := .value (.func f), .. } => bif old f then 0 else 4
  | .call _ => 4
  | _ => 0
def absM (fr : List Nat) (o : Oper) : Lk (List (Nat × M)) := match o.op with
  | .move x => moveL P N o o.type x
  | .assign x => moveL P N o o.type x
  | .pick c x y => pickL P N o c x y
  | .alloc T => allocL P N H o T fr
  | .box T x => boxL P N H o T x fr
  | .build t ps => buildL P N o t ps
  | .buildSlice t n ps => buildSliceL P N H o t n ps fr
  | .load t x => loadL P N o t x
  | .store t x y => if o.dst.isNone then storeL P N t x y else .fail
  | .nilCheck x => nilCheckL P N o x
  | .binOp op t x y ty => binL P N o op t x y ty
  | .convert src dst x => convL P N H o src dst x fr
  | .makeInterface t x => ifaceL P N o t x
  | .makeFunc fn first captured => makeFuncL P N o fn first captured
  | .makeSlice t len cap => makeSliceL P N H o t len cap fr
  | .slice t x lo hi mx => sliceL P N o t x lo hi mx
  | .fieldAddr S x i => fieldAddrL P N o S x i
  | .field t x i => fieldL P N o t x i
  | .indexAddr t x i => indexAddrL P N o t x i
  | .extract x i => extractL P N o x i
  | .typeAssert x xT t ok => assertL P N o x xT t ok
  | .call { callee := c, args, argTypes } => callL P N H old o c args argTypes fr
  | _ => delegL P N o
end

section
variable {P : Program} {E : Env} {N H : Nat} {old : Nat → Bool} {role role' : Nat → Role} {β β' : Bet} {a a' : Act} {w w' : World} {s s' : List M} {orc : OrcM} {l : List Nat}
variable {K : List (Nat × M) → List Nat → Prop} {Q : Exit → Act → World → Prop}

theorem callP_sim (hO : OrcOKM P orc) (hS : Sim P E N H role β a w s) {o : Oper} {f : Nat} {ms : List M} {fr : List Nat} {args : Array Value} (hsz : args.size = ms.length) (hargs : ∀ (i : Nat) (x : Value) (m : M), args[i]? = some x → ms[i]? = some m → Rm P role β w x m)
    (hrun : (execOp a.eval o).run P w = (callFunc f args).run P w) (h : (callP N H old o f ms fr).run orc s l K) : Oper.wp P o a w (After P E N H s K) Q := by
  unfold callP at h
  cases hb : old f with
  | false => rw [hb] at h; exact callH_sim hO hS hsz hargs hrun h
  | true =>
    rw [hb, cond_true, run_bind] at h
    obtain ⟨ds, ws, l2, r1, g, ev, hS1, hr1, hdl, hds⟩ := pubAll_sim ms args.toList s role _ _ hS (Raised.refl s) (by simpa using hsz) (fun i v m hv hm => hargs i v m (by simpa using hv) hm) h
    clear h
    obtain ⟨m, hs', hK, _, hps⟩ := hO _ _ _ _ g
    clear g
    have heap : HeapS P ⟨w, r1, ([] : List M).length, fun _ => none⟩ r1 (fun _ => none) w (get []) :=
      { ext := Below.refl _ _, frame := fun _ _ _ => rfl, keep := fun _ _ _ _ _ => rfl, pub0 := fun _ _ hp => hp, mask := hS1.mask, roleF := fun _ _ _ => rfl, low := hS1.low, lowB := fun k l hl => (by cases hl), bet0 := fun _ _ hk => hk, new := fun k l hl => (by cases hl), inj := fun k k' l1 l2 hk => (by simp [get, M.alive] at hk), so := fun k => rfl }
    have hcall := hps r1 (fun _ => none) w args heap (by rw [hsz]; simp [hdl]) fun i x m hx hm => by
      simp only [List.getElem?_map, Option.map_eq_some_iff] at hm
      obtain ⟨d, hd, rfl⟩ := hm
      have := hds i x d (by simpa using hx) hd
      exact .d this.1 this.2
    have fin : ∀ e w', (∃ v role' β', e = Ending.returned v ∧ HeapS P ⟨w, r1, ([] : List M).length, fun _ => none⟩ role' β' w' (get hs') ∧ Rm P role' β' w' v m) → ∃ v, e = .returned v ∧ After P E N H s K (a.put o.dst v) w' := by
      rintro e w' ⟨v, role', β', rfl, hp, hv⟩
      refine ⟨v, rfl, ?_⟩
      have hnl : ∀ b, ¬ (⟨w, r1, ([] : List M).length, fun _ => none⟩ : Env).lent b := fun b ⟨j, l, hj, _⟩ => by simp at hj
      have hx : Exd w w' := ⟨hp.ext.os, hp.ext.tape, hp.ext.output, hp.ext.size, fun k hk => hp.frame k hk (hnl k)⟩
      obtain ⟨_, hS2⟩ := hS1.grow (role' := role') hx (fun k hk => hp.roleF k hk (hnl k)) hp.mask hp.low
      cases m <;> try exact False.elim hK
      rename_i x
      cases hs' with
      | cons c hs' => exact False.elim hK
      | nil =>
        refine put_after hS2 hK ?_
        cases hv with
        | d h1 h2 => exact .d h1 h2
    unfold Oper.wp
    rw [hrun]
    unfold CallsV at hcall
    generalize (callFunc f args).run P w = r at hcall
    match r, hcall with
    | .ok (.enter g as) w1, hc =>
      refine Calls.mono hc ?_
      intro e w' hR
      obtain ⟨v, rfl, h⟩ := fin e w' hR
      exact h
    | .ok (.value v) w1, hc =>
      obtain ⟨v', h1, h2⟩ := fin _ w1 hc
      cases h1
      exact h2

theorem args_sim (hS : Sim P E N H role β a w s) {args : Array Operand} {types : Array TypeId} {K : List M → List Nat → Prop} (h : (rdAll P N (args.toList.zipIdx.map fun (x, i) => (types.getD i 0, x))).run orc s l K) :
    ∃ ms l', K ms l' ∧ (args.map a.eval).size = ms.length ∧ ∀ (i : Nat) (x : Value) (m : M), (args.map a.eval)[i]? = some x → ms[i]? = some m → Rm P role β w x m := by
  obtain ⟨ms, l1, g, hlen, _, hms⟩ := rdAll_sim hS _ _ _ h
  refine ⟨ms, l1, g, by rw [hlen]; simp, fun i x m hx hm => ?_⟩
  simp only [Array.getElem?_map, Option.map_eq_some_iff] at hx
  obtain ⟨y, hy, rfl⟩ := hx
  have h1 : (args.toList.zipIdx.map fun (x, i) => (types.getD i 0, x))[i]? = some (types.getD i 0, y) := by
    simp [List.getElem?_map, List.getElem?_zipIdx, hy]
  exact hms i _ m h1 hm

theorem call_sim (hO : OrcOKM P orc) (hS : Sim P E N H role β a w s) {o : Oper} {c : Callee} {args : Array Operand} {types : Array TypeId} {fr : List Nat} (ho : o.op = .call { callee := c, args, argTypes := types })
    (h : (callL P N H old o c args types fr).run orc s l K) : Oper.wp P o a w (After P E N H s K) Q := by
  unfold callL at h
  split at h
  · rename_i f
    rw [run_bind] at h
    obtain ⟨ms, l1, g, hsz, hms⟩ := args_sim hS h
    exact callP_sim hO hS hsz hms (by simp [execOp, ho, resolve, Act.eval, Deferred.ofValue, invoke]) g
  · rename_i u
    rw [run_bind] at h
    obtain ⟨m, l1, g, hm⟩ := rdM_sim hS h
    clear h
    generalize hx : a.eval (.tmp u) = v at hm
    split at g
    · rename_i f cs
      rw [run_bind] at g
      obtain ⟨ms, l2, h, hsz, hms⟩ := args_sim hS g
      clear g
      cases hm with
      | clo hl hv hc =>
        rename_i vs
        refine callP_sim (args := args.map a.eval ++ vs) hO hS (by simp at hsz ⊢; omega) (fun i x m hx hm => ?_) (by simp [execOp, ho, resolve, hx, Deferred.ofValue, invoke]) h
        rw [Array.getElem?_append] at hx
        rw [List.getElem?_append] at hm
        by_cases hi : i < ms.length
        · rw [if_pos (by omega)] at hx; rw [if_pos hi] at hm; exact hms i x m hx hm
        · rw [if_neg (by omega)] at hx; rw [if_neg hi] at hm
          exact hc (i - ms.length) x m (by rw [← hsz]; exact hx) hm
    · rename_i f x1 x2
      rw [run_bind] at g
      obtain ⟨ms, l2, h, hsz, hms⟩ := args_sim hS g
      clear g
      cases hm with
      | d hm hs =>
        cases hm with
        | v hv =>
          have hv : (x1.isEmpty && x2.isEmpty) = true := hv
          simp only [Bool.and_eq_true, Array.isEmpty_iff] at hv
          obtain ⟨rfl, rfl⟩ := hv
          exact callP_sim hO hS hsz hms (by simp [execOp, ho, resolve, hx, Deferred.ofValue, invoke]) h
    · exact g.elim
  · split at h
    · rename_i x t hx ht
      have hx' : args = #[x] := by rw [← Array.toArray_toList (xs := args), hx]
      subst hx'
      rw [run_bind] at h
      obtain ⟨m, l1, g, hm⟩ := rdM_sim hS h
      cases hd : isD m with
      | true => rw [hd] at g; exact deleg_sim hS g
      | false => rw [hd] at g; exact len_sim hS ht ho g
    · exact h.elim
  · split at h
    · rename_i x y t1 t2 hx ht
      have hx' : args = #[x, y] := by rw [← Array.toArray_toList (xs := args), hx]
      have ht' : types = #[t1, t2] := by rw [← Array.toArray_toList (xs := types), ht]
      subst hx'; subst ht'
      exact append_sim hS ho h
    · exact h.elim
  · exact deleg_sim hS h

theorem op_sim (hO : OrcOKM P orc) (hS : Sim P E N H role β a w s) {o : Oper} {fr : List Nat} (h : (absM P N H old fr o).run orc s l K) : Oper.wp P o a w (After P E N H s K) Q := by
  unfold absM at h
  split at h
  · exact move_sim hS (.inl ‹_›) h
  · exact move_sim hS (.inr ‹_›) h
  · exact pick_sim hS ‹_› h
  · exact alloc_sim hS ‹_› h
  · exact box_sim hS ‹_› h
  · exact build_sim hS ‹_› h
  · exact buildSlice_sim hS ‹_› h
  · exact load_sim hS ‹_› h
  · split at h
    · rename_i hd
      exact store_sim hS ‹_› (by simpa using hd) h
    · exact h.elim
  · exact nilCheck_sim hS ‹_› h
  · exact bin_sim hS ‹_› h
  · exact conv_sim hS ‹_› h
  · exact iface_sim hS ‹_› h
  · exact makeFunc_sim hS ‹_› h
  · exact makeSlice_sim hS ‹_› h
  · exact slice_sim hS ‹_› h
  · exact fieldAddr_sim hS ‹_› h
  · exact field_sim hS ‹_› h
  · exact indexAddr_sim hS ‹_› h
  · exact extract_sim hS ‹_› h
  · exact assert_sim hS ‹_› h
  · exact call_sim hO hS ‹_› h
  · exact deleg_sim hS h
end
end Go.Proofs.YthhfnggigmfmjaaDoor.Hp

set_option linter.unusedSimpArgs false
set_option linter.unusedVariables false
namespace Go.Proofs.YthhfnggigmfmjaaDoor.Hp
open Go.RowKit

def skipW (N : Nat) (o : Oper) : Lk (List (Nat × M)) := putM N o (.d (.tup [])) []
section
variable (P : Program) (N H : Nat) (old : Nat → Bool) (orc : OrcM)
/-- Operations in the text's order; what each wrote and read. -/
def runOps (all : List Oper) : List (Oper × List Nat) → List M → List (List Nat × List Nat) → (List M → List (List Nat × List Nat) → Prop) → Prop
  | [], s, lg, K => K s lg
  | o :: rest, s, lg, K => match o.1.guard with
    | none => (absM P N H old o.2 o.1).run orc s [] fun ws rs => runOps all rest (apply ws s) (lg ++ [(ws.map (·.1), rs)]) K
    | some (j, b) => match (all[j]?).bind (·.dst) with
      | none => False
      | some u => match get s u with
        | .d (.v (.bool c)) => bif c
          then (bif b then (absM P N H old o.2 o.1).run orc (s.set u (.d (.v (.bool true)))) [u] fun ws rs => runOps all rest (apply ws (s.set u (.d (.v (.bool true))))) (lg ++ [(ws.map (·.1), rs)]) K
            else (skipW N o.1).run orc (s.set u (.d (.v (.bool true)))) [u] fun ws rs => runOps all rest (apply ws (s.set u (.d (.v (.bool true))))) (lg ++ [(ws.map (·.1), rs)]) K)
          else (bif b then (skipW N o.1).run orc (s.set u (.d (.v (.bool false)))) [u] fun ws rs => runOps all rest (apply ws (s.set u (.d (.v (.bool false))))) (lg ++ [(ws.map (·.1), rs)]) K
            else (absM P N H old o.2 o.1).run orc (s.set u (.d (.v (.bool false)))) [u] fun ws rs => runOps all rest (apply ws (s.set u (.d (.v (.bool false))))) (lg ++ [(ws.map (·.1), rs)]) K)
        | .d (.tup []) => (skipW N o.1).run orc s [u] fun ws rs => runOps all rest (apply ws s) (lg ++ [(ws.map (·.1), rs)]) K
        | _ => False
/-- One operation's step. -/
def Step1 (all : List Oper) (o : Oper × List Nat) (s : List M) (K : List (Nat × M) → List Nat → Prop) : Prop := match o.1.guard with
  | none => (absM P N H old o.2 o.1).run orc s [] K
  | some (j, b) => ∃ u, (all[j]?).bind (·.dst) = some u ∧ u < N ∧ (get s u = .d (.v (.bool b)) ∧ (absM P N H old o.2 o.1).run orc s [u] K ∨ (get s u = .d (.v (.bool (!b))) ∨ get s u = .d (.tup [])) ∧ (skipW N o.1).run orc s [u] K)
end

theorem set_get {s : List M} {u : Nat} {d : M} (h : get s u = d) (hd : d ≠ .undef) : s.set u d = s := by
  have hlt : u < s.length := lt_of_get (by rw [h]; exact hd)
  subst h
  apply List.ext_getElem?
  intro i
  rw [List.getElem?_set]
  split
  · rename_i e; subst e; simp [get, hlt]
  · rfl

theorem wr_not {ws : List (Nat × M)} {t : Nat} : ∀ {d : M}, t ∉ ws.map (·.1) → wr ws t d = d := by
  induction ws with
  | nil => intro d _; rfl
  | cons p ws ih =>
    intro d h
    simp only [List.map_cons, List.mem_cons, not_or] at h
    show wr ws t (if p.1 = t then p.2 else d) = d
    rw [if_neg (fun e => h.1 e.symm)]
    exact ih h.2
theorem wr_mem {ws : List (Nat × M)} {t : Nat} : ∀ {d d' : M}, t ∈ ws.map (·.1) → wr ws t d = wr ws t d' := by
  induction ws with
  | nil => intro d d' h; simp at h
  | cons p ws ih =>
    intro d d' h
    show wr ws t (if p.1 = t then p.2 else d) = wr ws t (if p.1 = t then p.2 else d')
    by_cases hp : p.1 = t
    · rw [if_pos hp, if_pos hp]
    · rw [if_neg hp, if_neg hp]
      simp only [List.map_cons, List.mem_cons] at h
      rcases h with h | h
      · exact absurd h.symm hp
      · exact ih h
/-- The frame behind those of some operations that are done. -/
def stS (tr : Nat → List (Nat × M)) (s0 : List M) (S : Nat → Bool) : Nat → List M
  | 0 => s0
  | n + 1 => if S n then apply (tr n) (stS tr s0 S n) else stS tr s0 S n
theorem stS_length (tr : Nat → List (Nat × M)) (s0 : List M) (S : Nat → Bool) : ∀ n, (stS tr s0 S n).length = s0.length
  | 0 => rfl
  | n + 1 => by
    simp only [stS]
    split
    · rw [apply_length, stS_length tr s0 S n]
    · exact stS_length tr s0 S n
/-- Where those that write a temporary are the same, it holds the same. -/
theorem stS_same {tr : Nat → List (Nat × M)} {s0 : List M} {S S' : Nat → Bool} {t : Nat} : ∀ n, (∀ i, i < n → t ∈ (tr i).map (·.1) → S i = S' i) → get (stS tr s0 S n) t = get (stS tr s0 S' n) t
  | 0, _ => rfl
  | n + 1, h => by
    have ih := stS_same (s0 := s0) n fun i hi => h i (by omega)
    by_cases ht : t < s0.length
    · simp only [stS]
      by_cases hm : t ∈ (tr n).map (·.1)
      · have := h n (by omega) hm
        rw [this]
        split
        · rw [get_apply _ _ _ (by rw [stS_length]; exact ht), get_apply _ _ _ (by rw [stS_length]; exact ht), ih]
        · exact ih
      · have f : ∀ S : Nat → Bool, get (if S n then apply (tr n) (stS tr s0 S n) else stS tr s0 S n) t = get (stS tr s0 S n) t := by
          intro S
          split
          · rw [get_apply _ _ _ (by rw [stS_length]; exact ht), wr_not hm]
          · rfl
        rw [f, f]; exact ih
    · rw [get_ge (by rw [stS_length]; omega), get_ge (by rw [stS_length]; omega)]
theorem stS_cut {tr : Nat → List (Nat × M)} {s0 : List M} {S : Nat → Bool} {k : Nat} : ∀ n, k ≤ n → (∀ i, k ≤ i → i < n → S i = false) → stS tr s0 S n = stS tr s0 S k
  | 0, h, _ => by have : k = 0 := by omega
                  subst this; rfl
  | n + 1, h, hS => by
    by_cases hk : k = n + 1
    · rw [hk]
    · simp only [stS]
      rw [hS n (by omega) (by omega)]
      exact stS_cut n (by omega) fun i h1 h2 => hS i h1 (by omega)
theorem stS_congr {tr : Nat → List (Nat × M)} {s0 : List M} {S S' : Nat → Bool} : ∀ n, (∀ i, i < n → S i = S' i) → stS tr s0 S n = stS tr s0 S' n
  | 0, _ => rfl
  | n + 1, h => by simp only [stS]; rw [h n (by omega), stS_congr n fun i hi => h i (by omega)]

theorem list_ext_get {s s' : List M} (hl : s.length = s'.length) (h : ∀ t, t < s.length → get s t = get s' t) : s = s' := by
  apply List.ext_getElem hl
  intro i h1 h2
  have := h i h1
  simpa [get, h1, h2] using this

/-- One more is done. -/
theorem stS_add {tr : Nat → List (Nat × M)} {s0 : List M} {S S' : Nat → Bool} {n j : Nat} (hj : j < n) (hSj : S j = false) (hS' : ∀ i, S' i = (S i || i == j))
    (hlast : ∀ i t, j < i → i < n → S i = true → t ∈ (tr j).map (·.1) → t ∉ (tr i).map (·.1)) : stS tr s0 S' n = apply (tr j) (stS tr s0 S n) := by
  refine list_ext_get (by rw [apply_length, stS_length, stS_length]) fun t ht => ?_
  rw [stS_length] at ht
  rw [get_apply _ _ _ (by rw [stS_length]; exact ht)]
  by_cases hm : t ∈ (tr j).map (·.1)
  · -- the last write is j's
    have key : ∀ m, j < m → m ≤ n → get (stS tr s0 S' m) t = wr (tr j) t .undef := by
      intro m
      induction m with
      | zero => intro h; omega
      | succ m ih =>
        intro h1 h2
        simp only [stS]
        by_cases hjm : m = j
        · subst hjm
          rw [hS' m]
          simp only [beq_self_eq_true, Bool.or_true, if_true]
          rw [get_apply _ _ _ (by rw [stS_length]; exact ht)]
          exact wr_mem hm
        · have ihm := ih (by omega) (by omega)
          split
          · rename_i hs
            rw [hS' m] at hs
            have hsm : S m = true := by simpa [hjm] using hs
            rw [get_apply _ _ _ (by rw [stS_length]; exact ht), wr_not (hlast m t (by omega) (by omega) hsm hm)]
            exact ihm
          · exact ihm
    rw [key n hj (Nat.le_refl _)]
    exact wr_mem hm
  · rw [wr_not hm]
    exact stS_same n fun i _ hi => by
      rw [hS' i]
      by_cases e : i = j
      · subst e; exact absurd hi hm
      · simp [e]
section
variable {P : Program} {E : Env} {N H : Nat} {old : Nat → Bool} {role : Nat → Role} {β : Bet} {a : Act} {w : World} {s : List M} {orc : OrcM}
variable {Q : Exit → Act → World → Prop}

theorem runOps_step {all : List Oper} {o : Oper × List Nat} {rest : List (Oper × List Nat)} {lg : List (List Nat × List Nat)} {K : List M → List (List Nat × List Nat) → Prop} (h : runOps P N H old orc all (o :: rest) s lg K) (hN : ∀ j b u, o.1.guard = some (j, b) → (all[j]?).bind (·.dst) = some u → u < N) :
    Step1 P N H old orc all o s fun ws rs => runOps P N H old orc all rest (apply ws s) (lg ++ [(ws.map (·.1), rs)]) K := by
  unfold Step1
  simp only [runOps] at h
  split at h
  · exact h
  · rename_i j b hg
    split at h
    · exact h.elim
    · rename_i u hu
      refine ⟨u, hu, hN j b u hg hu, ?_⟩
      split at h
      · rename_i c hc
        cases c <;> cases b <;> simp only [cond_true, cond_false] at h <;> rw [set_get hc (by simp)] at h
        · exact .inl ⟨hc, h⟩
        · exact .inr ⟨.inl hc, h⟩
        · exact .inr ⟨.inl hc, h⟩
        · exact .inl ⟨hc, h⟩
      · rename_i hc; exact .inr ⟨.inr hc, h⟩
      · exact h.elim

theorem skip_sim (hS : Sim P E N H role β a w s) {o : Oper} {l : List Nat} {K : List (Nat × M) → List Nat → Prop} (h : (skipW N o).run orc s l K) : After P E N H s K (a.put o.dst Go.undef) w :=
  put_after (ws := []) hS h (.d (.tup (by rfl) (fun i x d hx => by simp at hx)) rfl)

theorem tmps_of {t : Nat} {b : Bool} (hS : Sim P E N H role β a w s) (ht : t < N) (h : get s t = .d (.v (.bool b))) : a.tmps[t]? = some (.bool b) := by
  have := hS.tm t ht
  rw [h] at this
  have e := this.bool
  rw [Array.getD_eq_getD_getElem?] at e
  cases ht : a.tmps[t]? with
  | none => rw [ht] at e; simp [Go.undef] at e
  | some v => rw [ht] at e; simp at e; rw [e]
theorem tmps_of_skip {t : Nat} (hS : Sim P E N H role β a w s) (ht : t < N) (h : get s t = .d (.tup [])) : ∀ b, a.tmps[t]? ≠ some (.bool b) := by
  intro b hb
  have := hS.tm t ht
  rw [h] at this
  have e : a.tmps.getD t Go.undef = .bool b := by rw [Array.getD_eq_getD_getElem?, hb]; rfl
  rw [e] at this
  cases this with
  | d h _ => cases h

theorem step1_sim (hO : OrcOKM P orc) {ops : Array Oper} {i : Nat} {o : Oper × List Nat} (hi : ops[i]? = some o.1) (hS : Sim P E N H role β a w s) {K : List (Nat × M) → List Nat → Prop} {Nx : Act → World → Prop}
    (h : Step1 P N H old orc ops.toList o s K) (hN : ∀ a' w', After P E N H s K a' w' → Nx a' w') : wpOp P ops Q i Nx a w := by
  unfold wpOp
  rw [hi]
  simp only
  unfold Step1 at h
  split at h
  · rename_i hg
    have hw : Region.wanted o.1 (yielded ops a.tmps) = true := by simp [Region.wanted, hg]
    rw [if_pos hw]
    exact .inl (Oper.wp_mono hN (op_sim hO hS h))
  · rename_i j b hg
    obtain ⟨u, hu, huN, h⟩ := h
    have hu' : (ops[j]?).bind (·.dst) = some u := by simpa using hu
    rcases h with ⟨hc, h⟩ | ⟨hc, h⟩
    · have hw : Region.wanted o.1 (yielded ops a.tmps) = true := by
        simp [Region.wanted, hg, yielded, hu', tmps_of hS huN hc]
      rw [if_pos hw]
      exact .inl (Oper.wp_mono hN (op_sim hO hS h))
    · have hw : ¬ Region.wanted o.1 (yielded ops a.tmps) = true := by
        rcases hc with hc | hc
        · simp [Region.wanted, hg, yielded, hu', tmps_of hS huN hc]
        · have := tmps_of_skip hS huN hc
          have hy : yielded ops a.tmps j = none := by
            unfold yielded
            rw [hu']
            show (match a.tmps[u]? with | some (.bool b) => some b | _ => none) = none
            split
            · rename_i ht; exact absurd ht (this _)
            · rfl
          simp [Region.wanted, hg, hy]
      rw [if_neg hw]
      exact hN _ _ (skip_sim hS h)

/-- Guards that look at temporaries. -/
def guardsB (N : Nat) (all : List Oper) : Bool := all.all fun o => match o.guard with
  | none => true
  | some (j, _) => match (all[j]?).bind (·.dst) with
    | none => true
    | some u => decide (u < N)
theorem guards_ok {all : List Oper} (h : guardsB N all = true) {o : Oper} (ho : o ∈ all) : ∀ j b u, o.guard = some (j, b) → (all[j]?).bind (·.dst) = some u → u < N := by
  intro j b u hg hu
  have := List.all_eq_true.1 h o ho
  rw [hg] at this
  simp only at this
  rw [hu] at this
  simpa using this

/-- A region in the text's order. -/
theorem ops_sim (hO : OrcOKM P orc) {ops : Array Oper} (hG : guardsB N ops.toList = true) : ∀ (rest : List (Oper × List Nat)) (k : Nat) (role : Nat → Role) (β : Bet) (a : Act) (w : World) (s : List M) (lg : List (List Nat × List Nat)) (K : List M → List (List Nat × List Nat) → Prop),
    ops.toList.drop k = rest.map (·.1) → Sim P E N H role β a w s → runOps P N H old orc ops.toList rest s lg K → (∀ a' w' s' lg' role' β', K s' lg' → Sim P E N H role' β' a' w' s' → Q .normal a' w') → wpOps P ops Q ((List.range ops.size).drop k) a w
  | [], k, role, β, a, w, s, lg, K, hk, hS, h, hQ => by
    have : ops.size ≤ k := by
      have := congrArg List.length hk; simp at this; omega
    rw [List.drop_eq_nil_of_le (by simpa using this)]
    exact hQ a w s lg role β h hS
  | o :: rest, k, role, β, a, w, s, lg, K, hk, hS, h, hQ => by
    have hlt : k < ops.size := by
      rcases Nat.lt_or_ge k ops.size with h0 | h0
      · exact h0
      · rw [List.drop_eq_nil_of_le (by simpa using h0)] at hk; cases hk
    have hcons := List.drop_eq_getElem_cons (l := ops.toList) (i := k) (by simpa using hlt)
    rw [hcons] at hk
    simp only [List.map_cons] at hk
    have ho : ops[k]? = some o.1 := by
      injection hk with h1 _
      rw [Array.getElem?_eq_getElem hlt, ← h1]; simp
    have hrest : ops.toList.drop (k + 1) = rest.map (·.1) := by injection hk
    have hr := List.drop_eq_getElem_cons (l := List.range ops.size) (i := k) (by simpa using hlt)
    rw [hr]
    simp only [List.getElem_range]
    rw [wpOps_cons]
    have hmem : o.1 ∈ ops.toList := by simpa using Array.mem_of_getElem? ho
    refine step1_sim hO ho hS (runOps_step h (guards_ok hG hmem)) ?_
    rintro a' w' ⟨ws, rs, role', β', hK, hS'⟩
    exact ops_sim hO hG rest (k + 1) role' β' a' w' _ _ K hrest hS' hK hQ

theorem step1_out (hO : OrcOKM P orc) {all : List Oper} {o : Oper × List Nat} {K : List (Nat × M) → List Nat → Prop} (h : Step1 P N H old orc all o s K) :
    ∃ ws rs, K ws rs ∧ ∀ s', (∀ t, t ∈ rs → get s' t = get s t) → ∀ K' : List (Nat × M) → List Nat → Prop, K' ws rs → Step1 P N H old orc all o s' K' := by
  unfold Step1 at h ⊢
  split at h
  · obtain ⟨ws, rs, h1, r, hr, h2⟩ := run_out (fun f as hs => hO.det f as hs) _ _ _ h
    exact ⟨ws, rs, h1, fun s' hs K' hK => h2 s' (fun t ht => hs t (by rw [hr]; simp [ht])) K' hK⟩
  · obtain ⟨u, hu, huN, h⟩ := h
    rcases h with ⟨hc, h⟩ | ⟨hc, h⟩
    · obtain ⟨ws, rs, h1, r, hr, h2⟩ := run_out (fun f as hs => hO.det f as hs) _ _ _ h
      refine ⟨ws, rs, h1, fun s' hs K' hK => ⟨u, hu, huN, .inl ⟨?_, h2 s' (fun t ht => hs t (by rw [hr]; simp [ht])) K' hK⟩⟩⟩
      rw [hs u (by rw [hr]; simp)]; exact hc
    · obtain ⟨ws, rs, h1, r, hr, h2⟩ := run_out (fun f as hs => hO.det f as hs) _ _ _ h
      refine ⟨ws, rs, h1, fun s' hs K' hK => ⟨u, hu, huN, .inr ⟨?_, h2 s' (fun t ht => hs t (by rw [hr]; simp [ht])) K' hK⟩⟩⟩
      rw [hs u (by rw [hr]; simp)]; exact hc

/-- What the operations did, one by one. -/
theorem runOps_trace (hO : OrcOKM P orc) {all : List Oper} : ∀ (rest : List (Oper × List Nat)) (hN : ∀ o ∈ rest, ∀ j b u, o.1.guard = some (j, b) → (all[j]?).bind (·.dst) = some u → u < N) (s : List M) (lg : List (List Nat × List Nat)) (K : List M → List (List Nat × List Nat) → Prop), runOps P N H old orc all rest s lg K →
    ∃ trl : List (List (Nat × M) × List Nat), trl.length = rest.length ∧ K (trl.foldl (fun s r => apply r.1 s) s) (lg ++ trl.map fun r => (r.1.map (·.1), r.2)) ∧
      ∀ (i : Nat) (o : Oper × List Nat) (r : List (Nat × M) × List Nat), rest[i]? = some o → trl[i]? = some r → ∀ s', (∀ t, t ∈ r.2 → get s' t = get ((trl.take i).foldl (fun s r => apply r.1 s) s) t) →
        ∀ K' : List (Nat × M) → List Nat → Prop, K' r.1 r.2 → Step1 P N H old orc all o s' K'
  | [], _, s, lg, K, h => ⟨[], rfl, by simpa [runOps] using h, fun i o r hi => by simp at hi⟩
  | o :: rest, hN, s, lg, K, h => by
    obtain ⟨ws, rs, h1, h2⟩ := step1_out hO (runOps_step h (hN o (by simp)))
    obtain ⟨trl, hl, hK, ht⟩ := runOps_trace hO rest (fun o ho => hN o (by simp [ho])) _ _ _ h1
    refine ⟨(ws, rs) :: trl, by simp [hl], by simpa using hK, fun i o' r hi hr s' hs K' hK' => ?_⟩
    cases i with
    | zero =>
      simp at hi hr; subst hi; subst hr
      exact h2 s' (by simpa using hs) K' hK'
    | succ i =>
      simp at hi hr
      exact ht i o' r hi hr s' (by simpa using hs) K' hK'

/-- Operations in the text's order have one outcome. -/
theorem runOps_det (hO : OrcOKM P orc) {all : List Oper} : ∀ (rest : List (Oper × List Nat)) (s : List M) (lg : List (List Nat × List Nat)) (K : List M → List (List Nat × List Nat) → Prop), runOps P N H old orc all rest s lg K →
    ∃ s' lg', K s' lg' ∧ ∀ K' : List M → List (List Nat × List Nat) → Prop, K' s' lg' → runOps P N H old orc all rest s lg K'
  | [], s, lg, K, h => ⟨s, lg, h, fun K' hK => hK⟩
  | o :: rest, s, lg, K, h => by
    simp only [runOps] at h ⊢
    split at h
    · obtain ⟨ws, rs, h1, r, hr, h2⟩ := run_out (fun f as hs => hO.det f as hs) _ _ _ h
      obtain ⟨s', lg', h3, h4⟩ := runOps_det hO rest _ _ _ h1
      exact ⟨s', lg', h3, fun K' hK => h2 s (fun _ _ => rfl) _ (h4 K' hK)⟩
    · rename_i j b hg
      split at h
      · exact h.elim
      · split at h
        · rename_i c hc
          cases c <;> cases b <;> simp only [cond_true, cond_false] at h ⊢
          all_goals
            obtain ⟨ws, rs, h1, r, hr, h2⟩ := run_out (fun f as hs => hO.det f as hs) _ _ _ h
            obtain ⟨s', lg', h3, h4⟩ := runOps_det hO rest _ _ _ h1
            exact ⟨s', lg', h3, fun K' hK => h2 _ (fun _ _ => rfl) _ (h4 K' hK)⟩
        · obtain ⟨ws, rs, h1, r, hr, h2⟩ := run_out (fun f as hs => hO.det f as hs) _ _ _ h
          obtain ⟨s', lg', h3, h4⟩ := runOps_det hO rest _ _ _ h1
          exact ⟨s', lg', h3, fun K' hK => h2 s (fun _ _ => rfl) _ (h4 K' hK)⟩
        · exact h.elim

theorem stS_fold {trl : List (List (Nat × M) × List Nat)} {s0 : List M} : ∀ i, i ≤ trl.length → stS (fun i => (trl.getD i ([], [])).1) s0 (fun _ => true) i = (trl.take i).foldl (fun s r => apply r.1 s) s0
  | 0, _ => rfl
  | i + 1, h => by
    have hlt : i < trl.length := by omega
    simp only [stS, if_true]
    rw [stS_fold i (by omega), List.take_succ_eq_append_getElem hlt, List.foldl_append]
    simp [List.getD_eq_getElem?_getD, hlt]
/-- A region in whatever order. -/
theorem any_sim (hO : OrcOKM P orc) {ops : Array Oper} {dl : List (Oper × List Nat)} (hdl : dl.map (·.1) = ops.toList) {s0 : List M} {trl : List (List (Nat × M) × List Nat)} (hl : trl.length = ops.size)
    (hok : okRegion ops.toList (trl.map fun r => (r.1.map (·.1), r.2)) = true)
    (hstep : ∀ (i : Nat) (o : Oper × List Nat) (r : List (Nat × M) × List Nat), dl[i]? = some o → trl[i]? = some r → ∀ s', (∀ t, t ∈ r.2 → get s' t = get ((trl.take i).foldl (fun s r => apply r.1 s) s0) t) →
        ∀ K' : List (Nat × M) → List Nat → Prop, K' r.1 r.2 → Step1 P N H old orc ops.toList o s' K')
    (hQ : ∀ a' w' role' β', Sim P E N H role' β' a' w' (trl.foldl (fun s r => apply r.1 s) s0) → Q .normal a' w') :
    ∀ (fuel : Nat) (listed : Array Bool) (role : Nat → Role) (β : Bet) (a : Act) (w : World) (todo : List Nat), listed.size = ops.size → todo.length ≤ fuel → (∀ i, i < ops.size → listed.getD i false = false → i ∈ todo) →
      (∀ (i : Nat) (o : Oper), ops.toList[i]? = some o → listed.getD i false = true → ∀ e ∈ o.after, Region.binds .any e = true → listed.getD e.on false = true) →
      Sim P E N H role β a w (stS (fun i => (trl.getD i ([], [])).1) s0 (fun i => listed.getD i false) ops.size) → wpAny P .any ops Q fuel listed a w := by
  simp only [okRegion, Bool.and_eq_true] at hok
  obtain ⟨hE, hP⟩ := hok
  have hpair : ∀ i j, i < j → j < ops.size → i ∉ (ancs ops.toList []).getD j [] → ∀ t, (t ∈ (trl.getD i ([], [])).1.map (·.1) → t ∉ (trl.getD j ([], [])).2 ∧ t ∉ (trl.getD j ([], [])).1.map (·.1)) ∧ (t ∈ (trl.getD i ([], [])).2 → t ∉ (trl.getD j ([], [])).1.map (·.1)) := by
    intro i j hij hj hna t
    have h1 := List.all_eq_true.1 hP j (by simp; omega)
    have h2 := List.all_eq_true.1 h1 i (by simp; omega)
    simp only [Bool.or_eq_true, Bool.and_eq_true] at h2
    have hgi : (trl.map fun r => (r.1.map (·.1), r.2)).getD i ([], []) = ((trl.getD i ([], [])).1.map (·.1), (trl.getD i ([], [])).2) := by
      simp [List.getD_eq_getElem?_getD, show i < trl.length by omega]
    have hgj : (trl.map fun r => (r.1.map (·.1), r.2)).getD j ([], []) = ((trl.getD j ([], [])).1.map (·.1), (trl.getD j ([], [])).2) := by
      simp [List.getD_eq_getElem?_getD, show j < trl.length by omega]
    rw [hgi, hgj] at h2
    rcases h2 with h2 | ⟨h2, h3⟩
    · exact absurd (by simpa using h2) hna
    · refine ⟨fun ht => ?_, fun ht => disj_spec h3 ht⟩
      have := disj_spec h2 ht
      simp only [List.mem_append, not_or] at this
      exact this
  have done : ∀ (listed : Array Bool) (role : Nat → Role) (β : Bet) (a : Act) (w : World), (∀ i, i < ops.size → listed.getD i false = true) → Sim P E N H role β a w (stS (fun i => (trl.getD i ([], [])).1) s0 (fun i => listed.getD i false) ops.size) → Q .normal a w := by
    intro listed role β a w hall hS
    rw [stS_congr (S' := fun _ => true) ops.size hall, ← hl, stS_fold _ (Nat.le_refl _), List.take_length] at hS
    exact hQ a w role β hS
  intro fuel
  induction fuel with
  | zero =>
    intro listed role β a w todo hsz htd hun hcl hS
    have htd' : todo = [] := List.eq_nil_of_length_eq_zero (by omega)
    have hall : ∀ i, i < ops.size → listed.getD i false = true := fun i hi => by
      cases h : listed.getD i false with
      | true => rfl
      | false => have := hun i hi h; rw [htd'] at this; simp at this
    refine ⟨?_, done listed role β a w hall hS⟩
    rw [List.eq_nil_iff_forall_not_mem]
    intro i hi
    obtain ⟨h1, o, ho, _⟩ := mem_ready.1 hi
    have hlt := (Array.getElem?_eq_some_iff.1 ho).1
    have h2 := hall i hlt
    rw [Array.getD_eq_getD_getElem?] at h1 h2
    simp [show i < listed.size by omega] at h1 h2
    rw [h1] at h2; cases h2
  | succ fuel ih =>
    intro listed role β a w todo hsz htd hun hcl hS
    have hgd : ∀ i, i < ops.size → listed.getD i true = listed.getD i false := fun i hi => by
      rw [Array.getD_eq_getD_getElem?, Array.getD_eq_getD_getElem?]; simp [show i < listed.size by omega]
    refine ⟨fun hr => ?_, fun i hi => ?_⟩
    · refine done listed role β a w (fun i hi => ?_) hS
      induction i using Nat.strongRecOn with
      | _ i ihi =>
        cases h : listed.getD i false with
        | true => rfl
        | false =>
          exfalso
          have ho : ops[i]? = some ops[i] := Array.getElem?_eq_getElem hi
          have hmem : i ∈ Region.ready .any ops listed := mem_ready.2 ⟨(hgd i hi).trans h, _, ho, fun e he hb => by
            have hlt := early_spec ops.toList 0 i ops[i] hE (by simp [hi]) e he hb
            exact ihi e.on (by omega) (by omega)⟩
          rw [hr] at hmem; simp at hmem
    · obtain ⟨h1, o, ho, hdeps⟩ := mem_ready.1 hi
      have hilt := (Array.getElem?_eq_some_iff.1 ho).1
      have hSi : listed.getD i false = false := (hgd i hilt).symm.trans h1
      have hol : ops.toList[i]? = some o := by simpa using ho
      have hri : trl[i]? = some (trl.getD i ([], [])) := by simp [List.getD_eq_getElem?_getD, show i < trl.length by omega]
      have hanc := closed_anc (S := fun x => listed.getD x false = true) hcl hE i o hol hdeps
      have ancS : ∀ k, k < ops.size → listed.getD k false = true → ∀ x ∈ (ancs ops.toList []).getD k [], listed.getD x false = true := fun k hk hSk => by
        have hok' : ops.toList[k]? = some ops[k] := by simp [hk]
        exact closed_anc (S := fun x => listed.getD x false = true) hcl hE k _ hok' (hcl k _ hok' hSk)
      have hread : ∀ t, t ∈ (trl.getD i ([], [])).2 → get (stS (fun i => (trl.getD i ([], [])).1) s0 (fun i => listed.getD i false) ops.size) t = get ((trl.take i).foldl (fun s r => apply r.1 s) s0) t := by
        intro t ht
        rw [← stS_fold i (by omega), ← stS_congr (S := fun k => decide (k < i)) i (fun k hk => by simp [hk]), ← stS_cut (S := fun k => decide (k < i)) ops.size (by omega) (fun k hk _ => by simp; omega)]
        refine stS_same ops.size fun k hk hkt => ?_
        rcases Nat.lt_trichotomy k i with hlt | heq | hgt
        · simp only [hlt, decide_true]
          by_cases hm : k ∈ (ancs ops.toList []).getD i []
          · exact hanc k hm
          · exact absurd ht ((hpair k i hlt hilt hm t).1 hkt).1
        · subst heq; simp [hSi]
        · have : ¬ k < i := by omega
          simp only [this, decide_false]
          cases hSk : listed.getD k false with
          | false => rfl
          | true =>
            exfalso
            by_cases hm : i ∈ (ancs ops.toList []).getD k []
            · have := ancS k hk hSk i hm; rw [hSi] at this; cases this
            · exact absurd hkt ((hpair i k hgt hk hm t).2 ht)
      have hof : ∃ of, dl[i]? = some of ∧ of.1 = o := by
        rw [← hdl, List.getElem?_map, Option.map_eq_some_iff] at hol
        exact hol
      obtain ⟨of, hof, hofo⟩ := hof
      have hst := hstep i of _ hof hri _ hread (fun ws rs => ws = (trl.getD i ([], [])).1 ∧ rs = (trl.getD i ([], [])).2) ⟨rfl, rfl⟩
      refine step1_sim hO (hofo.symm ▸ ho) hS hst ?_
      rintro a' w' ⟨ws, rs, role', β', ⟨rfl, rfl⟩, hS'⟩
      have hset : ∀ k, (listed.setIfInBounds i true).getD k false = (listed.getD k false || k == i) := by
        intro k
        by_cases e : i = k
        · subst e
          rw [Array.getD_eq_getD_getElem?]
          simp [show i < listed.size by omega]
        · rw [getD_set_ne false e]
          have : (k == i) = false := by simp; omega
          rw [this, Bool.or_false]
      refine ih (listed.setIfInBounds i true) role' β' a' w' (todo.erase i) (by simp [hsz]) ?_ ?_ ?_ ?_
      · rw [List.length_erase_of_mem (hun i hilt hSi)]; omega
      · intro k hk hk'
        rw [hset] at hk'
        simp only [Bool.or_eq_false_iff, beq_eq_false_iff_ne] at hk'
        exact (List.mem_erase_of_ne hk'.2).2 (hun k hk hk'.1)
      · intro k o' ho' hk e he hb
        rw [hset] at hk ⊢
        simp only [Bool.or_eq_true, beq_iff_eq] at hk ⊢
        rcases hk with hk | rfl
        · exact .inl (hcl k o' ho' hk e he hb)
        · rw [hol] at ho'; cases ho'; exact .inl (hdeps e he hb)
      · rw [stS_add (j := i) hilt hSi hset]
        · exact hS'
        · intro k t hik hk hSk hti htk
          by_cases hm : i ∈ (ancs ops.toList []).getD k []
          · have := ancS k hk hSk i hm; rw [hSi] at this; cases this
          · exact absurd htk ((hpair i k hik hk hm t).1 hti).2

end
end Go.Proofs.YthhfnggigmfmjaaDoor.Hp

set_option linter.unusedSimpArgs false
set_option linter.unusedVariables false
namespace Go.Proofs.YthhfnggigmfmjaaDoor.Hp
open Go.RowKit

/-- Some temporaries are forgotten. -/
def kill (N : Nat) : List Nat → List M → List M
  | [], s => s
  | t :: ts, s => kill N ts (bif decide (t < N) then s.set t .undef else s)
theorem kill_get {N : Nat} : ∀ (ts : List Nat) (s : List M), (kill N ts s).length = s.length ∧ (∀ k, get (kill N ts s) (N + k) = get s (N + k)) ∧ ∀ t, t < N → get (kill N ts s) t = get s t ∨ get (kill N ts s) t = .undef
  | [], s => ⟨rfl, fun _ => rfl, fun _ _ => .inl rfl⟩
  | u :: ts, s => by
    obtain ⟨h1, h2, h3⟩ := kill_get ts (bif decide (u < N) then s.set u .undef else s)
    simp only [kill]
    by_cases hu : u < N
    · simp only [hu, decide_true, cond_true] at h1 h2 h3 ⊢
      refine ⟨by rw [h1]; simp, fun k => by rw [h2, get_set_ne (by omega)], fun t ht => ?_⟩
      rcases h3 t ht with h | h
      · rw [h, get_set]
        split
        · exact .inr rfl
        · exact .inl rfl
      · exact .inr h
    · simp only [hu, decide_false, cond_false] at h1 h2 h3 ⊢
      exact ⟨h1, h2, h3⟩

/-- The slots that are free. -/
def freeSlots (N H : Nat) (s : List M) : List Nat := (List.range H).filter fun k => isUndef (get s (N + k))
def deal (P : Program) (old : Nat → Bool) : List Oper → List Nat → List (Oper × List Nat)
  | [], _ => []
  | o :: os, fr => (o, fr.take (needs P old o)) :: deal P old os (fr.drop (needs P old o))
theorem deal_map (P : Program) (old : Nat → Bool) : ∀ (os : List Oper) (fr : List Nat), (deal P old os fr).map (·.1) = os
  | [], _ => rfl
  | o :: os, fr => by simp only [deal, List.map_cons, deal_map P old os]

/-- The slots that some slots lead to. -/
def reachS (N : Nat) (s : List M) : Nat → List Nat → List Nat → List Nat
  | 0, _, acc => acc
  | _ + 1, [], acc => acc
  | n + 1, k :: todo, acc => bif acc.contains k || !(get s (N + k)).alive then reachS N s n todo acc else reachS N s n (todo ++ refs (get s (N + k))) (acc ++ [k])
theorem reachS_spec {N : Nat} {s : List M} : ∀ (n : Nat) (todo acc : List Nat), acc.Nodup → (reachS N s n todo acc).Nodup ∧ ∃ r, reachS N s n todo acc = acc ++ r ∧ ∀ k ∈ r, (get s (N + k)).alive = true
  | 0, _, acc, h => ⟨h, [], by simp [reachS], by simp⟩
  | n + 1, [], acc, h => ⟨h, [], by simp [reachS], by simp⟩
  | n + 1, k :: todo, acc, h => by
    simp only [reachS]
    cases hc : acc.contains k || !(get s (N + k)).alive with
    | true => exact reachS_spec n todo acc h
    | false =>
      simp only [Bool.or_eq_false_iff, Bool.not_eq_false'] at hc
      have hk : k ∉ acc := by simpa [List.contains_eq_mem] using hc.1
      obtain ⟨h1, r, h2, h3⟩ := reachS_spec (N := N) (s := s) n (todo ++ refs (get s (N + k))) (acc ++ [k]) (by
        rw [List.nodup_append]
        exact ⟨h, by simp, fun x hx y hy e => by simp at hy; subst hy; subst e; exact hk hx⟩)
      refine ⟨h1, k :: r, by rw [cond_false, h2]; simp, fun j hj => ?_⟩
      rcases List.mem_cons.1 hj with rfl | hj
      · exact hc.2
      · exact h3 j hj
def slotsOf (n N : Nat) (s : List M) (roots : List Nat) : List Nat := reachS N s 400 (roots ++ (List.range n).flatMap fun k => refs (get s (N + k))) (List.range n)
/-- A frame whose slots have their names in the order in which they are led to; those that a call was given keep theirs. -/
def canon (n N H : Nat) (s : List M) (K : List M → Prop) : Prop :=
  bif decide ((slotsOf n N s (refsL (s.take N))).length ≤ H) then
    K ((s.take N).map (ren (idx (slotsOf n N s (refsL (s.take N))))) ++ ((slotsOf n N s (refsL (s.take N))).map fun k => ren (idx (slotsOf n N s (refsL (s.take N)))) (get s (N + k))) ++ List.replicate (H - (slotsOf n N s (refsL (s.take N))).length) .undef)
  else False

section
variable {P : Program} {E : Env} {N H : Nat} {old : Nat → Bool} {role : Nat → Role} {β : Bet} {a : Act} {w : World} {s : List M} {orc : OrcM}
variable {Q : Exit → Act → World → Prop}

theorem kill_sim (hS : Sim P E N H role β a w s) (ts : List Nat) : Sim P E N H role β a w (kill N ts s) := by
  obtain ⟨h1, h2, h3⟩ := kill_get (N := N) ts s
  refine hS.temps hS.defers hS.size (by rw [h1]; exact hS.len) h2 fun t ht => ?_
  rcases h3 t ht with h | h
  · rw [h]; exact hS.tm t ht
  · rw [h]; exact .undef

theorem Sim.heap (h : Sim P E N H role β a w s) : HeapS P E role β w fun k => get s (N + k) :=
  { ext := h.ext, frame := h.frame, keep := h.keep, pub0 := h.pub0, mask := h.mask, roleF := h.roleF, low := h.low, lowB := h.lowB, bet0 := h.bet0, new := h.new, inj := h.inj, so := h.so }
theorem HeapS.sim {hs : Nat → M} (h : HeapS P E role β w hs) (hd : a.defers = []) (hsz : a.tmps.size = N) (hlen : s.length = N + H) (hs' : ∀ k, get s (N + k) = hs k) (htm : ∀ t, t < N → Rm P role β w (a.tmps.getD t Go.undef) (get s t)) : Sim P E N H role β a w s where
  ext := h.ext
  frame := h.frame
  keep := h.keep
  pub0 := h.pub0
  mask := h.mask
  roleF := h.roleF
  low := h.low
  lowB := h.lowB
  bet0 := h.bet0
  new := h.new
  inj k k' l l' hk hk' := by rw [hs'] at hk hk'; exact h.inj k k' l l' hk hk'
  defers := hd
  size := hsz
  len := hlen
  tm := htm
  so k := by rw [hs']; exact h.so k

def bren (β : Bet) (ks : List Nat) : Bet := fun j => match ks[j]? with
  | some k => β k
  | none => none
theorem bren_some {ks : List Nat} {j k : Nat} (h : ks[j]? = some k) : bren β ks j = β k := by simp only [bren, h]
theorem bren_none {ks : List Nat} {j : Nat} (h : ks[j]? = none) : bren β ks j = none := by simp only [bren, h]
theorem bren_ren {ks : List Nat} : ∀ k j l, idx ks k = some j → β k = some l → bren β ks j = some l := fun k j l hj hl => by rw [bren_some (idx_some hj)]; exact hl
/-- Slots under new names. -/
theorem HeapS.ren {hs : Nat → M} (h : HeapS P E role β w hs) {ks : List Nat} (hnd : ks.Nodup) {r : List Nat} (hks : ks = List.range E.n ++ r) (hE : ∀ k l, E.β0 k = some l → k < E.n) :
    HeapS P E role (bren β ks) w fun j => match ks[j]? with
      | some k => Hp.ren (idx ks) (hs k)
      | none => .undef := by
  have hbs : ∀ {j l}, bren β ks j = some l → ∃ k, ks[j]? = some k ∧ β k = some l := fun {j l} hj => by
    cases hk : ks[j]? with
    | none => rw [bren_none hk] at hj; cases hj
    | some k => exact ⟨k, rfl, by rw [bren_some hk] at hj; exact hj⟩
  refine { ext := h.ext, frame := h.frame, keep := h.keep, pub0 := h.pub0, mask := h.mask, roleF := h.roleF, low := h.low, lowB := fun j l hj => ?_, bet0 := fun k l hk => ?_, new := fun j l hj => ?_, inj := fun j j' l1 l2 hj hj' h1 h2 hbb => ?_, so := fun j => ?_ }
  · obtain ⟨k, _, hk⟩ := hbs hj; exact h.lowB k l hk
  · have hlt := hE k l hk
    have : ks[k]? = some k := by
      rw [hks, List.getElem?_append_left (by simpa using hlt), List.getElem?_range hlt]
    rw [bren_some this]; exact h.bet0 k l hk
  · obtain ⟨k, _, hk⟩ := hbs hj; exact h.new k l hk
  · obtain ⟨k, hk, e1⟩ := hbs h1
    obtain ⟨k', hk', e2⟩ := hbs h2
    simp only [hk, ren_alive] at hj
    simp only [hk', ren_alive] at hj'
    have := h.inj k k' l1 l2 hj hj' e1 e2 hbb
    subst this
    have i1 := idx_of hnd hk
    rw [idx_of hnd hk'] at i1
    exact (Option.some.inj i1).symm
  · cases hk : ks[j]? with
    | none => exact bren_none hk
    | some k =>
      have hso := h.so k
      have hl : ∀ l, β k = some l → bren β ks j = some l := fun l hl => by rw [bren_some hk]; exact hl
      show SO P role (bren β ks) w j (Hp.ren (idx ks) (hs k))
      generalize hs k = c at hso ⊢
      cases c <;> first
        | exact hso.elim
        | exact SO.ren bren_ren hso hl (.inl rfl)
        | (simp only [Hp.ren]; trivial)
        | (simp only [Hp.ren]; show bren β ks j = none; rw [bren_some hk]; exact hso)

theorem canon_sim (hS : Sim P E N H role β a w s) {n : Nat} (hn : E.n = n) (hE : ∀ k l, E.β0 k = some l → k < n) {K : List M → Prop} (h : canon n N H s K) :
    ∃ s', K s' ∧ (∀ K' : List M → Prop, K' s' → canon n N H s K') ∧ ∃ β', Sim P E N H role β' a w s' := by
  unfold canon at h ⊢
  generalize hks : slotsOf n N s (refsL (s.take N)) = ks at *
  rw [cond_and, decide_eq_true_eq] at h
  obtain ⟨hle, hK⟩ := h
  refine ⟨_, hK, fun K' hK' => by rw [cond_and, decide_eq_true_eq]; exact ⟨hle, hK'⟩, bren β ks, ?_⟩
  obtain ⟨hnd, r, hr, _⟩ := reachS_spec (N := N) (s := s) 400 (refsL (s.take N) ++ (List.range n).flatMap fun k => refs (get s (N + k))) (List.range n) List.nodup_range
  have hks' : reachS N s 400 (refsL (s.take N) ++ (List.range n).flatMap fun k => refs (get s (N + k))) (List.range n) = ks := hks
  rw [hks'] at hnd hr
  subst hn
  have hp := hS.heap.ren hnd hr hE
  have hlen := hS.len
  have htk : ((s.take N).map (ren (idx ks))).length = N := by simp; omega
  refine hp.sim hS.defers hS.size (by simp; omega) (fun k => ?_) fun t ht => ?_
  · unfold get
    rw [List.getD_eq_getElem?_getD, List.append_assoc, List.getElem?_append_right (by rw [htk]; omega), htk, Nat.add_sub_cancel_left, List.getElem?_append]
    split
    · rw [List.getElem?_map]
      rename_i hlt
      have hlt' : k < ks.length := by simpa using hlt
      rw [List.getElem?_eq_getElem hlt']
      rfl
    · rename_i hlt
      have : ks[k]? = none := by rw [List.getElem?_eq_none_iff]; simpa using hlt
      rw [this, List.getElem?_replicate]
      split <;> rfl
  · have e : get ((s.take N).map (ren (idx ks)) ++ (ks.map fun k => ren (idx ks) (get s (N + k))) ++ List.replicate (H - ks.length) .undef) t = ren (idx ks) (get s t) := by
      unfold get
      rw [List.getD_eq_getElem?_getD, List.append_assoc, List.getElem?_append_left (by rw [htk]; exact ht), List.getElem?_map, List.getElem?_take, if_pos ht, List.getD_eq_getElem?_getD, List.getElem?_eq_getElem (show t < s.length by omega)]
      rfl
    rw [e]
    exact (hS.tm t ht).ren bren_ren

/-- A region, in the text's order or drawn. -/
def runRegion (P : Program) (N H : Nat) (old : Nat → Bool) (orc : OrcM) (ops : Array Oper) (draw : Bool) (s : List M) (K : List M → Prop) : Prop :=
  bif guardsB N ops.toList then runOps P N H old orc ops.toList (deal P old ops.toList (freeSlots N H s)) s [] fun s' lg => bif draw then (bif okFast ops.toList lg then K s' else False) else K s'
  else False
theorem region_out (hO : OrcOKM P orc) {ops : Array Oper} {draw : Bool} {K : List M → Prop} (h : runRegion P N H old orc ops draw s K) : ∃ s', K s' ∧ (∀ K' : List M → Prop, K' s' → runRegion P N H old orc ops draw s K') := by
  unfold runRegion at h ⊢
  rw [cond_and] at h
  obtain ⟨hG, h⟩ := h
  obtain ⟨s', lg', h1, h2⟩ := runOps_det hO _ _ _ _ h
  cases draw with
  | false => exact ⟨s', h1, fun K' hK => by rw [hG]; exact h2 _ hK⟩
  | true =>
    simp only [cond_true] at h1
    rw [cond_and] at h1
    refine ⟨s', h1.2, fun K' hK => ?_⟩
    rw [hG]
    exact h2 _ (by simp only [cond_true]; rw [h1.1]; exact hK)
theorem region_sim (hO : OrcOKM P orc) (hm : P.follows .mixedOrders = true) {id : Nat} {ops : Array Oper} {draw : Bool} {K : List M → Prop} (h : runRegion P N H old orc ops draw s K) (hS : Sim P E N H role β a w s)
    (hQ : ∀ a' w' s' role' β', K s' → Sim P E N H role' β' a' w' s' → Q .normal a' w') : (Code.region id ops draw).wp P Q a w := by
  unfold runRegion at h
  rw [cond_and] at h
  obtain ⟨hG, h⟩ := h
  have hdl := deal_map P old ops.toList (freeSlots N H s)
  cases draw with
  | false =>
    simp only [cond_false] at h
    refine wp_region ?_
    have := ops_sim (P := P) (Q := Q) hO (ops := ops) hG _ 0 role β a w s [] _ (by rw [hdl]; rfl) hS h (fun a' w' s' lg' role' β' hK hS' => hQ a' w' _ role' β' hK hS')
    simpa using this
  | true =>
    simp only [cond_true] at h
    refine wp_region_any hm ?_
    have hGd : ∀ o ∈ deal P old ops.toList (freeSlots N H s), ∀ j b u, o.1.guard = some (j, b) → (ops.toList[j]?).bind (·.dst) = some u → u < N := fun o ho => by
      refine guards_ok hG ?_
      rw [← hdl]; exact List.mem_map.2 ⟨o, ho, rfl⟩
    obtain ⟨trl, hl, hK, hst⟩ := runOps_trace hO _ hGd _ _ _ h
    rw [cond_and, okFast_eq] at hK
    obtain ⟨hok, hK⟩ := hK
    have hdr : Sim P E N H role β a w.drew s := (hS.grow (role' := role) (Exd.refl w).dr (fun _ _ => rfl) hS.mask hS.low).2
    have hll : trl.length = ops.size := by
      rw [hl, ← List.length_map (f := (·.1)), hdl]; simp
    refine any_sim hO hdl hll (by simpa using hok) (fun i o r ho hr => hst i o r ho hr) (fun a' w' role' β' hS' => hQ a' w' _ role' β' hK hS') ops.size _ role β a _ (List.range ops.size) (by simp) (by simp) (fun i hi _ => by simpa using hi) (fun i o hi h => ?_) ?_
    · rw [Array.getD_eq_getD_getElem?] at h
      by_cases hlt : i < ops.size <;> simp [hlt] at h
    · rw [stS_cut (k := 0) ops.size (Nat.zero_le _) (fun i _ hi => by rw [Array.getD_eq_getD_getElem?]; simp [hi])]
      exact hdr
end
end Go.Proofs.YthhfnggigmfmjaaDoor.Hp

set_option linter.unusedSimpArgs false
set_option linter.unusedVariables false
namespace Go.Proofs.YthhfnggigmfmjaaDoor.Hp
open Go.RowKit

abbrev LOrcM := Nat → List M → (AExit → List M → Prop) → Prop
/-- Rounds, one behind the other. -/
def iter (n N H : Nat) (f : List M → (AExit → List M → Prop) → Prop) (j : List Nat) : Nat → List M → (AExit → List M → Prop) → Prop
  | 0, _, _ => False
  | m + 1, s, K => f s fun e s1 => match e with
    | .normal => canon n N H (kill N j s1) fun s2 => iter n N H f j m s2 K
    | e => K e (kill N j s1)
section
variable (P : Program) (n N H : Nat) (old : Nat → Bool) (orc : OrcM) (hasL : Nat → Bool) (lorc : LOrcM) (fuel : Nat)
def runCode : Code → List M → (AExit → List M → Prop) → Prop
  | .skip, s, K => K .normal s
  | .region _ ops draw, s, K => runRegion P N H old orc ops draw s (K .normal)
  | .seq a b, s, K => runCode a s fun e s' => match e with
    | .normal => runCode b s' K
    | e => K e s'
  | .cond c x y, s, K => match c with
    | .tmp u => match get s u with
      | .d (.v (.bool b)) => bif decide (u < N) then (bif b then runCode x (s.set u (.d (.v (.bool true)))) K else runCode y (s.set u (.d (.v (.bool false)))) K) else False
      | _ => False
    | _ => False
  | .block id c, s, K => runCode c s fun e s' => match e with
    | .exit i => bif i == id then K .normal s' else K (.exit i) s'
    | e => K e s'
  | .loop c, s, K => bif hasL (regionOf c) then lorc (regionOf c) s K else iter n N H (runCode c) (junkX c) fuel s K
  | .exit id, s, K => K (.exit id) s
  | .scope c, s, K => runCode c s K
  | .ret, s, K => K .ret s
  | _, _, _ => False
def resOf (s : List M) : List ResultVar → Option (List M)
  | [] => some []
  | .tmp t :: rs => match resOf s rs with
    | some ms => if decide (t < N) && (get s t).isVal then some (get s t :: ms) else none
    | none => none
  | .cell u t :: rs => match resOf s rs with
    | some ms => if decide (u < N) then (match get s u with
      | .ref k off => match get s (N + k) with
        | .var _ cs => match partM P t cs off with
          | some m => if m.isVal then some (m :: ms) else none
          | none => none
        | _ => none
      | _ => none) else none
    | none => none
def resM (fn : Func) (s : List M) : Option M := match resOf P N s fn.results.toList with
  | some [m] => some m
  | some ms => match pureAll ms with
    | some ds => some (.d (.tup ds))
    | none => some (.tup ms)
  | none => none
/-- What a call hands back: its value, and the slots that it was given or that the value leads to. -/
def retM (s : List M) (m : M) (K : M → List M → Prop) : Prop :=
  K (ren (idx (slotsOf n N s (refs m))) m) ((slotsOf n N s (refs m)).map fun k => ren (idx (slotsOf n N s (refs m))) (get s (N + k)))
def initF (as hs : List M) : List M := as ++ List.replicate (N - as.length) .undef ++ (hs ++ List.replicate (H - hs.length) .undef)
def runFn (fn : Func) (c : Code) (as hs : List M) (K : M → List M → Prop) : Prop := bif decide (as.length ≤ N) && decide (hs.length ≤ H) then
    runCode P n N H old orc hasL lorc fuel c (initF N H as hs) fun e s => match e with
      | .exit _ => False
      | _ => match resM P N fn s with
        | some m => retM n N s m K
        | none => False
  else False
end

/-- Code from one frame leads to another. -/
def Leads1 (P : Program) (n N H : Nat) (c : Code) (s : List M) (e : AExit) (s' : List M) : Prop :=
  ∀ E role β a w, E.n = n → (∀ k l, E.β0 k = some l → k < n) → Sim P E N H role β a w s → c.wp P (fun e1 a' w' => ∃ role' β', e1 = e.conc ∧ Sim P E N H role' β' a' w' s') a w
def OneOf (m : (AExit → List M → Prop) → Prop) (G : AExit → List M → Prop) (K : AExit → List M → Prop) : Prop := ∃ e s', K e s' ∧ (∀ K' : AExit → List M → Prop, K' e s' → m K') ∧ G e s'
/-- What is said of a loop is so. -/
def LoopOK (P : Program) (n N H : Nat) (c : Code) (m : List M → (AExit → List M → Prop) → Prop) : Prop := ∀ s K, m s K → OneOf (m s) (Leads1 P n N H (.loop c) s) K

section
variable {P : Program} {n N H : Nat} {old : Nat → Bool} {orc : OrcM} {hasL : Nat → Bool} {lorc : LOrcM} {fuel : Nat}

/-- What a frame is, of which a canonical one is asked. -/
theorem canon_out {s : List M} {K : List M → Prop} (h : canon n N H s K) : ∃ s', K s' ∧ (∀ K' : List M → Prop, K' s' → canon n N H s K') ∧
    ∀ E role β a w, E.n = n → (∀ k l, E.β0 k = some l → k < n) → Sim P E N H role β a w s → ∃ β', Sim P E N H role β' a w s' := by
  have h' := h
  unfold canon at h'
  rw [cond_and] at h'
  refine ⟨_, h'.2, fun K' hK => ?_, fun E role β a w hn hE hS => ?_⟩
  · unfold canon; rw [cond_and]; exact ⟨h'.1, hK⟩
  · have hc : canon n N H s fun x => x = ((s.take N).map (ren (idx (slotsOf n N s (refsL (s.take N))))) ++ ((slotsOf n N s (refsL (s.take N))).map fun k => ren (idx (slotsOf n N s (refsL (s.take N)))) (get s (N + k))) ++ List.replicate (H - (slotsOf n N s (refsL (s.take N))).length) .undef) := by
      unfold canon; rw [cond_and]; exact ⟨h'.1, rfl⟩
    obtain ⟨s', rfl, _, β', hS'⟩ := canon_sim hS hn hE hc
    exact ⟨β', hS'⟩

theorem iter_sim {c : Code} {j : List Nat} {f : List M → (AExit → List M → Prop) → Prop} (hf : ∀ s K, f s K → OneOf (f s) (Leads1 P n N H c s) K) : ∀ (m : Nat) (s : List M) (K : AExit → List M → Prop), iter n N H f j m s K →
    ∃ e s', K e s' ∧ (∀ K' : AExit → List M → Prop, K' e s' → iter n N H f j m s K') ∧ ∀ E role β a w, E.n = n → (∀ k l, E.β0 k = some l → k < n) → Sim P E N H role β a w s → Code.rounds P c (fun e1 a' w' => ∃ role' β', e1 = e.conc ∧ Sim P E N H role' β' a' w' s') m a w
  | 0, _, _, h => h.elim
  | m + 1, s, K, h => by
    obtain ⟨e, s1, h1, h2, h3⟩ := hf s _ h
    have other : ∀ e, e ≠ .normal → (K e (kill N j s1)) → (∀ K' : AExit → List M → Prop, (match e with
        | .normal => canon n N H (kill N j s1) fun s2 => iter n N H f j m s2 K'
        | e => K' e (kill N j s1)) → iter n N H f j (m + 1) s K') → Leads1 P n N H c s e s1 → ∃ e s', K e s' ∧ (∀ K' : AExit → List M → Prop, K' e s' → iter n N H f j (m + 1) s K') ∧ ∀ E role β a w, E.n = n → (∀ k l, E.β0 k = some l → k < n) → Sim P E N H role β a w s → Code.rounds P c (fun e1 a' w' => ∃ role' β', e1 = e.conc ∧ Sim P E N H role' β' a' w' s') (m + 1) a w := by
      intro e hne hK hi hL
      refine ⟨e, _, hK, fun K' hK' => hi K' (by cases e <;> first | exact absurd rfl hne | exact hK'), fun E role β a w hn hE hS => ?_⟩
      rw [rounds_succ]
      refine wp_mono (hL E role β a w hn hE hS) ?_
      rintro e1 a' w' ⟨role', β', rfl, hS'⟩
      have := kill_sim hS' j
      cases e <;> first | exact absurd rfl hne | exact ⟨role', β', rfl, this⟩
    cases e with
    | normal =>
      obtain ⟨s2, k1, k2, k3⟩ := canon_out (P := P) h1
      obtain ⟨e', s', q1, q2, q3⟩ := iter_sim hf m _ K k1
      refine ⟨e', s', q1, fun K' hK => h2 _ (k2 _ (q2 K' hK)), fun E role β a w hn hE hS => ?_⟩
      rw [rounds_succ]
      refine wp_mono (h3 E role β a w hn hE hS) ?_
      rintro e1 a' w' ⟨role', β', rfl, hS'⟩
      obtain ⟨β2, hS2⟩ := k3 E role' β' a' w' hn hE (kill_sim hS' j)
      exact q3 E role' β2 a' w' hn hE hS2
    | exit id => exact other _ (by simp) h1 (fun K' hK => h2 _ hK) h3
    | ret => exact other _ (by simp) h1 (fun K' hK => h2 _ hK) h3

theorem code_sim (hO : OrcOKM P orc) (hm : P.follows .mixedOrders = true) : ∀ (c : Code), (∀ x ∈ allLoops c, hasL (regionOf x) = true → LoopOK P n N H x (lorc (regionOf x))) → ∀ (s : List M) (K : AExit → List M → Prop), runCode P n N H old orc hasL lorc fuel c s K →
    OneOf (runCode P n N H old orc hasL lorc fuel c s) (Leads1 P n N H c s) K
  | .skip, _, s, K, h => ⟨.normal, s, h, fun K' hK => hK, fun E role β a w hn hE hS => wp_skip ⟨role, β, rfl, hS⟩⟩
  | .region id ops draw, _, s, K, h => by
    simp only [runCode] at h
    obtain ⟨s', h1, h2⟩ := region_out hO h
    exact ⟨.normal, s', h1, fun K' hK => h2 _ hK, fun E role β a w hn hE hS => region_sim hO hm (h2 (fun x => x = s') rfl) hS fun a' w' s'' role' β' hK hS' => by subst hK; exact ⟨role', β', rfl, hS'⟩⟩
  | .seq x y, hL, s, K, h => by
    simp only [runCode] at h
    obtain ⟨e, s1, h1, h2, h3⟩ := code_sim hO hm x (fun z hz => hL z (by simp [allLoops, hz])) s _ h
    cases e with
    | normal =>
      obtain ⟨e', s', k1, k2, k3⟩ := code_sim hO hm y (fun z hz => hL z (by simp [allLoops, hz])) s1 K h1
      refine ⟨e', s', k1, fun K' hK => h2 _ (k2 K' hK), fun E role β a w hn hE hS => ?_⟩
      refine wp_seq (wp_mono (h3 E role β a w hn hE hS) ?_)
      rintro e1 a' w' ⟨role', β', rfl, hS'⟩
      exact k3 E role' β' a' w' hn hE hS'
    | exit id =>
      refine ⟨.exit id, s1, h1, fun K' hK => h2 _ hK, fun E role β a w hn hE hS => ?_⟩
      refine wp_seq (wp_mono (h3 E role β a w hn hE hS) ?_)
      rintro e1 a' w' ⟨role', β', rfl, hS'⟩
      exact ⟨role', β', rfl, hS'⟩
    | ret =>
      refine ⟨.ret, s1, h1, fun K' hK => h2 _ hK, fun E role β a w hn hE hS => ?_⟩
      refine wp_seq (wp_mono (h3 E role β a w hn hE hS) ?_)
      rintro e1 a' w' ⟨role', β', rfl, hS'⟩
      exact ⟨role', β', rfl, hS'⟩
  | .cond c x y, hL, s, K, h => by
    cases c <;> simp only [runCode] at h <;> try exact h.elim
    rename_i u
    split at h
    · rename_i b hb
      rw [cond_and, decide_eq_true_eq] at h
      obtain ⟨hu, h⟩ := h
      have he : ∀ E role β a w, Sim P E N H role β a w s → a.eval (.tmp u) = .bool b := fun E role β a w hS => by
        have := hS.tm u hu
        rw [hb] at this
        exact this.bool
      cases b with
      | true =>
        simp only [cond_true] at h
        obtain ⟨e', s', k1, k2, k3⟩ := code_sim hO hm x (fun z hz => hL z (by simp [allLoops, hz])) _ K h
        refine ⟨e', s', k1, fun K' hK => ?_, fun E role β a w hn hE hS => wp_cond (he E role β a w hS) ?_⟩
        · simp only [runCode, hb, cond_true]; rw [cond_and, decide_eq_true_eq]; exact ⟨hu, k2 K' hK⟩
        · rw [set_get hb (by simp)] at k3; exact k3 E role β a w hn hE hS
      | false =>
        simp only [cond_false] at h
        obtain ⟨e', s', k1, k2, k3⟩ := code_sim hO hm y (fun z hz => hL z (by simp [allLoops, hz])) _ K h
        refine ⟨e', s', k1, fun K' hK => ?_, fun E role β a w hn hE hS => wp_cond (he E role β a w hS) ?_⟩
        · simp only [runCode, hb, cond_false]; rw [cond_and, decide_eq_true_eq]; exact ⟨hu, k2 K' hK⟩
        · rw [set_get hb (by simp)] at k3; exact k3 E role β a w hn hE hS
    · exact h.elim
  | .block id c, hL, s, K, h => by
    simp only [runCode] at h
    obtain ⟨e, s1, h1, h2, h3⟩ := code_sim hO hm c hL s _ h
    cases e with
    | normal =>
      refine ⟨.normal, s1, h1, fun K' hK => h2 _ hK, fun E role β a w hn hE hS => wp_block (wp_mono (h3 E role β a w hn hE hS) ?_)⟩
      rintro e1 a' w' ⟨role', β', rfl, hS'⟩
      exact ⟨role', β', rfl, hS'⟩
    | ret =>
      refine ⟨.ret, s1, h1, fun K' hK => h2 _ hK, fun E role β a w hn hE hS => wp_block (wp_mono (h3 E role β a w hn hE hS) ?_)⟩
      rintro e1 a' w' ⟨role', β', rfl, hS'⟩
      exact ⟨role', β', rfl, hS'⟩
    | exit i =>
      by_cases hi : i = id
      · subst hi
        simp only [beq_self_eq_true, cond_true] at h1
        refine ⟨.normal, s1, h1, fun K' hK => h2 _ (by simp only [beq_self_eq_true, cond_true]; exact hK), fun E role β a w hn hE hS => wp_block (wp_mono (h3 E role β a w hn hE hS) ?_)⟩
        rintro e1 a' w' ⟨role', β', rfl, hS'⟩
        show (if i = i then ∃ role' β', Exit.normal = AExit.conc .normal ∧ Sim P E N H role' β' a' w' s1 else _)
        rw [if_pos rfl]
        exact ⟨role', β', rfl, hS'⟩
      · have hb : (i == id) = false := by simpa using hi
        simp only [hb, cond_false] at h1
        refine ⟨.exit i, s1, h1, fun K' hK => h2 _ (by simp only [hb, cond_false]; exact hK), fun E role β a w hn hE hS => wp_block (wp_mono (h3 E role β a w hn hE hS) ?_)⟩
        rintro e1 a' w' ⟨role', β', rfl, hS'⟩
        show (if i = id then _ else ∃ role' β', Exit.exit i = AExit.conc (.exit i) ∧ Sim P E N H role' β' a' w' s1)
        rw [if_neg hi]
        exact ⟨role', β', rfl, hS'⟩
  | .loop c, hL, s, K, h => by
    simp only [runCode] at h
    by_cases hh : hasL (regionOf c) = true
    · simp only [hh, cond_true] at h
      obtain ⟨e, s', h1, h2, h3⟩ := hL c (by simp [allLoops]) hh s K h
      exact ⟨e, s', h1, fun K' hK => by simp only [runCode, hh, cond_true]; exact h2 K' hK, h3⟩
    · simp only [hh, cond_false] at h
      obtain ⟨e, s', h1, h2, h3⟩ := iter_sim (P := P) (c := c) (fun s K hs => code_sim hO hm c (fun z hz => hL z (by simp [allLoops, hz])) s K hs) fuel s K h
      exact ⟨e, s', h1, fun K' hK => by simp only [runCode, hh, cond_false]; exact h2 K' hK, fun E role β a w hn hE hS => wp_loop_rounds fuel (h3 E role β a w hn hE hS)⟩
  | .exit id, _, s, K, h => ⟨.exit id, s, h, fun K' hK => hK, fun E role β a w hn hE hS => wp_exit ⟨role, β, rfl, hS⟩⟩
  | .scope c, hL, s, K, h => by
    obtain ⟨e, s', h1, h2, h3⟩ := code_sim hO hm c hL s K h
    refine ⟨e, s', h1, h2, fun E role β a w hn hE hS => wp_scope_straight (wp_mono (h3 E role β a w hn hE hS) ?_)⟩
    rintro e1 a' w' ⟨role', β', rfl, hS'⟩
    cases e <;> exact ⟨role', β', rfl, hS'⟩
  | .ret, _, s, K, h => ⟨.ret, s, h, fun K' hK => hK, fun E role β a w hn hE hS => wp_ret ⟨role, β, rfl, hS⟩⟩
  | .rangeFunc .., _, _, _, h => h.elim
  | .label _, _, _, _, h => h.elim
  | .goto _, _, _, _, h => h.elim
  | .refuse _, _, _, _, h => h.elim
end
end Go.Proofs.YthhfnggigmfmjaaDoor.Hp

set_option linter.unusedSimpArgs false
set_option linter.unusedVariables false
namespace Go.Proofs.YthhfnggigmfmjaaDoor.Hp
open Go.RowKit

section
variable {P : Program} {n N H : Nat} {old : Nat → Bool} {orc : OrcM} {hasL : Nat → Bool} {lorc : LOrcM} {fuel : Nat}

theorem results_sim {E : Env} {role : Nat → Role} {β : Bet} {a : Act} {w : World} {s : List M} (hS : Sim P E N H role β a w s) : ∀ (rs : List ResultVar) (ms : List M), resOf P N s rs = some ms →
    ∃ vs : List Value, (rs.mapM (resOp a.tmps)).run P w = .ok vs w ∧ vs.length = ms.length ∧ ∀ (i : Nat) (v : Value) (m : M), vs[i]? = some v → ms[i]? = some m → Rm P role β w v m
  | [], ms, h => by simp only [resOf] at h; cases h; exact ⟨[], by simp, rfl, fun i v d hv => by simp at hv⟩
  | .tmp t :: rs, ms, h => by
    simp only [resOf] at h
    split at h
    · rename_i ms' hd
      split at h
      · rename_i hv
        simp only [Bool.and_eq_true, decide_eq_true_eq] at hv
        cases h
        obtain ⟨vs, h1, h2, h3⟩ := results_sim hS rs ms' hd
        refine ⟨a.tmps.getD t Go.undef :: vs, ?_, by simp [h2], fun i v m hi hd' => ?_⟩
        · rw [List.mapM_cons, Sem.run_bind]
          have e9 : (resOp a.tmps (.tmp t)).run P w = .ok (a.tmps.getD t Go.undef) w := rfl
          rw [e9, Result.andThen_ok, Sem.run_bind, h1]; rfl
        · cases i with
          | zero => simp at hi hd'; subst hi; subst hd'; simpa using hS.tm t hv.1
          | succ i => simp at hi hd'; exact h3 i v m hi hd'
      · cases h
    · cases h
  | .cell u t :: rs, ms, h => by
    simp only [resOf] at h
    split at h
    · rename_i ms' hd
      split at h
      · rename_i hu
        simp only [decide_eq_true_eq] at hu
        have hut := hS.tm u hu
        generalize hg : get s u = c at h hut
        cases c <;> try (cases h; done)
        rename_i k off
        simp only at h
        have hso := hS.so k
        generalize hg2 : get s (N + k) = c2 at h hso
        cases c2 <;> try (cases h; done)
        rename_i T cs
        simp only at h
        split at h
        · rename_i m hm
          split at h
          · cases h
            obtain ⟨vs, h1, h2, h3⟩ := results_sim hS rs ms' hd
            obtain ⟨l2, vs', e1, e2, e3, e4, e5, e6, e7⟩ := hso
            generalize hx : a.tmps.getD u Go.undef = xv at hut
            cases hut with
            | ref hβ =>
              rw [e1] at hβ; cases hβ
              have hc : ∀ (k : Nat) (e : M), cs[k]? = some e → vs'[k]? = some (vs'.getD k Go.undef) := fun k e hk => by
                have := (List.getElem?_eq_some_iff.1 hk).1
                have hlt : k < vs'.size := by omega
                simp [hlt]
              obtain ⟨y, hy1, hy2⟩ := run_load_known (P := P) (role := role) (β := β) (w := w) (b := l2.b) (fun k => vs'.getD k Go.undef) hm l2.o
                (fun k e hk => by rw [e2, Nat.zero_add]; simp only [World.cell?, e4]; simpa using hc k e hk) (fun k e hk => (e7 k _ e (hc k e hk) hk).1) (fun k e hk => (e7 k _ e (hc k e hk) hk).2)
              refine ⟨y :: vs, ?_, by simp [h2], fun i v d hi hd' => ?_⟩
              · rw [List.mapM_cons, Sem.run_bind]
                have e9 : (resOp a.tmps (.cell u t)).run P w = .ok y w := by
                  simp only [resOp, hx, asAddr, Sem.run_bind, Sem.run_pure, Result.andThen_ok]
                  exact hy1
                rw [e9, Result.andThen_ok, Sem.run_bind, h1]; rfl
              · cases i with
                | zero => simp at hi hd'; subst hi; subst hd'; exact hy2
                | succ i => simp at hi hd'; exact h3 i v d hi hd'
          · cases h
        · cases h
      · cases h
    · cases h

theorem resM_sim {E : Env} {role : Nat → Role} {β : Bet} {a : Act} {w : World} {s : List M} (hS : Sim P E N H role β a w s) {fn : Func} {m : M} (h : resM P N fn s = some m) : ∃ v, (results fn a.tmps).run P w = .ok v w ∧ Rm P role β w v m := by
  unfold resM at h
  have key : ∀ ms, resOf P N s fn.results.toList = some ms → ∃ vs : List Value, vs.length = ms.length ∧ (results fn a.tmps).run P w = .ok (if h : vs.toArray.size = 1 then vs.toArray[0] else .tuple vs.toArray) w ∧ ∀ (i : Nat) (v : Value) (m : M), vs[i]? = some v → ms[i]? = some m → Rm P role β w v m := by
    intro ms hms
    obtain ⟨vs, h1, h2, h3⟩ := results_sim hS _ _ hms
    refine ⟨vs, h2, ?_, h3⟩
    have e9 : results fn a.tmps = (do let vs ← fn.results.mapM (resOp a.tmps); pure (if h : vs.size = 1 then vs[0] else .tuple vs)) := rfl
    rw [e9, Sem.run_bind, Array.mapM_eq_mapM_toList, Sem.run_map, h1]
    rfl
  split at h
  · rename_i m' hd
    cases h
    obtain ⟨vs, h2, h1, h3⟩ := key _ hd
    obtain ⟨v, rfl⟩ := List.length_eq_one_iff.1 h2
    exact ⟨v, by simpa using h1, h3 0 v m rfl rfl⟩
  · rename_i ms hne hd
    obtain ⟨vs, h2, h1, h3⟩ := key _ hd
    have hn1 : vs.toArray.size ≠ 1 := by
      intro h; simp at h
      rw [h2] at h
      obtain ⟨d, rfl⟩ := List.length_eq_one_iff.1 h
      exact hne d rfl
    rw [dif_neg hn1] at h1
    split at h
    · rename_i ds hds
      cases h
      have e := pureAll_get hds
      subst e
      refine ⟨_, h1, .d (.tup (by simpa using h2) fun i v d hi hd => ?_) rfl⟩
      have := h3 i v (.d d) (by simpa using hi) (by simp [hd])
      cases this with | d h _ => exact h
    · cases h
      exact ⟨_, h1, .tup (by simpa using h2) fun i v d hi hd => h3 i v d (by simpa using hi) hd⟩
  · cases h

/-- A frame at a call's beginning. -/
theorem enter_sim {role : Nat → Role} {β : Bet} {w : World} {args : Array Value} {as hs : List M} (hp : HeapS P ⟨w, role, hs.length, β⟩ role β w (get hs)) (hle : as.length ≤ N) (hh : hs.length ≤ H) (hsz : args.size = as.length)
    (hargs : ∀ (i : Nat) (x : Value) (e : M), args[i]? = some x → as[i]? = some e → Rm P role β w x e) :
    Sim P ⟨w, role, hs.length, β⟩ N H role β { tmps := args ++ Array.replicate (N - args.size) Go.undef, defers := [] } w (initF N H as hs) := by
  have htl : (as ++ List.replicate (N - as.length) M.undef).length = N := by simp; omega
  refine hp.sim rfl (by simp; omega) (by unfold initF; rw [List.length_append, htl]; simp; omega) (fun k => ?_) fun t ht => ?_
  · unfold initF get
    rw [List.getD_eq_getElem?_getD, List.getElem?_append_right (by rw [htl]; omega), htl, Nat.add_sub_cancel_left, List.getD_eq_getElem?_getD]
    by_cases hk : k < hs.length
    · rw [List.getElem?_append_left hk]
    · rw [List.getElem?_append_right (by omega), List.getElem?_replicate, List.getElem?_eq_none (Nat.le_of_not_lt hk)]
      split <;> rfl
  · have e1 : get (initF N H as hs) t = get as t := by
      unfold initF get
      rw [List.getD_eq_getElem?_getD, List.getElem?_append_left (by rw [htl]; exact ht), List.getD_eq_getElem?_getD]
      by_cases hk : t < as.length
      · rw [List.getElem?_append_left hk]
      · rw [List.getElem?_append_right (by omega), List.getElem?_replicate, List.getElem?_eq_none (Nat.le_of_not_lt hk)]
        split <;> rfl
    rw [e1]
    by_cases hk : t < as.length
    · have e2 : (args ++ Array.replicate (N - args.size) Go.undef).getD t Go.undef = args[t]'(by omega) := by
        rw [Array.getD_eq_getD_getElem?, Array.getElem?_append_left (by omega)]
        simp [show t < args.size by omega]
      rw [e2]
      exact hargs t _ _ (by simp [show t < args.size by omega]) (by simp [get, hk])
    · rw [get_ge (by omega)]; exact .undef

theorem fn_sim (hO : OrcOKM P orc) (hm : P.follows .mixedOrders = true) {f : Nat} {fn : Func} {c : Code} (hf : P.funcs[f]? = some fn) (hname : (fn.name == "runtime.NumGoroutine") = false) (hb : fn.body = some c) {as hs : List M}
    (hL : ∀ x ∈ allLoops c, hasL (regionOf x) = true → LoopOK P hs.length fn.ntmps H x (lorc (regionOf x))) {K : M → List M → Prop} (h : runFn P hs.length fn.ntmps H old orc hasL lorc fuel fn c as hs K) :
    ∃ m hs', K m hs' ∧ (∀ K' : M → List M → Prop, K' m hs' → runFn P hs.length fn.ntmps H old orc hasL lorc fuel fn c as hs K') ∧ PSM P f as hs m hs' := by
  unfold runFn at h ⊢
  rw [cond_and, Bool.and_eq_true, decide_eq_true_eq, decide_eq_true_eq] at h
  obtain ⟨⟨hle, hh⟩, h⟩ := h
  obtain ⟨e, s', h1, h2, h3⟩ := code_sim hO hm c hL _ _ h
  have hres : ∃ m, resM P fn.ntmps fn s' = some m ∧ retM hs.length fn.ntmps s' m K ∧ (∀ i, e ≠ .exit i) := by
    cases e with
    | exit i => exact h1.elim
    | normal =>
      simp only at h1
      split at h1
      · exact ⟨_, by assumption, h1, by simp⟩
      · exact h1.elim
    | ret =>
      simp only at h1
      split at h1
      · exact ⟨_, by assumption, h1, by simp⟩
      · exact h1.elim
  obtain ⟨m, hm', hK, hne⟩ := hres
  unfold retM at hK
  refine ⟨_, _, hK, fun K' hK' => ?_, ?_⟩
  · rw [cond_and, Bool.and_eq_true, decide_eq_true_eq, decide_eq_true_eq]
    refine ⟨⟨hle, hh⟩, h2 _ ?_⟩
    cases e with
    | exit i => exact absurd rfl (hne i)
    | normal => simp only [hm']; exact hK'
    | ret => simp only [hm']; exact hK'
  intro role β w args hp hsz hargs
  have hE : ∀ k l, (⟨w, role, hs.length, β⟩ : Env).β0 k = some l → k < hs.length := fun k l hk => by
    rcases Nat.lt_or_ge k hs.length with h0 | h0
    · exact h0
    · have := hp.so k
      rw [get_ge h0] at this
      have hk' : β k = some l := hk
      rw [this] at hk'; cases hk'
  unfold CallsV
  rw [MuLone.run_callFunc_enter hf hname hb]
  refine calls_of_wp hf hb ?_
  refine wp_mono (h3 ⟨w, role, hs.length, β⟩ role β _ w rfl hE (enter_sim hp hle hh hsz hargs)) ?_
  rintro e1 a' w' ⟨role', β', rfl, hS'⟩
  obtain ⟨v, hv, hrd⟩ := resM_sim hS' hm'
  obtain ⟨hnd, r, hr, _⟩ := reachS_spec (N := fn.ntmps) (s := s') 400 (refs m ++ (List.range hs.length).flatMap fun k => refs (get s' (fn.ntmps + k))) (List.range hs.length) List.nodup_range
  have hret := hS'.heap.ren hnd hr hE
  have fin : ∃ v, (results fn a'.tmps).run P w' = .ok v w' ∧ ∃ v1 role' β', Ending.returned v = .returned v1 ∧ HeapS P ⟨w, role, hs.length, β⟩ role' β' w' (get ((slotsOf hs.length fn.ntmps s' (refs m)).map fun k => ren (idx (slotsOf hs.length fn.ntmps s' (refs m))) (get s' (fn.ntmps + k)))) ∧ Rm P role' β' w' v1 (ren (idx (slotsOf hs.length fn.ntmps s' (refs m))) m) := by
    refine ⟨v, hv, v, role', bren β' (slotsOf hs.length fn.ntmps s' (refs m)), rfl, ?_, hrd.ren bren_ren⟩
    have e : get ((slotsOf hs.length fn.ntmps s' (refs m)).map fun k => ren (idx (slotsOf hs.length fn.ntmps s' (refs m))) (get s' (fn.ntmps + k))) = fun j => match (slotsOf hs.length fn.ntmps s' (refs m))[j]? with
        | some k => Hp.ren (idx (slotsOf hs.length fn.ntmps s' (refs m))) (get s' (fn.ntmps + k))
        | none => .undef := by
      funext j
      unfold get
      rw [List.getD_eq_getElem?_getD, List.getElem?_map]
      cases (slotsOf hs.length fn.ntmps s' (refs m))[j]? <;> rfl
    rw [e]
    exact hret
  cases e with
  | exit i => exact absurd rfl (hne i)
  | normal => exact ⟨hS'.defers, fin⟩
  | ret => exact ⟨hS'.defers, fin⟩

/-- A contract that speaks of values alone. -/
theorem psm_of_ps {f : Nat} {ds : List D} {d : D} (h : PS P f ds d) : PSM P f (ds.map M.d) [] (.d d.strip) [] := by
  intro role β w args hp hsz hargs
  have hβ : ∀ k, β k = none := fun k => hp.so k
  have hc := h role w args hp.low hp.mask (by simpa using hsz) fun i x e hx he => by
    have := hargs i x (.d e) hx (by simp [he])
    cases this with | d h _ => exact h
  have fin : ∀ e w', (∃ v role', e = Ending.returned v ∧ Exd w w' ∧ (∀ k, k < w.heap.size → role' k = role k) ∧ (∀ k, role' k ≠ .none → k < w'.heap.size) ∧ Rd P role' w' v d) → ∃ v role' β', e = Ending.returned v ∧ HeapS P ⟨w, role, ([] : List M).length, β⟩ role' β' w' (get []) ∧ Rm P role' β' w' v (.d d.strip) := by
    rintro e w' ⟨v, role', rfl, hx, hold, hlow, hrd⟩
    have hmk : ∀ k, k < w.heap.size → Proofs.YthhfnggigmfmjaaDoor.mask role' k = role k := fun k hk => mask_id hp.mask (hold k hk)
    refine ⟨v, Proofs.YthhfnggigmfmjaaDoor.mask role', β, rfl, ?_, .d (hrd.strip.evo ⟨fun b n hp => pub_mask.2 hp, fun _ _ _ _ _ => rfl⟩) (strip_strip _)⟩
    refine { ext := hx.mono (Nat.zero_le _), frame := fun b hb _ => hx.block b hb, keep := fun b n o hpb ho => ?_, pub0 := fun b n hpb => ?_, mask := fun k => ⟨fun t => mask_loc, fun lim p => mask_own⟩, roleF := fun b hb _ => hmk b hb, low := fun k hk => hlow k fun e => hk (by unfold Proofs.YthhfnggigmfmjaaDoor.mask; rw [e]), lowB := fun k l hl => (by rw [hβ k] at hl; cases hl), bet0 := fun k l hl => hl, new := fun k l hl => (by rw [hβ k] at hl; cases hl), inj := fun k k' l l' hk => (by simp [get, M.alive] at hk), so := fun k => hβ k }
    · obtain ⟨lim, ow, h1, _⟩ := hpb
      have h1' : role b = .row lim ow := h1
      exact hx.cell (p := ⟨b, o, none⟩) (hp.low b (by rw [h1']; simp))
    · obtain ⟨lim, ow, h1, h2⟩ := hpb
      have h1' : role b = .row lim ow := h1
      exact ⟨lim, ow, by rw [hmk b (hp.low b (by rw [h1']; simp))]; exact h1, h2⟩
  unfold CallsV at hc ⊢
  generalize (callFunc f args).run P w = r at hc ⊢
  match r, hc with
  | .ok (.enter g as) w1, hc => exact Calls.mono hc fin
  | .ok (.value v) w1, hc => exact fin _ _ hc
end

/-- What is given to a run: contracts of functions that speak of values alone; of others; of loops; how many rounds of the other loops; how many slots. -/
structure Ctx where
  oldHas : Nat → Bool
  oorc : Orc
  has : Nat → Bool
  orc : OrcM
  hasL : Nat → Nat → Bool
  lorc : Nat → Nat → LOrcM
  fuel : Nat
  H : Nat
/-- A call: by its contract, or walked into. -/
def callX (P : Program) (C : Ctx) : Nat → OrcM
  | 0 => fun _ _ _ _ => False
  | n + 1 => fun f as hs K => bif C.oldHas f then (match pureAll as, hs with
      | some ds, [] => C.oorc f ds fun d => K (.d d.strip) []
      | _, _ => False)
    else bif C.has f then C.orc f as hs K else match P.funcs[f]? with
    | some fn => match fn.body with
      | some c => runFn P hs.length fn.ntmps C.H C.oldHas (callX P C n) (C.hasL f) (C.lorc f hs.length) C.fuel fn c as hs K
      | none => False
    | none => False
structure CtxOK (P : Program) (C : Ctx) : Prop where
  mixed : P.follows .mixedOrders = true
  names : ∀ (f : Nat) (fn : Func), P.funcs[f]? = some fn → (fn.name == "runtime.NumGoroutine") = false
  oorc : ∀ f ds K, C.oldHas f = true → C.oorc f ds K → ∃ d, K d ∧ (∀ K' : D → Prop, K' d → C.oorc f ds K') ∧ PS P f ds d
  orc : ∀ f as hs K, C.has f = true → C.orc f as hs K → ∃ m hs', K m hs' ∧ (∀ K' : M → List M → Prop, K' m hs' → C.orc f as hs K') ∧ PSM P f as hs m hs'
  loop : ∀ (f : Nat) (fn : Func) (c : Code) (n : Nat), P.funcs[f]? = some fn → fn.body = some c → ∀ x ∈ allLoops c, C.hasL f (regionOf x) = true → LoopOK P n fn.ntmps C.H x (C.lorc f n (regionOf x))
theorem callX_ok {P : Program} {C : Ctx} (hC : CtxOK P C) : ∀ n, OrcOKM P (callX P C n)
  | 0 => fun _ _ _ _ h => h.elim
  | n + 1 => fun f as hs K h => by
    simp only [callX] at h ⊢
    by_cases ho : C.oldHas f = true
    · simp only [ho, cond_true] at h ⊢
      split at h
      · rename_i ds hds
        obtain ⟨d, h1, h2, h3⟩ := hC.oorc f ds _ ho h
        have e := pureAll_get hds
        refine ⟨_, _, h1, fun K' hK => h2 _ hK, ?_⟩
        rw [e]; exact psm_of_ps h3
      · exact h.elim
    · simp only [ho, cond_false] at h ⊢
      by_cases hh : C.has f = true
      · simp only [hh, cond_true] at h ⊢
        exact hC.orc f as hs K hh h
      · simp only [hh, cond_false] at h ⊢
        split at h
        · rename_i fn hf
          split at h
          · rename_i c hc
            obtain ⟨m, hs', h1, h2, h3⟩ := fn_sim (callX_ok hC n) hC.mixed hf (hC.names f fn hf) hc (hC.loop f fn c hs.length hf hc) h
            exact ⟨m, hs', h1, fun K' hK => h2 K' hK, h3⟩
          · exact h.elim
        · exact h.elim
/-- A contract, out of a run. -/
theorem callX_psm {P : Program} {C : Ctx} (hC : CtxOK P C) {n f : Nat} {as hs : List M} {m : M} {hs' : List M} (h : callX P C n f as hs fun x y => x = m ∧ y = hs') : PSM P f as hs m hs' := by
  obtain ⟨m', hs2, ⟨rfl, rfl⟩, _, h2⟩ := callX_ok hC n f as hs _ h
  exact h2
end Go.Proofs.YthhfnggigmfmjaaDoor.Hp
