/-
  Operations on what a walk knows against the operations themselves: moves, variables, loads and stores. No program in sight.
-/
import Derived.Test.YtnjhmlnmdnocmaaAbsC
namespace Go.Proofs.Ytnjhmlnmdnocmaa
set_option linter.unusedSimpArgs false
set_option linter.unusedVariables false
open Go.RowKit
open Look (ret rd chk)

def apply (ws : List (Nat × D)) (s : List D) : List D := ws.foldl (fun s p => s.set p.1 p.2) s

section
variable {P : Program} {orc : Orc} {E : Env} {A : List Nat} {role : Nat → Role} {a : Act} {w : World} {s : List D} {l : List Nat}

theorem wp_value {o : Oper} {v : Value} {w' : World} {next : Act → World → Prop} {Q : Exit → Act → World → Prop} (h : (execOp a.eval o).run P w = .ok (.value v) w') (k : next (a.put o.dst v) w') : Oper.wp P o a w next Q := by
  unfold Oper.wp; rw [h]; exact k
theorem wp_skip' {o : Oper} {w' : World} {next : Act → World → Prop} {Q : Exit → Act → World → Prop} (h : (execOp a.eval o).run P w = .ok .skip w') (k : next (a.put o.dst undef) w') : Oper.wp P o a w next Q := by
  unfold Oper.wp; rw [h]; exact k

theorem strip_strip (d : D) : d.strip.strip = d.strip := by cases d <;> rfl
theorem isVal_strip (d : D) : d.strip.isVal = d.isVal := by cases d <;> rfl

theorem rdO_sim (hS : Sim P E A role a w s) {t : TypeId} {x : Operand} {K : D → List Nat → Prop} (h : (rdO P t x).run orc s l K) :
    ∃ d l', K d l' ∧ d.strip = d ∧ (d.isVal = true → Rd P role w (a.eval x) d) := by
  cases x with
  | tmp u =>
    refine ⟨_, _, h, strip_strip _, fun hv => ?_⟩
    rw [isVal_strip] at hv
    exact ((hS.tm u).ro hv).1.strip
  | const v =>
    simp only [rdO] at h
    split at h
    · rename_i d hd
      exact ⟨_, _, h, strip_strip _, fun _ => (lit_rd hd).strip⟩
    · exact h.elim
  | func f => exact ⟨_, _, h, rfl, fun _ => .v rfl⟩
  | global g => exact h.elim

theorem rdV_sim (hS : Sim P E A role a w s) {t : TypeId} {x : Operand} {K : D → List Nat → Prop} (h : (rdV P t x).run orc s l K) :
    ∃ d l', K d l' ∧ d.strip = d ∧ d.isVal = true ∧ Rd P role w (a.eval x) d := by
  rw [rdV, run_bind] at h
  obtain ⟨d, l', h1, h2, h3⟩ := rdO_sim hS h
  exact ⟨d, l', h1.2, h2, h1.1, h3 h1.1⟩

theorem rdAll_sim (hS : Sim P E A role a w s) : ∀ (xs : List (TypeId × Operand)) (l : List Nat) (K : List D → List Nat → Prop), (rdAll P xs).run orc s l K →
    ∃ ds l', K ds l' ∧ ds.length = xs.length ∧ ∀ (i : Nat) (x : TypeId × Operand) (d : D), xs[i]? = some x → ds[i]? = some d → Rd P role w (a.eval x.2) d ∧ d.strip = d
  | [], l, K, h => ⟨[], l, h, rfl, fun i x d hx => by simp at hx⟩
  | (t, x) :: xs, l, K, h => by
    rw [rdAll, run_bind] at h
    obtain ⟨d, l1, h1, h2, _, h3⟩ := rdV_sim hS h
    rw [run_bind] at h1
    obtain ⟨ds, l2, h4, h5, h6⟩ := rdAll_sim hS xs _ _ h1
    refine ⟨d :: ds, l2, h4, by simp [h5], fun i y e hy he => ?_⟩
    cases i with
    | zero => simp at hy he; subst hy; subst he; exact ⟨h3, h2⟩
    | succ i => simp at hy he; exact h6 i y e hy he

theorem putW_sim {o : Oper} {d : D} {ws : List (Nat × D)} {K : List (Nat × D) → List Nat → Prop} (h : (putW o d ws).run orc s l K) :
    ∃ l', (∀ t, o.dst = some t → (get s t).isObj = false) ∧ K (ws ++ (o.dst.toList.map fun t => (t, d))) l' := by
  unfold putW at h
  cases hd : o.dst with
  | none => rw [hd] at h; exact ⟨l, (fun t ht => by cases ht), by simpa [Look.run] using h⟩
  | some t =>
    rw [hd] at h
    refine ⟨_, fun u hu => ?_, h.2⟩
    cases hu
    have := h.1
    simpa using this

/-- The operation's temporary gets a value of one world. -/
theorem put_sim (hS : Sim P E A role a w s) {o : Oper} {x : Value} {d : D} (hno : ∀ t, o.dst = some t → (get s t).isObj = false) (hd : Rd P role w x d) (hs : d.strip = d) :
    Sim P E A role (a.put o.dst x) w (apply ([] ++ (o.dst.toList.map fun t => (t, d))) s) := by
  cases ho : o.dst with
  | none => exact hS
  | some t =>
    refine hS.put (RO.rt (hd.ro hs)) (hno t ho) (fun u off e => ?_) ?_
    · subst e; have := hd.isVal; simp [D.isVal] at this
    · cases hd <;> rfl

/-- A pure operation: its value is known, the world is as it was. -/
theorem pure_sim (hS : Sim P E A role a w s) {o : Oper} {x : Value} {d : D} {K : List (Nat × D) → List Nat → Prop} {Q : Exit → Act → World → Prop}
    (h : (putW o d []).run orc s l K) (hr : (execOp a.eval o).run P w = .ok (.value x) w) (hd : Rd P role w x d) (hs : d.strip = d) :
    Oper.wp P o a w (fun a' w' => ∃ ws l' role', K ws l' ∧ Sim P E A role' a' w' (apply ws s)) Q := by
  obtain ⟨l', hno, hK⟩ := putW_sim h
  exact wp_value hr ⟨_, l', role, hK, put_sim hS hno hd hs⟩

/-- A nil slice is ours: it has no row. -/
theorem ro_nil (T : TypeId) (p : Nat × Option Nat) : RO P E role w p (.slice none 0 0) (.list true T []) := ⟨.nil, fun _ _ _ => Or.inl rfl⟩
theorem nil_sim (hS : Sim P E A role a w s) {o : Oper} {T : TypeId} {K : List (Nat × D) → List Nat → Prop} {Q : Exit → Act → World → Prop}
    (h : (putW o (.list true T []) []).run orc s l K) (hr : (execOp a.eval o).run P w = .ok (.value (.slice none 0 0)) w) :
    Oper.wp P o a w (fun a' w' => ∃ ws l' role', K ws l' ∧ Sim P E A role' a' w' (apply ws s)) Q := by
  obtain ⟨l', hno, hK⟩ := putW_sim h
  refine wp_value hr ⟨_, l', role, hK, ?_⟩
  cases ho : o.dst with
  | none => exact hS
  | some t => exact hS.put (RO.rt (ro_nil T _)) (hno t ho) (fun u off e => by cases e) rfl

theorem info_of_underlying {t : TypeId} {d : TypeDesc} (h : P.underlying t = some d) : ∃ i, P.info? t = some i := by
  unfold Program.underlying at h
  cases hi : P.info? t with
  | none => simp [hi] at h
  | some i => exact ⟨i, rfl⟩
theorem run_sizeOf' {t : TypeId} {i : TypeInfo} (h : P.info? t = some i) : (sizeOf t).run P w = .ok (P.cellsOf t) w := by
  simp [sizeOf, typeInfo, h, Program.cellsOf]
theorem run_isAgg' {t : TypeId} {b : Bool} (h : aggOf P t = some b) : (isAgg t).run P w = .ok b w ∧ ∃ i, P.info? t = some i := by
  unfold aggOf at h
  unfold isAgg
  cases hu : P.underlying t with
  | none => simp [hu] at h
  | some d =>
    refine ⟨?_, info_of_underlying hu⟩
    rw [Sem.run_bind, run_underlying hu w]
    cases d <;> simp [hu] at h <;> subst h <;> rfl

theorem Addr.add_lit' (b o i : Nat) : (⟨b, o, none⟩ : Addr).add i = ⟨b, o + i, none⟩ := by unfold Addr.add; split <;> simp_all

/-- A load, of cells that are known. -/
theorem run_loadVar_known {t : TypeId} {b off : Nat} {cs : List D} {d : D} (f : Nat → Value) (hd : partD P t cs off = some d) (o : Nat)
    (hc : ∀ (k : Nat) (e : D), cs[k]? = some e → w.cell? ⟨b, o + k, none⟩ = some (f k)) (h1 : ∀ (k : Nat) (e : D), cs[k]? = some e → (f k).oneCell' = true) (hr : ∀ (k : Nat) (e : D), cs[k]? = some e → Rd P role w (f k) e) :
    ∃ x, (loadVar t ⟨b, o + off, none⟩).run P w = .ok x w ∧ Rd P role w x d ∧ (aggOf P t = some false → x = f off ∧ cs[off]? = some d) := by
  unfold partD at hd
  cases ha : aggOf P t with
  | none => simp [ha] at hd
  | some g =>
    obtain ⟨hg, i, hi⟩ := run_isAgg' (w := w) ha
    cases g with
    | false =>
      simp only [ha] at hd
      refine ⟨f off, ?_, hr off d hd, fun _ => ⟨rfl, hd⟩⟩
      simp [loadVar, hg, run_load, hc off d hd]
    | true =>
      simp only [ha] at hd
      split at hd
      · rename_i hle
        cases hd
        have hload := run_loadCells (P := P) w ⟨b, o + off, none⟩ (P.cellsOf t) (fun k => f (off + k)) (fun j hj => by
          rw [Addr.add_lit', Nat.add_assoc]
          exact hc (off + j) cs[off + j] (by simp [show off + j < cs.length by omega]))
        refine ⟨.agg ((List.range (P.cellsOf t)).map fun k => f (off + k)).toArray, ?_, ?_, (fun h => by cases h)⟩
        · simp [loadVar, hg, run_sizeOf' hi, hload]
        · refine .agg (by simp; omega) (fun i x hx => ?_) (fun i x d hx hd => ?_)
          · simp [List.getElem?_map, List.getElem?_range] at hx
            obtain ⟨j, hj, rfl⟩ := hx
            have := (List.getElem?_eq_some_iff.1 hj)
            obtain ⟨hlt, e⟩ := this
            simp at hlt e
            subst e
            exact h1 (off + i) cs[off + i] (by simp [show off + i < cs.length by omega])
          · simp [List.getElem?_map] at hx
            obtain ⟨j, hj, rfl⟩ := hx
            obtain ⟨hlt, e⟩ := List.getElem?_eq_some_iff.1 hj
            simp at hlt e
            subst e
            rw [List.getElem?_take, if_pos hlt, List.getElem?_drop] at hd
            exact hr (off + i) d hd
      · cases hd
end
end Go.Proofs.Ytnjhmlnmdnocmaa
