/-
  Variables, loads, stores, addresses: each operation's step. No program in sight.
-/
import Derived.Test.YtnjhmlnmdnocmaaAbsE
namespace Go.Proofs.Ytnjhmlnmdnocmaa
set_option linter.unusedSimpArgs false
set_option linter.unusedVariables false
open Go.RowKit
open Look (ret rd chk)

section
variable {P : Program} {orc : Orc} {E : Env} {A : List Nat} {role : Nat → Role} {a : Act} {w : World} {s : List D} {l : List Nat}
variable {K : List (Nat × D) → List Nat → Prop} {Q : Exit → Act → World → Prop}

theorem apply_nil : apply [] s = s := rfl
theorem apply_cons {p : Nat × D} {ws : List (Nat × D)} : apply (p :: ws) s = apply ws (s.set p.1 p.2) := rfl
theorem apply_dst {o : Oper} {d : D} {ws : List (Nat × D)} : apply (ws ++ o.dst.toList.map fun t => (t, d)) s = match o.dst with | none => apply ws s | some t => (apply ws s).set t d := by
  unfold apply
  rw [List.foldl_append]
  cases o.dst <;> rfl

/-- A new block is a variable's. -/
def newLoc (role : Nat → Role) (H t : Nat) : Nat → Role := fun k => if k = H then .loc t else role k
theorem newLoc_ne {role : Nat → Role} {H t k : Nat} (h : k ≠ H) : newLoc role H t k = role k := if_neg h

/-- An operation that makes a variable. -/
theorem new_sim (hS : Sim P E A role a w s) {o : Oper} {T : TypeId} {cells : Array Value} {ds : List D} (h : (putW o (.obj T ds) []).run orc s l K)
    (hr : (execOp a.eval o).run P w = .ok (.value (.pointer (some ⟨w.heap.size, 0, none⟩))) (w.alloc (.cells cells T)))
    (hl : cells.size = ds.length) (hc : ∀ (i : Nat) (y : Value) (d : D), cells[i]? = some y → ds[i]? = some d → y.oneCell' = true ∧ Rd P role w y d ∧ isList d = false ∨ y = .slice none 0 0 ∧ ∃ T, d = .list true T []) :
    Oper.wp P o a w (After P E A s K) Q := by
  obtain ⟨l', hno, hK⟩ := putW_sim h
  suffices hh : ∃ role', Sim P E A role' (a.put o.dst (.pointer (some ⟨w.heap.size, 0, none⟩))) (w.alloc (.cells cells T)) (apply ([] ++ o.dst.toList.map fun t => (t, D.obj T ds)) s) by
    obtain ⟨role', hh⟩ := hh
    exact wp_value hr ⟨_, l', role', hK, hh⟩
  have hEw := hS.ext.size
  have hfree : ∀ k, role k ≠ .none → k < w.heap.size := hS.low
  have hev : ∀ (r : Nat → Role), (∀ b n, pubAt role b n → pubAt r b n) → Evo role w r (w.alloc (.cells cells T)) := fun r hr => ⟨hr, fun b n o hp _ => by
    obtain ⟨lim, ow, h1, _⟩ := hp
    exact World.cell?_of_block (w := w) (a := ⟨b, o, none⟩) (Below.heap_alloc _ _ _ (hfree b (by rw [h1]; simp)))⟩
  cases ho : o.dst with
  | none =>
    refine ⟨role, ?_⟩
    have hk : Kept role w role (w.alloc (.cells cells T)) none := ⟨hev role fun _ _ h => h, fun _ _ h => h, fun b t h _ => Below.heap_alloc _ _ _ (hfree b (by rw [h]; simp)), fun b lim p h _ => ⟨h, Below.heap_alloc _ _ _ (hfree b (by rw [h]; simp))⟩⟩
    exact hS.turn hS.ext.al (fun _ _ => rfl) (fun k hk => by have := hS.low k hk; simp; omega) hS.inj fun t => (hS.tm t).keep hk (by simp) (by simp)
  | some t =>
    have hS1 := hS.dead (hno t ho)
    refine ⟨newLoc (dead role t) w.heap.size t, ?_⟩
    have hne : ∀ k, dead role t k ≠ .none → k ≠ w.heap.size := fun k hk e => by have := hS1.low k hk; omega
    have pub : ∀ b n, pubAt (dead role t) b n → pubAt (newLoc (dead role t) w.heap.size t) b n := by
      rintro b n ⟨lim, ow, h1, h2⟩
      exact ⟨lim, ow, by rw [newLoc_ne (hne b (by rw [h1]; simp))]; exact h1, h2⟩
    have hev1 : Evo (dead role t) w (newLoc (dead role t) w.heap.size t) (w.alloc (.cells cells T)) := ⟨pub, fun b n o hp _ => by
      obtain ⟨lim, ow, h1, _⟩ := hp
      exact World.cell?_of_block (w := w) (a := ⟨b, o, none⟩) (Below.heap_alloc _ _ _ (hS1.low b (by rw [h1]; simp)))⟩
    have hk : Kept (dead role t) w (newLoc (dead role t) w.heap.size t) (w.alloc (.cells cells T)) none :=
      ⟨hev1, fun b u h => by rw [newLoc_ne (hne b (by rw [h]; simp))]; exact h, fun b u h _ => Below.heap_alloc _ _ _ (hS1.low b (by rw [h]; simp)),
        fun b lim p h _ => ⟨by rw [newLoc_ne (hne b (by rw [h]; simp))]; exact h, Below.heap_alloc _ _ _ (hS1.low b (by rw [h]; simp))⟩⟩
    have hS2 : Sim P E A (newLoc (dead role t) w.heap.size t) a (w.alloc (.cells cells T)) s := by
      refine hS1.turn hS.ext.al (fun k hk => newLoc_ne (by omega)) (fun k hk => ?_) (fun b b' u hb hb' => ?_) fun u => (hS1.tm u).keep hk (by simp) (by simp)
      · simp only [size_alloc']
        by_cases e : k = w.heap.size
        · omega
        · rw [newLoc_ne e] at hk; have := hS1.low k hk; omega
      · have f : ∀ b, newLoc (dead role t) w.heap.size t b = .loc u → b = w.heap.size ∧ u = t ∨ b ≠ w.heap.size ∧ dead role t b = .loc u ∧ u ≠ t := by
          intro b hb
          unfold newLoc at hb
          split at hb
          · rename_i e; cases hb; exact .inl ⟨e, rfl⟩
          · rename_i e; exact .inr ⟨e, hb, (dead_loc.1 hb).2⟩
        rcases f b hb with ⟨e1, e2⟩ | ⟨e1, e2, e3⟩ <;> rcases f b' hb' with ⟨e1', e2'⟩ | ⟨e1', e2', e3'⟩
        · omega
        · exact absurd e2 e3'
        · exact absurd e2' e3
        · exact hS1.inj b b' u e2 e2'
    show Sim P E A _ (a.put (some t) _) _ (s.set t _)
    have key : RT P E (newLoc (dead role t) w.heap.size t) (w.alloc (.cells cells T)) t (.pointer (some ⟨w.heap.size, 0, none⟩)) (.obj T ds) := by
      refine ⟨w.heap.size, cells, rfl, if_pos rfl, hEw, at_alloc' _ _, hl, fun i y d hy hd => ?_⟩
      rcases hc i y d hy hd with ⟨h1, h2, h3⟩ | ⟨rfl, T', rfl⟩
      · have ev : Evo role w (newLoc (dead role t) w.heap.size t) (w.alloc (.cells cells T)) := ⟨fun b n hp => pub b n (pub_dead.2 hp), fun b n o hp ho => hev1.cell b n o (pub_dead.2 hp) ho⟩
        refine ⟨h1, h2.evo ev, fun T' es he => ?_⟩
        rw [he] at h3; simp [isList] at h3
      · exact ⟨rfl, .nil, fun _ _ _ => .inl rfl⟩
    exact {
      ext := hS2.ext, old := hS2.old, low := hS2.low, defers := hS2.defers, inj := hS2.inj
      size := by simp [Act.put, hS2.size]
      tm := fun u => by
        show RT _ _ _ _ u ((a.tmps.setIfInBounds t _).getD u undef) _
        rw [getD_set, get_set, hS.size]
        split
        · rename_i e; obtain ⟨rfl, _⟩ := e; exact key
        · exact hS2.tm u
      live := fun x u off hx => by
        have hx' : get s x = .addr u off := by
          rw [get_set] at hx; split at hx
          · cases hx
          · exact hx
        obtain ⟨h1, T', cs, h2⟩ := hS.live x u off hx'
        refine ⟨h1, T', cs, ?_⟩
        rw [get_set, if_neg]
        · exact h2
        · rintro ⟨rfl, _⟩
          have := hno t ho; rw [h2] at this; simp [D.isObj] at this }

theorem litCells_rd' {role : Nat → Role} {w : World} : ∀ (ts : List TypeId) (xs : List Value) (ds : List D), litCells P ts xs = some ds →
    ∀ (i : Nat) (x : Value) (d : D), xs[i]? = some x → ds[i]? = some d → x.oneCell' = true ∧ Rd P role w x d ∧ isList d = false ∨ x = .slice none 0 0 ∧ ∃ T, d = .list true T []
  | [], [], ds, h, i, x, d, hx, hd => by simp at hx
  | [], _ :: _, _, h, _, _, _, _, _ => by simp [litCells] at h
  | _ :: _, [], _, h, _, _, _, _, _ => by simp [litCells] at h
  | t :: ts, x :: xs, ds, h, i, y, e, hy, he => by
    simp only [litCells] at h
    split at h
    · rename_i d' ds' h1 h2
      cases h
      cases i with
      | zero =>
        simp at hy he; subst hy; subst he
        unfold litT at h1
        split at h1
        · split at h1
          · cases h1; exact .inr ⟨rfl, _, rfl⟩
          · cases h1
        · split at h1
          · rename_i hx
            cases h1; exact .inl ⟨leafV_oneCell hx, .v hx, rfl⟩
          · cases h1
      | succ i => simp at hy he; exact litCells_rd' ts xs ds' h2 i y e hy he
    · cases h

theorem alloc_sim (hS : Sim P E A role a w s) {o : Oper} {T : TypeId} (ho : o.op = .alloc T) (h : (allocL P o T).run orc s l K) : Oper.wp P o a w (After P E A s K) Q := by
  unfold allocL at h
  split at h
  · exact h.elim
  · rename_i ds hds
    unfold zeroCellsD at hds
    cases hi : P.info? T with
    | none => simp [hi] at hds
    | some i =>
      cases hz : i.zero with
      | none => simp [hi, hz] at hds
      | some z =>
        simp only [hi, hz, Option.bind_some] at hds
        refine new_sim hS h (cells := z.cells) ?_ ?_ ?_
        · simp [execOp, ho, Instr.alloc, zeroValue, typeInfo, hi, hz, newVar, newRow, newObj]
          rfl
        · have := (litCells_rd (role := role) (w := w) _ _ _ hds).1; simpa using this
        · intro i y d hy hd
          exact litCells_rd' _ _ _ hds i y d (by simpa using hy) hd

theorem isCell_list {d : D} (h : d.strip = d) : isList d = false := by cases d <;> simp [isList, D.strip] at h ⊢; rename_i o T es; cases o <;> simp at h ⊢

theorem cells_one {x : Value} (h : x.oneCell' = true) : x.cells = #[x] := by cases x <;> first | rfl | simp [Value.oneCell'] at h
theorem isCell_strip (d : D) : d.strip.isCell = d.isCell := by cases d <;> rfl
theorem cellsD_rd {x : Value} {d : D} (h : Rd P role w x d) (hc : (cellsD d).all D.isCell = true) :
    x.cells.size = (cellsD d).length ∧ ∀ (i : Nat) (y : Value) (e : D), x.cells[i]? = some y → (cellsD d)[i]? = some e → y.oneCell' = true ∧ Rd P role w y e ∧ isList e = false := by
  by_cases hd : ∃ cs, d = .agg cs
  · obtain ⟨cs, rfl⟩ := hd
    cases h
    rename_i vs h1 hl h
    refine ⟨by simp [cellsD, Value.cells, hl], fun i y e hy he => ?_⟩
    simp only [cellsD, List.getElem?_map, Option.map_eq_some_iff] at he
    obtain ⟨e', he', rfl⟩ := he
    exact ⟨h1 i y hy, (h i y e' hy he').strip, isCell_list (strip_strip _)⟩
  · have hcd : cellsD d = [d.strip] := by
      cases d <;> first | rfl | exact absurd ⟨_, rfl⟩ hd
    rw [hcd] at hc ⊢
    have h1 := h.one (by simpa [isCell_strip] using hc)
    rw [cells_one h1]
    refine ⟨rfl, fun i y e hy he => ?_⟩
    cases i with
    | zero =>
      simp at hy he
      subst hy; subst he
      exact ⟨h1, h.strip, isCell_list (strip_strip _)⟩
    | succ i => simp at hy

theorem box_sim (hS : Sim P E A role a w s) {o : Oper} {T : TypeId} {x : Operand} (ho : o.op = .box T x) (h : (boxL P o T x).run orc s l K) : Oper.wp P o a w (After P E A s K) Q := by
  unfold boxL at h
  rw [run_bind] at h
  obtain ⟨d, l1, h1, h2, h3, h4⟩ := rdV_sim hS h
  obtain ⟨hc, h1⟩ := h1
  obtain ⟨k1, k2⟩ := cellsD_rd h4 hc
  refine new_sim hS h1 (cells := (a.eval x).cells) ?_ k1 (fun i y d hy hd => .inl (k2 i y d hy hd))
  simp [execOp, ho, Instr.box, newVar, newRow, newObj]
  rfl
end
end Go.Proofs.Ytnjhmlnmdnocmaa
