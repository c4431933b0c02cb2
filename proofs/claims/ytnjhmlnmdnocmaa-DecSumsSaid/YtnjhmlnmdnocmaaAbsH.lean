/-
  Stores; addresses of elements. No program in sight.
-/
import Derived.Test.YtnjhmlnmdnocmaaAbsG
namespace Go.Proofs.Ytnjhmlnmdnocmaa
set_option linter.unusedSimpArgs false
set_option linter.unusedVariables false
open Go.RowKit
open Look (ret rd chk)

section
variable {P : Program} {orc : Orc} {E : Env} {A : List Nat} {role : Nat → Role} {a : Act} {w : World} {s : List D} {l : List Nat}
variable {K : List (Nat × D) → List Nat → Prop} {Q : Exit → Act → World → Prop}

theorem strip_of {d : D} (h : isList d = false) : d.strip = d := by
  cases d <;> first | rfl | skip
  rename_i o T es
  cases o
  · rfl
  · simp [isList] at h

theorem setCells_get {cs ds : List D} {off i : Nat} (h : off + ds.length ≤ cs.length) : (setCells cs off ds)[i]? = if i < off then cs[i]? else if i < off + ds.length then ds[i - off]? else cs[i]? := by
  unfold setCells
  have h1 : (cs.take off).length = off := by simp; omega
  rw [List.getElem?_append]
  simp only [List.length_append, h1]
  split
  · rw [List.getElem?_append]
    simp only [h1]
    split
    · rename_i h2; simp [h2]
    · rename_i h2 h3; simp [h2, h3]
  · rename_i h2
    rw [List.getElem?_drop]
    have h3 : ¬ i < off := by omega
    simp only [h3, if_false]
    exact congrArg (cs[·]?) (by omega)

/-- A variable's block is written. -/
theorem store_row (hS : Sim P E A role a w s) {u b off : Nat} {T : TypeId} {cs ds : List D} {vs : Array Value} {news : List Value} (hg : get s u = .obj T cs)
    (hx : ∃ o, a.tmps.getD u undef = .pointer (some ⟨b, o, none⟩)) (hrole : role b = .loc u) (hb : w.heap[b]? = some (.cells vs T (0, 0))) (hsz : vs.size = cs.length)
    (hcells : ∀ (i : Nat) (y : Value) (d : D), vs[i]? = some y → cs[i]? = some d → y.oneCell' = true ∧ RO P E role w (u, some i) y d)
    (hl : news.length = ds.length) (hle : off + ds.length ≤ cs.length)
    (hn : ∀ (i : Nat) (y : Value) (d : D), news[i]? = some y → ds[i]? = some d → y.oneCell' = true ∧ RO P E role w (u, some (off + i)) y d) :
    Sim P E A role a (w.setRow b (vs.toList.take off ++ news ++ vs.toList.drop (off + news.length)).toArray) (s.set u (.obj T (setCells cs off ds))) := by
  have hbE : E.w0.heap.size ≤ b := by
    rcases Nat.lt_or_ge b E.w0.heap.size with hlt | hge
    · obtain ⟨h1, h2, _⟩ := hS.old b hlt
      exact absurd (h1.symm.trans hrole) (h2 _)
    · exact hge
  have hoth : ∀ k c, k ≠ b → (w.setRow b c).heap[k]? = w.heap[k]? := fun k c hk => setRow_other w b k c hk
  have hk : Kept role w role (w.setRow b (vs.toList.take off ++ news ++ vs.toList.drop (off + news.length)).toArray) (some b) := by
    refine ⟨⟨fun _ _ h => h, fun b' n o hp _ => ?_⟩, fun _ _ h => h, fun b' t h hne => hoth b' _ (by simpa using hne), fun b' lim p h hne => ⟨h, hoth b' _ (by simpa using hne)⟩⟩
    obtain ⟨lim, ow, h1, _⟩ := hp
    exact World.cell?_of_block (w := w) (a := ⟨b', o, none⟩) (hoth b' _ (fun e => by subst e; rw [hrole] at h1; cases h1))
  have hext : Exd E.w0 (w.setRow b (vs.toList.take off ++ news ++ vs.toList.drop (off + news.length)).toArray) :=
    hS.ext.trans' ⟨rfl, rfl, rfl, by simp, fun k hk' => hoth k _ (by omega)⟩
  have hS1 := hS
  have hru := hS.tm u
  rw [hg] at hru
  obtain ⟨b', vs', k1, k2, k3, k4, k5, k6⟩ := hru
  have e := hS.inj _ _ _ k2 hrole
  subst e
  have hset := setRow_heap w b' vs (vs.toList.take off ++ news ++ vs.toList.drop (off + news.length)).toArray T (0, 0) hb
  have keepO : ∀ {i y d}, RO P E role w (u, some i) y d → RO P E role (w.setRow b' (vs.toList.take off ++ news ++ vs.toList.drop (off + news.length)).toArray) (u, some i) y d :=
    fun h => h.keep hk fun b2 lim e => by cases e; rw [hrole]; simp
  refine {
    ext := hext, old := hS.old, low := fun k hk' => by have := hS.low k hk'; simpa using this, defers := hS.defers, inj := hS.inj
    size := by simp [hS.size]
    tm := fun t => ?_
    live := fun x y o hx' => ?_ }
  · rw [get_set]
    split
    · rename_i e; obtain ⟨rfl, _⟩ := e
      refine ⟨b', _, k1, k2, k3, hset, ?_, fun i y d hy hd => ?_⟩
      · simp only [List.size_toArray, List.length_append, List.length_take, List.length_drop, Array.length_toList, setCells]; omega
      · rw [setCells_get hle] at hd
        have hy' : (if i < off then vs[i]? else if i < off + ds.length then news[i - off]? else vs[i]?) = some y := by
          rw [← hy]
          simp only [List.getElem?_toArray]
          have h1 : (vs.toList.take off).length = off := by simp; omega
          rw [List.getElem?_append]
          simp only [List.length_append, h1, hl]
          by_cases c1 : i < off
          · rw [if_pos c1, if_pos (by omega), List.getElem?_append, h1, if_pos c1]; simp [c1]
          · rw [if_neg c1]
            by_cases c2 : i < off + ds.length
            · rw [if_pos c2, if_pos c2, List.getElem?_append, h1, if_neg c1]
            · rw [if_neg c2, if_neg c2, List.getElem?_drop]
              simp only [Array.getElem?_toList]
              congr 1; omega
        by_cases c1 : i < off
        · rw [if_pos c1] at hd hy'
          exact ⟨(hcells i y d hy' hd).1, keepO (hcells i y d hy' hd).2⟩
        · rw [if_neg c1] at hd hy'
          by_cases c2 : i < off + ds.length
          · rw [if_pos c2] at hd hy'
            have := hn (i - off) y d hy' hd
            rw [show off + (i - off) = i by omega] at this
            exact ⟨this.1, keepO this.2⟩
          · rw [if_neg c2] at hd hy'
            exact ⟨(hcells i y d hy' hd).1, keepO (hcells i y d hy' hd).2⟩
    · rename_i hne
      have htu : t ≠ u := fun e => hne ⟨e.symm, by
        rcases Nat.lt_or_ge u s.length with h0 | h0
        · exact h0
        · rw [get_ge h0] at hg; cases hg⟩
      exact (hS.tm t).keep hk (fun b2 e => by cases e; rw [hrole]; intro e; cases e; exact htu rfl) (fun b2 lim i e => by cases e; rw [hrole]; simp)
  · have hx2 : get s x = .addr y o := by
      rw [get_set] at hx'; split at hx'
      · cases hx'
      · exact hx'
    obtain ⟨h1, T', cs1, h2⟩ := hS.live x y o hx2
    refine ⟨h1, ?_⟩
    rw [get_set]
    split
    · exact ⟨_, _, rfl⟩
    · exact ⟨_, _, h2⟩

theorem run_storeVar_any {t : TypeId} {b off : Nat} {T : TypeId} {vs : Array Value} {v : Value} (hi : (P.info? t).isSome = true) (hv : v.cells.size = P.cellsOf t) (hb : w.heap[b]? = some (.cells vs T (0, 0)))
    (hle : off + v.cells.size ≤ vs.size) (h1 : ∀ x ∈ v.cells.toList, x.oneCell' = true) :
    (storeVar t ⟨b, off, none⟩ v).run P w = .ok () (w.setRow b (vs.toList.take off ++ v.cells.toList ++ vs.toList.drop (off + v.cells.toList.length)).toArray) := by
  obtain ⟨i, hi⟩ := Option.isSome_iff_exists.1 hi
  have := run_storeCells_at P b off T v.cells.toList 0 vs w hb (by simpa using hle) h1
  simp only [Nat.add_zero] at this
  simp [storeVar, run_sizeOf' hi, hv, this]

/-- A store of cells that are no one's to append to. -/
theorem store_plain (hS : Sim P E A role a w s) {o : Oper} {t : TypeId} {x y : Operand} {u off : Nat} {T : TypeId} {cs : List D} {d : D} (ho : o.op = .store t x y)
    (hld : Leads P E role w s (a.eval x) (some (u, T)) cs off) (hd : Rd P role w (a.eval y) d)
    (hc : ((P.info? t).isSome && decide ((cellsD d).length = P.cellsOf t) && decide (off + P.cellsOf t ≤ cs.length) && (cellsD d).all D.isCell) = true)
    (hdst : o.dst = none ∨ True) {l' : List Nat} (hK : K [(u, .obj T (setCells cs off (cellsD d)))] l') (hno : o.dst = none) : Oper.wp P o a w (After P E A s K) Q := by
  simp only [Bool.and_eq_true, decide_eq_true_eq] at hc
  obtain ⟨⟨⟨hi, hlen⟩, hle⟩, hall⟩ := hc
  obtain ⟨hu, b, vs, hx, hrole, hbE, hb, hsz, hcells⟩ := hld
  obtain ⟨k1, k2⟩ := cellsD_rd hd hall
  have hrun := run_storeVar_any (P := P) (w := w) (t := t) (v := a.eval y) (off := off) hi (by omega) hb (by omega) (fun z hz => by
    obtain ⟨i, hi', rfl⟩ := List.getElem_of_mem hz
    have hi2 : i < (cellsD d).length := by simp at hi'; omega
    exact (k2 i _ (cellsD d)[i] (by simp at hi'; simp [hi']) (by simp [hi2])).1)
  have hpt : ∃ o, a.tmps.getD u undef = .pointer (some ⟨b, o, none⟩) := by
    have hru := hS.tm u
    rw [hu] at hru
    obtain ⟨b', vs', j1, j2, _⟩ := hru
    rw [hS.inj _ _ _ j2 hrole] at j1
    exact ⟨0, j1⟩
  refine wp_skip' (w' := w.setRow b (vs.toList.take off ++ (a.eval y).cells.toList ++ vs.toList.drop (off + (a.eval y).cells.toList.length)).toArray) ?_ ⟨_, l', role, hK, ?_⟩
  · simp [execOp, ho, hx, Instr.storeAt, sureAddr_run, hrun]
  · rw [hno]
    refine store_row hS hu hpt hrole hb hsz hcells (by simp [k1]) (by omega) (fun i z e hz he => ?_)
    have := k2 i z e (by simpa using hz) he
    exact ⟨this.1, this.2.1.ro (strip_of this.2.2)⟩

theorem store_sim (hS : Sim P E A role a w s) {o : Oper} {t : TypeId} {x y : Operand} (ho : o.op = .store t x y) (hno : o.dst = none) (h : (storeL P t x y).run orc s l K) : Oper.wp P o a w (After P E A s K) Q := by
  unfold storeL at h
  rw [run_bind] at h
  obtain ⟨who, cs, off, l1, h, hld⟩ := rdPtr_sim hS h
  cases who with
  | none => exact h.elim
  | some q =>
    obtain ⟨u, T⟩ := q
    have plain : ∀ {d : D} {l2 : List Nat}, Rd P role w (a.eval y) d → d.isVal = true →
        Look.run orc (.chk (d.isVal && (P.info? t).isSome && decide ((cellsD d).length = P.cellsOf t) && decide (off + P.cellsOf t ≤ cs.length) && (cellsD d).all D.isCell) (.ret [(u, .obj T (setCells cs off (cellsD d)))])) s l2 K →
        Oper.wp P o a w (After P E A s K) Q := by
      intro d l2 hd hv h
      obtain ⟨hc, h⟩ := h
      rw [hv, Bool.true_and] at hc
      exact store_plain hS ho hld hd hc (.inr trivial) h hno
    simp only at h
    cases y with
    | tmp z =>
      simp only [Look.run] at h
      split at h
      · rename_i htk
        obtain ⟨hc, hK⟩ := h
        simp only [Bool.and_eq_true, decide_eq_true_eq, bne_iff_ne] at hc
        obtain ⟨⟨⟨hzu, hi⟩, h1⟩, hlt⟩ := hc
        obtain ⟨T', es, hz⟩ := isList_iff.1 htk
        have hzlen : z < s.length := by
          rcases Nat.lt_or_ge z s.length with h0 | h0
          · exact h0
          · rw [get_ge h0] at hz; cases hz
        have hROz : RO P E role w (z, none) (a.eval (.tmp z)) (get s z) := RT.ro (hS.tm z) (by rw [hz]; rfl)
        have hS1 := hS.stripTmp z
        have hf : Free (s.set z (get s z).strip) (z, none) := by simp only [Free]; rw [get_set_self hzlen]; exact isList_strip _
        obtain ⟨hu, b, vs, hx, hrole, hbE, hb, hsz, hcells⟩ := hld
        have hu' : get (s.set z (get s z).strip) u = .obj T cs := by rw [get_set_ne hzu]; exact hu
        -- the slice's row goes to the cell
        have main : ∃ role', Sim P E A role' a w (s.set z (get s z).strip) ∧ role' b = .loc u ∧ RO P E role' w (u, some off) (a.eval (.tmp z)) (get s z) ∧
            ∀ (i : Nat) (y : Value) (d : D), vs[i]? = some y → cs[i]? = some d → y.oneCell' = true ∧ RO P E role' w (u, some i) y d := by
          rcases hROz.2 T' es hz with hn | ⟨g, cap, cur, g1, g2, g3⟩
          · exact ⟨role, hS1, hrole, ⟨hROz.1, fun _ _ _ => .inl hn⟩, hcells⟩
          · have hS2 := hS1.reown g2 hf (q := (u, some off))
            have ev : Evo role w (own role g (es.length * P.cellsOf T') (some (u, some off))) w := ⟨fun b n hp => pub_own g2 (Nat.le_refl _) hp, fun _ _ _ _ _ => rfl⟩
            have hbg : b ≠ g := fun e => by subst e; rw [hrole] at g2; cases g2
            refine ⟨_, hS2, by simp [own, hbg, hrole], ⟨hROz.1.evo ev, fun T2 es2 e => ?_⟩, fun i y d hy hd => ?_⟩
            · rw [hz] at e; cases e
              exact .inr ⟨g, cap, cur, g1, by simp [own], g3⟩
            · have hh := hcells i y d hy hd
              refine ⟨hh.1, hh.2.1.evo ev, fun T2 es2 e => ?_⟩
              rcases hh.2.2 T2 es2 e with ho' | ⟨g', cap', cur', e1, e2, e3⟩
              · exact .inl ho'
              · refine .inr ⟨g', cap', cur', e1, ?_, e3⟩
                have : g' ≠ g := fun e => by subst e; rw [g2] at e2; simp at e2
                simp [own, this, e2]
        obtain ⟨role', m1, m2, m3, m4⟩ := main
        have hone : (a.eval (.tmp z)).oneCell' = true := Rd.one m3.1 (by rw [hz]; rfl)
        have hcz : (a.eval (.tmp z)).cells = #[a.eval (.tmp z)] := cells_one hone
        have hrun := run_storeVar_any (P := P) (w := w) (t := t) (v := a.eval (.tmp z)) (off := off) hi (by rw [hcz, h1]; rfl) hb (by rw [hcz, hsz]; simp; omega) (fun x hx => by rw [hcz] at hx; simp at hx; rw [hx]; exact hone)
        have hpt : ∃ o, a.tmps.getD u undef = .pointer (some ⟨b, o, none⟩) := by
          have hru := hS.tm u
          rw [hu] at hru
          obtain ⟨b', vs', j1, j2, _⟩ := hru
          rw [hS.inj _ _ _ j2 hrole] at j1
          exact ⟨0, j1⟩
        refine wp_skip' (w' := w.setRow b (vs.toList.take off ++ (a.eval (.tmp z)).cells.toList ++ vs.toList.drop (off + (a.eval (.tmp z)).cells.toList.length)).toArray) ?_ ⟨_, _, role', hK, ?_⟩
        · simp [execOp, ho, hx, Instr.storeAt, sureAddr_run, hrun]
        · rw [hno]
          show Sim P E A role' a _ ((s.set z (get s z).strip).set u _)
          refine store_row m1 hu' hpt m2 hb hsz m4 (by rw [hcz]; rfl) (by simp; omega) (fun i x e hx he => ?_)
          rw [hcz] at hx
          cases i with
          | zero => simp at hx he; subst hx; subst he; exact ⟨hone, m3⟩
          | succ i => simp at hx
      · have hv := h.1
        simp only [Bool.and_eq_true] at hv
        have hv := hv.1.1.1.1
        have hro := RT.ro (hS.tm z) hv
        exact plain (d := get s z) hro.1 hv h
    | _ =>
      simp only at h
      rw [run_bind] at h
      obtain ⟨d, l2, h1, h2, h3, h4⟩ := rdV_sim hS h
      exact plain h4 h3 h1
end
end Go.Proofs.Ytnjhmlnmdnocmaa
