/-
  Loads, stores, addresses: each operation's step. No program in sight.
-/
import Derived.Test.YtnjhmlnmdnocmaaAbsF
namespace Go.Proofs.Ytnjhmlnmdnocmaa
set_option linter.unusedSimpArgs false
set_option linter.unusedVariables false
open Go.RowKit
open Look (ret rd chk)

section
variable {P : Program} {orc : Orc} {E : Env} {A : List Nat} {role : Nat → Role} {a : Act} {w : World} {s : List D} {l : List Nat}
variable {K : List (Nat × D) → List Nat → Prop} {Q : Exit → Act → World → Prop}

/-- A value moves with its slice. -/
theorem take_sim (hS : Sim P E A role a w s) {p : Nat × Option Nat} {o : Oper} {x : Value} {d : D} (hd : RO P E role w p x d) (hl : isList d = true) (hf : Free s p)
    (hno : ∀ t, o.dst = some t → (get s t).isObj = false) : ∃ role', Sim P E A role' (a.put o.dst x) w (match o.dst with | none => s | some t => s.set t d) := by
  cases ho : o.dst with
  | none => exact ⟨role, hS⟩
  | some t =>
    obtain ⟨T, es, rfl⟩ := isList_iff.1 hl
    rcases hd.2 T es rfl with rfl | ⟨g, cap, cur, h1, h2, h3⟩
    · exact ⟨role, hS.put (RO.rt ⟨hd.1, fun _ _ _ => .inl rfl⟩) (hno t ho) (fun u off e => by cases e) rfl⟩
    · have hS' := hS.reown h2 hf (q := (t, none))
      refine ⟨_, hS'.put (RO.rt ⟨hd.1.evo ⟨fun b n hp => pub_own h2 (Nat.le_refl _) hp, fun _ _ _ _ _ => rfl⟩, fun T' es' e => ?_⟩) (hno t ho) (fun u off e => by cases e) rfl⟩
      cases e
      exact .inr ⟨g, cap, cur, h1, by simp [own], h3⟩

theorem isList_strip (d : D) : isList d.strip = false := isCell_list (strip_strip d)

theorem move_sim (hS : Sim P E A role a w s) {o : Oper} {t : TypeId} {x : Operand} {take : Bool} (ho : o.op = .move x ∨ o.op = .assign x) (h : (moveL P o t x take).run orc s l K) : Oper.wp P o a w (After P E A s K) Q := by
  have hr : (execOp a.eval o).run P w = .ok (.value (a.eval x)) w := by rcases ho with ho | ho <;> simp [execOp, ho]
  unfold moveL at h
  split at h
  · rename_i u
    simp only [Look.run] at h
    split at h
    · rename_i htk
      simp only [Bool.and_eq_true] at htk
      obtain ⟨hne, h⟩ := h
      obtain ⟨l', hno, hK⟩ := putW_sim h
      have ht := hS.tm u
      have hv : (get s u).isVal = true := by obtain ⟨T, es, e⟩ := isList_iff.1 htk.2; rw [e]; rfl
      have hS1 := hS.stripTmp u
      by_cases hlen : u < s.length
      · have hf : Free (s.set u (get s u).strip) (u, none) := by simp only [Free]; rw [get_set_self hlen]; exact isList_strip _
        obtain ⟨role', h2⟩ := take_sim (o := o) hS1 (RT.ro ht hv) htk.2 hf (fun t' ht' => by
          rw [get_set]; split
          · rename_i e; obtain ⟨rfl, _⟩ := e; simp [ht'] at hne
          · exact hno t' ht')
        refine wp_value hr ⟨_, l', role', hK, ?_⟩
        rw [apply_dst]
        cases ho' : o.dst <;> rw [ho'] at h2 <;> exact h2
      · have : get s u = .undef := get_ge (Nat.le_of_not_lt hlen)
        rw [this] at hv; simp [D.isVal] at hv
    · obtain ⟨hv, h⟩ := h
      exact pure_sim hS h hr ((RT.ro (hS.tm u) hv).1.strip) (strip_strip _)
  · split at h
    · exact nil_sim hS h hr
    · exact h.elim
  · rw [run_bind] at h
    obtain ⟨d, l1, h1, h2, h3, h4⟩ := rdV_sim hS h
    exact pure_sim hS h1 hr h4 h2

theorem sureAddr_run (b off : Nat) : (Instr.sureAddr (.pointer (some ⟨b, off, none⟩))).run P w = .ok ⟨b, off, none⟩ w := rfl

theorem normCells_get {cs : List D} : ∀ (ts : List TypeId) (off : Nat), isCells P cs off ts = true → (normCells P cs off ts).length = ts.length ∧ off + ts.length ≤ max off cs.length ∧ ∀ (k : Nat) (d : D), (normCells P cs off ts)[k]? = some d → ∃ e, cs[off + k]? = some e ∧ d = e.strip
  | [], off, _ => ⟨rfl, by simp only [List.length_nil]; omega, fun k d h => by simp [normCells] at h⟩
  | t :: ts, off, h => by
    simp only [isCells, Bool.and_eq_true] at h
    obtain ⟨h1, h2, h3⟩ := normCells_get ts (off + 1) h.2
    have hlt : off < cs.length := by
      rcases Nat.lt_or_ge off cs.length with h0 | h0
      · exact h0
      · have : cs.getD off .undef = .undef := by simp [List.getD_eq_getElem?_getD, List.getElem?_eq_none h0]
        rw [this] at h
        have := h.1
        unfold isD at this
        split at this <;> first | cases this | (simp [D.isCell] at this)
    refine ⟨by simp [normCells, h1], by simp; omega, fun k d hk => ?_⟩
    cases k with
    | zero =>
      have hk' : norm P t (cs.getD off .undef) = d := by simpa only [normCells, List.getElem?_cons_zero, Option.some.injEq] using hk
      refine ⟨cs[off], by simp [hlt], ?_⟩
      rw [← hk', norm_eq P h.1]
      simp [List.getD_eq_getElem?_getD, hlt]
    | succ k =>
      simp [normCells] at hk
      obtain ⟨e, he, hd⟩ := h3 k d hk
      exact ⟨e, by rw [← he]; congr 1; omega, hd⟩

theorem partN_sim {t : TypeId} {cs : List D} {off : Nat} {d : D} (h : partN P t cs off = some (true, d)) : ∃ d', partD P t cs off = some d' ∧ (∀ {x : Value}, Rd P role w x d' → Rd P role w x d) ∧ d.strip = d := by
  unfold partN at h
  unfold partD
  cases hg : aggOf P t with
  | none => simp [hg] at h
  | some g =>
    cases g with
    | false =>
      simp only [hg, Option.some.injEq, Prod.mk.injEq] at h
      obtain ⟨h1, rfl⟩ := h
      have hlt : off < cs.length := by
        rcases Nat.lt_or_ge off cs.length with h0 | h0
        · exact h0
        · have : cs.getD off .undef = .undef := by simp [List.getD_eq_getElem?_getD, List.getElem?_eq_none h0]
          rw [this] at h1
          unfold isD at h1
          split at h1 <;> first | cases h1 | (simp [D.isCell] at h1)
      refine ⟨cs[off], by simp [hlt], fun hx => ?_, ?_⟩
      · rw [norm_eq P h1]; simp only [List.getD_eq_getElem?_getD, List.getElem?_eq_getElem hlt, Option.getD_some]; exact hx.strip
      · rw [norm_eq P h1, strip_strip]
    | true =>
      simp only [hg, Option.some.injEq, Prod.mk.injEq, Bool.and_eq_true, decide_eq_true_eq] at h
      obtain ⟨⟨⟨h1, h2⟩, h4⟩, rfl⟩ := h
      obtain ⟨k1, k2, k3⟩ := normCells_get _ _ h1
      have hle' : off + P.cellsOf t ≤ cs.length := by omega
      refine ⟨_, by simp only; rw [if_pos hle'], fun hx => ?_, rfl⟩
      cases hx with
      | agg hl h1' hr =>
        refine .agg (by rw [hl, k1, h2]; simp; omega) h1' (fun i x d hx hd => ?_)
        obtain ⟨e, he, rfl⟩ := k3 i d hd
        have hi := (List.getElem?_eq_some_iff.1 hd).1
        refine (hr i x e hx ?_).strip
        rw [List.getElem?_take, if_pos (by omega), List.getElem?_drop]; exact he

theorem load_sim (hS : Sim P E A role a w s) {o : Oper} {t : TypeId} {x : Operand} {take : Bool} (ho : o.op = .load t x) (h : (loadL P o t x take).run orc s l K) : Oper.wp P o a w (After P E A s K) Q := by
  unfold loadL at h
  rw [run_bind] at h
  obtain ⟨who, cs, off, l1, h, hld⟩ := rdPtr_sim hS h
  cases who with
  | none =>
    simp only at h
    split at h
    · exact h.elim
    · rename_i c d hd
      obtain ⟨hcc, h⟩ := h
      subst hcc
      obtain ⟨d', hd', hdd, hds⟩ := partN_sim hd
      have hld : Rd P role w (a.eval x) (.box cs off) := hld
      generalize hx : a.eval x = v at hld
      cases hld with
      | box f hp h1 hc hr0 =>
        rename_i b o'
        obtain ⟨y, hy1, hy2, _⟩ := run_loadVar_known (P := P) (role := role) (w := w) f hd' o' hc h1 hr0
        refine pure_sim hS h (x := y) ?_ (hdd hy2) hds
        simp [execOp, ho, hx, Instr.loadAt, sureAddr_run, hy1]
  | some q =>
    obtain ⟨u, T⟩ := q
    simp only at h
    by_cases hsc : scalarT P t = true
    · rw [hsc] at h
      simp only [cond_true] at h
      obtain ⟨hcc, h⟩ := h
      have hagg : aggOf P t = some false := by
        unfold scalarT at hsc
        unfold aggOf
        cases hu : P.underlying t with
        | none => simp [hu] at hsc
        | some td => rw [hu] at hsc; cases td <;> first | rfl | cases hsc
      obtain ⟨d', hd', hdd, hds⟩ := partN_sim (P := P) (role := role) (w := w) (t := t) (cs := cs) (off := off) (d := norm P t (cs.getD off .undef)) (by unfold partN; rw [hagg]; simp only [hcc])
      obtain ⟨hu, b, vs, hx, hrole, hbE, hb, hsz, hcells⟩ := hld
      have hc : ∀ (k : Nat) (e : D), cs[k]? = some e → vs[k]? = some (vs.getD k undef) := fun k e hk => by
        have := (List.getElem?_eq_some_iff.1 hk).1
        have hlt : k < vs.size := by omega
        simp [hlt]
      obtain ⟨y, hy1, hy2, _⟩ := run_loadVar_known (P := P) (role := role) (w := w) (b := b) (fun k => vs.getD k undef) hd' 0
        (fun k e hk => by rw [Nat.zero_add]; simp only [World.cell?, hb]; simpa using hc k e hk) (fun k e hk => (hcells k _ e (hc k e hk) hk).1) (fun k e hk => (hcells k _ e (hc k e hk) hk).2.1)
      rw [Nat.zero_add] at hy1
      refine pure_sim hS h (x := y) ?_ (hdd hy2) hds
      simp [execOp, ho, hx, Instr.loadAt, sureAddr_run, hy1]
    have hsf : scalarT P t = false := by simpa using hsc
    rw [hsf] at h
    simp only [cond_false] at h
    split at h
    · exact h.elim
    · rename_i d hd
      obtain ⟨hu, b, vs, hx, hrole, hbE, hb, hsz, hcells⟩ := hld
      have hc : ∀ (k : Nat) (e : D), cs[k]? = some e → vs[k]? = some (vs.getD k undef) := fun k e hk => by
        have := (List.getElem?_eq_some_iff.1 hk).1
        have hlt : k < vs.size := by omega
        simp [hlt]
      obtain ⟨y, hy1, hy2, hy3⟩ := run_loadVar_known (P := P) (role := role) (w := w) (b := b) (fun k => vs.getD k undef) hd 0
        (fun k e hk => by rw [Nat.zero_add]; simp only [World.cell?, hb]; simpa using hc k e hk) (fun k e hk => (hcells k _ e (hc k e hk) hk).1) (fun k e hk => (hcells k _ e (hc k e hk) hk).2.1)
      rw [Nat.zero_add] at hy1
      have hr : (execOp a.eval o).run P w = .ok (.value y) w := by simp [execOp, ho, hx, Instr.loadAt, sureAddr_run, hy1]
      split at h
      · rename_i htk
        simp only [Bool.and_eq_true] at htk
        obtain ⟨hne, h⟩ := h
        obtain ⟨l', hno, hK⟩ := putW_sim h
        obtain ⟨T', es, rfl⟩ := isList_iff.1 htk.2
        have hagg : aggOf P t = some false := by
          unfold partD at hd
          cases hg : aggOf P t with
          | none => simp [hg] at hd
          | some g => cases g with
            | false => rfl
            | true => simp only [hg] at hd; split at hd <;> cases hd
        obtain ⟨hyv, hcs⟩ := hy3 hagg
        have hlt := (List.getElem?_eq_some_iff.1 hcs).1
        have hRO : RO P E role w (u, some off) y (.list true T' es) := by rw [hyv]; exact (hcells off _ _ (hc off _ hcs) hcs).2
        have hS1 : Sim P E A role a w (s.set u (.obj T (cs.set off (D.list true T' es).strip))) := by
          refine hS.setObj hu ?_
          have hru := hS.tm u
          rw [hu] at hru
          obtain ⟨b', vs', k1, k2, k3, k4, k5, k6⟩ := hru
          refine ⟨b', vs', k1, k2, k3, k4, by simp [k5], fun i y' d' hi hd' => ?_⟩
          rw [List.getElem?_set] at hd'
          split at hd'
          · rename_i e; subst e
            simp [hlt] at hd'
            subst hd'
            have := k6 off y' _ hi hcs
            exact ⟨this.1, this.2.strip⟩
          · exact k6 i y' d' hi hd'
        have hulen : u < s.length := by
          rcases Nat.lt_or_ge u s.length with h0 | h0
          · exact h0
          · have : get s u = .undef := get_ge h0
            rw [hu] at this; cases this
        have hf : Free (s.set u (.obj T (cs.set off (D.list true T' es).strip))) (u, some off) := by
          intro T2 cs2 d2 h2 h3
          rw [get_set_self hulen] at h2
          cases h2
          simp [hlt] at h3
          subst h3; rfl
        obtain ⟨role', h2⟩ := take_sim (o := o) hS1 hRO rfl hf (fun t' ht' => by
          rw [get_set]; split
          · rename_i e; obtain ⟨rfl, _⟩ := e; simp [ht'] at hne
          · exact hno t' ht')
        refine wp_value hr ⟨_, l', role', hK, ?_⟩
        rw [apply_dst]
        cases ho' : o.dst <;> rw [ho'] at h2 <;> exact h2
      · obtain ⟨hv, h⟩ := h
        exact pure_sim hS h hr hy2.strip (strip_strip _)

theorem wf_fieldsOf {S : TypeId} {i : Nat} {f : Field} (h : (fieldsOf P S)[i]? = some f) : ∃ fs, P.underlying S = some (.struct fs) ∧ fs[i]? = some f := by
  unfold fieldsOf at h
  split at h
  · rename_i fs hu; exact ⟨fs, hu, by simpa using h⟩
  · simp at h

/-- An address further on. -/
theorem shift_sim (hS : Sim P E A role a w s) {u n : Nat} {d : D} (h : shift u (get s u) n = some d) :
    ∃ b off, a.tmps.getD u undef = .pointer (some ⟨b, off, none⟩) ∧ RT P E role w u (.pointer (some ⟨b, off + n, none⟩)) d ∧ d.isObj = false ∧
      (∀ t, RT P E role w t (.pointer (some ⟨b, off + n, none⟩)) d) ∧ (∀ v off', d = .addr v off' → ∃ T cs, get s v = .obj T cs) := by
  have ht := hS.tm u
  generalize hd : get s u = e at h ht
  cases e <;> simp only [shift] at h <;> try (cases h)
  case obj T cs =>
    obtain ⟨b, vs, h1, h2, _⟩ := ht
    exact ⟨b, 0, h1, ⟨b, by rw [Nat.zero_add], h2⟩, rfl, fun t => ⟨b, by rw [Nat.zero_add], h2⟩, fun v off' e => by cases e; exact ⟨T, cs, hd⟩⟩
  case addr y off =>
    obtain ⟨b, h1, h2⟩ := ht
    exact ⟨b, off, h1, ⟨b, rfl, h2⟩, rfl, fun t => ⟨b, rfl, h2⟩, fun v off' e => by cases e; exact (hS.live u _ _ hd).2⟩
  case box cs off =>
    have hb := ht.1
    generalize hx : a.tmps.getD u undef = x at hb
    cases hb with
    | box f hp h1 hc hr =>
      rename_i b o
      have key : Rd P role w (.pointer (some ⟨b, o + off + n, none⟩)) (.box cs (off + n)) := by
        rw [Nat.add_assoc]; exact .box f hp h1 hc hr
      exact ⟨b, o + off, rfl, (key.ro rfl).rt, rfl, fun t => (key.ro rfl).rt, fun v off' e => by cases e⟩

theorem addr_put (hS : Sim P E A role a w s) {o : Oper} {x : Value} {d : D} (h : (putW o d []).run orc s l K) (hA : ∀ t, o.dst = some t → t ∈ A) (hd : ∀ t, RT P E role w t x d) (hno : d.isObj = false)
    (hl : ∀ v off', d = .addr v off' → ∃ T cs, get s v = .obj T cs) (hr : (execOp a.eval o).run P w = .ok (.value x) w) : Oper.wp P o a w (After P E A s K) Q := by
  obtain ⟨l', hn, hK⟩ := putW_sim h
  refine wp_value hr ⟨_, l', role, hK, ?_⟩
  cases ho : o.dst with
  | none => exact hS
  | some t => exact hS.put (hd t) (hn t ho) (fun u off e => ⟨hA t ho, hl u off e⟩) hno

theorem fieldAddr_sim (hS : Sim P E A role a w s) {o : Oper} {S : TypeId} {x : Operand} {i : Nat} (ho : o.op = .fieldAddr S x i) (hA : ∀ t, o.dst = some t → t ∈ A) (h : (fieldAddrL P o S x i).run orc s l K) : Oper.wp P o a w (After P E A s K) Q := by
  cases x with
  | tmp u =>
    simp only [fieldAddrL, Look.run] at h
    split at h
    · exact h.elim
    · rename_i f hf
      split at h
      · exact h.elim
      · rename_i d hd
        obtain ⟨hc, h⟩ := h
        simp only [Bool.and_eq_true, decide_eq_true_eq] at hc
        obtain ⟨fs, hu, hfi⟩ := wf_fieldsOf hf
        obtain ⟨b, off, hx, _, h2, h3, h4⟩ := shift_sim hS hd
        obtain ⟨inf, hinf⟩ := Option.isSome_iff_exists.1 hc.1
        refine addr_put hS h hA h3 h2 h4 ?_
        have hx' : a.eval (.tmp u) = .pointer (some ⟨b, off, none⟩) := hx
        simp [execOp, ho, hx', Instr.fieldAt, run_underlying hu, hfi, sureAddr_run, fieldPlace, run_sizeOf' hinf, hc.2, Addr.add_lit']
  | _ => exact h.elim
end
end Go.Proofs.Ytnjhmlnmdnocmaa
