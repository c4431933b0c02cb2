/-
  Elements, slices, texts; calls of named functions: each operation's step. No program in sight.
-/
import Derived.Test.YtnjhmlnmdnocmaaAbsK
namespace Go.Proofs.Ytnjhmlnmdnocmaa
set_option linter.unusedSimpArgs false
set_option linter.unusedVariables false
open Go.RowKit
open Look (ret rd chk)

def mask (role : Nat → Role) : Nat → Role := fun k => match role k with
  | .row lim _ => .row lim none
  | _ => .none
theorem mask_row {role : Nat → Role} {k lim : Nat} {p : Option (Nat × Option Nat)} : mask role k = .row lim p ↔ p = none ∧ ∃ q, role k = .row lim q := by
  unfold mask; cases role k <;> simp [eq_comm, and_comm]
theorem mask_loc {role : Nat → Role} {k t : Nat} : mask role k ≠ .loc t := by unfold mask; cases role k <;> simp
theorem mask_own {role : Nat → Role} {k lim : Nat} {p : Nat × Option Nat} : mask role k ≠ .row lim (some p) := by
  intro h; have := (mask_row.1 h).1; cases this
theorem pub_mask {role : Nat → Role} {b n : Nat} : pubAt (mask role) b n ↔ pubAt role b n := by
  unfold pubAt
  constructor
  · rintro ⟨lim, ow, h, hn⟩; obtain ⟨_, q, hq⟩ := mask_row.1 h; exact ⟨lim, q, hq, hn⟩
  · rintro ⟨lim, ow, h, hn⟩; exact ⟨lim, none, mask_row.2 ⟨rfl, _, h⟩, hn⟩

/-- A call of a named function, with a Go body or without one. -/
def CallsV (P : Program) (f : FuncId) (args : Array Value) (w : World) (R : Ending → World → Prop) : Prop := match (callFunc f args).run P w with
  | .ok (.enter g as) w' => Calls P g as w' R
  | .ok (.value v) w' => R (.returned v) w'
  | _ => False
/-- A function whose arguments read so hands back what reads so, and only makes memory. -/
def PS (P : Program) (f : Nat) (ds : List D) (d : D) : Prop :=
  ∀ (role : Nat → Role) (w : World) (args : Array Value), (∀ k, role k ≠ .none → k < w.heap.size) → (∀ k, (∀ t, role k ≠ .loc t) ∧ ∀ lim p, role k ≠ .row lim (some p)) →
    args.size = ds.length → (∀ (i : Nat) (x : Value) (e : D), args[i]? = some x → ds[i]? = some e → Rd P role w x e) →
    CallsV P f args w fun e w' => ∃ v role', e = .returned v ∧ Exd w w' ∧ (∀ k, k < w.heap.size → role' k = role k) ∧ (∀ k, role' k ≠ .none → k < w'.heap.size) ∧ Rd P role' w' v d

/-- The contracts that a walk may use. -/
def OrcOK (P : Program) (orc : Orc) : Prop := ∀ f ds K, orc f ds K → ∃ d, K d ∧ (∀ K' : D → Prop, K' d → orc f ds K') ∧ PS P f ds d
theorem OrcOK.det {P : Program} {orc : Orc} (h : OrcOK P orc) (f : Nat) (ds : List D) : Det (orc f ds) := fun K hK => by
  obtain ⟨d, h1, h2, _⟩ := h f ds K hK
  exact ⟨d, h1, h2⟩

section
variable {P : Program} {orc : Orc} {E : Env} {A : List Nat} {role : Nat → Role} {a : Act} {w : World} {s : List D} {l : List Nat}
variable {K : List (Nat × D) → List Nat → Prop} {Q : Exit → Act → World → Prop}

theorem call_after (hS : Sim P E A role a w s) {o : Oper} {d : D} {l2 : List Nat} {v : Value} {w' : World} {r' : Nat → Role} (hno : ∀ t, o.dst = some t → (get s t).isObj = false) (hK : K ([] ++ List.map (fun t => (t, d.strip)) o.dst.toList) l2)
    (hx : Exd w w') (hold : ∀ k, k < w.heap.size → r' k = mask role k) (hlow : ∀ k, r' k ≠ .none → k < w'.heap.size) (hrd : Rd P r' w' v d) : After P E A s K (a.put o.dst v) w' := by
  have hne : ∀ k, role k ≠ .none → k < w.heap.size := hS.low
  let r2 : Nat → Role := fun k => if k < w.heap.size then role k else mask r' k
  have r2old : ∀ k, k < w.heap.size → r2 k = role k := fun k hk => if_pos hk
  have r2new : ∀ k, ¬ k < w.heap.size → r2 k = mask r' k := fun k hk => if_neg hk
  have evo1 : Evo r' w' r2 w' := ⟨fun b n hp => by
    by_cases hb : b < w.heap.size
    · obtain ⟨lim, ow, h1, h2⟩ := hp
      rw [hold b hb] at h1
      obtain ⟨_, q, hq⟩ := mask_row.1 h1
      exact ⟨lim, q, (r2old b hb).trans hq, h2⟩
    · obtain ⟨lim, ow, h1, h2⟩ := pub_mask.2 hp
      exact ⟨lim, ow, (r2new b hb).trans h1, h2⟩, fun _ _ _ _ _ => rfl⟩
  have hk : Kept role w r2 w' none := ⟨⟨fun b n hp => by
      obtain ⟨lim, ow, h1, h2⟩ := hp
      exact ⟨lim, ow, (r2old b (hne b (by rw [h1]; simp))).trans h1, h2⟩, fun b n o hp _ => by
      obtain ⟨lim, ow, h1, _⟩ := hp
      exact hx.cell (p := ⟨b, o, none⟩) (hne b (by rw [h1]; simp))⟩,
    fun b t h => (r2old b (hne b (by rw [h]; simp))).trans h, fun b t h _ => hx.block b (hne b (by rw [h]; simp)), fun b lim p h _ => ⟨(r2old b (hne b (by rw [h]; simp))).trans h, hx.block b (hne b (by rw [h]; simp))⟩⟩
  have hS' : Sim P E A r2 a w' s := by
    refine hS.turn (hS.ext.trans hx) (fun k hk => r2old k (Nat.lt_of_lt_of_le hk hS.ext.size)) (fun k hk => ?_) (fun b b' t hb hb' => ?_) fun t => (hS.tm t).keep hk (by simp) (by simp)
    · by_cases hlt : k < w.heap.size
      · exact Nat.lt_of_lt_of_le hlt hx.size
      · rw [r2new k hlt] at hk; exact hlow k fun e => hk (by unfold mask; rw [e])
    · have f : ∀ b, r2 b = .loc t → role b = .loc t := by
        intro b hb
        by_cases hlt : b < w.heap.size
        · rw [r2old b hlt] at hb; exact hb
        · rw [r2new b hlt] at hb; exact absurd hb mask_loc
      exact hS.inj b b' t (f b hb) (f b' hb')
  exact ⟨_, l2, r2, hK, put_sim hS' hno (hrd.evo evo1).strip (strip_strip _)⟩

theorem call_sim (hO : OrcOK P orc) (hS : Sim P E A role a w s) {o : Oper} {f : Nat} {args : Array Operand} {types : Array TypeId} (ho : o.op = .call { callee := .value (.func f), args, argTypes := types })
    (h : (callL P o f args types).run orc s l K) : Oper.wp P o a w (After P E A s K) Q := by
  unfold callL at h
  rw [run_bind] at h
  obtain ⟨ds, l1, h, hlen, hds⟩ := rdAll_sim hS _ _ _ h
  obtain ⟨d, hd, _, hps⟩ := hO f ds _ h
  obtain ⟨l2, hno, hK⟩ := putW_sim hd
  have hrun : (execOp a.eval o).run P w = (callFunc f (args.map a.eval)).run P w := by
    simp [execOp, ho, resolve, Act.eval, Deferred.ofValue, invoke]
  have hargs : ∀ (i : Nat) (x : Value) (e : D), (args.map a.eval)[i]? = some x → ds[i]? = some e → Rd P (mask role) w x e := by
    intro i x e hx he
    simp only [Array.getElem?_map, Option.map_eq_some_iff] at hx
    obtain ⟨y, hy, rfl⟩ := hx
    have h1 : (args.toList.zipIdx.map fun (x, i) => (types.getD i 0, x))[i]? = some (types.getD i 0, y) := by
      simp [List.getElem?_map, List.getElem?_zipIdx, hy]
    exact (hds i _ e h1 he).1.evo ⟨fun b n hp => pub_mask.2 hp, fun _ _ _ _ _ => rfl⟩
  have hcall := hps (mask role) w (args.map a.eval) (fun k hk => hS.low k fun e => hk (by unfold mask; rw [e])) (fun k => ⟨fun t => mask_loc, fun lim p => mask_own⟩) (by rw [hlen]; simp) hargs
  have fin : ∀ e w', (∃ v role', e = Ending.returned v ∧ Exd w w' ∧ (∀ k, k < w.heap.size → role' k = mask role k) ∧ (∀ k, role' k ≠ .none → k < w'.heap.size) ∧ Rd P role' w' v d) → ∃ v, e = .returned v ∧ After P E A s K (a.put o.dst v) w' := by
    rintro e w' ⟨v, r', rfl, hx, hold, hlow, hrd⟩
    refine ⟨v, rfl, ?_⟩
    exact call_after hS hno hK hx hold hlow hrd
  unfold Oper.wp
  rw [hrun]
  unfold CallsV at hcall
  generalize (callFunc f (args.map a.eval)).run P w = r at hcall
  match r, hcall with
  | .ok (.enter g as) w1, hc =>
    refine Calls.mono hc ?_
    intro e w' hR
    obtain ⟨v, rfl, h⟩ := fin e w' hR
    exact h
  | .ok (.value v) w1, hc =>
    obtain ⟨v', e, h⟩ := fin _ _ hc
    cases e
    exact h

theorem len_sim (hS : Sim P E A role a w s) {o : Oper} {x : Operand} {t : TypeId} {types : Array TypeId} (ht : types[0]? = some t) (ho : o.op = .call { callee := .builtin .len, args := #[x], argTypes := types })
    (h : (lenL P o t x).run orc s l K) : Oper.wp P o a w (After P E A s K) Q := by
  unfold lenL at h
  rw [run_bind] at h
  obtain ⟨d, l1, h, h2, h3⟩ := rdO_sim hS h
  split at h
  · rename_i e ow T es hu
    have hr := h3 rfl
    have : ∃ a' n c, a.eval x = .slice a' n c ∧ n = es.length := by
      generalize a.eval x = v at hr
      cases hr with
      | nil => exact ⟨_, _, _, rfl, rfl⟩
      | list f hl => exact ⟨_, _, _, rfl, hl.symm⟩
    obtain ⟨a', n, c, hv, rfl⟩ := this
    refine pure_sim hS h (x := .int .i64 es.length) ?_ (.v rfl) rfl
    simp [execOp, ho, resolve, invoke, builtin, Builtin.len_, ht, run_underlying hu, hv, goInt]
  · rename_i sv hu
    have hv := (h3 rfl).string
    refine pure_sim hS h (x := .int .i64 sv.size) ?_ (.v rfl) rfl
    simp [execOp, ho, resolve, invoke, builtin, Builtin.len_, ht, run_underlying hu, hv, goInt]
  · exact h.elim

theorem index_sim (hS : Sim P E A role a w s) {o : Oper} {t : TypeId} {x ix : Operand} (ho : o.op = .index t x ix) (h : (indexL P o t x ix).run orc s l K) : Oper.wp P o a w (After P E A s K) Q := by
  unfold indexL at h
  rw [run_bind] at h
  obtain ⟨d, l1, g, h2, h3, h4⟩ := rdV_sim hS h
  clear h
  rw [run_bind] at g
  obtain ⟨i, l2, h, i2, i3, i4⟩ := rdV_sim hS g
  clear g
  split at h
  · rename_i sv k n hu
    obtain ⟨hc, h⟩ := h
    simp only [Bool.and_eq_true, decide_eq_true_eq] at hc
    refine pure_sim hS h (x := .int .u8 (byteAt sv n.toNat)) ?_ (.v (by
      show inKind .u8 (byteAt sv n.toNat) = true
      unfold byteAt
      have := UInt8.toNat_lt (sv.data.toList.getD n.toNat 0)
      generalize (sv.data.toList.getD n.toNat 0).toNat = q at this
      have e : (2 : Int) ^ IntKind.u8.bits = 256 := rfl
      unfold inKind
      rw [e]
      have h1 : (0 : Int) ≤ (q : Int) := by omega
      have h2 : (q : Int) < 256 := by omega
      simp [h1, h2])) rfl
    have hlt : n.toNat < sv.size := by omega
    have hg : sv[n.toNat]? = some sv[n.toNat] := by simp [hlt]
    have hb : byteAt sv n.toNat = (sv[n.toNat].toNat : Int) := by
      unfold byteAt
      rw [List.getD_eq_getElem?_getD]
      have : sv.data.toList[n.toNat]? = some sv[n.toNat] := by
        have h' : n.toNat < sv.data.toList.length := by simpa using hlt
        rw [List.getElem?_eq_getElem h']; rfl
      rw [this]; rfl
    rw [hb]
    simp [execOp, ho, h4.string, i4.int, Instr.index, asIntOf, run_underlying hu, hc.1, hg]
  · rename_i len e cs k n hu
    split at h
    · rename_i d' hd'
      obtain ⟨hc, h⟩ := h
      simp only [Bool.and_eq_true, decide_eq_true_eq] at hc
      obtain ⟨inf, hinf⟩ := Option.isSome_iff_exists.1 hc.2
      generalize hx : a.eval x = v at h4
      have h4' := h4
      cases h4 with
      | agg hl h1 hr =>
        obtain ⟨y, hy1, hy2⟩ := run_part h4' hd'
        refine pure_sim hS h (x := y) ?_ hy2.strip (strip_strip _)
        simp [execOp, ho, hx, i4.int, Instr.index, asIntOf, run_underlying hu, hc.1.1, hc.1.2, run_sizeOf' hinf, hy1]
    · exact h.elim
  · exact h.elim

theorem indexAddr_sim (hS : Sim P E A role a w s) {o : Oper} {t : TypeId} {x ix : Operand} (ho : o.op = .indexAddr t x ix) (hA : ∀ t, o.dst = some t → t ∈ A) (h : (indexAddrL P o t x ix).run orc s l K) : Oper.wp P o a w (After P E A s K) Q := by
  cases x with
  | tmp u =>
    simp only [indexAddrL, Look.run] at h
    rw [run_bind] at h
    obtain ⟨i, l2, h, i2, i3, i4⟩ := rdV_sim hS h
    split at h
    · rename_i k n
      split at h
      · rename_i e ow T es hu hg
        obtain ⟨hc, hc2, h⟩ := h
        simp only [Bool.and_eq_true, decide_eq_true_eq, beq_iff_eq] at hc hc2
        obtain ⟨rfl, hi⟩ := hc
        obtain ⟨inf, hinf⟩ := Option.isSome_iff_exists.1 hi
        have hro := RT.ro (hS.tm u) (by rw [hg]; rfl)
        rw [hg] at hro
        have hrd := hro.1
        have hx' : a.eval (.tmp u) = a.tmps.getD u undef := rfl
        generalize a.tmps.getD u undef = v at hrd hx'
        have hlt : n.toNat < es.length := by omega
        have hge : es[n.toNat]? = some (es.getD n.toNat []) := by simp [List.getElem?_eq_getElem hlt, hlt]
        cases hrd with
        | nil => simp at hlt
        | list f hl hcap hp hs h1 hcell hr =>
          rename_i b off len cap
          have hel := hs n.toNat _ hge
          have hseg : (n.toNat + 1) * P.cellsOf T ≤ len * P.cellsOf T := Nat.mul_le_mul_right _ (by omega)
          rw [Nat.add_mul] at hseg
          have key : Rd P role w (.pointer (some ⟨b, off + n.toNat * P.cellsOf T + 0, none⟩)) (.box (es.getD n.toNat []) 0) := by
            refine .box (o := off + n.toNat * P.cellsOf T) (f n.toNat) ?_ (fun k d hk => h1 _ _ k d hge hk) (fun k d hk => hcell _ _ k d hge hk) (fun k d hk => hr _ _ k d hge hk)
            obtain ⟨lim, ow, e1, e2⟩ := hp (by omega)
            exact ⟨lim, ow, e1, by omega⟩
          refine pure_sim hS h ?_ key rfl
          have hn : n < (len : Int) := by omega
          simp [execOp, ho, hx', i4.int, Instr.indexAt, asIntOf, run_underlying hu, hc2.1, hn, run_sizeOf' hinf, Addr.add_lit']
      · rename_i len e d hu
        split at h
        · exact h.elim
        · rename_i d' hd'
          obtain ⟨hi, hc2, h⟩ := h
          simp only [Bool.and_eq_true, decide_eq_true_eq] at hc2
          obtain ⟨inf, hinf⟩ := Option.isSome_iff_exists.1 hi
          obtain ⟨b, off, hx, _, k2, k3, k4⟩ := shift_sim hS hd'
          refine addr_put hS h hA k3 k2 k4 ?_
          have hx' : a.eval (.tmp u) = .pointer (some ⟨b, off, none⟩) := hx
          simp [execOp, ho, hx', i4.int, Instr.indexAt, asIntOf, run_underlying hu, sureAddr_run, hc2.1, hc2.2, run_sizeOf' hinf, Addr.add_lit']
      · exact h.elim
    · exact h.elim
  | _ => exact h.elim
end
end Go.Proofs.Ytnjhmlnmdnocmaa
