/-
  Values made of parts, parts of values, interfaces, functions with what they capture, comparisons with nothing, where values may hold addresses. No program in sight. Slices of rows: made, cut, read as values, appended to, where values may hold addresses. No program in sight. Slices of rows: literals, append, bytes and texts, where values may hold addresses. No program in sight. Literals of slices; bytes and texts, where values may hold addresses. No program in sight. Calls: the slots that are handed to a call, under names of its own; what comes back. No program in sight.
-/
import Derived.Test.YthhfnggigmfmjaaDoorHpA
set_option linter.unusedSimpArgs false
set_option linter.unusedVariables false
set_option linter.unusedSimpArgs false
set_option linter.unusedVariables false
namespace Go.Proofs.YthhfnggigmfmjaaDoor.Hp
set_option linter.unusedSimpArgs false
set_option linter.unusedVariables false
open Go.RowKit

section
variable (P : Program) (N H : Nat)
def ifaceL (o : Oper) (t : TypeId) (x : Operand) : Lk (List (Nat × M)) := (rdM P N t x).bind fun m => match m with
  | .d _ => delegL P N o
  | m => .chk (m.isVal && P.concrete t) (putM N o (.ifc t m) [])
def extractL (o : Oper) (x : Operand) (i : Nat) : Lk (List (Nat × M)) := (rdM P N 0 x).bind fun m => match m with
  | .d _ => delegL P N o
  | .tup ms => match ms[i]? with
    | some m => .chk m.isVal (putM N o m [])
    | none => .fail
  | _ => .fail
def fieldL (o : Oper) (t : TypeId) (x : Operand) (i : Nat) : Lk (List (Nat × M)) := (rdM P N t x).bind fun m => match m with
  | .d _ => delegL P N o
  | .agg cs => match (fieldsOf P t)[i]? with
    | some f => match partM P f.type cs f.offset with
      | some m => .chk m.isVal (putM N o m [])
      | none => .fail
    | none => .fail
  | _ => .fail
def fillM (place : Nat → Option (Nat × Nat)) (cells : List M) : List (Nat × M) → Option (List M)
  | [] => some cells
  | (i, m) :: rest => match place i with
    | none => none
    | some (off, size) => if decide ((cellsM m).length = size) && decide (off + size ≤ cells.length) && (cellsM m).all M.isCell then fillM place (setM cells off (cellsM m)) rest else none
def rdParts (ty : Nat → TypeId) : List (Nat × Operand) → Lk (List (Nat × M))
  | [] => .ret []
  | (i, x) :: xs => (rdMV P N (ty i) x).bind fun m => (rdParts ty xs).bind fun ms => .ret ((i, m) :: ms)
def isD : M → Bool
  | .d _ => true
  | _ => false
def buildL (o : Oper) (t : TypeId) (parts : Array (Nat × Operand)) : Lk (List (Nat × M)) := match placesOf P t, zeroM P t with
  | some (place, ty), some z => (rdParts P N ty parts.toList).bind fun ms => match fillM place z ms with
    | some cs => putM N o (mkAgg cs) []
    | none => .fail
  | _, _ => .fail
def makeFuncL (o : Oper) (fn : Fn) (first captured : Array Operand) : Lk (List (Nat × M)) := match fn, first.toList with
  | .func f, [] => (rdAll P N (captured.toList.map fun x => (0, x))).bind fun ms => putM N o (.clo f ms) []
  | _, _ => .fail
def pickL (o : Oper) (c x y : Operand) : Lk (List (Nat × M)) := (rdM P N o.type c).bind fun b => match b with
  | .d (.v (.bool b)) => (rdM P N o.type x).bind fun mx => (rdM P N o.type y).bind fun my => match mx, my with
    | .d _, .d _ => delegL P N o
    | mx, my => .br b (.chk mx.isVal (putM N o mx [])) (.chk my.isVal (putM N o my []))
  | _ => .fail
def isIface (t : TypeId) : Bool := match P.underlying t with
  | some (.interface _) => true
  | _ => false
def holdsL (o : Oper) (ok : Bool) (m : M) : Lk (List (Nat × M)) := .chk m.isVal (putM N o (bif ok then .tup [m, .d (.v (.bool true))] else m) [])
def failsL (o : Oper) (asserted : TypeId) (ok : Bool) : Lk (List (Nat × M)) := .chk ok (match (P.info? asserted).bind (·.zero) with
  | some z => .chk (leafV z) (putM N o (.tup [.d (.v z), .d (.v (.bool false))]) [])
  | none => .fail)
def assertL (o : Oper) (x : Operand) (xT asserted : TypeId) (ok : Bool) : Lk (List (Nat × M)) := (rdM P N xT x).bind fun m => .chk (!isIface P asserted && (P.underlying asserted).isSome) (match m with
  | .ifc t m => .br (t == asserted) (holdsL N o ok m) (failsL P N o asserted ok)
  | .d (.iface t d) => .br (t == asserted) (holdsL N o ok (.d d.strip)) (failsL P N o asserted ok)
  | .d (.v .nilIface) => failsL P N o asserted ok
  | _ => .fail)
/-- Nothing, and something. -/
def isNilM : M → Bool
  | .nil _ => true
  | .d (.v (.pointer none)) | .d (.v .nilIface) | .d (.v .nilFunc) | .d (.v (.map none)) => true
  | _ => false
def isSomeM : M → Bool
  | .ref .. | .el .. | .ifc .. | .clo .. | .mp _ => true
  | _ => false
def nilable (t : TypeId) : M → M → Bool
  | .nil _, .nil _ => match P.underlying t with
    | some (.slice _) => true
    | _ => false
  | .ref .., .d (.v (.pointer none)) | .el .., .d (.v (.pointer none)) | .d (.v (.pointer none)), .ref .. | .d (.v (.pointer none)), .el .. => match P.underlying t with
    | some (.pointer _) => true
    | _ => false
  | .ifc .., .d (.v .nilIface) | .d (.v .nilIface), .ifc .. => isIface P t
  | .clo .., .d (.v .nilFunc) | .d (.v .nilFunc), .clo .. => match P.underlying t with
    | some (.func ..) => true
    | _ => false
  | .mp _, .d (.v (.map none)) | .d (.v (.map none)), .mp _ => match P.underlying t with
    | some (.map ..) => true
    | _ => false
  | _, _ => false
def bothNil : M → M → Bool
  | .nil _, .nil _ => true
  | _, _ => false
def binL (o : Oper) (op : BinOp) (t : TypeId) (x y : Operand) (ty : TypeId) : Lk (List (Nat × M)) := (rdM P N t x).bind fun mx => (rdM P N ty y).bind fun my => bif isD mx && isD my then delegL P N o else
  .chk (nilable P t mx my) (match op with
    | .eql => putM N o (.d (.v (.bool (bothNil mx my)))) []
    | .neq => putM N o (.d (.v (.bool (!bothNil mx my)))) []
    | _ => .fail)
end

section
variable {P : Program} {E : Env} {N H : Nat} {role role' : Nat → Role} {β β' : Bet} {a a' : Act} {w w' : World} {s s' : List M} {orc : OrcM} {l : List Nat}
variable {K : List (Nat × M) → List Nat → Prop} {Q : Exit → Act → World → Prop}

theorem iface_sim (hS : Sim P E N H role β a w s) {o : Oper} {t : TypeId} {x : Operand} (ho : o.op = .makeInterface t x) (h : (ifaceL P N o t x).run orc s l K) : Oper.wp P o a w (After P E N H s K) Q := by
  unfold ifaceL at h
  rw [run_bind] at h
  obtain ⟨m, l1, g, hm⟩ := rdM_sim hS h
  clear h
  split at g
  · exact deleg_sim hS g
  · rw [run_chk, Bool.and_eq_true] at g
    refine pure_sim hS g.2 (x := .iface t (a.eval x)) ?_ (.ifc hm g.1.1)
    simp [execOp, ho, run_makeInterface w t _ g.1.2]
theorem extract_sim (hS : Sim P E N H role β a w s) {o : Oper} {x : Operand} {i : Nat} (ho : o.op = .extract x i) (h : (extractL P N o x i).run orc s l K) : Oper.wp P o a w (After P E N H s K) Q := by
  unfold extractL at h
  rw [run_bind] at h
  obtain ⟨m, l1, g, hm⟩ := rdM_sim hS h
  clear h
  generalize hx : a.eval x = v at hm
  split at g
  · exact deleg_sim hS g
  · split at g
    · rename_i ms _ e he
      rw [run_chk] at g
      cases hm with
      | tup hl hr =>
        rename_i vs
        have hlt := (List.getElem?_eq_some_iff.1 he).1
        have hlt' : i < vs.size := by omega
        refine pure_sim hS g.2 (x := vs[i]) ?_ (hr i vs[i] e (by simp [hlt']) he)
        simp [execOp, ho, hx, Instr.extract, hlt']
    · exact g.elim
  · exact g.elim

theorem run_part {t : TypeId} {vs : Array Value} {cs : List M} {off : Nat} {m : M} (h : Rm P role β w (.agg vs) (.agg cs)) (hd : partM P t cs off = some m) : ∃ x, (part t vs off).run P w = .ok x w ∧ Rm P role β w x m := by
  cases h with
  | agg hl h1 h =>
    unfold partM at hd
    cases hg : aggOf P t with
    | none => simp [hg] at hd
    | some g =>
      obtain ⟨ha, i, hi⟩ := run_isAgg' (w := w) hg
      cases g with
      | false =>
        simp only [hg] at hd
        have hlt := (List.getElem?_eq_some_iff.1 hd).1
        have hlt' : off < vs.size := by omega
        refine ⟨vs[off], ?_, h off _ m (by simp [hlt']) hd⟩
        simp [part, ha, hlt']
      | true =>
        simp only [hg] at hd
        split at hd
        · rename_i hle
          cases hd
          refine ⟨.agg (vs.extract off (off + P.cellsOf t)), ?_, mkAgg_rm (by simp; omega) (fun j x hx => ?_) (fun j x d hx hd => ?_)⟩
          · simp [part, ha, run_sizeOf' hi]
          · rw [Array.getElem?_extract] at hx
            split at hx
            · exact h1 _ x hx
            · cases hx
          · rw [Array.getElem?_extract] at hx
            split at hx
            · rw [List.getElem?_take] at hd
              split at hd
              · rw [List.getElem?_drop] at hd
                exact h _ x d hx hd
              · cases hd
            · cases hx
        · cases hd
theorem field_sim (hS : Sim P E N H role β a w s) {o : Oper} {t : TypeId} {x : Operand} {i : Nat} (ho : o.op = .field t x i) (h : (fieldL P N o t x i).run orc s l K) : Oper.wp P o a w (After P E N H s K) Q := by
  unfold fieldL at h
  rw [run_bind] at h
  obtain ⟨m, l1, g, hm⟩ := rdM_sim hS h
  clear h
  generalize hx : a.eval x = v at hm
  split at g
  · exact deleg_sim hS g
  · split at g
    · rename_i cs _ f hf
      split at g
      · rename_i e he
        rw [run_chk] at g
        obtain ⟨fs, hu, hfi⟩ := wf_fieldsOf hf
        have hm' := hm
        cases hm with
        | agg hl h1 hr =>
          rename_i vs
          obtain ⟨y, hy1, hy2⟩ := run_part hm' he
          refine pure_sim hS g.2 (x := y) ?_ hy2
          simp [execOp, ho, hx, Instr.field, run_underlying hu, hfi, asAgg, hy1]
      · exact g.elim
    · exact g.elim
  · exact g.elim

def CRm (P : Program) (role : Nat → Role) (β : Bet) (w : World) (vs : Array Value) (ds : List M) : Prop :=
  vs.size = ds.length ∧ ∀ (i : Nat) (y : Value) (d : M), vs[i]? = some y → ds[i]? = some d → y.oneCell' = true ∧ Rm P role β w y d
theorem CRm.fill {vs : Array Value} {ds : List M} {v : Value} {d : M} {off : Nat} (h : CRm P role β w vs ds) (hd : Rm P role β w v d) (hc : (cellsM d).all M.isCell = true) (hle : off + (cellsM d).length ≤ ds.length) :
    CRm P role β w (v.cells.zipIdx.foldl (fun cs (c, j) => cs.setIfInBounds (off + j) c) vs) (setM ds off (cellsM d)) := by
  obtain ⟨k1, k2⟩ := cellsM_rm hd hc
  have e : v.cells.zipIdx.foldl (fun cs (c, j) => cs.setIfInBounds (off + j) c) vs = (v.cells.toList.zipIdx 0).foldl (fun cs (c, j) => cs.setIfInBounds (off + j) c) vs := by
    rw [← Array.foldl_toList]; simp
  rw [e]
  have hsz := h.1
  refine ⟨?_, fun i y e hy he => ?_⟩
  · rw [fold_size, setM_length hle]; exact hsz
  · rw [fold_get off v.cells.toList 0 vs i (by simp [k1]; omega)] at hy
    rw [setM_get hle] at he
    simp only [Nat.add_zero, Array.length_toList, k1] at hy
    by_cases h1 : i < off
    · rw [if_pos h1] at he; rw [if_neg (by omega)] at hy; exact h.2 i y e hy he
    · rw [if_neg h1] at he
      by_cases h2 : i < off + (cellsM d).length
      · rw [if_pos h2] at he; rw [if_pos (by omega)] at hy
        exact k2 (i - off) y e (by simpa using hy) he
      · rw [if_neg h2] at he; rw [if_neg (by omega)] at hy; exact h.2 i y e hy he
theorem fill_sim {place : Nat → Option (Nat × Nat)} : ∀ (ps : List (Nat × M)) (qs : List (Nat × Value)) (vs : Array Value) (ds cs : List M), CRm P role β w vs ds → fillM place ds ps = some cs → ps.length = qs.length →
    (∀ (i : Nat) (p : Nat × M) (q : Nat × Value), ps[i]? = some p → qs[i]? = some q → p.1 = q.1 ∧ Rm P role β w q.2 p.2) → ∃ cells, Instr.fill place vs qs = some cells ∧ CRm P role β w cells cs
  | [], [], vs, ds, cs, h, hf, _, _ => by simp only [fillM] at hf; cases hf; exact ⟨vs, rfl, h⟩
  | [], _ :: _, _, _, _, _, _, hl, _ => by simp at hl
  | _ :: _, [], _, _, _, _, _, hl, _ => by simp at hl
  | (i, d) :: ps, (j, v) :: qs, vs, ds, cs, h, hf, hl, hp => by
    have h0 := hp 0 (i, d) (j, v) rfl rfl
    obtain ⟨rfl, hv⟩ := h0
    simp only [fillM] at hf
    cases hpl : place i with
    | none => simp [hpl] at hf
    | some q =>
      obtain ⟨off, size⟩ := q
      simp only [hpl] at hf
      split at hf
      · rename_i hc
        simp only [Bool.and_eq_true, decide_eq_true_eq] at hc
        obtain ⟨⟨c1, c2⟩, c3⟩ := hc
        obtain ⟨k1, k2⟩ := cellsM_rm hv c3
        have hsz := h.1
        have hstep := CRm.fill (off := off) (d := d) (v := v) h hv c3 (by omega)
        obtain ⟨cells, e1, e2⟩ := fill_sim ps qs _ _ cs hstep hf (by simpa using hl) (fun k p q hk hq => hp (k + 1) p q (by simpa using hk) (by simpa using hq))
        refine ⟨cells, ?_, e2⟩
        simp only [Instr.fill, hpl]
        rw [if_neg (by simp [k1, c1]; omega)]
        exact e1
      · cases hf
theorem rdParts_sim (hS : Sim P E N H role β a w s) {ty : Nat → TypeId} : ∀ (xs : List (Nat × Operand)) (l : List Nat) (K : List (Nat × M) → List Nat → Prop), (rdParts P N ty xs).run orc s l K →
    ∃ ms l', K ms l' ∧ ms.length = (xs.map fun (i, x) => (i, a.eval x)).length ∧ ∀ (i : Nat) (p : Nat × M) (q : Nat × Value), ms[i]? = some p → (xs.map fun (i, x) => (i, a.eval x))[i]? = some q → p.1 = q.1 ∧ Rm P role β w q.2 p.2
  | [], l, K, h => ⟨[], l, h, rfl, fun i x d hx => by simp at hx⟩
  | (t, x) :: xs, l, K, h => by
    rw [rdParts, run_bind] at h
    obtain ⟨d, l1, h1, _, h3⟩ := rdMV_sim hS h
    rw [run_bind] at h1
    obtain ⟨ds, l2, h4, h5, h6⟩ := rdParts_sim hS xs _ _ h1
    refine ⟨(t, d) :: ds, l2, h4, by simp [h5], fun i y e hy he => ?_⟩
    cases i with
    | zero => simp at hy he; subst hy; subst he; exact ⟨rfl, h3⟩
    | succ i => simp at hy he; exact h6 i y e hy (by simpa using he)
theorem build_sim (hS : Sim P E N H role β a w s) {o : Oper} {t : TypeId} {parts : Array (Nat × Operand)} (ho : o.op = .build t parts) (h : (buildL P N o t parts).run orc s l K) : Oper.wp P o a w (After P E N H s K) Q := by
  unfold buildL at h
  split at h
  · rename_i place ty z hpl hz
    rw [run_bind] at h
    obtain ⟨ms, l1, g, hlen, hms⟩ := rdParts_sim hS _ _ _ h
    clear h
    split at g
    · rename_i cs hcs
      obtain ⟨it, v, hi, hzv, hl, hcr⟩ := zeroM_sim (role := role) (β := β) (w := w) hz
      obtain ⟨cells, e1, e2⟩ := fill_sim ms _ _ _ cs ⟨hl, hcr⟩ hcs hlen hms
      have hb := placesOf_built hpl hi hzv e1
      refine pure_sim hS g (x := .agg cells) ?_ (mkAgg_rm e2.1 (fun i x hx => ?_) fun i x d hx hd => (e2.2 i x d hx hd).2)
      · have hb' : P.built t (parts.map fun (i, x) => (i, a.eval x)).toList = some cells := by rw [← hb]; simp
        simp [execOp, ho, run_build w t _ cells hb']
      · have hi := (Array.getElem?_eq_some_iff.1 hx).1
        have h1 := e2.1
        exact (e2.2 i x cs[i] hx (by simp [show i < cs.length by omega])).1
    · exact g.elim
  · exact h.elim
theorem makeFunc_sim (hS : Sim P E N H role β a w s) {o : Oper} {fn : Fn} {first captured : Array Operand} (ho : o.op = .makeFunc fn first captured) (h : (makeFuncL P N o fn first captured).run orc s l K) : Oper.wp P o a w (After P E N H s K) Q := by
  unfold makeFuncL at h
  split at h
  · rename_i f hf
    rw [run_bind] at h
    obtain ⟨ms, l1, g, hlen, hv, hms⟩ := rdAll_sim hS _ _ _ h
    clear h
    have hf' : first = #[] := by simpa using hf
    subst hf'
    have hlen' : captured.size = ms.length := by rw [hlen]; simp
    refine pure_sim hS g (x := .func (.func f) #[] (captured.map a.eval)) ?_ (.clo (by simpa using hlen') hv fun i x m hx hm => ?_)
    · simp [execOp, ho, Instr.makeFunc]
    · simp only [Array.getElem?_map, Option.map_eq_some_iff] at hx
      obtain ⟨y, hy, rfl⟩ := hx
      exact hms i (0, y) m (by simp [hy]) hm
  · exact h.elim
theorem Rm.bool {x : Value} {b : Bool} (h : Rm P role β w x (.d (.v (.bool b)))) : x = .bool b := by cases h with | d h _ => exact h.bool
theorem pick_sim (hS : Sim P E N H role β a w s) {o : Oper} {c x y : Operand} (ho : o.op = .pick c x y) (h : (pickL P N o c x y).run orc s l K) : Oper.wp P o a w (After P E N H s K) Q := by
  unfold pickL at h
  rw [run_bind] at h
  obtain ⟨mb, l1, g, hb⟩ := rdM_sim hS h
  clear h
  split at g
  · rename_i b
    rw [run_bind] at g
    obtain ⟨mx, l2, h, hx⟩ := rdM_sim hS g
    clear g
    rw [run_bind] at h
    obtain ⟨my, l3, g, hy⟩ := rdM_sim hS h
    clear h
    have hr : (execOp a.eval o).run P w = .ok (.value (if b then a.eval x else a.eval y)) w := by simp [execOp, ho, hb.bool, asBool]
    split at g
    · exact deleg_sim hS g
    · cases b with
      | true =>
        have g' : (Lk.chk mx.isVal (putM N o mx [])).run orc s l3 K := g
        rw [run_chk] at g'
        exact pure_sim hS g'.2 hr (by simpa using hx)
      | false =>
        have g' : (Lk.chk my.isVal (putM N o my [])).run orc s l3 K := g
        rw [run_chk] at g'
        exact pure_sim hS g'.2 hr (by simpa using hy)
  · exact g.elim

theorem assert_sim (hS : Sim P E N H role β a w s) {o : Oper} {x : Operand} {xT asserted : TypeId} {ok : Bool} (ho : o.op = .typeAssert x xT asserted ok) (h : (assertL P N o x xT asserted ok).run orc s l K) : Oper.wp P o a w (After P E N H s K) Q := by
  unfold assertL at h
  rw [run_bind] at h
  obtain ⟨m, l1, g, hm⟩ := rdM_sim hS h
  clear h
  generalize hx : a.eval x = v at hm
  rw [run_chk, Bool.and_eq_true] at g
  obtain ⟨⟨hni, hsome⟩, g⟩ := g
  obtain ⟨td, hu⟩ := Option.isSome_iff_exists.1 hsome
  have hni' : ∀ ms, td ≠ .interface ms := fun ms e => by
    subst e; unfold isIface at hni; rw [hu] at hni; cases hni
  have tup : ∀ {y : Value} {m : M} {b : Bool}, Rm P role β w y m → Rm P role β w (.tuple #[y, .bool b]) (.tup [m, .d (.v (.bool b))]) := fun {y m b} hy => .tup rfl fun i x d hx hd => by
    match i with
    | 0 => simp at hx hd; subst hx; subst hd; exact hy
    | 1 => simp at hx hd; subst hx; subst hd; exact .d (.v rfl) rfl
    | i + 2 => simp at hd
  have hholds : ∀ {t : TypeId} {y : Value} {m : M}, t = asserted → a.eval x = .iface t y → Rm P role β w y m → (holdsL N o ok m).run orc s l1 K → Oper.wp P o a w (After P E N H s K) Q := by
    intro t y m ht hx hy hh
    subst ht
    unfold holdsL at hh
    rw [run_chk] at hh
    have hr : (execOp a.eval o).run P w = .ok (.value (if ok then .tuple #[y, .bool true] else y)) w := by
      cases td <;> first | (exact absurd rfl (hni' _)) | simp [execOp, ho, hx, Instr.typeAssert, run_underlying hu]
    cases ok with
    | true => exact pure_sim hS hh.2 hr (tup hy)
    | false => exact pure_sim hS hh.2 hr hy
  have hfails : (a.eval x = .nilIface ∨ ∃ t y, a.eval x = .iface t y ∧ t ≠ asserted) → (failsL P N o asserted ok).run orc s l1 K → Oper.wp P o a w (After P E N H s K) Q := by
    intro hx hh
    unfold failsL at hh
    rw [run_chk] at hh
    obtain ⟨rfl, hh⟩ := hh
    split at hh
    · rename_i z hz
      rw [run_chk] at hh
      cases hi : P.info? asserted with
      | none => simp [hi] at hz
      | some i =>
        simp only [hi, Option.bind_some] at hz
        refine pure_sim hS hh.2 (x := .tuple #[z, .bool false]) ?_ (tup (.d (.v hh.1) rfl))
        rcases hx with hx | ⟨t, y, hx, hne⟩
        · cases td <;> first | (exact absurd rfl (hni' _)) | simp [execOp, ho, hx, Instr.typeAssert, run_underlying hu, zeroValue, typeInfo, hi, hz]
        · cases td <;> first | (exact absurd rfl (hni' _)) | simp [execOp, ho, hx, Instr.typeAssert, run_underlying hu, zeroValue, typeInfo, hi, hz, hne]
    · exact hh.elim
  cases m <;> try exact False.elim g
  case d d =>
    cases d <;> try exact False.elim g
    case v x' =>
      cases x' <;> try exact False.elim g
      cases hm with
      | d hm hs =>
        cases hm with
        | v hv => exact hfails (.inl hx) g
    case iface t d =>
      cases hm with
      | d hm hs =>
        cases hm with
        | iface hm =>
          have g' : (Lk.br (t == asserted) (holdsL N o ok (.d d.strip)) (failsL P N o asserted ok)).run orc s l1 K := g
          simp only [Lk.run] at g'
          cases ht : t == asserted with
          | true =>
            rw [ht] at g'
            exact hholds (by simpa using ht) hx (.d hm.strip (strip_strip _)) g'
          | false =>
            rw [ht] at g'
            exact hfails (.inr ⟨t, _, hx, by simpa using ht⟩) g'
  case ifc t m' =>
    cases hm with
    | ifc hm hv =>
      have g' : (Lk.br (t == asserted) (holdsL N o ok m') (failsL P N o asserted ok)).run orc s l1 K := g
      simp only [Lk.run] at g'
      cases ht : t == asserted with
      | true =>
        rw [ht] at g'
        exact hholds (by simpa using ht) hx hm g'
      | false =>
        rw [ht] at g'
        exact hfails (.inr ⟨t, _, hx, by simpa using ht⟩) g'

theorem nilable_run {t : TypeId} {mx my : M} {vx vy : Value} (h : nilable P t mx my = true) (hx : Rm P role β w vx mx) (hy : Rm P role β w vy my) (d : Nat) : (Op.equalIn (d + 1) t vx vy).run P w = .ok (bothNil mx my) w := by
  unfold nilable at h
  split at h
  · split at h
    · rename_i hu; cases hx; cases hy; simp [Op.equalIn, run_underlying hu, bothNil]
    · cases h
  · split at h
    · rename_i hu
      cases hx; cases hy with | d hy _ => cases hy; simp [Op.equalIn, run_underlying hu, bothNil]
    · cases h
  · split at h
    · rename_i hu
      cases hx; cases hy with | d hy _ => cases hy; simp [Op.equalIn, run_underlying hu, bothNil]
    · cases h
  · split at h
    · rename_i hu
      cases hy; cases hx with | d hx _ => cases hx; simp [Op.equalIn, run_underlying hu, bothNil]
    · cases h
  · split at h
    · rename_i hu
      cases hy; cases hx with | d hx _ => cases hx; simp [Op.equalIn, run_underlying hu, bothNil]
    · cases h
  · unfold isIface at h
    split at h
    · rename_i hu
      cases hx; cases hy with | d hy _ => cases hy; simp [Op.equalIn, run_underlying hu, bothNil]
    · cases h
  · unfold isIface at h
    split at h
    · rename_i hu
      cases hy; cases hx with | d hx _ => cases hx; simp [Op.equalIn, run_underlying hu, bothNil]
    · cases h
  · split at h
    · rename_i hu
      cases hx; cases hy with | d hy _ => cases hy; simp [Op.equalIn, run_underlying hu, bothNil]
    · cases h
  · split at h
    · rename_i hu
      cases hy; cases hx with | d hx _ => cases hx; simp [Op.equalIn, run_underlying hu, bothNil]
    · cases h
  · split at h
    · rename_i hu
      cases hx; cases hy with | d hy _ => cases hy; simp [Op.equalIn, run_underlying hu, bothNil]
    · cases h
  · split at h
    · rename_i hu
      cases hy; cases hx with | d hx _ => cases hx; simp [Op.equalIn, run_underlying hu, bothNil]
    · cases h
  · cases h
/-- Values that no arithmetic is done with. -/
def plainV : Value → Bool
  | .pointer _ | .slice .. | .map _ | .nilIface | .iface .. | .nilFunc | .func .. => true
  | _ => false
theorem nilable_plain {t : TypeId} {mx my : M} {vx vy : Value} (h : nilable P t mx my = true) (hx : Rm P role β w vx mx) (hy : Rm P role β w vy my) : plainV vx = true ∧ plainV vy = true ∧ ¬ (vx = .nilIface ∧ vy = .nilIface) := by
  unfold nilable at h
  split at h
  · cases hx; cases hy; simp [plainV]
  all_goals first | cases h | skip
  all_goals first | (cases hx; cases hy with | d hy _ => cases hy; simp [plainV]) | (cases hy; cases hx with | d hx _ => cases hx; simp [plainV])
theorem bin_sim (hS : Sim P E N H role β a w s) {o : Oper} {op : BinOp} {t ty : TypeId} {x y : Operand} (ho : o.op = .binOp op t x y ty) (h : (binL P N o op t x y ty).run orc s l K) : Oper.wp P o a w (After P E N H s K) Q := by
  unfold binL at h
  rw [run_bind] at h
  obtain ⟨mx, l1, g, hx⟩ := rdM_sim hS h
  clear h
  rw [run_bind] at g
  obtain ⟨my, l2, h, hy⟩ := rdM_sim hS g
  clear g
  cases hd : isD mx && isD my with
  | true => rw [hd] at h; exact deleg_sim hS h
  | false =>
    rw [hd] at h
    simp only [cond_false] at h
    rw [run_chk] at h
    obtain ⟨hn, h⟩ := h
    obtain ⟨p1, p2, p3⟩ := nilable_plain hn hx hy
    have he := nilable_run hn hx hy 9999
    have hg : ∀ vx vy, plainV vx = true → plainV vy = true → ¬ (vx = .nilIface ∧ vy = .nilIface) → (eqGuard op t x y vx vy).run P w = .ok () w := by
      intro vx vy q1 q2 q3
      cases op <;> simp [eqGuard] <;> (cases vx <;> simp [plainV] at q1 <;> cases vy <;> simp [plainV] at q2 <;> simp at q3 ⊢)
    have hb : ∀ vx vy, plainV vx = true → plainV vy = true → (Op.equalIn 10000 t vx vy).run P w = .ok (bothNil mx my) w → (binOp .eql t vx vy).run P w = .ok (.bool (bothNil mx my)) w ∧ (binOp .neq t vx vy).run P w = .ok (.bool (!bothNil mx my)) w := by
      intro vx vy q1 q2 q3
      cases vx <;> simp [plainV] at q1 <;> cases vy <;> simp [plainV] at q2 <;> simp [binOp, Op.equal, Op.maxDepth, q3]
    obtain ⟨b1, b2⟩ := hb _ _ p1 p2 he
    split at h
    · exact pure_sim hS h (x := .bool (bothNil mx my)) (by simp [execOp, ho, hg _ _ p1 p2 p3, b1]) (.d (.v rfl) rfl)
    · exact pure_sim hS h (x := .bool (!bothNil mx my)) (by simp [execOp, ho, hg _ _ p1 p2 p3, b2]) (.d (.v rfl) rfl)
    · exact h.elim
end
end Go.Proofs.YthhfnggigmfmjaaDoor.Hp

set_option linter.unusedSimpArgs false
set_option linter.unusedVariables false
namespace Go.Proofs.YthhfnggigmfmjaaDoor.Hp
open Go.RowKit

section
variable (P : Program) (N H : Nat)
/-- A value that stays: a slice of a row of ours stays as it is from now on. -/
def pubCell (m : M) : Lk (D × List (Nat × M)) := match m with
  | .d x => .ret (x, [])
  | .nil T => .ret (.list false T [], [])
  | .sl T k off len => .rd (N + k) fun c => match c with
    | .row T' _ es => .chk (T == T' && decide (off + len ≤ es.length)) (.ret (.list false T ((es.drop off).take len), [(N + k, .row T' es.length es)]))
    | _ => .fail
  | _ => .fail
def pubCells : List M → Lk (List D × List (Nat × M))
  | [] => .ret ([], [])
  | m :: ms => (pubCell N m).bind fun r => (pubCells ms).bind fun q => .ret (r.1 :: q.1, r.2 ++ q.2)
def pubL (m : M) : Lk (D × List (Nat × M)) := match m with
  | .agg cs => (pubCells N cs).bind fun r => .ret (.agg r.1, r.2)
  | .ifc t m => (pubCell N m).bind fun r => .ret (.iface t r.1, r.2)
  | m => pubCell N m
def pubAll : List M → Lk (List D × List (Nat × M))
  | [] => .ret ([], [])
  | m :: ms => (pubL N m).bind fun r => (pubAll ms).bind fun q => .ret (r.1 :: q.1, r.2 ++ q.2)
/-- A slice's elements. -/
def elemsL (m : M) : Lk (TypeId × List (List D)) := match m with
  | .d (.list _ T es) => .ret (T, es)
  | .nil T => .ret (T, [])
  | .sl T k off len => .rd (N + k) fun c => match c with
    | .row T' _ es => .chk (T == T' && decide (off + len ≤ es.length)) (.ret (T, (es.drop off).take len))
    | _ => .fail
  | _ => .fail
def lenL (o : Oper) (t : TypeId) (x : Operand) : Lk (List (Nat × M)) := (rdM P N t x).bind fun m => match m with
  | .sl _ _ _ len => match P.underlying t with
    | some (.slice _) => putM N o (.d (.v (.int .i64 (len : Int)))) []
    | _ => .fail
  | .nil _ => match P.underlying t with
    | some (.slice _) => putM N o (.d (.v (.int .i64 0))) []
    | _ => .fail
  | _ => .fail
def rdBound (t : TypeId) : Option Operand → Lk (Option Int)
  | none => .ret none
  | some x => (rdM P N t x).bind fun m => match m with
    | .d (.v (.int _ n)) => .ret (some n)
    | _ => .fail
def sliceL (o : Oper) (t : TypeId) (x : Operand) (lo hi mx : Option Operand) : Lk (List (Nat × M)) := (rdM P N t x).bind fun m => match m with
  | .d _ => delegL P N o
  | .sl T k off len => match mx with
    | some _ => .fail
    | none => (rdBound P N t lo).bind fun l => (rdBound P N t hi).bind fun h => match P.underlying t with
      | some (.slice e) => .chk (T == e && (P.info? e).isSome) (.chk (decide (0 ≤ l.getD 0) && decide (l.getD 0 ≤ h.getD len) && decide (h.getD len ≤ (len : Int)))
          (putM N o (.sl T k (off + (l.getD 0).toNat) ((h.getD len).toNat - (l.getD 0).toNat)) []))
      | _ => .fail
  | .nil T => match mx with
    | some _ => .fail
    | none => (rdBound P N t lo).bind fun l => (rdBound P N t hi).bind fun h => match P.underlying t with
      | some (.slice e) => .chk (T == e && (P.info? e).isSome) (.chk (decide (0 ≤ l.getD 0) && decide (l.getD 0 ≤ h.getD 0) && decide (h.getD 0 ≤ 0)) (putM N o (.nil T) []))
      | _ => .fail
  | _ => .fail
def makeSliceL (o : Oper) (t : TypeId) (len cap : Operand) (fr : List Nat) : Lk (List (Nat × M)) := match fr, P.underlying t with
  | k :: _, some (.slice e) => match zeroCellsD P e with
    | some z => (rdM P N t len).bind fun l => (rdM P N t cap).bind fun c => match l, c with
      | .d (.v (.int _ l)), .d (.v (.int _ c)) => .chk (decide (k < H) && (P.info? e).isSome && decide (z.length = P.cellsOf e) && decide (0 < P.cellsOf e))
          (.chk (decide (0 ≤ l) && decide (l ≤ c) && decide ((P.bytesOf e : Int) * c ≤ 281474976710656) && decide (c ≤ 9223372036854775807))
          (.rd (N + k) fun m => .chk (isUndef m) (putM N o (.sl e k 0 l.toNat) [(N + k, .row e 0 (List.replicate l.toNat (z.map D.strip)))])))
      | _, _ => .fail
    | none => .fail
  | _, _ => .fail
end

theorem replicate_get {α : Type} {n i : Nat} {x e : α} (h : (List.replicate n x)[i]? = some e) : i < n ∧ e = x := by
  rw [List.getElem?_replicate] at h
  split at h
  · cases h; exact ⟨by assumption, rfl⟩
  · cases h
theorem append_inv {α : Type} {x y : List α} {i : Nat} {e : α} (h : (x ++ y)[i]? = some e) : x[i]? = some e ∨ x.length ≤ i ∧ y[i - x.length]? = some e := by
  rw [List.getElem?_append] at h
  split at h
  · exact .inl h
  · exact .inr ⟨by omega, h⟩

section
variable {P : Program} {E : Env} {N H : Nat} {role role' : Nat → Role} {β β' : Bet} {a a' : Act} {w w' : World} {s s' : List M} {orc : OrcM} {l : List Nat}
variable {K : List (Nat × M) → List Nat → Prop} {Q : Exit → Act → World → Prop}

/-- A row of ours stays as it is from now on. -/
def pubRole (role : Nat → Role) (b lim : Nat) : Nat → Role := fun k => if k = b then .row lim none else role k
theorem Sim.publish (hS : Sim P E N H role β a w s) {k : Nat} {T : TypeId} {lim : Nat} {es : List (List D)} {lo : Loc} (hg : get s (N + k) = .row T lim es) (hl : β k = some lo) :
    Ev role β w (pubRole role lo.b (lo.o + es.length * P.cellsOf T)) β w ∧ Sim P E N H (pubRole role lo.b (lo.o + es.length * P.cellsOf T)) β a w (s.set (N + k) (.row T es.length es)) := by
  have hso := hS.so k
  rw [hg] at hso
  obtain ⟨l2, cur, fz, e1, e2, e3, e4, e5, e6, e7, e8, e9⟩ := hso
  rw [hl] at e1; cases e1
  have hle : lo.o + lim * P.cellsOf T ≤ lo.o + es.length * P.cellsOf T := Nat.add_le_add_left (Nat.mul_le_mul_right _ e6) _
  have ev : Ev role β w (pubRole role lo.b (lo.o + es.length * P.cellsOf T)) β w := ⟨⟨fun b n hp => by
    by_cases hb : b = lo.b
    · subst hb; exact ⟨_, none, if_pos rfl, Nat.le_trans (e7 n hp) hle⟩
    · obtain ⟨lim', ow, h1, h2⟩ := hp; exact ⟨lim', ow, by rw [pubRole, if_neg hb]; exact h1, h2⟩, fun _ _ _ _ _ => rfl⟩, fun _ _ h => h⟩
  have hkl : N + k < s.length := lt_of_get (by rw [hg]; simp)
  refine ⟨ev, hS.turn (Below.refl _ _) ev (fun b => ?_) (fun b hb => ?_) hS.lowB hS.new (fun b hb hnl => ⟨rfl, if_neg fun e => ?_⟩) (by simp [hS.len]) (fun t ht => get_set_ne (by omega)) (fun j j' l1 l2 hj hj' h1 h2 hbb => ?_) fun j => ?_⟩
  · unfold pubRole; split
    · exact ⟨fun t => by simp, fun lim p => by simp⟩
    · exact hS.mask b
  · unfold pubRole at hb
    split at hb
    · rename_i e; subst e; exact hS.lowB k lo hl
    · exact hS.low b hb
  · subst e
    rcases hS.new k lo hl with h1 | h1
    · omega
    · exact hnl h1
  · have f : ∀ j, (get (s.set (N + k) (.row T es.length es)) (N + j)).alive = true → (get s (N + j)).alive = true := fun j hj => by
      by_cases e : j = k
      · subst e; rw [hg]; rfl
      · rw [get_set_ne (by omega)] at hj; exact hj
    exact hS.inj j j' l1 l2 (f j hj) (f j' hj') h1 h2 hbb
  · by_cases e : j = k
    · subst e; rw [get_set_self hkl]
      refine ⟨lo, cur, fz, hl, e2, e3, e4, e5, Nat.le_refl _, fun n hn => ?_, e8, fun i e j d hi hj => ?_⟩
      · obtain ⟨lim', ow, h1, h2⟩ := hn
        unfold pubRole at h1; rw [if_pos rfl] at h1; cases h1; exact h2
      · obtain ⟨y, q1, q2, q3⟩ := e9 i e j d hi hj
        exact ⟨y, q1, q2, q3.evo ev.evo⟩
    · rw [get_set_ne (by omega)]
      refine (hS.so j).ev ev (fun e' => ?_) fun l' ha' hl' => ⟨rfl, if_neg fun e' => e (hS.inj j k l' lo ha' (by rw [hg]; rfl) hl' hl e')⟩
      have := hS.so j; rw [e'] at this; exact this

/-- A slice of a row that stays is a value. -/
theorem sl_rd (hS : Sim P E N H role β a w s) {k off len lim : Nat} {T : TypeId} {es : List (List D)} {v : Value} {lo : Loc} (hg : get s (N + k) = .row T lim es) (hl : β k = some lo) (hle : off + len ≤ es.length) (hlim : lim = es.length) (hpub : pubAt role lo.b (lo.o + es.length * P.cellsOf T)) (h : Rm P role β w v (.sl T k off len)) : Rd P role w v (.list false T ((es.drop off).take len)) := by
  have hso := hS.so k
  rw [hg] at hso
  obtain ⟨l2, cur, fz, e1, e2, e3, e4, e5, e6, e7, e8, e9⟩ := hso
  rw [hl] at e1; cases e1
  cases h with
  | sl hβ hlc hn ha hsp =>
    rename_i cap lo2 ad
    rw [hl] at hβ; cases hβ
    have hlen : ((es.drop off).take len).length = len := by simp; omega
    have hget : ∀ (i : Nat) (e : List D), ((es.drop off).take len)[i]? = some e → es[off + i]? = some e ∧ i < len := fun i e hi => by
      rw [List.getElem?_take] at hi
      split at hi
      · rw [List.getElem?_drop] at hi; exact ⟨hi, by assumption⟩
      · cases hi
    by_cases h0 : 0 < cap
    · rw [ha h0]
      refine .list (fun i k => cur.getD (lo.o + (off + i) * P.cellsOf T + k) undef) hlen hlc (fun _ => ?_) (fun i e hi => e8 _ e (hget i e hi).1) (fun i e k d hi hk => ?_) (fun i e k d hi hk => ?_) (fun i e k d hi hk => ?_)
      · obtain ⟨lim', ow, h1, h2⟩ := hpub
        have : off * P.cellsOf T + len * P.cellsOf T ≤ es.length * P.cellsOf T := by rw [← Nat.add_mul]; exact Nat.mul_le_mul_right _ hle
        exact ⟨lim', ow, h1, by omega⟩
      all_goals obtain ⟨y, q1, q2, q3⟩ := e9 _ e k d (hget i e hi).1 hk
      · simp only [Array.getD_eq_getD_getElem?, q1]; exact q2
      · simp only [World.cell?, e2, Array.getD_eq_getD_getElem?, q1, Option.getD_some]
        rw [← q1, Nat.add_mul]
        simp only [Option.isSome_none, Bool.false_eq_true, if_false]
        congr 1; omega
      · simp only [Array.getD_eq_getD_getElem?, q1, Option.getD_some]; exact q3
    · have hc0 : cap = 0 := by omega
      have hl0 : len = 0 := by omega
      subst hc0; subst hl0
      rw [List.take_zero]
      cases ad with
      | none => exact .nil
      | some ad =>
        obtain ⟨b, o', sp⟩ := ad
        have := hsp _ rfl
        simp only at this; subst this
        exact .list (fun _ _ => undef) rfl (Nat.le_refl _) (fun h => absurd h (Nat.lt_irrefl _)) (fun i e h => by simp at h) (fun i e k d h => by simp at h) (fun i e k d h => by simp at h) (fun i e k d h => by simp at h)

/-- A frame whose rows stay, some of them. -/
def Raised (s s1 : List M) : Prop := s1.length = s.length ∧ ∀ t, get s1 t = get s t ∨ ∃ T lim es, get s t = .row T lim es ∧ get s1 t = .row T es.length es
theorem Raised.refl (s : List M) : Raised s s := ⟨rfl, fun _ => .inl rfl⟩

theorem pubCell_sim {s1 : List M} {role1 : Nat → Role} (hS : Sim P E N H role1 β a w s1) (hr : Raised s s1) {v : Value} {m : M} {K : D × List (Nat × M) → List Nat → Prop} (hm : Rm P role1 β w v m) (h : (pubCell N m).run orc s l K) :
    ∃ d ws l' role2, K (d, ws) l' ∧ Ev role1 β w role2 β w ∧ Sim P E N H role2 β a w (apply ws s1) ∧ Raised s (apply ws s1) ∧ Rd P role2 w v d ∧ d.strip = d := by
  unfold pubCell at h
  split at h
  · cases hm with
    | d h1 hs => exact ⟨_, _, _, role1, h, Ev.refl _ _ _, hS, hr, h1, hs⟩
  · cases hm with
    | nil => exact ⟨_, _, _, role1, h, Ev.refl _ _ _, hS, hr, .nil, rfl⟩
  · rename_i T k off len
    simp only [Lk.run] at h
    have hrk := hr.2 (N + k)
    generalize hg : get s (N + k) = c at h hrk
    cases c <;> try exact False.elim h
    rename_i T' lim es
    simp only at h
    rw [run_chk, Bool.and_eq_true, beq_iff_eq, decide_eq_true_eq] at h
    obtain ⟨⟨rfl, hle⟩, hK⟩ := h
    have hg1 : ∃ lim1, get s1 (N + k) = .row T lim1 es := by
      rcases hrk with e | ⟨T2, lim2, es2, e1, e2⟩
      · exact ⟨_, e⟩
      · cases e1; exact ⟨_, e2⟩
    obtain ⟨lim1, hg1⟩ := hg1
    have hso := hS.so k
    rw [hg1] at hso
    obtain ⟨lo, hl⟩ := hso.bet rfl
    obtain ⟨ev, hS2⟩ := hS.publish hg1 hl
    have hkl : N + k < s1.length := lt_of_get (by rw [hg1]; simp)
    refine ⟨_, _, _, _, hK, ev, hS2, ⟨by simp [apply, hr.1], fun t => ?_⟩, sl_rd hS2 (get_set_self hkl) hl hle rfl ⟨_, none, if_pos rfl, Nat.le_refl _⟩ (hm.ev ev), rfl⟩
    by_cases e : t = N + k
    · subst e; exact .inr ⟨_, _, _, hg, get_set_self hkl⟩
    · have e' : get (apply [(N + k, M.row T es.length es)] s1) t = get s1 t := get_set_ne (fun e' => e e'.symm)
      rw [e']; exact hr.2 t
  · exact h.elim
theorem pubCells_sim : ∀ (ms : List M) (vs : List Value) (s1 : List M) (role1 : Nat → Role) (l : List Nat) (K : List D × List (Nat × M) → List Nat → Prop), Sim P E N H role1 β a w s1 → Raised s s1 → vs.length = ms.length → (∀ (i : Nat) (v : Value) (m : M), vs[i]? = some v → ms[i]? = some m → Rm P role1 β w v m) → (pubCells N ms).run orc s l K →
    ∃ ds ws l' role2, K (ds, ws) l' ∧ Ev role1 β w role2 β w ∧ Sim P E N H role2 β a w (apply ws s1) ∧ Raised s (apply ws s1) ∧ ds.length = ms.length ∧ ∀ (i : Nat) (v : Value) (d : D), vs[i]? = some v → ds[i]? = some d → Rd P role2 w v d ∧ d.strip = d
  | [], vs, s1, role1, l, K, hS, hr, hl, _, h => ⟨[], [], l, role1, h, Ev.refl _ _ _, hS, hr, rfl, fun i v d _ hd => by simp at hd⟩
  | m :: ms, [], s1, role1, l, K, hS, hr, hl, _, h => by simp at hl
  | m :: ms, v :: vs, s1, role1, l, K, hS, hr, hl, hv, h => by
    rw [pubCells, run_bind] at h
    obtain ⟨d, ws, l1, r2, h1, ev1, hS1, hr1, hd, hds⟩ := pubCell_sim hS hr (hv 0 v m rfl rfl) h
    rw [run_bind] at h1
    obtain ⟨ds, ws2, l2, r3, h2, ev2, hS2, hr2, hlen, hds2⟩ := pubCells_sim ms vs _ r2 _ _ hS1 hr1 (by simpa using hl) (fun i v m h3 h4 => (hv (i + 1) v m (by simpa using h3) (by simpa using h4)).ev ev1) h1
    refine ⟨_, _, _, r3, h2, ev1.trans ev2, by rw [apply_append]; exact hS2, by rw [apply_append]; exact hr2, by simp [hlen], fun i v' d' h3 h4 => ?_⟩
    cases i with
    | zero => simp at h3 h4; subst h3; subst h4; exact ⟨hd.evo ev2.evo, hds⟩
    | succ i => simp at h3 h4; exact hds2 i v' d' h3 h4
theorem pubL_sim {s1 : List M} {role1 : Nat → Role} (hS : Sim P E N H role1 β a w s1) (hr : Raised s s1) {v : Value} {m : M} {K : D × List (Nat × M) → List Nat → Prop} (hm : Rm P role1 β w v m) (h : (pubL N m).run orc s l K) :
    ∃ d ws l' role2, K (d, ws) l' ∧ Ev role1 β w role2 β w ∧ Sim P E N H role2 β a w (apply ws s1) ∧ Raised s (apply ws s1) ∧ Rd P role2 w v d ∧ d.strip = d := by
  unfold pubL at h
  split at h
  · rename_i cs
    cases hm with
    | agg hl h1 hc =>
      rename_i vs
      rw [run_bind] at h
      obtain ⟨ds, ws, l1, r2, h2, ev, hS2, hr2, hlen, hds⟩ := pubCells_sim cs vs.toList s1 role1 _ _ hS hr (by simpa using hl) (fun i v m h3 h4 => hc i v m (by simpa using h3) h4) h
      exact ⟨_, _, _, r2, h2, ev, hS2, hr2, .agg (hl.trans hlen.symm) h1 fun i x d hx hd => (hds i x d (by simpa using hx) hd).1, rfl⟩
  · rename_i t m'
    cases hm with
    | ifc hm hv =>
      rw [run_bind] at h
      obtain ⟨d, ws, l1, r2, h2, ev, hS2, hr2, hd, hds⟩ := pubCell_sim hS hr hm h
      exact ⟨_, _, _, r2, h2, ev, hS2, hr2, .iface hd, rfl⟩
  · exact pubCell_sim hS hr hm h
theorem pubAll_sim : ∀ (ms : List M) (vs : List Value) (s1 : List M) (role1 : Nat → Role) (l : List Nat) (K : List D × List (Nat × M) → List Nat → Prop), Sim P E N H role1 β a w s1 → Raised s s1 → vs.length = ms.length → (∀ (i : Nat) (v : Value) (m : M), vs[i]? = some v → ms[i]? = some m → Rm P role1 β w v m) → (pubAll N ms).run orc s l K →
    ∃ ds ws l' role2, K (ds, ws) l' ∧ Ev role1 β w role2 β w ∧ Sim P E N H role2 β a w (apply ws s1) ∧ Raised s (apply ws s1) ∧ ds.length = ms.length ∧ ∀ (i : Nat) (v : Value) (d : D), vs[i]? = some v → ds[i]? = some d → Rd P role2 w v d ∧ d.strip = d
  | [], vs, s1, role1, l, K, hS, hr, hl, _, h => ⟨[], [], l, role1, h, Ev.refl _ _ _, hS, hr, rfl, fun i v d _ hd => by simp at hd⟩
  | m :: ms, [], s1, role1, l, K, hS, hr, hl, _, h => by simp at hl
  | m :: ms, v :: vs, s1, role1, l, K, hS, hr, hl, hv, h => by
    rw [pubAll, run_bind] at h
    obtain ⟨d, ws, l1, r2, h1, ev1, hS1, hr1, hd, hds⟩ := pubL_sim hS hr (hv 0 v m rfl rfl) h
    rw [run_bind] at h1
    obtain ⟨ds, ws2, l2, r3, h2, ev2, hS2, hr2, hlen, hds2⟩ := pubAll_sim ms vs _ r2 _ _ hS1 hr1 (by simpa using hl) (fun i v m h3 h4 => (hv (i + 1) v m (by simpa using h3) (by simpa using h4)).ev ev1) h1
    refine ⟨_, _, _, r3, h2, ev1.trans ev2, by rw [apply_append]; exact hS2, by rw [apply_append]; exact hr2, by simp [hlen], fun i v' d' h3 h4 => ?_⟩
    cases i with
    | zero => simp at h3 h4; subst h3; subst h4; exact ⟨hd.evo ev2.evo, hds⟩
    | succ i => simp at h3 h4; exact hds2 i v' d' h3 h4

theorem len_sim (hS : Sim P E N H role β a w s) {o : Oper} {x : Operand} {t : TypeId} {types : Array TypeId} (ht : types[0]? = some t) (ho : o.op = .call { callee := .builtin .len, args := #[x], argTypes := types })
    (h : (lenL P N o t x).run orc s l K) : Oper.wp P o a w (After P E N H s K) Q := by
  unfold lenL at h
  rw [run_bind] at h
  obtain ⟨m, l1, g, hm⟩ := rdM_sim hS h
  clear h
  generalize hx : a.eval x = v at hm
  split at g
  · split at g
    · rename_i hu
      cases hm with
      | sl hβ hlc hn ha hsp =>
        refine pure_sim hS g ?_ (.d (.v rfl) rfl)
        simp [execOp, ho, resolve, invoke, builtin, Builtin.len_, ht, run_underlying hu, hx, goInt]
    · exact g.elim
  · split at g
    · rename_i hu
      cases hm with
      | nil =>
        refine pure_sim hS g ?_ (.d (.v rfl) rfl)
        simp [execOp, ho, resolve, invoke, builtin, Builtin.len_, ht, run_underlying hu, hx, goInt]
    · exact g.elim
  · exact g.elim

theorem rdBound_sim (hS : Sim P E N H role β a w s) {t : TypeId} {x : Option Operand} {K : Option Int → List Nat → Prop} (h : (rdBound P N t x).run orc s l K) :
    ∃ b l', K b l' ∧ (x = none ∧ b = none ∨ ∃ y k m, x = some y ∧ b = some m ∧ a.eval y = .int k m) := by
  cases x with
  | none => exact ⟨none, l, h, .inl ⟨rfl, rfl⟩⟩
  | some y =>
    simp only [rdBound] at h
    rw [run_bind] at h
    obtain ⟨m, l1, g, hm⟩ := rdM_sim hS h
    clear h
    split at g
    · exact ⟨_, _, g, .inr ⟨y, _, _, rfl, rfl, hm.int⟩⟩
    · exact g.elim
theorem slice_sim (hS : Sim P E N H role β a w s) {o : Oper} {t : TypeId} {x : Operand} {lo hi mx : Option Operand} (ho : o.op = .slice t x lo hi mx) (h : (sliceL P N o t x lo hi mx).run orc s l K) : Oper.wp P o a w (After P E N H s K) Q := by
  unfold sliceL at h
  rw [run_bind] at h
  obtain ⟨m, l1, g, hm⟩ := rdM_sim hS h
  clear h
  generalize hx : a.eval x = v at hm
  split at g
  · exact deleg_sim hS g
  · rename_i T k off len
    cases mx with
    | some _ => exact g.elim
    | none =>
      simp only at g
      rw [run_bind] at g
      obtain ⟨lv, l2, h, hlv⟩ := rdBound_sim hS g
      clear g
      rw [run_bind] at h
      obtain ⟨hv, l3, g, hhv⟩ := rdBound_sim hS h
      clear h
      split at g
      · rename_i e hu
        rw [run_chk, run_chk] at g
        obtain ⟨hc, hb, g⟩ := g
        simp only [Bool.and_eq_true, beq_iff_eq, decide_eq_true_eq] at hc hb
        obtain ⟨rfl, hi'⟩ := hc
        obtain ⟨⟨c1, c2⟩, c3⟩ := hb
        obtain ⟨inf, hinf⟩ := Option.isSome_iff_exists.1 hi'
        have hsz := run_sizeOf' (P := P) (w := w) hinf
        cases hm with
        | sl hβ hlc hn ha hsp =>
          rename_i cap lo2 ad
          have hb := run_sliceBounds (P := P) (w := w) (isSlice := true) hlv hhv c1 c2 c3 hlc
          generalize hlo : (lv.getD 0).toNat = L at *
          generalize hhi : (hv.getD (len : Int)).toNat = Hh at *
          have hLH : L ≤ Hh := by omega
          have hHl : Hh ≤ len := by omega
          have hrun : (execOp a.eval o).run P w = .ok (.value (.slice (if cap = L then ad else ad.map (·.add (L * P.cellsOf T))) (Hh - L) (cap - L))) w := by
            by_cases hcl : cap = L
            · subst hcl; simp [execOp, ho, hx, Instr.sliceAt, Instr.slice, run_underlying hu, hb, hsz]
            · simp [execOp, ho, hx, Instr.sliceAt, Instr.slice, run_underlying hu, hb, hsz, hcl]
          refine pure_sim hS g hrun (.sl hβ (by omega) (by rw [show off + L + (cap - L) = off + cap by omega]; exact hn) (fun h0 => ?_) fun ad' had => ?_)
          · rw [if_neg (by omega), ha (by omega)]
            simp [Addr.add_lit', Nat.add_mul, Nat.add_assoc]
          · by_cases hcl : cap = L
            · rw [if_pos hcl] at had; exact hsp _ had
            · rw [if_neg hcl, ha (by omega)] at had
              simp [Addr.add_lit'] at had
              rw [← had]
      · exact g.elim
  · rename_i T
    cases mx with
    | some _ => exact g.elim
    | none =>
      simp only at g
      rw [run_bind] at g
      obtain ⟨lv, l2, h, hlv⟩ := rdBound_sim hS g
      clear g
      rw [run_bind] at h
      obtain ⟨hv, l3, g, hhv⟩ := rdBound_sim hS h
      clear h
      split at g
      · rename_i e hu
        rw [run_chk, run_chk] at g
        obtain ⟨hc, hb, g⟩ := g
        simp only [Bool.and_eq_true, beq_iff_eq, decide_eq_true_eq] at hc hb
        obtain ⟨rfl, hi'⟩ := hc
        obtain ⟨⟨c1, c2⟩, c3⟩ := hb
        obtain ⟨inf, hinf⟩ := Option.isSome_iff_exists.1 hi'
        have hsz := run_sizeOf' (P := P) (w := w) hinf
        cases hm with
        | nil =>
          have e1 : lv.getD 0 = 0 := by omega
          have e2 : hv.getD ((0 : Nat) : Int) = 0 := by show hv.getD 0 = 0; omega
          have hb := run_sliceBounds (P := P) (w := w) (isSlice := true) (len := 0) (cap := 0) hlv hhv c1 c2 c3 (Nat.le_refl _)
          rw [e1, e2] at hb
          refine pure_sim hS g (x := .slice none 0 0) ?_ .nil
          simp [execOp, ho, hx, Instr.sliceAt, Instr.slice, run_underlying hu, hb, hsz]
      · exact g.elim
  · exact g.elim

/-- A new row, in a new slot. -/
theorem newRow_slot (hS : Sim P E N H role β a w s) {k lim : Nat} {T : TypeId} {es : List (List D)} {cur : Array Value} {fz : Nat × Nat} (hu : get s (N + k) = .undef) (hk : k < H) (hx : Exd w w') (hat : w'.heap[w.heap.size]? = some (.cells cur T fz))
    (hfz : ∀ i, i < cur.size → ¬ (fz.1 ≤ i ∧ i < fz.2)) (hfit : es.length * P.cellsOf T ≤ cur.size) (hlim : lim ≤ es.length) (hs : ∀ (i : Nat) (e : List D), es[i]? = some e → e.length = P.cellsOf T)
    (hc : ∀ (i : Nat) (e : List D) (j : Nat) (d : D), es[i]? = some e → e[j]? = some d → ∃ y, cur[i * P.cellsOf T + j]? = some y ∧ y.oneCell' = true ∧ Rd P role w y d) :
    Ev role β w role (upd β k ⟨w.heap.size, 0, cur.size⟩) w' ∧ Sim P E N H role (upd β k ⟨w.heap.size, 0, cur.size⟩) a w' (s.set (N + k) (.row T lim es)) := by
  have hrole : role w.heap.size = .none := by
    cases hr : role w.heap.size with
    | none => rfl
    | _ => have := hS.low w.heap.size (by rw [hr]; simp); omega
  have hno : β k = none := by have := hS.so k; rw [hu] at this; exact this
  have ev : Evo role w role w' := ⟨fun _ _ hp => hp, fun b n o hp _ => by
    obtain ⟨lim, ow, h1, _⟩ := hp
    exact hx.cell (p := ⟨b, o, none⟩) (hS.low b (by rw [h1]; simp))⟩
  refine hS.slot (l := ⟨w.heap.size, 0, cur.size⟩) hu hk hx (Nat.le_refl _) ?_ ⟨⟨w.heap.size, 0, cur.size⟩, cur, fz, by simp [upd], hat, hfz, rfl, by simpa using hfit, hlim, fun n hn => ?_, hs, fun i e j d hi hj => ?_⟩
  · exact (Array.getElem?_eq_some_iff.1 hat).1
  · obtain ⟨lim, ow, h1, _⟩ := hn
    rw [hrole] at h1; cases h1
  · obtain ⟨y, q1, q2, q3⟩ := hc i e j d hi hj
    exact ⟨y, by simpa using q1, q2, q3.evo ev⟩

theorem makeSlice_sim (hS : Sim P E N H role β a w s) {o : Oper} {t : TypeId} {len cap : Operand} {fr : List Nat} (ho : o.op = .makeSlice t len cap) (h : (makeSliceL P N H o t len cap fr).run orc s l K) : Oper.wp P o a w (After P E N H s K) Q := by
  unfold makeSliceL at h
  split at h
  · rename_i k _ e hu
    split at h
    · rename_i z hz
      rw [run_bind] at h
      obtain ⟨ml, l1, g, hl⟩ := rdM_sim hS h
      clear h
      rw [run_bind] at g
      obtain ⟨mc, l2, h, hc⟩ := rdM_sim hS g
      clear g
      split at h
      · rename_i kl nl kc nc
        rw [run_chk, run_chk] at h
        obtain ⟨h1, h2, h⟩ := h
        simp only [Bool.and_eq_true, decide_eq_true_eq] at h1 h2
        obtain ⟨⟨⟨hk, hi⟩, hzl⟩, hpos⟩ := h1
        obtain ⟨⟨⟨c0, c1⟩, c2⟩, c3⟩ := h2
        simp only [Lk.run] at h
        rw [cond_and] at h
        obtain ⟨hun, h⟩ := h
        obtain ⟨it, zv, hi', hzv, hcr⟩ := zeroCells_sim (role := role) (w := w) hz
        have hcell := cellsOf_info hi'
        have hby : P.bytesOf e = it.bytes := by simp [Program.bytesOf, hi']
        have hvs : zv.cells.size = P.cellsOf e := by have := hcr.1; simp at this; omega
        have hrun := run_make (P := P) w t e it zv hu hi' hzv kl kc nl nc c0 c1 (by rw [← hby]; exact c2) c3
        have hr : (execOp a.eval o).run P w = .ok (.value (.slice (some ⟨w.heap.size, 0, none⟩) nl.toNat nc.toNat)) (w.alloc (.cells (madeCells zv.cells (nc.toNat * it.size)) e)) := by
          simp [execOp, ho, hl.int, hc.int, hrun]
        have hnn : nl.toNat ≤ nc.toNat := by omega
        obtain ⟨ev, hS'⟩ := newRow_slot (T := e) (es := List.replicate nl.toNat (z.map D.strip)) (cur := madeCells zv.cells (nc.toNat * it.size)) (fz := (0, 0)) hS (isUndef_eq hun) hk (Exd.refl w).al (at_alloc' _ _) (fun i _ hh => by simp at hh)
          (by rw [size_madeCells, List.length_replicate, hcell]; exact Nat.mul_le_mul_right _ hnn) (Nat.zero_le _) (fun i e' hi => by
            obtain ⟨_, rfl⟩ := replicate_get hi; simp [hzl]) (fun i e' j d hi hj => by
            obtain ⟨hin, rfl⟩ := replicate_get hi
            have hj' := (List.getElem?_eq_some_iff.1 hj).1
            have hj2 : j < P.cellsOf e := by simpa [hzl] using hj'
            have hlt := seg_lt (c := P.cellsOf e) (show i < nc.toNat by omega) hj2
            have hy : zv.cells[j]? = some (zv.cells[j]'(by omega)) := Array.getElem?_eq_getElem (by omega)
            have := hcr.2 j _ d hy hj
            refine ⟨_, ?_, this.1, this.2⟩
            · unfold madeCells
              rw [Array.getElem?_map, Array.getElem?_range, if_pos (by rw [← hcell]; exact hlt)]
              have e3 : (i * P.cellsOf e + j) % zv.cells.size = j := by rw [hvs, Nat.mul_comm, Nat.mul_add_mod, Nat.mod_eq_of_lt hj2]
              rw [Option.map_some, e3]
              simp [show j < zv.cells.size by omega])
        refine fin_sim (ws := [(N + k, .row e 0 (List.replicate nl.toNat (z.map D.strip)))]) hS' h hr (.sl (l := ⟨w.heap.size, 0, (madeCells zv.cells (nc.toNat * it.size)).size⟩) (by simp [upd]) hnn ?_ (fun _ => ?_) fun ad had => ?_)
        · rw [size_madeCells, ← hcell]; simp
        · simp
        · cases had; rfl
      · exact h.elim
    · exact h.elim
  · exact h.elim
end
end Go.Proofs.YthhfnggigmfmjaaDoor.Hp

set_option linter.unusedSimpArgs false
set_option linter.unusedVariables false
namespace Go.Proofs.YthhfnggigmfmjaaDoor.Hp
open Go.RowKit

section
variable (P : Program) (N H : Nat)
def rowOf (k : Nat) (T : TypeId) (es : List (List D)) (ws : List (Nat × M)) (o : Oper) : Lk (List (Nat × M)) :=
  .chk (decide (k < H)) (.rd (N + k) fun m => .chk (isUndef m) (putM N o (.sl T k 0 es.length) (ws ++ [(N + k, .row T 0 es)])))
def buildSliceL (o : Oper) (t : TypeId) (len : Nat) (parts : Array (Nat × Operand)) (fr : List Nat) : Lk (List (Nat × M)) := match fr, P.underlying t with
  | k :: _, some (.slice e) => match zeroCellsD P e with
    | some z => .chk ((P.info? e).isSome && decide (z.length = P.cellsOf e) && decide (0 < P.cellsOf e) && decide (len * P.cellsOf e ≤ 2 ^ 24))
      ((rdParts P N (fun _ => e) parts.toList).bind fun ms => (pubAll N (ms.map (·.2))).bind fun r => match fillD (fun i => some (i * P.cellsOf e, P.cellsOf e)) ((List.replicate len (z.map D.strip)).flatten) ((ms.map (·.1)).zip r.1) with
        | some cs => rowOf N H k e (chunks (P.cellsOf e) len cs) r.2 o
        | none => .fail)
    | none => .fail
  | _, _ => .fail
def appendL (o : Oper) (t1 t2 : TypeId) (x y : Operand) (fr : List Nat) : Lk (List (Nat × M)) := match fr, P.underlying t1 with
  | k' :: _, some (.slice e) => (rdM P N t1 x).bind fun mx => (rdM P N t2 y).bind fun my => (elemsL N my).bind fun q =>
    .chk (t1 == t2 && q.1 == e && (zeroCellsD P e).isSome && decide (0 < P.cellsOf e) && decide ((P.cellsOf e) = ((zeroCellsD P e).getD []).length) && decide (k' < H)) (match mx with
    | .nil T => .chk (T == e) (.chk (decide (q.2.length * (P.bytesOf e + 1) ≤ 70368744177664)) (.br (decide (q.2.length = 0)) (putM N o (.nil T) [])
        (.rd (N + k') fun m => .chk (isUndef m) (putM N o (.sl T k' 0 q.2.length) [(N + k', .row T 0 q.2)]))))
    | .sl T k off len => .rd (N + k) fun c => match c with
      | .row T' lim es => .chk (T == e && T' == e) (.chk (decide (off + len ≤ es.length)) (.chk (decide (lim ≤ off + len)) (.chk (decide ((len + q.2.length) * (P.bytesOf e + 1) ≤ 70368744177664))
          (.rd (N + k') fun m => .chk (isUndef m) (putM N o (.sl T k' 0 (len + q.2.length)) [(N + k, .dead), (N + k', .row T (lim - off) ((es.drop off).take len ++ q.2))])))))
      | _ => .fail
    | _ => .fail)
  | _, _ => .fail
end

theorem run_append_room_nf {P : Program} {w : World} (t ty e : TypeId) (i : TypeInfo) (ht : P.underlying t = some (.slice e)) (hi : P.info? e = some i)
    (b off sLen sCap : Nat) (cur : Array Value) (fz : Nat × Nat) (hg : w.heap[b]? = some (.cells cur e fz)) (hfz : ∀ i, i < cur.size → ¬ (fz.1 ≤ i ∧ i < fz.2))
    (a : Addr) (m c : Nat) (news : List Value) (hl : news.length = m * i.size) (hnews : ∀ j u, news[j]? = some u → w.cell? (a.add j) = some u) (h1 : ∀ u ∈ news, u.oneCell' = true)
    (hroom : sLen + m ≤ sCap) (hfit : off + sLen * i.size + news.length ≤ cur.size) :
    (Builtin.append_ #[t, t] ty #[.slice (some ⟨b, off, none⟩) sLen sCap, .slice (some a) m c]).run P w =
      .ok (.slice (some ⟨b, off, none⟩) (sLen + m) sCap) (w.setRow b (cur.toList.take (off + sLen * i.size) ++ news ++ cur.toList.drop (off + sLen * i.size + news.length)).toArray) := by
  have hf := run_firstCells_some (P := P) w i.size m a m c news hl hnews
  have hst := run_storeCells_nf P b (off + sLen * i.size) e fz news 0 cur w hg hfz (by simpa using hfit) h1
  simp only [Nat.add_zero] at hst
  simp [Builtin.append_, run_underlying ht, sizeOf, typeInfo, hi, Builtin.lenOf, hroom, hf, Addr.add_lit', hst]

/-- What is known of a slice's elements. -/
structure Elems (P : Program) (role : Nat → Role) (w : World) (v : Value) (T : TypeId) (es : List (List D)) : Prop where
  shape : ∃ b c, v = .slice b es.length c
  sizes : ∀ (i : Nat) (e : List D), es[i]? = some e → e.length = P.cellsOf T
  news : es ≠ [] → ∃ (ad : Addr) (c : Nat) (news : List Value), v = .slice (some ad) es.length c ∧ news.length = es.length * P.cellsOf T ∧ (∀ (j : Nat) (u : Value), news[j]? = some u → w.cell? (ad.add j) = some u) ∧ (∀ u : Value, u ∈ news → u.oneCell' = true) ∧
      ∀ (i : Nat) (e : List D) (k : Nat) (d : D), es[i]? = some e → e[k]? = some d → ∃ y, news[i * P.cellsOf T + k]? = some y ∧ Rd P role w y d

section
variable {P : Program} {E : Env} {N H : Nat} {role role' : Nat → Role} {β β' : Bet} {a a' : Act} {w w' : World} {s s' : List M} {orc : OrcM} {l : List Nat}
variable {K : List (Nat × M) → List Nat → Prop} {Q : Exit → Act → World → Prop}

/-- The cells of a part of a row's elements. -/
theorem row_news {T : TypeId} {es : List (List D)} {cur : Array Value} {o off len : Nat} (hpos : 0 < P.cellsOf T) (hle : off + len ≤ es.length) (hfit : o + es.length * P.cellsOf T ≤ cur.size) (hs : ∀ (i : Nat) (e : List D), es[i]? = some e → e.length = P.cellsOf T)
    (hc : ∀ (i : Nat) (e : List D) (j : Nat) (d : D), es[i]? = some e → e[j]? = some d → ∃ y, cur[o + i * P.cellsOf T + j]? = some y ∧ y.oneCell' = true ∧ Rd P role w y d) :
    ((cur.toList.drop (o + off * P.cellsOf T)).take (len * P.cellsOf T)).length = len * P.cellsOf T ∧ (∀ u ∈ (cur.toList.drop (o + off * P.cellsOf T)).take (len * P.cellsOf T), u.oneCell' = true) ∧
    (∀ (j : Nat) (u : Value), ((cur.toList.drop (o + off * P.cellsOf T)).take (len * P.cellsOf T))[j]? = some u → cur[o + off * P.cellsOf T + j]? = some u) ∧
    ∀ (i : Nat) (e : List D) (k : Nat) (d : D), ((es.drop off).take len)[i]? = some e → e[k]? = some d → ∃ y, ((cur.toList.drop (o + off * P.cellsOf T)).take (len * P.cellsOf T))[i * P.cellsOf T + k]? = some y ∧ y.oneCell' = true ∧ Rd P role w y d := by
  have hseg : off * P.cellsOf T + len * P.cellsOf T ≤ es.length * P.cellsOf T := by rw [← Nat.add_mul]; exact Nat.mul_le_mul_right _ hle
  have hj : ∀ (j : Nat) (u : Value), ((cur.toList.drop (o + off * P.cellsOf T)).take (len * P.cellsOf T))[j]? = some u → j < len * P.cellsOf T ∧ cur[o + off * P.cellsOf T + j]? = some u := by
    intro j u hu
    rw [List.getElem?_take] at hu
    split at hu
    · rename_i h1
      rw [List.getElem?_drop] at hu
      exact ⟨h1, by simpa using hu⟩
    · cases hu
  refine ⟨by simp; omega, fun u hu => ?_, fun j u hu => (hj j u hu).2, fun i e k d hi hk => ?_⟩
  · obtain ⟨j, hj2⟩ := List.getElem?_of_mem hu
    obtain ⟨h1, h2⟩ := hj j u hj2
    have hq : j / P.cellsOf T < len := (Nat.div_lt_iff_lt_mul hpos).2 h1
    have hi2 : off + j / P.cellsOf T < es.length := by omega
    have he : es[off + j / P.cellsOf T]? = some (es[off + j / P.cellsOf T]'hi2) := List.getElem?_eq_getElem hi2
    have hel := hs _ _ he
    have hm := Nat.mod_lt j hpos
    have hd := List.getElem?_eq_getElem (l := es[off + j / P.cellsOf T]'hi2) (i := j % P.cellsOf T) (by omega)
    obtain ⟨y, q1, q2, _⟩ := hc _ _ _ _ he hd
    have e3 : o + (off + j / P.cellsOf T) * P.cellsOf T + j % P.cellsOf T = o + off * P.cellsOf T + j := by
      have := Nat.div_add_mod j (P.cellsOf T)
      rw [Nat.mul_comm] at this
      rw [Nat.add_mul]; omega
    rw [e3, h2] at q1
    cases q1; exact q2
  · rw [List.getElem?_take] at hi
    split at hi
    · rename_i h1
      rw [List.getElem?_drop] at hi
      obtain ⟨y, q1, q2, q3⟩ := hc _ e k d hi hk
      have hk' : k < P.cellsOf T := by
        have := (List.getElem?_eq_some_iff.1 hk).1
        rw [hs _ _ hi] at this; exact this
      have hlt := seg_lt (c := P.cellsOf T) h1 hk'
      refine ⟨y, ?_, q2, q3⟩
      rw [List.getElem?_take, if_pos hlt, List.getElem?_drop, ← q1, Nat.add_mul]
      simp only [Array.getElem?_toList]
      congr 1; omega
    · cases hi

theorem elems_sim (hS : Sim P E N H role β a w s) {v : Value} {m : M} {K : TypeId × List (List D) → List Nat → Prop} (hm : Rm P role β w v m) (h : (elemsL N m).run orc s l K) :
    ∃ T es l', K (T, es) l' ∧ (0 < P.cellsOf T → Elems P role w v T es) := by
  unfold elemsL at h
  split at h
  · rename_i ow T es
    refine ⟨T, es, l, h, fun hpos => ?_⟩
    cases hm with
    | d hm hs =>
      refine ⟨?_, list_sizes hm, fun hne => ?_⟩
      · cases hm with
        | nil => exact ⟨_, _, rfl⟩
        | list f hl => exact ⟨_, _, by rw [hl]⟩
      · obtain ⟨ad, c, news, h1, h2, h3, h4, h5⟩ := list_news hm hpos hne
        exact ⟨ad, c, news, h1, h2, h3, h4, h5⟩
  · rename_i T
    cases hm with
    | nil => exact ⟨T, [], l, h, fun _ => ⟨⟨_, _, rfl⟩, fun i e hi => by simp at hi, fun hne => absurd rfl hne⟩⟩
  · rename_i T k off len
    simp only [Lk.run] at h
    have hso := hS.so k
    generalize hg : get s (N + k) = c at h hso
    cases c <;> try exact False.elim h
    rename_i T' lim es
    simp only at h
    rw [run_chk, Bool.and_eq_true, beq_iff_eq, decide_eq_true_eq] at h
    obtain ⟨⟨rfl, hle⟩, hK⟩ := h
    refine ⟨T, _, _, hK, fun hpos => ?_⟩
    obtain ⟨lo, cur, fz, e1, e2, e3, e4, e5, e6, e7, e8, e9⟩ := hso
    have hlen : ((es.drop off).take len).length = len := by simp; omega
    have hget : ∀ (i : Nat) (e : List D), ((es.drop off).take len)[i]? = some e → es[off + i]? = some e := fun i e hi => by
      rw [List.getElem?_take] at hi
      split at hi
      · rw [List.getElem?_drop] at hi; exact hi
      · cases hi
    cases hm with
    | sl hβ hlc hn ha hsp =>
      rename_i cap lo2 ad
      rw [e1] at hβ; cases hβ
      refine ⟨⟨ad, cap, by rw [hlen]⟩, fun i e hi => e8 _ e (hget i e hi), fun hne => ?_⟩
      have h0 : 0 < len := by
        rcases Nat.eq_zero_or_pos len with h0 | h0
        · subst h0; rw [List.take_zero] at hne; exact absurd rfl hne
        · exact h0
      obtain ⟨n1, n2, n3, n4⟩ := row_news (role := role) (w := w) (off := off) (len := len) hpos hle (by omega) e8 e9
      refine ⟨⟨lo.b, lo.o + off * P.cellsOf T, none⟩, cap, _, by rw [ha (by omega), hlen], by rw [hlen]; exact n1, fun j u hu => ?_, n2, fun i e k d hi hk => ?_⟩
      · rw [Addr.add_lit']
        simp only [World.cell?, e2, Option.isSome_none, Bool.false_eq_true, if_false]
        exact n3 j u hu
      · obtain ⟨y, q1, q2, q3⟩ := n4 i e k d hi hk
        exact ⟨y, q1, q3⟩
  · exact h.elim

/-- A row goes on in another slot, in its block. -/
theorem Sim.rehome (hS : Sim P E N H role β a w s) {k k' lim : Nat} {T : TypeId} {es : List (List D)} {m : M} {lo lo' : Loc} (hl : β k = some lo) (hg : get s (N + k) = .row T lim es) (hu : get s (N + k') = .undef) (hk : k' < H) (hb' : lo'.b = lo.b) (hx : Below 0 w w') (hoth : ∀ b, b ≠ lo.b → w'.heap[b]? = w.heap[b]?) (hsz : w'.heap.size = w.heap.size)
    (hpub : ∀ n o, pubAt role lo.b n → o < n → w'.cell? ⟨lo.b, o, none⟩ = w.cell? ⟨lo.b, o, none⟩) (hm : Ev role β w role (upd β k' lo') w' → SO P role (upd β k' lo') w' k' m) :
    Ev role β w role (upd β k' lo') w' ∧ Sim P E N H role (upd β k' lo') a w' ((s.set (N + k) .dead).set (N + k') m) := by
  have hno : β k' = none := by have := hS.so k'; rw [hu] at this; exact this
  have hne : k ≠ k' := fun e => by subst e; rw [hg] at hu; cases hu
  have ev : Ev role β w role (upd β k' lo') w' := ⟨⟨fun _ _ hp => hp, fun b n o hp ho => by
    by_cases e : b = lo.b
    · subst e; exact hpub n o hp ho
    · exact World.cell?_of_block (w := w) (a := ⟨b, o, none⟩) (hoth b e)⟩, fun j l' hj => by
    unfold upd; rw [if_neg (fun e => by subst e; rw [hno] at hj; cases hj)]; exact hj⟩
  have hu' : ∀ j l', upd β k' lo' j = some l' → j = k' ∧ l' = lo' ∨ j ≠ k' ∧ β j = some l' := fun j l' hj => by
    unfold upd at hj
    split at hj
    · rename_i e; cases hj; exact .inl ⟨e, rfl⟩
    · rename_i e; exact .inr ⟨e, hj⟩
  have hlen := hS.len
  have hkl : N + k < s.length := lt_of_get (by rw [hg]; simp)
  have hget : ∀ t, get ((s.set (N + k) .dead).set (N + k') m) t = if t = N + k' then m else if t = N + k then .dead else get s t := fun t => by
    rw [get_set, get_set]
    by_cases e1 : t = N + k'
    · subst e1; rw [if_pos ⟨rfl, by simp; omega⟩, if_pos rfl]
    · rw [if_neg (fun e => e1 e.1.symm), if_neg e1]
      by_cases e2 : t = N + k
      · subst e2; rw [if_pos ⟨rfl, hkl⟩, if_pos rfl]
      · rw [if_neg (fun e => e2 e.1.symm), if_neg e2]
  have hal : (get s (N + k)).alive = true := by rw [hg]; rfl
  refine ⟨ev, hS.turn hx ev hS.mask (fun b hb => hsz ▸ hS.low b hb) (fun j l' hj => ?_) (fun j l' hj => ?_) (fun b hb hnl => ⟨hoth b fun e => ?_, rfl⟩) (by simp [hlen]) (fun t ht => ?_) (fun j j' l1 l2 hj hj' h1 h2 hbb => ?_) fun j => ?_⟩
  · rw [hsz]
    rcases hu' j l' hj with ⟨_, rfl⟩ | ⟨_, hj⟩
    · rw [hb']; exact hS.lowB k lo hl
    · exact hS.lowB j l' hj
  · rcases hu' j l' hj with ⟨_, rfl⟩ | ⟨_, hj⟩
    · rw [hb']; exact hS.new k lo hl
    · exact hS.new j l' hj
  · subst e
    rcases hS.new k lo hl with h1 | h1
    · omega
    · exact hnl h1
  · rw [hget, if_neg (by omega), if_neg (by omega)]
  · rw [hget] at hj hj'
    rcases hu' j l1 h1 with ⟨e1, e1'⟩ | ⟨n1, g1⟩ <;> rcases hu' j' l2 h2 with ⟨e2, e2'⟩ | ⟨n2, g2⟩
    · rw [e1, e2]
    · exfalso
      rw [if_neg (by omega)] at hj'
      split at hj'
      · cases hj'
      · rename_i h3
        subst e1'
        have := hS.inj j' k l2 lo hj' hal g2 hl (by rw [← hbb, hb'])
        omega
    · exfalso
      rw [if_neg (by omega)] at hj
      split at hj
      · cases hj
      · rename_i h3
        subst e2'
        have := hS.inj j k l1 lo hj hal g1 hl (by rw [hbb, hb'])
        omega
    · rw [if_neg (by omega)] at hj hj'
      split at hj
      · cases hj
      · split at hj'
        · cases hj'
        · exact hS.inj j j' l1 l2 hj hj' g1 g2 hbb
  · rw [hget]
    by_cases e1 : j = k'
    · subst e1; rw [if_pos rfl]; exact hm ev
    · rw [if_neg (by omega)]
      by_cases e2 : j = k
      · subst e2; rw [if_pos rfl]; trivial
      · rw [if_neg (by omega)]
        refine (hS.so j).ev ev (fun e' => ?_) fun l' ha' hl' => ⟨hoth _ fun e' => e2 (hS.inj j k l' lo ha' hal hl' hl e'), rfl⟩
        have := hS.so j; rw [e'] at this
        unfold upd; rw [if_neg e1]; exact this

/-- A slot is no more. -/
theorem Sim.kill (hS : Sim P E N H role β a w s) {k : Nat} (hk : k < H) : Sim P E N H role β a w (s.set (N + k) .dead) := by
  have hlen := hS.len
  refine hS.turn (Below.refl _ _) (Ev.refl _ _ _) hS.mask hS.low hS.lowB hS.new (fun _ _ _ => ⟨rfl, rfl⟩) (by simp [hlen]) (fun t ht => get_set_ne (by omega)) (fun j j' l1 l2 hj hj' h1 h2 hbb => ?_) fun j => ?_
  · have f : ∀ j, (get (s.set (N + k) .dead) (N + j)).alive = true → (get s (N + j)).alive = true := fun j hj => by
      by_cases e : j = k
      · subst e; rw [get_set_self (by omega)] at hj; cases hj
      · rw [get_set_ne (by omega)] at hj; exact hj
    exact hS.inj j j' l1 l2 (f j hj) (f j' hj') h1 h2 hbb
  · by_cases e : j = k
    · subst e; rw [get_set_self (by omega)]; trivial
    · rw [get_set_ne (by omega)]; exact hS.so j

/-- Elements one behind the other, in cells one behind the other. -/
theorem join_read {T : TypeId} {es1 es2 : List (List D)} {olds news rest : List Value} (hol : olds.length = es1.length * P.cellsOf T)
    (h1 : ∀ (i : Nat) (e : List D) (j : Nat) (d : D), es1[i]? = some e → e[j]? = some d → ∃ y, olds[i * P.cellsOf T + j]? = some y ∧ y.oneCell' = true ∧ Rd P role w y d)
    (h2 : ∀ (i : Nat) (e : List D) (j : Nat) (d : D), es2[i]? = some e → e[j]? = some d → ∃ y, news[i * P.cellsOf T + j]? = some y ∧ y.oneCell' = true ∧ Rd P role w y d)
    (i : Nat) (e : List D) (j : Nat) (d : D) (hi : (es1 ++ es2)[i]? = some e) (hj : e[j]? = some d) : ∃ y, (olds ++ news ++ rest)[i * P.cellsOf T + j]? = some y ∧ y.oneCell' = true ∧ Rd P role w y d := by
  rw [List.getElem?_append] at hi
  split at hi
  · obtain ⟨y, q1, q2, q3⟩ := h1 i e j d hi hj
    have hlt := (List.getElem?_eq_some_iff.1 q1).1
    refine ⟨y, ?_, q2, q3⟩
    rw [List.append_assoc, List.getElem?_append_left hlt]; exact q1
  · rename_i hge
    obtain ⟨y, q1, q2, q3⟩ := h2 _ e j d hi hj
    have hlt := (List.getElem?_eq_some_iff.1 q1).1
    refine ⟨y, ?_, q2, q3⟩
    have e2 : i * P.cellsOf T + j = es1.length * P.cellsOf T + ((i - es1.length) * P.cellsOf T + j) := by
      have : i = es1.length + (i - es1.length) := by omega
      conv => lhs; rw [this, Nat.add_mul]
      omega
    rw [e2, List.append_assoc, List.getElem?_append_right (by omega), hol, show es1.length * P.cellsOf T + ((i - es1.length) * P.cellsOf T + j) - es1.length * P.cellsOf T = (i - es1.length) * P.cellsOf T + j by omega, List.getElem?_append_left hlt]
    exact q1

theorem pos_mul_le {a b n : Nat} (h : a * (b + 1) ≤ n) : a ≤ n ∧ a * b ≤ n := by
  rw [Nat.mul_add, Nat.mul_one] at h; omega
theorem append_sim (hS : Sim P E N H role β a w s) {o : Oper} {x y : Operand} {t1 t2 : TypeId} {fr : List Nat} (ho : o.op = .call { callee := .builtin .append, args := #[x, y], argTypes := #[t1, t2] }) (h : (appendL P N H o t1 t2 x y fr).run orc s l K) : Oper.wp P o a w (After P E N H s K) Q := by
  unfold appendL at h
  split at h
  · rename_i k' _ e hu
    rw [run_bind] at h
    obtain ⟨mx, l1, g, hx⟩ := rdM_sim hS h
    clear h
    rw [run_bind] at g
    obtain ⟨my, l2, h, hy0⟩ := rdM_sim hS g
    clear g
    rw [run_bind] at h
    obtain ⟨T2, es2, l3, g, hy1⟩ := elems_sim hS hy0 h
    clear h
    rw [run_chk] at g
    obtain ⟨hc, g⟩ := g
    simp only [Bool.and_eq_true, beq_iff_eq, decide_eq_true_eq] at hc
    obtain ⟨⟨⟨⟨⟨ht, hT⟩, hz⟩, hpos⟩, hzl⟩, hk⟩ := hc
    subst ht
    subst hT
    have hy := hy1 hpos
    obtain ⟨z, hz⟩ := Option.isSome_iff_exists.1 hz
    obtain ⟨it, zv, hi, hzv, hcr⟩ := zeroCells_sim (role := role) (w := w) hz
    have hcell := cellsOf_info hi
    have hby : P.bytesOf T2 = it.bytes := by simp [Program.bytesOf, hi]
    have hzs : zv.cells.size = it.size := by rw [← hcell, hzl, hz]; have := hcr.1; simpa using this
    have exec : ∀ {v w'}, (Builtin.append_ #[t1, t1] o.type #[a.eval x, a.eval y]).run P w = .ok v w' → (execOp a.eval o).run P w = .ok (.value v) w' := by
      intro v w' h
      simp [execOp, ho, resolve, invoke, builtin, h]
    have hnr2 : ∀ {news : List Value}, (∀ u ∈ news, u.oneCell' = true) → (∀ (i : Nat) (e : List D) (k : Nat) (d : D), es2[i]? = some e → e[k]? = some d → ∃ y, news[i * P.cellsOf T2 + k]? = some y ∧ Rd P role w y d) → ∀ (i : Nat) (e : List D) (k : Nat) (d : D), es2[i]? = some e → e[k]? = some d → ∃ y, news[i * P.cellsOf T2 + k]? = some y ∧ y.oneCell' = true ∧ Rd P role w y d := fun h1 h2 i e k d hi hk => by
      obtain ⟨y, q1, q2⟩ := h2 i e k d hi hk
      exact ⟨y, q1, h1 y (List.mem_of_getElem? q1), q2⟩
    split at g
    · rename_i T
      rw [run_chk, run_chk] at g
      obtain ⟨hT, hsz, g⟩ := g
      have hT : T = T2 := by simpa using hT
      subst hT
      simp only [decide_eq_true_eq] at hsz
      obtain ⟨b1, b2⟩ := pos_mul_le hsz
      have hxv : a.eval x = .slice none 0 0 := by
        generalize a.eval x = vx at hx
        cases hx; rfl
      simp only [Lk.run] at g
      by_cases hm : es2.length = 0
      · rw [decide_eq_true hm, cond_true] at g
        obtain ⟨b2, c2, hb2⟩ := hy.shape
        rw [hm] at hb2
        have hrun := append_none (P := P) (w := w) (base := none) (n := 0) (cap := 0) (b2 := b2) (c2 := c2) (ty := o.type) hu hu hi (Nat.le_refl _)
        rw [← hb2, ← hxv] at hrun
        exact pure_sim hS g (exec hrun) (by rw [hxv]; exact .nil)
      · rw [decide_eq_false hm, cond_false, cond_and] at g
        obtain ⟨hun, g⟩ := g
        have hne : es2 ≠ [] := fun e => hm (by rw [e]; rfl)
        obtain ⟨ad, c2, news, hy2, hnl, hnc, hn1, hnr⟩ := hy.news hne
        rw [hcell] at hnl
        have hrun := run_append_nil (P := P) w t1 o.type T it zv hu hi hzv ad es2.length c2 news hnl hnc (by omega) (by omega) (by rw [← hby]; omega)
        rw [← hxv, ← hy2] at hrun
        have hge := grownCap_ge w es2.length 0 T
        have hcs : (news.toArray ++ Builtin.zeroCells zv.cells (grownCap w es2.length 0 T - es2.length)).size = grownCap w es2.length 0 T * P.cellsOf T := by
          simp only [Array.size_append, List.size_toArray, size_zeroCells, hzs, hnl, hcell, ← Nat.add_mul]; congr 1; omega
        obtain ⟨ev, hS'⟩ := newRow_slot (T := T) (lim := 0) (es := es2) (cur := news.toArray ++ Builtin.zeroCells zv.cells (grownCap w es2.length 0 T - es2.length)) (fz := (0, 0)) (w' := w.drew.alloc (.cells (news.toArray ++ Builtin.zeroCells zv.cells (grownCap w es2.length 0 T - es2.length)) T)) hS (isUndef_eq hun) hk (Exd.refl w).dr.al (at_alloc' w.drew _) (fun i _ hh => by simp at hh)
          (by rw [hcs]; exact Nat.mul_le_mul_right _ hge) (Nat.zero_le _) hy.sizes (fun i e k d he hk => by
            obtain ⟨y, h1, h2, h3⟩ := join_read (es1 := []) (olds := []) (rest := (Builtin.zeroCells zv.cells (grownCap w es2.length 0 T - es2.length)).toList) (by simp) (fun i e k d he => by simp at he) (hnr2 hn1 hnr) i e k d (by simpa using he) hk
            refine ⟨y, ?_, h2, h3⟩
            rw [← h1, ← Array.getElem?_toList]; simp)
        refine fin_sim (ws := [(N + k', .row T 0 es2)]) hS' g (exec hrun) (.sl (l := ⟨w.heap.size, 0, _⟩) (if_pos rfl) hge ?_ (fun _ => by simp) fun ad had => by cases had; rfl)
        rw [hcs]; simp
    · rename_i T k off len
      simp only [Lk.run] at g
      have hso := hS.so k
      generalize hg : get s (N + k) = c at g hso
      cases c <;> try exact False.elim g
      rename_i T' lim es
      simp only at g
      rw [run_chk, run_chk, run_chk, run_chk] at g
      obtain ⟨hT, hle, hlim, hsz, g⟩ := g
      simp only [Bool.and_eq_true, beq_iff_eq, decide_eq_true_eq] at hT hle hlim hsz
      obtain ⟨hT1, hT2⟩ := hT
      subst hT1
      subst hT2
      obtain ⟨b1, b2⟩ := pos_mul_le hsz
      simp only [Lk.run] at g
      rw [cond_and] at g
      obtain ⟨hun, g⟩ := g
      have hun := isUndef_eq hun
      have hso' := hso
      obtain ⟨lo, cur, fz, e1, e2, e3, e4, e5, e6, e7, e8, e9⟩ := hso'
      generalize hxv : a.eval x = vx at hx
      cases hx with
      | sl hβ hlc hn ha hsp =>
        rename_i cap lo2 ad
        rw [e1] at hβ; cases hβ
        have hl1 : ((es.drop off).take len).length = len := by simp; omega
        have hget : ∀ (i : Nat) (e : List D), ((es.drop off).take len)[i]? = some e → es[off + i]? = some e := fun i e hi => by
          rw [List.getElem?_take] at hi
          split at hi
          · rw [List.getElem?_drop] at hi; exact hi
          · cases hi
        have hsizes : ∀ (i : Nat) (e : List D), ((es.drop off).take len ++ es2)[i]? = some e → e.length = P.cellsOf T' := by
          intro i e hi'
          rcases append_inv hi' with h1 | ⟨_, h1⟩
          · exact e8 _ e (hget i e h1)
          · exact hy.sizes _ e h1
        obtain ⟨n1, n2, n3, n4⟩ := row_news (role := role) (w := w) (off := off) (len := len) hpos hle (by omega) e8 e9
        have hseg : off * P.cellsOf T' + len * P.cellsOf T' ≤ es.length * P.cellsOf T' := by rw [← Nat.add_mul]; exact Nat.mul_le_mul_right _ hle
        have hlimo : lim * P.cellsOf T' ≤ off * P.cellsOf T' + (lim - off) * P.cellsOf T' := by rw [← Nat.add_mul]; exact Nat.mul_le_mul_right _ (by omega)
        have hlim2 : lim * P.cellsOf T' ≤ off * P.cellsOf T' + len * P.cellsOf T' := by rw [← Nat.add_mul]; exact Nat.mul_le_mul_right _ hlim
        have hap : apply [(N + k, M.dead), (N + k', .row T' (lim - off) ((es.drop off).take len ++ es2))] s = (s.set (N + k) .dead).set (N + k') (.row T' (lim - off) ((es.drop off).take len ++ es2)) := rfl
        have hcapn : lo.o + off * P.cellsOf T' + cap * P.cellsOf T' ≤ lo.n := by rw [Nat.add_mul] at hn; omega
        have hoff : off * P.cellsOf T' + (lim - off) * P.cellsOf T' = (off + (lim - off)) * P.cellsOf T' := (Nat.add_mul _ _ _).symm
        by_cases hm : es2.length = 0
        · -- nothing is appended
          have hes2 : es2 = [] := List.eq_nil_of_length_eq_zero hm
          subst hes2
          obtain ⟨b2, c2, hb2⟩ := hy.shape
          have hrun := append_none (P := P) (w := w) (base := ad) (n := len) (cap := cap) (b2 := b2) (c2 := c2) (ty := o.type) hu hu hi hlc
          rw [← hxv] at hrun
          have hb2' : a.eval y = .slice b2 0 c2 := hb2
          rw [← hb2'] at hrun
          obtain ⟨ev, hS'⟩ := hS.rehome (k' := k') (lo' := ⟨lo.b, lo.o + off * P.cellsOf T', lo.n⟩) (m := .row T' (lim - off) ((es.drop off).take len ++ [])) (w' := w) e1 hg hun hk rfl (Below.refl _ _) (fun _ _ => rfl) rfl (fun _ _ _ _ => rfl) fun ev => by
            refine ⟨⟨lo.b, lo.o + off * P.cellsOf T', lo.n⟩, cur, fz, by simp [upd], e2, e3, e4, ?_, ?_, fun n hp => ?_, hsizes, fun i e j d hi' hj => ?_⟩
            · simp only [List.append_nil, hl1]; omega
            · simp only [List.append_nil, hl1]; omega
            · have := e7 n hp; simp only; omega
            · rw [List.append_nil] at hi'
              obtain ⟨y, q1, q2, q3⟩ := e9 _ e j d (hget i e hi') hj
              refine ⟨y, ?_, q2, q3⟩
              rw [← q1, Nat.add_mul]; congr 1; simp only; omega
          have hmm : Rm P role (upd β k' ⟨lo.b, lo.o + off * P.cellsOf T', lo.n⟩) w (.slice ad len cap) (.sl T' k' 0 len) := .sl (l := ⟨lo.b, lo.o + off * P.cellsOf T', lo.n⟩) (if_pos rfl) hlc (by simpa using hcapn) (fun h0 => by rw [ha h0]; simp) hsp
          exact fin_sim (by rw [hap]; exact hS') g (exec hrun) (by rw [hxv]; exact hmm)
        · have hne : es2 ≠ [] := fun e => hm (by rw [e]; rfl)
          obtain ⟨ad2, c2, news, hy2, hnl, hnc, hn1, hnr⟩ := hy.news hne
          by_cases hroom : len + es2.length ≤ cap
          · -- there is room
            have ha' := ha (by omega)
            have hrm : len * P.cellsOf T' + es2.length * P.cellsOf T' ≤ cap * P.cellsOf T' := by rw [← Nat.add_mul]; exact Nat.mul_le_mul_right _ hroom
            have hfit : lo.o + off * P.cellsOf T' + len * P.cellsOf T' + news.length ≤ cur.size := by omega
            have hrun := run_append_room_nf (P := P) (w := w) t1 o.type T' it hu hi lo.b (lo.o + off * P.cellsOf T') len cap cur fz e2 e3 ad2 es2.length c2 news (by rw [hnl, hcell]) hnc hn1 hroom (by rw [← hcell]; exact hfit)
            rw [← hcell, ← ha', ← hxv, ← hy2] at hrun
            obtain ⟨ev, hS'⟩ := hS.rehome (k' := k') (lo' := ⟨lo.b, lo.o + off * P.cellsOf T', lo.n⟩) (m := .row T' (lim - off) ((es.drop off).take len ++ es2)) e1 hg hun hk rfl (below_setRow w lo.b (cur.toList.take (lo.o + off * P.cellsOf T' + len * P.cellsOf T') ++ news ++ cur.toList.drop (lo.o + off * P.cellsOf T' + len * P.cellsOf T' + news.length)).toArray) (fun b hb' => setRow_other w lo.b b _ hb') (setRow_size _ _ _) (fun n o' hp ho' => by
                have := e7 n hp
                have hlt : o' < lo.o + off * P.cellsOf T' + len * P.cellsOf T' := by omega
                simp only [World.cell?, setRow_heap w lo.b cur _ T' fz e2, e2]
                rw [splice_get hfit, if_pos hlt]) fun ev => by
              refine ⟨⟨lo.b, lo.o + off * P.cellsOf T', lo.n⟩, _, fz, by simp [upd], setRow_heap w lo.b cur _ T' fz e2, by rw [splice_size hfit]; exact e3, by rw [splice_size hfit]; exact e4, ?_, ?_, fun n hp => ?_, hsizes, fun i e j d hi' hj => ?_⟩
              · simp only [List.length_append, hl1, Nat.add_mul]; omega
              · simp only [List.length_append, hl1]; omega
              · have := e7 n hp; simp only; omega
              · have hj2 : j < P.cellsOf T' := by
                  have := (List.getElem?_eq_some_iff.1 hj).1
                  rw [hsizes i e hi'] at this; exact this
                rw [splice_get hfit]
                rcases append_inv hi' with h1 | ⟨h0, h1⟩
                · obtain ⟨y, q1, q2, q3⟩ := e9 _ e j d (hget i e h1) hj
                  have hil : i < len := by have := (List.getElem?_eq_some_iff.1 h1).1; omega
                  have := seg_lt (c := P.cellsOf T') hil hj2
                  refine ⟨y, ?_, q2, q3.evo ev.evo⟩
                  simp only
                  rw [if_pos (by omega), ← q1, Nat.add_mul]; congr 1; omega
                · rw [hl1] at h0 h1
                  obtain ⟨y, q1, q2⟩ := hnr _ e j d h1 hj
                  have hlt := (List.getElem?_eq_some_iff.1 q1).1
                  have e5' : i * P.cellsOf T' = len * P.cellsOf T' + (i - len) * P.cellsOf T' := by rw [← Nat.add_mul]; congr 1; omega
                  refine ⟨y, ?_, hn1 y (List.mem_of_getElem? q1), q2.evo ev.evo⟩
                  simp only
                  rw [if_neg (by omega), if_pos (by omega), ← q1]; congr 1; omega
            refine fin_sim (by rw [hap]; exact hS') g (exec hrun) ?_
            rw [ha']
            refine .sl (l := ⟨lo.b, lo.o + off * P.cellsOf T', lo.n⟩) (by simp [upd]) hroom ?_ (fun h0 => by simp) (fun ad had => by cases had; rfl)
            simpa using hcapn
          · -- it moves
            have holds : ∀ (ad' : Addr), ad = some ad' → ∀ (j : Nat) (u : Value), ((cur.toList.drop (lo.o + off * P.cellsOf T')).take (len * P.cellsOf T'))[j]? = some u → w.cell? (ad'.add j) = some u := by
              intro ad' had j u hu'
              have hlt := (List.getElem?_eq_some_iff.1 hu').1
              have h0 : 0 < cap := by
                rcases Nat.eq_zero_or_pos cap with h0 | h0
                · have hl0 : len = 0 := by omega
                  subst hl0; simp at hlt
                · exact h0
              have := ha h0
              rw [had] at this
              cases this
              rw [Addr.add_lit']
              simp only [World.cell?, e2, Option.isSome_none, Bool.false_eq_true, if_false]
              exact n3 j u hu'
            have hge := grownCap_ge w (len + es2.length) cap T'
            have hcs : (((cur.toList.drop (lo.o + off * P.cellsOf T')).take (len * P.cellsOf T')).toArray ++ news.toArray ++ Builtin.zeroCells zv.cells (grownCap w (len + es2.length) cap T' - (len + es2.length))).size = grownCap w (len + es2.length) cap T' * P.cellsOf T' := by
              simp only [Array.size_append, List.size_toArray, size_zeroCells, hzs, hnl, n1]; rw [← hcell, ← Nat.add_mul, ← Nat.add_mul]; congr 1; omega
            have hrun : (Builtin.append_ #[t1, t1] o.type #[.slice ad len cap, a.eval y]).run P w = .ok (.slice (some ⟨w.heap.size, 0, none⟩) (len + es2.length) (grownCap w (len + es2.length) cap T')) (w.drew.alloc (.cells (((cur.toList.drop (lo.o + off * P.cellsOf T')).take (len * P.cellsOf T')).toArray ++ news.toArray ++ Builtin.zeroCells zv.cells (grownCap w (len + es2.length) cap T' - (len + es2.length))) T')) := by
              rw [hy2]
              cases ad with
              | some ad' =>
                exact run_append_grow (P := P) w t1 o.type T' it zv hu hi hzv ad' len cap _ (by rw [n1, hcell]) (holds ad' rfl) ad2 es2.length c2 news (by rw [hnl, hcell]) hnc (by omega) (by omega) (growslice_fits (by omega) (by rw [← hby]; omega))
              | none =>
                have h0 : cap = 0 := by
                  rcases Nat.eq_zero_or_pos cap with h0 | h0
                  · exact h0
                  · have := ha h0; cases this
                subst h0
                have hl0 : len = 0 := by omega
                subst hl0
                rw [Nat.zero_add] at b1 b2
                have := run_append_nil (P := P) w t1 o.type T' it zv hu hi hzv ad2 es2.length c2 news (by rw [hnl, hcell]) hnc (by omega) (by omega) (by rw [← hby]; omega)
                simpa using this
            rw [← hxv] at hrun
            have hS0 := hS.kill (k := k) (by have := hS.len; have := lt_of_get (s := s) (t := N + k) (by rw [hg]; simp); omega)
            have hkk : N + k ≠ N + k' := fun e => by rw [e, hun] at hg; cases hg
            obtain ⟨ev, hS'⟩ := newRow_slot (T := T') (lim := lim - off) (es := (es.drop off).take len ++ es2) (cur := ((cur.toList.drop (lo.o + off * P.cellsOf T')).take (len * P.cellsOf T')).toArray ++ news.toArray ++ Builtin.zeroCells zv.cells (grownCap w (len + es2.length) cap T' - (len + es2.length))) (fz := (0, 0)) hS0 (by rw [get_set_ne hkk]; exact hun) hk (Exd.refl w).dr.al (at_alloc' w.drew _) (fun i _ hh => by simp at hh)
              (by rw [hcs]; simp only [List.length_append, hl1]; exact Nat.mul_le_mul_right _ hge) (by simp only [List.length_append, hl1]; omega) hsizes (fun i e j d hi' hj => by
                obtain ⟨y, h1, h2, h3⟩ := join_read (rest := (Builtin.zeroCells zv.cells (grownCap w (len + es2.length) cap T' - (len + es2.length))).toList) (by rw [n1, hl1]) n4 (hnr2 hn1 hnr) i e j d hi' hj
                refine ⟨y, ?_, h2, h3⟩
                rw [← h1, ← Array.getElem?_toList]; simp)
            refine fin_sim (by rw [hap]; exact hS') g (exec hrun) (.sl (l := ⟨w.heap.size, 0, _⟩) (if_pos rfl) hge ?_ (fun _ => by simp) fun ad had => by cases had; rfl)
            rw [hcs]; simp
    · exact g.elim
  · exact h.elim
end
end Go.Proofs.YthhfnggigmfmjaaDoor.Hp

set_option linter.unusedSimpArgs false
set_option linter.unusedVariables false
namespace Go.Proofs.YthhfnggigmfmjaaDoor.Hp
open Go.RowKit

section
variable (P : Program) (N H : Nat)
/-- Bytes and texts. -/
def convL (o : Oper) (src dst : TypeId) (x : Operand) (fr : List Nat) : Lk (List (Nat × M)) := (rdM P N src x).bind fun m => match m with
  | .d (.v (.string sv)) => bif isSl P dst then (match fr, P.underlying dst with
      | k :: _, some (.slice e) => .chk (isU8 P e && isStr P src && decide (P.cellsOf e = 1)) (.chk (decide (sv.size ≤ 1073741824)) (rowOf N H k e (bytesD sv) [] o))
      | _, _ => .fail) else delegL P N o
  | .d _ => delegL P N o
  | m => (elemsL N m).bind fun q => match P.underlying src with
    | some (.slice e) => .chk (q.1 == e && isU8 P e && isStr P dst && decide (P.cellsOf e = 1)) (.chk (q.2.all fun c => (byteN c).isSome) (putM N o (.d (.v (.string (strOfD q.2)))) []))
    | _ => .fail
end

section
variable {P : Program} {E : Env} {N H : Nat} {role role' : Nat → Role} {β β' : Bet} {a a' : Act} {w w' : World} {s s' : List M} {orc : OrcM} {l : List Nat}
variable {K : List (Nat × M) → List Nat → Prop} {Q : Exit → Act → World → Prop}

theorem Raised.undef {s s1 : List M} (h : Raised s s1) {t : Nat} (hu : get s t = .undef) : get s1 t = .undef := by
  rcases h.2 t with e | ⟨T, lim, es, e1, _⟩
  · rw [e]; exact hu
  · rw [hu] at e1; cases e1

/-- A new row, and its slice, behind rows that stay. -/
theorem rowOf_sim {s1 : List M} {role1 : Nat → Role} {ws : List (Nat × M)} (hS : Sim P E N H role1 β a w s1) (hap : apply ws s = s1) (hr : Raised s s1) {o : Oper} {k : Nat} {T : TypeId} {es : List (List D)} {cur : Array Value} {fz : Nat × Nat} (h : (rowOf N H k T es ws o).run orc s l K) (hx : Exd w w') (hat : w'.heap[w.heap.size]? = some (.cells cur T fz))
    (hfz : ∀ i, i < cur.size → ¬ (fz.1 ≤ i ∧ i < fz.2)) {cap : Nat} (hcap : es.length ≤ cap) (hfit : cap * P.cellsOf T ≤ cur.size) (hs : ∀ (i : Nat) (e : List D), es[i]? = some e → e.length = P.cellsOf T)
    (hc : ∀ (i : Nat) (e : List D) (j : Nat) (d : D), es[i]? = some e → e[j]? = some d → ∃ y, cur[i * P.cellsOf T + j]? = some y ∧ y.oneCell' = true ∧ Rd P role1 w y d)
    (hrun : (execOp a.eval o).run P w = .ok (.value (.slice (some ⟨w.heap.size, 0, none⟩) es.length cap)) w') : Oper.wp P o a w (After P E N H s K) Q := by
  unfold rowOf at h
  rw [run_chk, decide_eq_true_eq] at h
  obtain ⟨hk, h⟩ := h
  simp only [Lk.run] at h
  rw [cond_and] at h
  obtain ⟨hun, h⟩ := h
  have hun := isUndef_eq hun
  obtain ⟨ev, hS'⟩ := newRow_slot (lim := 0) hS (hr.undef hun) hk hx hat hfz (Nat.le_trans (Nat.mul_le_mul_right _ hcap) hfit) (Nat.zero_le _) hs hc
  refine fin_sim (by rw [apply_append, hap]; exact hS') h hrun (.sl (l := ⟨w.heap.size, 0, _⟩) (if_pos rfl) hcap ?_ (fun _ => by simp) fun ad had => by cases had; rfl)
  simpa using hfit

theorem buildSlice_sim (hS : Sim P E N H role β a w s) {o : Oper} {t : TypeId} {len : Nat} {parts : Array (Nat × Operand)} {fr : List Nat} (ho : o.op = .buildSlice t len parts) (h : (buildSliceL P N H o t len parts fr).run orc s l K) : Oper.wp P o a w (After P E N H s K) Q := by
  unfold buildSliceL at h
  split at h
  · rename_i k _ e hu
    split at h
    · rename_i z hz
      rw [run_chk] at h
      obtain ⟨hc, h⟩ := h
      simp only [Bool.and_eq_true, decide_eq_true_eq] at hc
      obtain ⟨⟨⟨hi, hzl⟩, hpos⟩, hsmall⟩ := hc
      rw [run_bind] at h
      obtain ⟨ms, l1, g, hlen, hms⟩ := rdParts_sim hS _ _ _ h
      clear h
      rw [run_bind] at g
      obtain ⟨ds, ws, l2, r2, h, ev, hS1, hr1, hdl, hds⟩ := pubAll_sim (ms.map (·.2)) ((parts.toList.map fun (i, x) => (i, a.eval x)).map (·.2)) s role _ _ hS (Raised.refl s) (by simp only [List.length_map] at hlen ⊢; omega) (fun i v m hv hm => by
        simp only [List.getElem?_map, Option.map_eq_some_iff] at hm
        obtain ⟨p, hp, rfl⟩ := hm
        rw [List.getElem?_map, Option.map_eq_some_iff] at hv
        obtain ⟨q, hq, rfl⟩ := hv
        exact (hms i p q hp hq).2) g
      clear g
      split at h
      · rename_i cs hcs
        obtain ⟨it, v, hi', hzv, hcr⟩ := zeroCells_sim (role := r2) (w := w) hz
        have hcell := cellsOf_info hi'
        have hvs : v.cells.size = P.cellsOf e := by have := hcr.1; simp at this; omega
        have hcr0 : CR P r2 w (if len * it.size = 0 then #[] else (Array.range (len * it.size)).map (v.cells[· % v.cells.size]!)) ((List.replicate len (z.map D.strip)).flatten) := by
          have hzl' : (z.map D.strip).length = P.cellsOf e := by simp [hzl]
          have hlenf : ((List.replicate len (z.map D.strip)).flatten).length = len * P.cellsOf e := by simp [hzl]
          by_cases h0 : len * it.size = 0
          · rw [if_pos h0]
            have : len = 0 := by
              rcases Nat.eq_zero_or_pos len with h | h
              · exact h
              · have := Nat.mul_pos h (hcell ▸ hpos); omega
            subst this
            exact ⟨by simp, fun i y d hy => by simp at hy⟩
          · rw [if_neg h0]
            refine ⟨by rw [hlenf]; simp [hcell], fun i y d hy hd => ?_⟩
            have hilt := (List.getElem?_eq_some_iff.1 hd).1
            rw [hlenf] at hilt
            rw [flatten_replicate_get _ (by rw [hzl']; exact hpos) len i (by rw [hzl']; exact hilt), hzl'] at hd
            have hm : i % P.cellsOf e < P.cellsOf e := Nat.mod_lt _ hpos
            refine hcr.2 (i % P.cellsOf e) y d ?_ hd
            simp only [Array.getElem?_map, Option.map_eq_some_iff] at hy
            obtain ⟨j, hj, rfl⟩ := hy
            have hj' := (Array.getElem?_eq_some_iff.1 hj).2
            simp at hj'
            subst hj'
            rw [hvs]
            have : i % P.cellsOf e < v.cells.size := by omega
            simp [this]
        have hfst : ∀ (i : Nat) (p : Nat × D) (q : Nat × Value), ((ms.map (·.1)).zip ds)[i]? = some p → (parts.toList.map fun (i, x) => (i, a.eval x))[i]? = some q → p.1 = q.1 ∧ Rd P r2 w q.2 p.2 := by
          intro i p q hp hq
          rw [List.getElem?_zip_eq_some] at hp
          obtain ⟨hp1, hp2⟩ := hp
          simp only [List.getElem?_map, Option.map_eq_some_iff] at hp1
          obtain ⟨pm, hpm, hp1⟩ := hp1
          refine ⟨by rw [← hp1]; exact (hms i pm q hpm hq).1, (hds i q.2 p.2 (by rw [List.getElem?_map, hq]; rfl) hp2).1⟩
        obtain ⟨cells, e1, e2⟩ := Proofs.YthhfnggigmfmjaaDoor.fill_sim ((ms.map (·.1)).zip ds) _ _ _ cs hcr0 hcs (by rw [List.length_zip]; simp only [List.length_map] at hlen hdl ⊢; omega) hfst
        have hcslen : cells.size = len * P.cellsOf e := by
          have : ∀ (ps : List (Nat × D)) (c0 c1 : List D), fillD (fun i => some (i * P.cellsOf e, P.cellsOf e)) c0 ps = some c1 → c1.length = c0.length := by
            intro ps
            induction ps with
            | nil => intro c0 c1 h; simp only [fillD] at h; cases h; rfl
            | cons p ps ih =>
              obtain ⟨i, d⟩ := p
              intro c0 c1 h
              simp only [fillD] at h
              split at h
              · rename_i hc
                simp only [Bool.and_eq_true, decide_eq_true_eq] at hc
                rw [ih _ _ h]
                simp only [setCells, List.length_append, List.length_take, List.length_drop]; omega
              · cases h
          have h2 := this _ _ _ hcs
          have h3 := e2.1
          simp [hzl] at h2
          omega
        have hrun : (Instr.buildSlice t len (parts.map fun (i, x) => (i, a.eval x))).run P w = .ok (.slice (some ⟨w.heap.size, 0, none⟩) len len) (w.alloc (.cells cells e)) := by
          have e1' : Instr.fill (fun i => some (i * it.size, it.size)) (if len * it.size = 0 then #[] else (Array.range (len * it.size)).map (v.cells[· % v.cells.size]!)) (parts.map fun (i, x) => (i, a.eval x)).toList = some cells := by
            rw [← hcell]; rw [← hcell] at e1; simpa using e1
          have hns : ¬ len * it.size > 2 ^ 24 := by rw [← hcell]; omega
          by_cases h0 : len * it.size = 0
          · rw [if_pos h0] at e1'
            have e3 : (List.map (fun x => (x.fst, a.eval x.snd)) parts.toList) = (parts.map fun (i, x) => (i, a.eval x)).toList := by simp
            simp [Instr.buildSlice, run_underlying hu, sizeOf, typeInfo, hi', h0]
            rw [show (Array.map (fun (_ : Nat) => (default : Value)) (Array.range 0)) = #[] from by rw [Array.range_zero', Array.map_empty], e3, e1']
            simp [newRow]
          · rw [if_neg h0] at e1'
            exact run_buildSlice w t e len _ cells it v hu hi' hzv hns h0 e1'
        have hcl := chunks_length (P.cellsOf e) len cs
        refine rowOf_sim (w' := w.alloc (.cells cells e)) (cur := cells) (fz := (0, 0)) (cap := len) hS1 rfl hr1 h (Exd.refl w).al (at_alloc' _ _) (fun i _ hh => by simp at hh) (by rw [hcl]; exact Nat.le_refl _) (by rw [hcslen]; exact Nat.le_refl _)
          (fun i e' hi => (chunks_get _ _ _ i e' (by have := e2.1; omega) hi).2.1) (fun i e' j d hi hj => ?_) ?_
        · have h3 := (chunks_get _ _ _ i e' (by have := e2.1; omega) hi).2.2 j d hj
          have hlt := (List.getElem?_eq_some_iff.1 h3).1
          have hlt' : i * P.cellsOf e + j < cells.size := by have := e2.1; omega
          have := e2.2 _ _ d (Array.getElem?_eq_getElem hlt') h3
          exact ⟨_, Array.getElem?_eq_getElem hlt', this.1, this.2⟩
        · rw [hcl]; simp [execOp, ho, hrun]
      · exact h.elim
    · exact h.elim
  · exact h.elim

theorem Rm.string {x : Value} {b : ByteArray} (h : Rm P role β w x (.d (.v (.string b)))) : x = .string b := by cases h with | d h _ => exact h.string
theorem conv_sim (hS : Sim P E N H role β a w s) {o : Oper} {src dst : TypeId} {x : Operand} {fr : List Nat} (ho : o.op = .convert src dst x) (h : (convL P N H o src dst x fr).run orc s l K) : Oper.wp P o a w (After P E N H s K) Q := by
  unfold convL at h
  rw [run_bind] at h
  obtain ⟨m, l1, g, hm⟩ := rdM_sim hS h
  clear h
  split at g
  · rename_i sv
    cases hb : isSl P dst with
    | false => rw [hb] at g; exact deleg_sim hS g
    | true =>
      rw [hb, cond_true] at g
      split at g
      · rename_i k _ e hu
        rw [run_chk, run_chk] at g
        obtain ⟨hc, hb, g⟩ := g
        simp only [Bool.and_eq_true, decide_eq_true_eq] at hc hb
        obtain ⟨⟨h8, hs⟩, hT⟩ := hc
        have hu8 := isU8_eq h8
        have hst := isStr_eq hs
        have hv : a.eval x = .string sv := hm.string
        have hrun : (execOp a.eval o).run P w = .ok (.value (.slice (some ⟨w.heap.size, 0, none⟩) sv.size (grownCap w sv.size 0 e))) (Lib.bytesWorld w e sv) := by
          simp [execOp, ho, hv, Lib.run_convert_string_bytes w src dst e sv hst hu hu8]
        have hbel : Below w.heap.size w (Lib.bytesWorld w e sv) :=
          ⟨rfl, rfl, rfl, by rw [Lib.bytesWorld_size]; omega, fun k hk => Lib.bytesWorld_at_old w e sv k hk⟩
        have hlen : (bytesD sv).length = sv.size := by unfold bytesD; rw [List.length_map, Array.length_toList]; rfl
        have hge := grownCap_ge w sv.size 0 e
        have hsz : (Lib.bytesCells w e sv).size = grownCap w sv.size 0 e := by
          unfold Lib.bytesCells
          simp
          have : sv.data.size = sv.size := rfl
          omega
        refine rowOf_sim (w' := Lib.bytesWorld w e sv) (cur := Lib.bytesCells w e sv) (fz := ((Lib.bytesCells w e sv).size, (Lib.bytesCells w e sv).size + 1)) (cap := grownCap w sv.size 0 e) hS rfl (Raised.refl s) g hbel (Lib.bytesWorld_at_new w e sv) (fun i hi hh => by simp only at hh; omega) (by rw [hlen]; exact hge) (by rw [hT, hsz, Nat.mul_one]; exact Nat.le_refl _) (fun i c hi => by
            rw [hT]
            unfold bytesD at hi
            rw [List.getElem?_map, Option.map_eq_some_iff] at hi
            obtain ⟨b, _, rfl⟩ := hi; rfl) (fun i c k d hi hk => by
            unfold bytesD at hi
            rw [List.getElem?_map, Option.map_eq_some_iff] at hi
            obtain ⟨b, hb, rfl⟩ := hi
            have hk0 : k = 0 := by
              have := (List.getElem?_eq_some_iff.1 hk).1
              simp at this; exact this
            subst hk0
            obtain rfl : D.v (.int .u8 ((b.toNat : Nat) : Int)) = d := by simpa using hk
            refine ⟨.int .u8 ((b.toNat : Nat) : Int), ?_, rfl, .v ?_⟩
            · rw [hT, Nat.mul_one, Nat.add_zero]
              have hlt := (List.getElem?_eq_some_iff.1 hb).1
              unfold Lib.bytesCells
              rw [Array.getElem?_append_left (by simpa using hlt), Array.getElem?_map, ← Array.getElem?_toList, hb]; rfl
            · have : b.toNat < 256 := b.toNat_lt
              show (false || (decide (0 ≤ ((b.toNat : Nat) : Int)) && decide (((b.toNat : Nat) : Int) < 256))) = true
              rw [Bool.false_or, Bool.and_eq_true, decide_eq_true_eq, decide_eq_true_eq]; omega) (by rw [hlen]; exact hrun)
      · exact g.elim
  · exact deleg_sim hS g
  · rw [run_bind] at g
    obtain ⟨T, es, l2, h, he⟩ := elems_sim hS hm g
    clear g
    split at h
    · rename_i e hu
      rw [run_chk, run_chk] at h
      obtain ⟨hc, hb, h⟩ := h
      simp only [Bool.and_eq_true, beq_iff_eq, decide_eq_true_eq] at hc
      obtain ⟨⟨⟨hT, h8⟩, hs⟩, h1⟩ := hc
      subst hT
      rw [List.all_eq_true] at hb
      have hu8 := isU8_eq h8
      have hst := isStr_eq hs
      have he := he (by omega)
      have key : (convert src dst (a.eval x)).run P w = .ok (.string (strOfD es)) w := by
        by_cases hne : es = []
        · subst hne
          obtain ⟨b, c, hsh⟩ := he.shape
          rw [hsh]
          cases b with
          | none => exact run_convert_bytes_nil w src T hu hu8 0 c dst hst
          | some ad =>
            simp only [List.length_nil]
            simp [convert, run_underlying hu, run_underlying hst, run_underlying hu8, Conv.bytesToString, loadCells, loadCellsFrom, strOfD, strOfNums]
            rfl
        · obtain ⟨ad, c, news, hv, hnl, hnc, hn1, hnr⟩ := he.news hne
          rw [hv]
          have hpos : 0 < es.length := by cases es with | nil => exact absurd rfl hne | cons => simp
          have hcl : ∀ i, i < es.length → w.cell? (ad.add i) = some (.int .u8 ((es.map fun c => (byteN c).getD 0).getD i 0)) := fun i hi => by
            have he2 : es[i]? = some es[i] := List.getElem?_eq_getElem hi
            have hbt := byteN_eq (hb _ (List.getElem_mem hi))
            have hk : es[i][0]? = some (.v (.int .u8 ((byteN es[i]).getD 0))) := by rw [hbt]; rfl
            obtain ⟨y, q1, q2⟩ := hnr i _ 0 _ he2 hk
            rw [h1, Nat.mul_one, Nat.add_zero] at q1
            rw [hnc i y q1, q2.int, List.getD_eq_getElem?_getD, List.getElem?_map, he2]; rfl
          obtain ⟨b, off, sp⟩ := ad
          have hsp : sp = none := by
            have := hcl 0 hpos
            cases sp with
            | none => rfl
            | some n =>
              simp only [Addr.add, if_true, World.cell?] at this
              split at this
              · simp at this
              · cases this
          subst hsp
          exact run_convert_bytes_arg w src T hu hu8 b off es.length c (es.map fun c => (byteN c).getD 0) (by simp) (fun i hi => by have := hcl i hi; rw [Addr.add_lit'] at this; exact this) dst hst
      exact pure_sim hS h (x := .string (strOfD es)) (by simp [execOp, ho, key]) (.d (.v rfl) rfl)
    · exact h.elim
end
end Go.Proofs.YthhfnggigmfmjaaDoor.Hp

set_option linter.unusedSimpArgs false
set_option linter.unusedVariables false
namespace Go.Proofs.YthhfnggigmfmjaaDoor.Hp
open Go.RowKit

mutual
/-- Slots under other names; those without one are forgotten. -/
def ren (ρ : Nat → Option Nat) : M → M
  | .ref k off => match ρ k with
    | some j => .ref j off
    | none => .undef
  | .el T k i n => match ρ k with
    | some j => .el T j i n
    | none => .undef
  | .sl T k off len => match ρ k with
    | some j => .sl T j off len
    | none => .undef
  | .mp k => match ρ k with
    | some j => .mp j
    | none => .undef
  | .ifc t m => bif (ren ρ m).isVal then .ifc t (ren ρ m) else .undef
  | .clo f cs => bif (renL ρ cs).all M.isVal then .clo f (renL ρ cs) else .undef
  | .agg cs => .agg (renL ρ cs)
  | .tup cs => .tup (renL ρ cs)
  | .var T cs => .var T (renL ρ cs)
  | .undef => .undef
  | .dead => .dead
  | .d x => .d x
  | .nil T => .nil T
  | .row T lim es => .row T lim es
def renL (ρ : Nat → Option Nat) : List M → List M
  | [] => []
  | m :: ms => ren ρ m :: renL ρ ms
end
mutual
/-- The slots that a value names. -/
def refs : M → List Nat
  | .ref k _ => [k]
  | .el _ k _ _ => [k]
  | .sl _ k _ _ => [k]
  | .mp k => [k]
  | .ifc _ m => refs m
  | .clo _ cs => refsL cs
  | .agg cs => refsL cs
  | .tup cs => refsL cs
  | .var _ cs => refsL cs
  | .undef => []
  | .dead => []
  | .d _ => []
  | .nil _ => []
  | .row _ _ _ => []
def refsL : List M → List Nat
  | [] => []
  | m :: ms => refs m ++ refsL ms
end
theorem renL_eq (ρ : Nat → Option Nat) : ∀ cs, renL ρ cs = cs.map (ren ρ)
  | [] => rfl
  | m :: ms => by rw [renL, renL_eq ρ ms]; rfl
/-- A number's place in a list. -/
def idx : List Nat → Nat → Option Nat
  | [], _ => none
  | x :: l, k => bif x == k then some 0 else match idx l k with
    | some i => some (i + 1)
    | none => none
theorem idx_some : ∀ {l : List Nat} {k i : Nat}, idx l k = some i → l[i]? = some k
  | [], k, i, h => by cases h
  | x :: l, k, i, h => by
    simp only [idx] at h
    cases hx : x == k with
    | true => rw [hx] at h; cases h; simp; simpa using hx
    | false =>
      rw [hx] at h
      simp only [cond_false] at h
      split at h
      · rename_i j hj; cases h; simp; exact idx_some hj
      · cases h
theorem idx_none : ∀ {l : List Nat} {k : Nat}, idx l k = none → k ∉ l
  | [], k, _ => by simp
  | x :: l, k, h => by
    simp only [idx] at h
    cases hx : x == k with
    | true => rw [hx] at h; cases h
    | false =>
      rw [hx] at h
      simp only [cond_false] at h
      split at h
      · cases h
      · rename_i hj
        have := idx_none hj
        simp only [List.mem_cons, not_or]
        exact ⟨fun e => by rw [e] at hx; simp at hx, this⟩
theorem idx_mem {l : List Nat} {k : Nat} (h : k ∈ l) : ∃ i, idx l k = some i := by
  cases hi : idx l k with
  | some i => exact ⟨i, rfl⟩
  | none => exact absurd h (idx_none hi)
theorem idx_of : ∀ {l : List Nat}, l.Nodup → ∀ {i k : Nat}, l[i]? = some k → idx l k = some i
  | [], _, i, k, h => by simp at h
  | x :: l, hn, 0, k, h => by
    simp at h; subst h
    simp [idx]
  | x :: l, hn, i + 1, k, h => by
    simp at h
    have hn' := List.nodup_cons.1 hn
    have hne : (x == k) = false := by
      rw [beq_eq_false_iff_ne]; intro e; subst e; exact hn'.1 (List.mem_of_getElem? h)
    simp only [idx, hne, cond_false, idx_of hn'.2 h]

/-- A call's contract: values and slots that are given, value and slots that come back. -/
structure HeapS (P : Program) (E : Env) (role : Nat → Role) (β : Bet) (w : World) (hs : Nat → M) : Prop where
  ext : Below 0 E.w0 w
  frame : ∀ b, b < E.w0.heap.size → ¬ E.lent b → w.heap[b]? = E.w0.heap[b]?
  keep : ∀ b n o, pubAt E.r0 b n → o < n → w.cell? ⟨b, o, none⟩ = E.w0.cell? ⟨b, o, none⟩
  pub0 : ∀ b n, pubAt E.r0 b n → pubAt role b n
  mask : ∀ k, (∀ t, role k ≠ .loc t) ∧ ∀ lim p, role k ≠ .row lim (some p)
  roleF : ∀ b, b < E.w0.heap.size → ¬ E.lent b → role b = E.r0 b
  low : ∀ k, role k ≠ .none → k < w.heap.size
  lowB : ∀ k l, β k = some l → l.b < w.heap.size
  bet0 : ∀ k l, E.β0 k = some l → β k = some l
  new : ∀ k l, β k = some l → E.w0.heap.size ≤ l.b ∨ E.lent l.b
  inj : ∀ k k' l l', (hs k).alive = true → (hs k').alive = true → β k = some l → β k' = some l' → l.b = l'.b → k = k'
  so : ∀ k, SO P role β w k (hs k)
def PSM (P : Program) (f : Nat) (as hs : List M) (m : M) (hs' : List M) : Prop :=
  ∀ (role : Nat → Role) (β : Bet) (w : World) (args : Array Value), HeapS P ⟨w, role, hs.length, β⟩ role β w (get hs) → args.size = as.length → (∀ (i : Nat) (x : Value) (e : M), args[i]? = some x → as[i]? = some e → Rm P role β w x e) →
    CallsV P f args w fun e w' => ∃ v role' β', e = .returned v ∧ HeapS P ⟨w, role, hs.length, β⟩ role' β' w' (get hs') ∧ Rm P role' β' w' v m
/-- The contracts that a walk may use. -/
def OrcOKM (P : Program) (orc : OrcM) : Prop := ∀ f as hs K, orc f as hs K → ∃ m hs', K m hs' ∧ (∀ K' : M → List M → Prop, K' m hs' → orc f as hs K') ∧ PSM P f as hs m hs'
theorem OrcOKM.det {P : Program} {orc : OrcM} (h : OrcOKM P orc) (f : Nat) (as hs : List M) : DetM (orc f as hs) := fun K hK => by
  obtain ⟨d, hs', h1, h2, _⟩ := h f as hs K hK
  exact ⟨d, hs', h1, h2⟩

section
variable (N H : Nat)
/-- The slots that values lead to, and what they hold. -/
def reachL : Nat → List Nat → List (Nat × M) → Lk (List (Nat × M))
  | 0, _, _ => .fail
  | _ + 1, [], acc => .ret acc
  | n + 1, k :: todo, acc => bif (acc.map (·.1)).contains k then reachL n todo acc else .rd (N + k) fun c => .chk c.alive (reachL n (todo ++ refs c) (acc ++ [(k, c)]))
def freshAll : List Nat → Lk Unit
  | [] => .ret ()
  | k :: ks => .chk (decide (k < H)) (.rd (N + k) fun m => .chk (isUndef m) (freshAll ks))
/-- What comes back, under the caller's names. -/
def backW (ks : List Nat) (hs : List M) : List (Nat × M) := (ks.zip hs).map fun p => (N + p.1, ren (fun j => ks[j]?) p.2)
def nodupB : List Nat → Bool
  | [] => true
  | x :: l => !l.contains x && nodupB l
def callH (o : Oper) (f : Nat) (ms : List M) (fr : List Nat) : Lk (List (Nat × M)) := (reachL N 200 (refsL ms) []).bind fun acc =>
  .call f (ms.map (ren (idx (acc.map (·.1))))) (acc.map fun p => ren (idx (acc.map (·.1))) p.2) fun m hs' =>
    (freshAll N H (fr.take (hs'.length - acc.length))).bind fun _ =>
    .chk (decide (acc.length ≤ hs'.length) && decide (hs'.length ≤ acc.length + fr.length) && nodupB fr && hs'.all fun c => c.alive || (match c with | .dead => true | _ => false))
      (putM N o (ren (fun j => (acc.map (·.1) ++ fr.take (hs'.length - acc.length))[j]?) m) (backW N (acc.map (·.1) ++ fr.take (hs'.length - acc.length)) hs'))
end
theorem nodupB_eq : ∀ {l : List Nat}, nodupB l = true → l.Nodup
  | [], _ => List.nodup_nil
  | x :: l, h => by
    simp only [nodupB, Bool.and_eq_true, Bool.not_eq_true', List.contains_eq_mem, decide_eq_false_iff_not] at h
    exact List.nodup_cons.2 ⟨h.1, nodupB_eq h.2⟩

section
variable {P : Program} {E : Env} {N H : Nat} {role role' : Nat → Role} {β β' : Bet} {a a' : Act} {w w' : World} {s s' : List M} {orc : OrcM} {l : List Nat}
variable {K : List (Nat × M) → List Nat → Prop} {Q : Exit → Act → World → Prop}

theorem ren_undef_isVal {ρ : Nat → Option Nat} : (M.undef).isVal = false := rfl
theorem Rm.ren {ρ : Nat → Option Nat} (hρ : ∀ k j l, ρ k = some j → β k = some l → β' j = some l) {x : Value} {m : M} (h : Rm P role β w x m) : Rm P role β' w x (Hp.ren ρ m) := by
  induction h with
  | undef => rw [Hp.ren]; exact .undef
  | d h hs => rw [Hp.ren]; exact .d h hs
  | nil => rw [Hp.ren]; exact .nil
  | @ref k off l h =>
    rw [Hp.ren]
    split
    · rename_i j hj; exact .ref (hρ k j l hj h)
    · exact .undef
  | @el T k i n l h =>
    rw [Hp.ren]
    split
    · rename_i j hj; exact .el (hρ k j l hj h)
    · exact .undef
  | @sl T k off len cap l a h hc hn ha hp =>
    rw [Hp.ren]
    split
    · rename_i j hj; exact .sl (hρ k j l hj h) hc hn ha hp
    · exact .undef
  | @ifc t x m h hv ih =>
    rw [Hp.ren]
    cases hb : (Hp.ren ρ m).isVal with
    | true => exact .ifc ih hb
    | false => exact .undef
  | @clo f vs cs hl hv h ih =>
    rw [Hp.ren, renL_eq]
    cases hb : (cs.map (Hp.ren ρ)).all M.isVal with
    | true =>
      refine .clo (by simpa using hl) (fun m hm => List.all_eq_true.1 hb m hm) fun i x m hx hm => ?_
      simp only [List.getElem?_map, Option.map_eq_some_iff] at hm
      obtain ⟨m0, hm0, rfl⟩ := hm
      exact ih i x m0 hx hm0
    | false => exact .undef
  | @mp k l h =>
    rw [Hp.ren]
    split
    · rename_i j hj; exact .mp (hρ k j l hj h)
    · exact .undef
  | @agg vs cs hl h1 h ih =>
    rw [Hp.ren, renL_eq]
    refine .agg (by simpa using hl) h1 fun i x m hx hm => ?_
    simp only [List.getElem?_map, Option.map_eq_some_iff] at hm
    obtain ⟨m0, hm0, rfl⟩ := hm
    exact ih i x m0 hx hm0
  | @tup vs cs hl h ih =>
    rw [Hp.ren, renL_eq]
    refine .tup (by simpa using hl) fun i x m hx hm => ?_
    simp only [List.getElem?_map, Option.map_eq_some_iff] at hm
    obtain ⟨m0, hm0, rfl⟩ := hm
    exact ih i x m0 hx hm0
theorem ren_alive {ρ : Nat → Option Nat} (m : M) : (Hp.ren ρ m).alive = m.alive := by
  cases m <;> simp only [Hp.ren] <;> first | rfl | (split <;> rfl) | skip
  · cases (Hp.ren ρ ‹M›).isVal <;> rfl
  · cases (renL ρ ‹List M›).all M.isVal <;> rfl
/-- A slot that is there, under another name. -/
theorem SO.ren {ρ : Nat → Option Nat} (hρ : ∀ k j l, ρ k = some j → β k = some l → β' j = some l) {k j : Nat} {m : M} (h : SO P role β w k m) (hl : ∀ l, β k = some l → β' j = some l) (ha : m.alive = true ∨ m = .dead) : SO P role β' w j (Hp.ren ρ m) := by
  rcases ha with ha | rfl
  · cases m <;> try (cases ha; done)
    · rename_i T cs
      obtain ⟨l, vs, h1, h2, h3, h4, h5, h6, h7⟩ := h
      rw [Hp.ren, renL_eq]
      refine ⟨l, vs, hl l h1, h2, by simpa using h3, h4, by simpa using h5, h6, fun i y m hy hm => ?_⟩
      simp only [List.getElem?_map, Option.map_eq_some_iff] at hm
      obtain ⟨m0, hm0, rfl⟩ := hm
      exact ⟨(h7 i y m0 hy hm0).1, (h7 i y m0 hy hm0).2.ren hρ⟩
    · obtain ⟨l, cur, fz, h1, h2, h3⟩ := h
      rw [Hp.ren]
      exact ⟨l, cur, fz, hl l h1, h2, h3⟩
  · trivial

theorem reach_sim : ∀ (n : Nat) (todo : List Nat) (acc : List (Nat × M)) (l : List Nat) (K : List (Nat × M) → List Nat → Prop), (acc.map (·.1)).Nodup → (∀ p ∈ acc, get s (N + p.1) = p.2 ∧ p.2.alive = true) → (reachL N n todo acc).run orc s l K →
    ∃ acc' l', K acc' l' ∧ (acc'.map (·.1)).Nodup ∧ ∀ p ∈ acc', get s (N + p.1) = p.2 ∧ p.2.alive = true
  | 0, _, _, _, _, _, _, h => h.elim
  | n + 1, [], acc, l, K, hn, hp, h => ⟨acc, l, h, hn, hp⟩
  | n + 1, k :: todo, acc, l, K, hn, hp, h => by
    simp only [reachL] at h
    cases hc : (acc.map (·.1)).contains k with
    | true => rw [hc] at h; exact reach_sim n todo acc l K hn hp h
    | false =>
      rw [hc] at h
      simp only [cond_false, Lk.run] at h
      rw [cond_and] at h
      refine reach_sim n _ _ _ K ?_ (fun p hm => ?_) h.2
      · rw [List.map_append, List.map_cons, List.map_nil, List.nodup_append]
        refine ⟨hn, by simp, fun x hx y hy => ?_⟩
        simp at hy; subst hy
        intro e; subst e
        simp [hx] at hc
      · rcases List.mem_append.1 hm with hm | hm
        · exact hp p hm
        · simp at hm; subst hm; exact ⟨rfl, h.1⟩
theorem fresh_sim : ∀ (ks : List Nat) (l : List Nat) (K : Unit → List Nat → Prop), (freshAll N H ks).run orc s l K → ∃ l', K () l' ∧ ∀ k ∈ ks, k < H ∧ get s (N + k) = .undef
  | [], l, K, h => ⟨l, h, by simp⟩
  | k :: ks, l, K, h => by
    simp only [freshAll] at h
    rw [run_chk, decide_eq_true_eq] at h
    obtain ⟨hk, h⟩ := h
    simp only [Lk.run] at h
    rw [cond_and] at h
    obtain ⟨l', h1, h2⟩ := fresh_sim ks _ K h.2
    refine ⟨l', h1, fun j hj => ?_⟩
    rcases List.mem_cons.1 hj with rfl | hj
    · exact ⟨hk, isUndef_eq h.1⟩
    · exact h2 j hj

theorem put_after {ws : List (Nat × M)} (hS : Sim P E N H role' β' a w' (apply ws s)) {o : Oper} {m : M} {x : Value} (h : (putM N o m ws).run orc s l K) (hm : Rm P role' β' w' x m) : After P E N H s K (a.put o.dst x) w' := by
  unfold putM at h
  cases hd : o.dst with
  | none => rw [hd] at h; exact ⟨ws, l, role', β', h, hS⟩
  | some t =>
    rw [hd] at h
    simp only at h
    rw [run_chk, decide_eq_true_eq] at h
    refine ⟨_, _, role', β', h.2, ?_⟩
    rw [apply_append]
    exact hS.put h.1 hm

theorem zip_get {g : M → M} : ∀ (kk : List Nat) (hs : List M) (s : List M), kk.Nodup → kk.length = hs.length → (∀ k ∈ kk, N + k < s.length) → ∀ k, get (apply ((kk.zip hs).map fun p => (N + p.1, g p.2)) s) (N + k) = match idx kk k with
    | some j => g (get hs j)
    | none => get s (N + k)
  | [], hs, s, _, _, _, k => rfl
  | x :: kk, [], s, _, hl, _, k => by simp at hl
  | x :: kk, m :: hs, s, hn, hl, hlt, k => by
    obtain ⟨hx, hn'⟩ := List.nodup_cons.1 hn
    rw [List.zip_cons_cons, List.map_cons, apply_cons, zip_get kk hs _ hn' (by simpa using hl) (fun j hj => by simpa using hlt j (by simp [hj])) k]
    by_cases e : x = k
    · subst e
      have h1 : idx kk x = none := by
        cases h : idx kk x with
        | none => rfl
        | some i => exact absurd (List.mem_of_getElem? (idx_some h)) hx
      have h2 : idx (x :: kk) x = some 0 := by simp [idx]
      rw [h1, h2]
      exact get_set_self (hlt x (by simp))
    · have hb : (x == k) = false := by simpa using e
      cases h : idx kk k with
      | none =>
        have h2 : idx (x :: kk) k = none := by simp only [idx, hb, cond_false, h]
        rw [h2]
        exact get_set_ne (by omega)
      | some i =>
        have h2 : idx (x :: kk) k = some (i + 1) := by simp only [idx, hb, cond_false, h]
        rw [h2]
        rfl
theorem zip_low {g : M → M} : ∀ (kk : List Nat) (hs : List M) (s : List M) (t : Nat), t < N → get (apply ((kk.zip hs).map fun p => (N + p.1, g p.2)) s) t = get s t
  | [], hs, s, t, _ => rfl
  | x :: kk, [], s, t, _ => rfl
  | x :: kk, m :: hs, s, t, ht => by
    rw [List.zip_cons_cons, List.map_cons, apply_cons, zip_low kk hs _ t ht, get_set_ne (by omega)]

theorem get_map {f : M → M} (hf : f .undef = .undef) {l : List M} {j : Nat} : get (l.map f) j = f (get l j) := by
  unfold get
  rw [List.getD_eq_getElem?_getD, List.getD_eq_getElem?_getD, List.getElem?_map]
  cases l[j]? with
  | none => simp [hf]
  | some m => simp

theorem callH_sim (hO : OrcOKM P orc) (hS : Sim P E N H role β a w s) {o : Oper} {f : Nat} {ms : List M} {fr : List Nat} {args : Array Value} (hsz : args.size = ms.length) (hargs : ∀ (i : Nat) (x : Value) (m : M), args[i]? = some x → ms[i]? = some m → Rm P role β w x m)
    (hrun : (execOp a.eval o).run P w = (callFunc f args).run P w) (h : (callH N H o f ms fr).run orc s l K) : Oper.wp P o a w (After P E N H s K) Q := by
  unfold callH at h
  rw [run_bind] at h
  obtain ⟨acc, l1, g, hnd, hacc⟩ := reach_sim _ _ _ _ _ (by simp) (by simp) h
  clear h
  obtain ⟨m, hs', hK, _, hps⟩ := hO _ _ _ _ g
  clear g
  generalize hks : acc.map (·.1) = ks at *
  have hlen : ks.length = acc.length := by rw [← hks]; simp
  have hat : ∀ {j k : Nat}, ks[j]? = some k → ∃ p, acc[j]? = some p ∧ p.1 = k ∧ get s (N + k) = p.2 ∧ p.2.alive = true := fun {j k} hj => by
    rw [← hks, List.getElem?_map, Option.map_eq_some_iff] at hj
    obtain ⟨p, hp, rfl⟩ := hj
    exact ⟨p, hp, rfl, hacc p (List.mem_of_getElem? hp)⟩
  let βc : Bet := fun j => match ks[j]? with
    | some k => β k
    | none => none
  have hβc : ∀ {j k : Nat}, ks[j]? = some k → βc j = β k := fun {j k} hj => by simp only [βc, hj]
  have hβn : ∀ {j : Nat}, ks[j]? = none → βc j = none := fun {j} hj => by simp only [βc, hj]
  have hβs : ∀ {j l}, βc j = some l → ∃ k, ks[j]? = some k ∧ β k = some l := fun {j l} hj => by
    cases hk : ks[j]? with
    | none => rw [hβn hk] at hj; cases hj
    | some k => exact ⟨k, rfl, by rw [← hβc hk]; exact hj⟩
  have hρ : ∀ k j l, idx ks k = some j → β k = some l → βc j = some l := fun k j l hj hl => by rw [hβc (idx_some hj)]; exact hl
  have hhs : ∀ j, get (acc.map fun p => ren (idx ks) p.2) j = match acc[j]? with
      | some p => ren (idx ks) p.2
      | none => .undef := fun j => by
    unfold get
    rw [List.getD_eq_getElem?_getD, List.getElem?_map]
    cases acc[j]? <;> rfl
  have hn : (acc.map fun p => ren (idx ks) p.2).length = acc.length := by simp
  have heap : HeapS P ⟨w, role, (acc.map fun p => ren (idx ks) p.2).length, βc⟩ role βc w (get (acc.map fun p => ren (idx ks) p.2)) := by
    refine { ext := Below.refl _ _, frame := fun _ _ _ => rfl, keep := fun _ _ _ _ _ => rfl, pub0 := fun _ _ hp => hp, mask := hS.mask, roleF := fun _ _ _ => rfl, low := hS.low, lowB := fun j l hj => ?_, bet0 := fun _ _ hk => hk, new := fun j l hj => ?_, inj := fun j j' l1 l2 hj hj' h1 h2 hbb => ?_, so := fun j => ?_ }
    · obtain ⟨k, _, hk⟩ := hβs hj; exact hS.lowB k l hk
    · obtain ⟨k, hk, _⟩ := hβs hj
      refine .inr ⟨j, l, ?_, hj, rfl⟩
      show j < _
      rw [hn, ← hlen]; exact (List.getElem?_eq_some_iff.1 hk).1
    · obtain ⟨k, hk, e1⟩ := hβs h1
      obtain ⟨k', hk', e2⟩ := hβs h2
      obtain ⟨p, _, _, q1, q2⟩ := hat hk
      obtain ⟨p', _, _, q1', q2'⟩ := hat hk'
      have hkk := hS.inj k k' l1 l2 (by rw [q1]; exact q2) (by rw [q1']; exact q2') e1 e2 hbb
      subst hkk
      have i1 := idx_of hnd hk
      rw [idx_of hnd hk'] at i1
      exact (Option.some.inj i1).symm
    · rw [hhs j]
      cases hj : acc[j]? with
      | none =>
        have : ks[j]? = none := by rw [← hks, List.getElem?_map, hj]; rfl
        exact hβn this
      | some p =>
        have hk : ks[j]? = some p.1 := by rw [← hks, List.getElem?_map, hj]; rfl
        have hp := hacc p (List.mem_of_getElem? hj)
        have hso := hS.so p.1
        rw [hp.1] at hso
        exact hso.ren hρ (fun l hl => by rw [hβc hk]; exact hl) (.inl hp.2)
  have hcall := hps role βc w args heap (by simpa using hsz) fun i x m hx hm => by
    simp only [List.getElem?_map, Option.map_eq_some_iff] at hm
    obtain ⟨m0, hm0, rfl⟩ := hm
    exact (hargs i x m0 hx hm0).ren hρ
  -- what comes back
  rw [run_bind] at hK
  obtain ⟨l2, hK, hfr⟩ := fresh_sim _ _ _ hK
  rw [run_chk] at hK
  obtain ⟨hc, hK⟩ := hK
  simp only [Bool.and_eq_true, decide_eq_true_eq, List.all_eq_true] at hc
  obtain ⟨⟨⟨c1, c2⟩, c3⟩, c4⟩ := hc
  have hndf := nodupB_eq c3
  generalize hfre : fr.take (hs'.length - acc.length) = fr' at *
  have hfl : fr'.length = hs'.length - acc.length := by rw [← hfre]; simp; omega
  have hnf : fr'.Nodup := by rw [← hfre]; exact hndf.sublist (List.take_sublist _ _)
  have hkl : (ks ++ fr').length = hs'.length := by simp [hlen, hfl]; omega
  have hkal : ∀ k ∈ ks, (get s (N + k)).alive = true := fun k hk => by
    obtain ⟨j, hj⟩ := List.getElem?_of_mem hk
    obtain ⟨p, _, _, q1, q2⟩ := hat hj
    rw [q1]; exact q2
  have hnk : (ks ++ fr').Nodup := by
    rw [List.nodup_append]
    refine ⟨hnd, hnf, fun x hx y hy e => ?_⟩
    subst e
    have h1 := hkal x hx
    rw [(hfr x hy).2] at h1; cases h1
  have hklt : ∀ k ∈ ks ++ fr', N + k < s.length := fun k hk => by
    rcases List.mem_append.1 hk with hk | hk
    · exact lt_of_get fun e => by have := hkal k hk; rw [e] at this; cases this
    · have := (hfr k hk).1; have := hS.len; omega
  have hcase : ∀ {j k : Nat}, (ks ++ fr')[j]? = some k → ks[j]? = some k ∧ j < acc.length ∨ acc.length ≤ j ∧ k ∈ fr' := fun {j k} hj => by
    rcases append_inv hj with h1 | ⟨h0, h1⟩
    · exact .inl ⟨h1, by rw [← hlen]; exact (List.getElem?_eq_some_iff.1 h1).1⟩
    · exact .inr ⟨by omega, List.mem_of_getElem? h1⟩
  have hund : ∀ {k}, k ∈ fr' → β k = none := fun {k} hk => by
    have := hS.so k; rw [(hfr k hk).2] at this; exact this
  have fin : ∀ e w', (∃ v role' β', e = Ending.returned v ∧ HeapS P ⟨w, role, (acc.map fun p => ren (idx ks) p.2).length, βc⟩ role' β' w' (get hs') ∧ Rm P role' β' w' v m) → ∃ v, e = .returned v ∧ After P E N H s K (a.put o.dst v) w' := by
    rintro e w' ⟨v, role', β', rfl, hp, hv⟩
    refine ⟨v, rfl, ?_⟩
    let β2 : Bet := fun k => match idx (ks ++ fr') k with
      | some j => β' j
      | none => β k
    have hb2 : ∀ {k j}, idx (ks ++ fr') k = some j → β2 k = β' j := fun {k j} hj => by simp only [β2, hj]
    have hb2n : ∀ {k}, idx (ks ++ fr') k = none → β2 k = β k := fun {k} hj => by simp only [β2, hj]
    have hb0 : ∀ {j k l}, ks[j]? = some k → β k = some l → β' j = some l := fun {j k l} hj hl => hp.bet0 j l (by show βc j = _; rw [hβc hj]; exact hl)
    have hbet : ∀ k l, β k = some l → β2 k = some l := fun k l hl => by
      cases hi : idx (ks ++ fr') k with
      | none => rw [hb2n hi]; exact hl
      | some j =>
        rw [hb2 hi]
        rcases hcase (idx_some hi) with ⟨h1, _⟩ | ⟨_, h1⟩
        · exact hb0 h1 hl
        · rw [hund h1] at hl; cases hl
    have lent_of : ∀ {b}, (⟨w, role, (acc.map fun p => ren (idx ks) p.2).length, βc⟩ : Env).lent b → ∃ k l, k ∈ ks ∧ β k = some l ∧ l.b = b := fun {b} hb => by
      obtain ⟨j, l', _, h2, h3⟩ := hb
      obtain ⟨k, hk, hk2⟩ := hβs h2
      exact ⟨k, l', List.mem_of_getElem? hk, hk2, h3⟩
    have ev : Ev role β w role' β2 w' := ⟨⟨hp.pub0, fun b n o h1 h2 => hp.keep b n o h1 h2⟩, hbet⟩
    have hσ : ∀ j k l, (ks ++ fr')[j]? = some k → β' j = some l → β2 k = some l := fun j k l hj hl => by rw [hb2 (idx_of hnk hj)]; exact hl
    have hgetW := zip_get (N := N) (g := ren fun j => (ks ++ fr')[j]?) (ks ++ fr') hs' s hnk hkl hklt
    have hnot : ∀ {k l}, k ∉ ks → (get s (N + k)).alive = true → β k = some l → ¬ (⟨w, role, (acc.map fun p => ren (idx ks) p.2).length, βc⟩ : Env).lent l.b := fun {k l} hk ha hl hb => by
      obtain ⟨k2, l2, h1, h2, h3⟩ := lent_of hb
      have := hS.inj k k2 l l2 ha (hkal k2 h1) hl h2 h3.symm
      subst this; exact hk h1
    have hS' : Sim P E N H role' β2 a w' (apply (backW N (ks ++ fr') hs') s) := by
      refine hS.turn hp.ext ev hp.mask hp.low (fun k l hl => ?_) (fun k l hl => ?_) (fun b hb hnl => ?_) (by rw [apply_length]; exact hS.len) (fun t ht => zip_low _ _ _ t ht) (fun k k' l1 l2 hk hk' h1 h2 hbb => ?_) fun k => ?_
      · cases hi : idx (ks ++ fr') k with
        | none => rw [hb2n hi] at hl; exact Nat.lt_of_lt_of_le (hS.lowB k l hl) hp.ext.size
        | some j => rw [hb2 hi] at hl; exact hp.lowB j l hl
      · cases hi : idx (ks ++ fr') k with
        | none => rw [hb2n hi] at hl; exact hS.new k l hl
        | some j =>
          rw [hb2 hi] at hl
          rcases hp.new j l hl with h1 | h1
          · have := hS.ext.size
            exact .inl (Nat.le_trans this h1)
          · obtain ⟨k2, l2, _, h3, h4⟩ := lent_of h1
            rw [← h4]; exact hS.new k2 l2 h3
      · have hb' : b < w.heap.size := Nat.lt_of_lt_of_le hb hS.ext.size
        have hnl' : ¬ (⟨w, role, (acc.map fun p => ren (idx ks) p.2).length, βc⟩ : Env).lent b := fun h => by
          obtain ⟨k2, l2, _, h3, h4⟩ := lent_of h
          subst h4
          rcases hS.new k2 l2 h3 with h5 | h5
          · omega
          · exact hnl h5
        exact ⟨hp.frame b hb' hnl', hp.roleF b hb' hnl'⟩
      · unfold backW at hk hk'
        rw [hgetW] at hk hk'
        cases hi : idx (ks ++ fr') k with
        | none =>
          rw [hi] at hk
          rw [hb2n hi] at h1
          have hkn : k ∉ ks := fun h => idx_none hi (by simp [h])
          cases hi' : idx (ks ++ fr') k' with
          | none =>
            rw [hi'] at hk'
            rw [hb2n hi'] at h2
            exact hS.inj k k' l1 l2 hk hk' h1 h2 hbb
          | some j' =>
            exfalso
            rw [hb2 hi'] at h2
            rcases hp.new j' l2 h2 with h5 | h5
            · have := hS.lowB k l1 h1
              have h5' : w.heap.size ≤ l2.b := h5
              omega
            · rw [← hbb] at h5; exact hnot hkn hk h1 h5
        | some j =>
          rw [hi] at hk
          rw [hb2 hi] at h1
          cases hi' : idx (ks ++ fr') k' with
          | none =>
            rw [hi'] at hk'
            rw [hb2n hi'] at h2
            exfalso
            have hkn : k' ∉ ks := fun h => idx_none hi' (by simp [h])
            rcases hp.new j l1 h1 with h5 | h5
            · have := hS.lowB k' l2 h2
              have h5' : w.heap.size ≤ l1.b := h5
              omega
            · rw [hbb] at h5; exact hnot hkn hk' h2 h5
          | some j' =>
            rw [hi'] at hk'
            rw [hb2 hi'] at h2
            simp only [ren_alive] at hk hk'
            have := hp.inj j j' l1 l2 hk hk' h1 h2 hbb
            subst this
            have e1 := idx_some hi
            rw [idx_some hi'] at e1
            exact (Option.some.inj e1).symm
      · unfold backW
        rw [hgetW]
        cases hi : idx (ks ++ fr') k with
        | none =>
          simp only
          have hkn : k ∉ ks := fun h => idx_none hi (by simp [h])
          refine (hS.so k).ev ev (fun e' => ?_) fun l' ha' hl' => ?_
          · rw [hb2n hi]; have := hS.so k; rw [e'] at this; exact this
          · have hb' := hS.lowB k l' hl'
            have hnl' := hnot hkn ha' hl'
            exact ⟨hp.frame _ hb' hnl', hp.roleF _ hb' hnl'⟩
        | some j =>
          simp only
          have hjl : j < hs'.length := by
            have := (List.getElem?_eq_some_iff.1 (idx_some hi)).1
            rw [hkl] at this; exact this
          have hal := c4 (get hs' j) (by unfold get; rw [List.getD_eq_getElem?_getD, List.getElem?_eq_getElem hjl]; exact List.getElem_mem hjl)
          refine (hp.so j).ren hσ (fun l hl => by rw [hb2 hi]; exact hl) ?_
          cases hm : get hs' j <;> rw [hm] at hal <;> first | exact .inl rfl | exact .inr rfl | (simp [M.alive] at hal)
    exact put_after hS' hK (hv.ren hσ)
  unfold Oper.wp
  rw [hrun]
  unfold CallsV at hcall
  generalize (callFunc f args).run P w = r at hcall
  match r, hcall with
  | .ok (.enter g as) w1, hc =>
    refine Calls.mono hc ?_
    intro e w' hR
    obtain ⟨v, rfl, h⟩ := fin e w' hR
    exact h
  | .ok (.value v) w1, hc =>
    obtain ⟨v', h1, h2⟩ := fin _ w1 hc
    cases h1
    exact h2
end
end Go.Proofs.YthhfnggigmfmjaaDoor.Hp
