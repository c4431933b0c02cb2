/-
  Values made of parts, parts of values; picks, signs, literals of slices. No program in sight.
-/
import Derived.Test.YtnjhmlnmdnocmaaAbsH
import Derived.Great.BuildSlice
namespace Go.Proofs.Ytnjhmlnmdnocmaa
set_option linter.unusedSimpArgs false
set_option linter.unusedVariables false
open Go.RowKit
open Look (ret rd chk)

section
variable (P : Program)
def fillD (place : Nat → Option (Nat × Nat)) (cells : List D) : List (Nat × D) → Option (List D)
  | [] => some cells
  | (i, d) :: rest => match place i with
    | none => none
    | some (off, size) => if decide ((cellsD d).length = size) && decide (off + size ≤ cells.length) && (cellsD d).all D.isCell then fillD place (setCells cells off (cellsD d)) rest else none

/-- The places and types of a struct's or an array's parts. -/
def placesOf (t : TypeId) : Option ((Nat → Option (Nat × Nat)) × (Nat → TypeId)) := match P.underlying t with
  | some (.array _ e) => if (P.info? e).isSome then some ((fun i => some (i * P.cellsOf e, P.cellsOf e)), fun _ => e) else none
  | some (.struct fs) => if fs.toList.all fun f => (P.info? f.type).isSome then some ((fun i => (fs.toList[i]?).map fun f => (f.offset, P.cellsOf f.type)), fun i => ((fs.toList[i]?).map (·.type)).getD 0) else none
  | _ => none

def rdParts (ty : Nat → TypeId) : List (Nat × Operand) → Look (List (Nat × D))
  | [] => .ret []
  | (i, x) :: xs => (rdV P (ty i) x).bind fun d => (rdParts ty xs).bind fun ds => .ret ((i, d) :: ds)

def buildL (o : Oper) (t : TypeId) (parts : Array (Nat × Operand)) : Look (List (Nat × D)) := match placesOf P t, zeroCellsD P t with
  | some (place, ty), some z => (rdParts P ty parts.toList).bind fun ds => match fillD place (z.map D.strip) ds with
    | some cs => putW o (.agg cs) []
    | none => .fail
  | _, _ => .fail

/-- A list cut into pieces of one length. -/
def chunks (n : Nat) : Nat → List D → List (List D)
  | 0, _ => []
  | k + 1, l => l.take n :: chunks n k (l.drop n)

def buildSliceL (o : Oper) (t : TypeId) (len : Nat) (parts : Array (Nat × Operand)) : Look (List (Nat × D)) := match P.underlying t with
  | some (.slice e) => match zeroCellsD P e with
    | some z => .chk ((P.info? e).isSome && decide (z.length = P.cellsOf e) && decide (0 < P.cellsOf e) && decide (len * P.cellsOf e ≤ 2 ^ 24))
      ((rdParts P (fun _ => e) parts.toList).bind fun ds => match fillD (fun i => some (i * P.cellsOf e, P.cellsOf e)) ((List.replicate len (z.map D.strip)).flatten) ds with
        | some cs => match o.dst with
          | none => .fail
          | some t => .rd t fun old => .chk (!old.isObj) (.ret [(t, .list true e (chunks (P.cellsOf e) len cs))])
        | none => .fail)
    | none => .fail
  | _ => .fail

def fieldL (o : Oper) (t : TypeId) (x : Operand) (i : Nat) : Look (List (Nat × D)) :=
  (rdV P t x).bind fun d => match d, (fieldsOf P t)[i]? with
    | .agg cs, some f => match partD P f.type cs f.offset with
      | some e => putW o e.strip []
      | none => .fail
    | _, _ => .fail
def extractL (o : Oper) (x : Operand) (i : Nat) : Look (List (Nat × D)) :=
  (rdV P 0 x).bind fun d => match d with
    | .tup ds => match ds[i]? with
      | some e => putW o e.strip []
      | none => .fail
    | _ => .fail
def ifaceL (o : Oper) (t : TypeId) (x : Operand) : Look (List (Nat × D)) := .chk (P.concrete t) ((rdV P t x).bind fun d => putW o (.iface t d) [])
def pickL (o : Oper) (c x y : Operand) : Look (List (Nat × D)) :=
  (rdV P o.type c).bind fun dc => match dc with
    | .v (.bool b) => (rdO P o.type x).bind fun dx => (rdO P o.type y).bind fun dy => match dx, dy with
      | .v (.bool u), .v (.bool v) => putW o (.v (.bool (bif b then u else v))) []
      | dx, dy => .chk ((bif b then dx else dy).isVal) (putW o (bif b then dx else dy) [])
    | _ => .fail
def unOpL (o : Oper) (op : UnOp) (t : TypeId) (x : Operand) : Look (List (Nat × D)) :=
  (rdV P t x).bind fun d => match op, d with
    | .not, .v (.bool b) => putW o (.v (.bool (!b))) []
    | .neg, .v (.int k n) => putW o (.v (.int k (k.wrap (0 - n)))) []
    | .xor, .v (.int k n) => putW o (.v (.int k (k.wrap (((BitVec.ofInt k.bits (if k.signed then -1 else k.max)) ^^^ (BitVec.ofInt k.bits n)).toNat : Int)))) []
    | _, _ => .fail
end

section
variable {P : Program} {orc : Orc} {E : Env} {A : List Nat} {role : Nat → Role} {a : Act} {w : World} {s : List D} {l : List Nat}
variable {K : List (Nat × D) → List Nat → Prop} {Q : Exit → Act → World → Prop}

/-- Cells against what is known of them. -/
def CR (P : Program) (role : Nat → Role) (w : World) (vs : Array Value) (ds : List D) : Prop :=
  vs.size = ds.length ∧ ∀ (i : Nat) (y : Value) (d : D), vs[i]? = some y → ds[i]? = some d → y.oneCell' = true ∧ Rd P role w y d
theorem CR.agg {vs : Array Value} {ds : List D} (h : CR P role w vs ds) : Rd P role w (.agg vs) (.agg ds) :=
  .agg h.1 (fun i x hx => by
    have hi := (Array.getElem?_eq_some_iff.1 hx).1
    have h1 := h.1
    exact (h.2 i x ds[i] hx (by simp [show i < ds.length by omega])).1) fun i x d hx hd => (h.2 i x d hx hd).2

theorem fold_get (off : Nat) : ∀ (vs : List Value) (j : Nat) (cs : Array Value) (i : Nat), off + j + vs.length ≤ cs.size →
    ((vs.zipIdx j).foldl (fun cs (c, j) => cs.setIfInBounds (off + j) c) cs)[i]? = if off + j ≤ i ∧ i < off + j + vs.length then vs[i - (off + j)]? else cs[i]?
  | [], j, cs, i, _ => by simp; intro h1 h2; omega
  | v :: vs, j, cs, i, h => by
    simp only [List.length_cons] at h
    rw [List.zipIdx_cons, List.foldl_cons, fold_get off vs (j + 1) _ i (by simp; omega)]
    simp only [List.length_cons]
    by_cases h1 : i = off + j
    · subst h1
      rw [if_neg (by omega), if_pos (by omega)]
      simp [show off + j < cs.size by omega]
    · by_cases h2 : off + (j + 1) ≤ i ∧ i < off + (j + 1) + vs.length
      · rw [if_pos h2, if_pos (by omega), show i - (off + j) = (i - (off + (j + 1))) + 1 by omega, List.getElem?_cons_succ]
      · rw [if_neg h2, if_neg (by omega), Array.getElem?_setIfInBounds_ne (by omega)]
theorem fold_size (off : Nat) : ∀ (vs : List Value) (j : Nat) (cs : Array Value), ((vs.zipIdx j).foldl (fun cs (c, j) => cs.setIfInBounds (off + j) c) cs).size = cs.size
  | [], _, _ => rfl
  | v :: vs, j, cs => by rw [List.zipIdx_cons, List.foldl_cons, fold_size off vs (j + 1)]; simp

theorem CR.fill {vs : Array Value} {ds es : List D} {v : Value} {d : D} {off : Nat} (h : CR P role w vs ds) (hd : Rd P role w v d) (hc : (cellsD d).all D.isCell = true) (hle : off + (cellsD d).length ≤ ds.length) :
    CR P role w (v.cells.zipIdx.foldl (fun cs (c, j) => cs.setIfInBounds (off + j) c) vs) (setCells ds off (cellsD d)) := by
  obtain ⟨k1, k2⟩ := cellsD_rd hd hc
  have e : v.cells.zipIdx.foldl (fun cs (c, j) => cs.setIfInBounds (off + j) c) vs = (v.cells.toList.zipIdx 0).foldl (fun cs (c, j) => cs.setIfInBounds (off + j) c) vs := by
    rw [← Array.foldl_toList]; simp
  rw [e]
  have hsz := h.1
  refine ⟨?_, fun i y e hy he => ?_⟩
  · rw [fold_size]
    simp only [setCells, List.length_append, List.length_take, List.length_drop]; omega
  · rw [fold_get off v.cells.toList 0 vs i (by simp [k1]; omega)] at hy
    rw [setCells_get hle] at he
    simp only [Nat.add_zero, Array.length_toList, k1] at hy
    by_cases h1 : i < off
    · rw [if_pos h1] at he; rw [if_neg (by omega)] at hy; exact h.2 i y e hy he
    · rw [if_neg h1] at he
      by_cases h2 : i < off + (cellsD d).length
      · rw [if_pos h2] at he; rw [if_pos (by omega)] at hy
        have := k2 (i - off) y e (by simpa using hy) he
        exact ⟨this.1, this.2.1⟩
      · rw [if_neg h2] at he; rw [if_neg (by omega)] at hy; exact h.2 i y e hy he

theorem fill_sim {place : Nat → Option (Nat × Nat)} : ∀ (ps : List (Nat × D)) (qs : List (Nat × Value)) (vs : Array Value) (ds cs : List D), CR P role w vs ds → fillD place ds ps = some cs → ps.length = qs.length →
    (∀ (i : Nat) (p : Nat × D) (q : Nat × Value), ps[i]? = some p → qs[i]? = some q → p.1 = q.1 ∧ Rd P role w q.2 p.2) → ∃ cells, Instr.fill place vs qs = some cells ∧ CR P role w cells cs
  | [], [], vs, ds, cs, h, hf, _, _ => by simp only [fillD] at hf; cases hf; exact ⟨vs, rfl, h⟩
  | [], _ :: _, _, _, _, _, _, hl, _ => by simp at hl
  | _ :: _, [], _, _, _, _, _, hl, _ => by simp at hl
  | (i, d) :: ps, (j, v) :: qs, vs, ds, cs, h, hf, hl, hp => by
    have h0 := hp 0 (i, d) (j, v) rfl rfl
    obtain ⟨rfl, hv⟩ := h0
    simp only [fillD] at hf
    cases hpl : place i with
    | none => simp [hpl] at hf
    | some q =>
      obtain ⟨off, size⟩ := q
      simp only [hpl] at hf
      split at hf
      · rename_i hc
        simp only [Bool.and_eq_true, decide_eq_true_eq] at hc
        obtain ⟨⟨c1, c2⟩, c3⟩ := hc
        obtain ⟨k1, k2⟩ := cellsD_rd hv c3
        have hsz := h.1
        have hstep := CR.fill (es := []) (off := off) (d := d) (v := v) h hv c3 (by omega)
        obtain ⟨cells, e1, e2⟩ := fill_sim ps qs _ _ cs hstep hf (by simpa using hl) (fun k p q hk hq => hp (k + 1) p q (by simpa using hk) (by simpa using hq))
        refine ⟨cells, ?_, e2⟩
        simp only [Instr.fill, hpl]
        rw [if_neg (by simp [k1, c1]; omega)]
        exact e1
      · cases hf

theorem rdParts_sim (hS : Sim P E A role a w s) {ty : Nat → TypeId} : ∀ (xs : List (Nat × Operand)) (l : List Nat) (K : List (Nat × D) → List Nat → Prop), (rdParts P ty xs).run orc s l K →
    ∃ ds l', K ds l' ∧ ds.length = (xs.map fun (i, x) => (i, a.eval x)).length ∧ ∀ (i : Nat) (p : Nat × D) (q : Nat × Value), ds[i]? = some p → (xs.map fun (i, x) => (i, a.eval x))[i]? = some q → p.1 = q.1 ∧ Rd P role w q.2 p.2
  | [], l, K, h => ⟨[], l, h, rfl, fun i x d hx => by simp at hx⟩
  | (t, x) :: xs, l, K, h => by
    rw [rdParts, run_bind] at h
    obtain ⟨d, l1, h1, h2, _, h3⟩ := rdV_sim hS h
    rw [run_bind] at h1
    obtain ⟨ds, l2, h4, h5, h6⟩ := rdParts_sim hS xs _ _ h1
    refine ⟨(t, d) :: ds, l2, h4, by simp [h5], fun i y e hy he => ?_⟩
    cases i with
    | zero => simp at hy he; subst hy; subst he; exact ⟨rfl, h3⟩
    | succ i => simp at hy he; exact h6 i y e hy (by simpa using he)

theorem zeroCells_sim {t : TypeId} {z : List D} (h : zeroCellsD P t = some z) : ∃ i v, P.info? t = some i ∧ i.zero = some v ∧ CR P role w v.cells (z.map D.strip) := by
  unfold zeroCellsD at h
  cases hi : P.info? t with
  | none => simp [hi] at h
  | some i =>
    cases hz : i.zero with
    | none => simp [hi, hz] at h
    | some v =>
      simp only [hi, hz, Option.bind_some] at h
      obtain ⟨k1, k2⟩ := litCells_rd (role := role) (w := w) _ _ _ h
      refine ⟨i, v, rfl, hz, by simpa using k1, fun j y d hy hd => ?_⟩
      simp only [List.getElem?_map, Option.map_eq_some_iff] at hd
      obtain ⟨d', hd', rfl⟩ := hd
      have := k2 j y d' (by simpa using hy) hd'
      exact ⟨this.2, this.1.strip⟩

theorem cellsOf_info {t : TypeId} {i : TypeInfo} (h : P.info? t = some i) : P.cellsOf t = i.size := by simp [Program.cellsOf, h]

theorem placesOf_built {t : TypeId} {place : Nat → Option (Nat × Nat)} {ty : Nat → TypeId} {it : TypeInfo} {z : Value} {qs : List (Nat × Value)} {cells : Array Value} (h : placesOf P t = some (place, ty)) (hi : P.info? t = some it) (hz : it.zero = some z)
    (hf : Instr.fill place z.cells qs = some cells) : P.built t qs = some cells := by
  unfold placesOf at h
  unfold Program.built
  split at h
  · rename_i n e hu
    split at h
    · rename_i he
      obtain ⟨ie, he⟩ := Option.isSome_iff_exists.1 he
      cases h
      simp only [hi, hu, hz, he]
      simp only [cellsOf_info he] at hf
      exact hf
    · cases h
  · rename_i fs hu
    split at h
    · rename_i he
      cases h
      simp only [hi, hu, hz]
      have hm : fs.toList.mapM (fun f => (P.info? f.type).map fun i => (f.offset, i.size)) = some (fs.toList.map fun f : Field => (f.offset, P.cellsOf f.type)) := by
        generalize fs.toList = L at he
        induction L with
        | nil => rfl
        | cons f L ih =>
          simp only [List.all_cons, Bool.and_eq_true] at he
          obtain ⟨i, hi'⟩ := Option.isSome_iff_exists.1 he.1
          simp [List.mapM_cons, hi', ih he.2, cellsOf_info hi']
      rw [hm]
      simp only
      have e : (fun i : Nat => ((fs.toList.map fun f : Field => (f.offset, P.cellsOf f.type)).toArray[i]? : Option (Nat × Nat))) = fun i : Nat => (fs.toList[i]?).map fun f : Field => (f.offset, P.cellsOf f.type) := by
        funext i; simp
      rw [e]; exact hf
    · cases h
  · cases h

theorem build_sim (hS : Sim P E A role a w s) {o : Oper} {t : TypeId} {parts : Array (Nat × Operand)} (ho : o.op = .build t parts) (h : (buildL P o t parts).run orc s l K) : Oper.wp P o a w (After P E A s K) Q := by
  unfold buildL at h
  split at h
  · rename_i place ty z hpl hz
    rw [run_bind] at h
    obtain ⟨ds, l1, h, hlen, hds⟩ := rdParts_sim hS _ _ _ h
    split at h
    · rename_i cs hcs
      obtain ⟨it, v, hi, hzv, hcr⟩ := zeroCells_sim (role := role) (w := w) hz
      obtain ⟨cells, e1, e2⟩ := fill_sim ds _ _ _ cs hcr hcs hlen hds
      have hb := placesOf_built hpl hi hzv e1
      refine pure_sim hS h (x := .agg cells) ?_ e2.agg rfl
      have hb' : P.built t (parts.map fun (i, x) => (i, a.eval x)).toList = some cells := by rw [← hb]; simp
      simp [execOp, ho, run_build w t _ cells hb']
    · exact h.elim
  · exact h.elim

theorem run_part {t : TypeId} {vs : Array Value} {cs : List D} {off : Nat} {d : D} (h : Rd P role w (.agg vs) (.agg cs)) (hd : partD P t cs off = some d) : ∃ x, (part t vs off).run P w = .ok x w ∧ Rd P role w x d := by
  cases h with
  | agg hl h1 h =>
    unfold partD at hd
    cases hg : aggOf P t with
    | none => simp [hg] at hd
    | some g =>
      obtain ⟨ha, i, hi⟩ := run_isAgg' (w := w) hg
      cases g with
      | false =>
        simp only [hg] at hd
        have hlt := (List.getElem?_eq_some_iff.1 hd).1
        have hlt' : off < vs.size := by omega
        refine ⟨vs[off], ?_, h off _ d (by simp [hlt']) hd⟩
        simp [part, ha, hlt']
      | true =>
        simp only [hg] at hd
        split at hd
        · rename_i hle
          cases hd
          refine ⟨.agg (vs.extract off (off + P.cellsOf t)), ?_, .agg (by simp; omega) (fun j x hx => ?_) (fun j x d hx hd => ?_)⟩
          · simp [part, ha, run_sizeOf' hi]
          · rw [Array.getElem?_extract] at hx
            split at hx
            · exact h1 _ x hx
            · cases hx
          · rw [Array.getElem?_extract] at hx
            split at hx
            · rw [List.getElem?_take] at hd
              split at hd
              · rw [List.getElem?_drop] at hd
                exact h _ x d hx hd
              · cases hd
            · cases hx
        · cases hd

theorem field_sim (hS : Sim P E A role a w s) {o : Oper} {t : TypeId} {x : Operand} {i : Nat} (ho : o.op = .field t x i) (h : (fieldL P o t x i).run orc s l K) : Oper.wp P o a w (After P E A s K) Q := by
  unfold fieldL at h
  rw [run_bind] at h
  obtain ⟨d, l1, h, h2, h3, h4⟩ := rdV_sim hS h
  split at h
  · rename_i cs f hf
    split at h
    · rename_i e he
      obtain ⟨fs, hu, hfi⟩ := wf_fieldsOf hf
      generalize hx : a.eval x = v at h4
      have h4' := h4
      cases h4 with
      | agg hl h1 hr =>
        rename_i vs
        obtain ⟨y, hy1, hy2⟩ := run_part h4' he
        refine pure_sim hS h (x := y) ?_ hy2.strip (strip_strip _)
        simp [execOp, ho, hx, Instr.field, run_underlying hu, hfi, asAgg, hy1]
    · exact h.elim
  · exact h.elim

theorem extract_sim (hS : Sim P E A role a w s) {o : Oper} {x : Operand} {i : Nat} (ho : o.op = .extract x i) (h : (extractL P o x i).run orc s l K) : Oper.wp P o a w (After P E A s K) Q := by
  unfold extractL at h
  rw [run_bind] at h
  obtain ⟨d, l1, h, h2, h3, h4⟩ := rdV_sim hS h
  split at h
  · rename_i ds
    split at h
    · rename_i e he
      generalize hx : a.eval x = v at h4
      cases h4 with
      | tup hl hr =>
        rename_i vs
        have hlt := (List.getElem?_eq_some_iff.1 he).1
        have hlt' : i < vs.size := by omega
        refine pure_sim hS h (x := vs[i]) ?_ (hr i vs[i] e (by simp [hlt']) he).strip (strip_strip _)
        simp [execOp, ho, hx, Instr.extract, hlt']
    · exact h.elim
  · exact h.elim

theorem iface_sim (hS : Sim P E A role a w s) {o : Oper} {t : TypeId} {x : Operand} (ho : o.op = .makeInterface t x) (h : (ifaceL P o t x).run orc s l K) : Oper.wp P o a w (After P E A s K) Q := by
  obtain ⟨hc, h⟩ := h
  rw [run_bind] at h
  obtain ⟨d, l1, h, h2, h3, h4⟩ := rdV_sim hS h
  refine pure_sim hS h (x := .iface t (a.eval x)) ?_ (.iface h4) rfl
  simp [execOp, ho, run_makeInterface w t _ hc]

theorem Rd.bool {x : Value} {b : Bool} (h : Rd P role w x (.v (.bool b))) : x = .bool b := by cases h; rfl
theorem Rd.int {x : Value} {k : IntKind} {n : Int} (h : Rd P role w x (.v (.int k n))) : x = .int k n := by cases h; rfl
theorem Rd.inKind {x : Value} {k : IntKind} {n : Int} (h : Rd P role w x (.v (.int k n))) : inKind k n = true := by cases h; assumption
theorem Rd.string {x : Value} {b : ByteArray} (h : Rd P role w x (.v (.string b))) : x = .string b := by cases h; rfl

theorem pick_sim (hS : Sim P E A role a w s) {o : Oper} {c x y : Operand} (ho : o.op = .pick c x y) (h : (pickL P o c x y).run orc s l K) : Oper.wp P o a w (After P E A s K) Q := by
  unfold pickL at h
  rw [run_bind] at h
  obtain ⟨d, l1, h, h2, h3, h4⟩ := rdV_sim hS h
  split at h
  · rename_i b
    rw [run_bind] at h
    obtain ⟨dx, l2, h, hx2, hx3⟩ := rdO_sim hS h
    rw [run_bind] at h
    obtain ⟨dy, l3, h, hy2, hy3⟩ := rdO_sim hS h
    have hc := h4.bool
    have hr : (execOp a.eval o).run P w = .ok (.value (if b then a.eval x else a.eval y)) w := by simp [execOp, ho, hc, asBool]
    split at h
    · rename_i u v
      refine pure_sim hS h hr ?_ rfl
      have e1 := (hx3 rfl).bool
      have e2 := (hy3 rfl).bool
      rw [e1, e2]
      cases b <;> exact .v rfl
    · obtain ⟨hv, h⟩ := h
      refine pure_sim hS h hr ?_ ?_
      · cases b
        · exact hy3 hv
        · exact hx3 hv
      · cases b
        · exact hy2
        · exact hx2
  · exact h.elim

theorem unOp_sim (hS : Sim P E A role a w s) {o : Oper} {op : UnOp} {t : TypeId} {x : Operand} (ho : o.op = .unOp op t x) (h : (unOpL P o op t x).run orc s l K) : Oper.wp P o a w (After P E A s K) Q := by
  unfold unOpL at h
  rw [run_bind] at h
  obtain ⟨d, l1, h, h2, h3, h4⟩ := rdV_sim hS h
  split at h
  · refine pure_sim hS h (x := _) ?_ (.v rfl) rfl
    simp [execOp, ho, h4.bool, Op.unary]
  · refine pure_sim hS h (x := _) ?_ (.v (inKind_wrap _ _)) rfl
    simp [execOp, ho, h4.int, Op.unary, Op.intArith]
  · refine pure_sim hS h (x := _) ?_ (.v (inKind_wrap _ _)) rfl
    simp [execOp, ho, h4.int, Op.unary, Op.intBits]
  · exact h.elim
end
end Go.Proofs.Ytnjhmlnmdnocmaa
