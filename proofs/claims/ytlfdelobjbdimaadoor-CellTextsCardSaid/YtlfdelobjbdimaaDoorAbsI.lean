/-
  Values made of parts, parts of values; picks, signs, literals of slices. No program in sight. Arithmetic, comparisons, conversions of integers; equality. No program in sight. Elements, slices, texts; calls of named functions; append. No program in sight. Elements, slices, texts; calls of named functions: each operation's step. No program in sight. Slices: cut, made of parts, appended to: each operation's step. No program in sight. append onto a row of ours. No program in sight. min; a slice of bytes to its own type. No program in sight.
-/
import Derived.Test.YtlfdelobjbdimaaDoorAbsA
import Derived.Great.BuildSlice
import Derived.Conc.MuLone
import Derived.Lib.ConvBytes
import Derived.Laws.BytesArg
set_option linter.unusedSimpArgs false
set_option linter.unusedVariables false
namespace Go.Proofs.YtlfdelobjbdimaaDoor
set_option linter.unusedSimpArgs false
set_option linter.unusedVariables false
open Go.RowKit
open Look (ret rd chk)

section
variable (P : Program)
def fillD (place : Nat → Option (Nat × Nat)) (cells : List D) : List (Nat × D) → Option (List D)
  | [] => some cells
  | (i, d) :: rest => match place i with
    | none => none
    | some (off, size) => if decide ((cellsD d).length = size) && decide (off + size ≤ cells.length) && (cellsD d).all D.isCell then fillD place (setCells cells off (cellsD d)) rest else none

/-- The places and types of a struct's or an array's parts. -/
def placesOf (t : TypeId) : Option ((Nat → Option (Nat × Nat)) × (Nat → TypeId)) := match P.underlying t with
  | some (.array _ e) => if (P.info? e).isSome then some ((fun i => some (i * P.cellsOf e, P.cellsOf e)), fun _ => e) else none
  | some (.struct fs) => if fs.toList.all fun f => (P.info? f.type).isSome then some ((fun i => (fs.toList[i]?).map fun f => (f.offset, P.cellsOf f.type)), fun i => ((fs.toList[i]?).map (·.type)).getD 0) else none
  | _ => none

def rdParts (ty : Nat → TypeId) : List (Nat × Operand) → Look (List (Nat × D))
  | [] => .ret []
  | (i, x) :: xs => (rdV P (ty i) x).bind fun d => (rdParts ty xs).bind fun ds => .ret ((i, d) :: ds)

def buildL (o : Oper) (t : TypeId) (parts : Array (Nat × Operand)) : Look (List (Nat × D)) := match placesOf P t, zeroCellsD P t with
  | some (place, ty), some z => (rdParts P ty parts.toList).bind fun ds => match fillD place (z.map D.strip) ds with
    | some cs => putW o (.agg cs) []
    | none => .fail
  | _, _ => .fail

/-- A list cut into pieces of one length. -/
def chunks (n : Nat) : Nat → List D → List (List D)
  | 0, _ => []
  | k + 1, l => l.take n :: chunks n k (l.drop n)

def buildSliceL (o : Oper) (t : TypeId) (len : Nat) (parts : Array (Nat × Operand)) : Look (List (Nat × D)) := match P.underlying t with
  | some (.slice e) => match zeroCellsD P e with
    | some z => .chk ((P.info? e).isSome && decide (z.length = P.cellsOf e) && decide (0 < P.cellsOf e) && decide (len * P.cellsOf e ≤ 2 ^ 24))
      ((rdParts P (fun _ => e) parts.toList).bind fun ds => match fillD (fun i => some (i * P.cellsOf e, P.cellsOf e)) ((List.replicate len (z.map D.strip)).flatten) ds with
        | some cs => match o.dst with
          | none => .fail
          | some t => .rd t fun old => .chk (!old.isObj) (.ret [(t, .list true e (chunks (P.cellsOf e) len cs))])
        | none => .fail)
    | none => .fail
  | _ => .fail

def fieldL (o : Oper) (t : TypeId) (x : Operand) (i : Nat) : Look (List (Nat × D)) :=
  (rdV P t x).bind fun d => match d, (fieldsOf P t)[i]? with
    | .agg cs, some f => match partD P f.type cs f.offset with
      | some e => putW o e.strip []
      | none => .fail
    | _, _ => .fail
def extractL (o : Oper) (x : Operand) (i : Nat) : Look (List (Nat × D)) :=
  (rdV P 0 x).bind fun d => match d with
    | .tup ds => match ds[i]? with
      | some e => putW o e.strip []
      | none => .fail
    | _ => .fail
def ifaceL (o : Oper) (t : TypeId) (x : Operand) : Look (List (Nat × D)) := .chk (P.concrete t) ((rdV P t x).bind fun d => putW o (.iface t d) [])
def pickL (o : Oper) (c x y : Operand) : Look (List (Nat × D)) :=
  (rdV P o.type c).bind fun dc => match dc with
    | .v (.bool b) => (rdO P o.type x).bind fun dx => (rdO P o.type y).bind fun dy => match dx, dy with
      | .v (.bool u), .v (.bool v) => putW o (.v (.bool (bif b then u else v))) []
      | dx, dy => .chk ((bif b then dx else dy).isVal) (putW o (bif b then dx else dy) [])
    | _ => .fail
def unOpL (o : Oper) (op : UnOp) (t : TypeId) (x : Operand) : Look (List (Nat × D)) :=
  (rdV P t x).bind fun d => match op, d with
    | .not, .v (.bool b) => putW o (.v (.bool (!b))) []
    | .neg, .v (.int k n) => putW o (.v (.int k (k.wrap (0 - n)))) []
    | .xor, .v (.int k n) => putW o (.v (.int k (k.wrap (((BitVec.ofInt k.bits (if k.signed then -1 else k.max)) ^^^ (BitVec.ofInt k.bits n)).toNat : Int)))) []
    | _, _ => .fail
end

section
variable {P : Program} {orc : Orc} {E : Env} {A : List Nat} {role : Nat → Role} {a : Act} {w : World} {s : List D} {l : List Nat}
variable {K : List (Nat × D) → List Nat → Prop} {Q : Exit → Act → World → Prop}

/-- Cells against what is known of them. -/
def CR (P : Program) (role : Nat → Role) (w : World) (vs : Array Value) (ds : List D) : Prop :=
  vs.size = ds.length ∧ ∀ (i : Nat) (y : Value) (d : D), vs[i]? = some y → ds[i]? = some d → y.oneCell' = true ∧ Rd P role w y d
theorem CR.agg {vs : Array Value} {ds : List D} (h : CR P role w vs ds) : Rd P role w (.agg vs) (.agg ds) :=
  .agg h.1 (fun i x hx => by
    have hi := (Array.getElem?_eq_some_iff.1 hx).1
    have h1 := h.1
    exact (h.2 i x ds[i] hx (by simp [show i < ds.length by omega])).1) fun i x d hx hd => (h.2 i x d hx hd).2

theorem fold_get (off : Nat) : ∀ (vs : List Value) (j : Nat) (cs : Array Value) (i : Nat), off + j + vs.length ≤ cs.size →
    ((vs.zipIdx j).foldl (fun cs (c, j) => cs.setIfInBounds (off + j) c) cs)[i]? = if off + j ≤ i ∧ i < off + j + vs.length then vs[i - (off + j)]? else cs[i]?
  | [], j, cs, i, _ => by simp; intro h1 h2; omega
  | v :: vs, j, cs, i, h => by
    simp only [List.length_cons] at h
    rw [List.zipIdx_cons, List.foldl_cons, fold_get off vs (j + 1) _ i (by simp; omega)]
    simp only [List.length_cons]
    by_cases h1 : i = off + j
    · subst h1
      rw [if_neg (by omega), if_pos (by omega)]
      simp [show off + j < cs.size by omega]
    · by_cases h2 : off + (j + 1) ≤ i ∧ i < off + (j + 1) + vs.length
      · rw [if_pos h2, if_pos (by omega), show i - (off + j) = (i - (off + (j + 1))) + 1 by omega, List.getElem?_cons_succ]
      · rw [if_neg h2, if_neg (by omega), Array.getElem?_setIfInBounds_ne (by omega)]
theorem fold_size (off : Nat) : ∀ (vs : List Value) (j : Nat) (cs : Array Value), ((vs.zipIdx j).foldl (fun cs (c, j) => cs.setIfInBounds (off + j) c) cs).size = cs.size
  | [], _, _ => rfl
  | v :: vs, j, cs => by rw [List.zipIdx_cons, List.foldl_cons, fold_size off vs (j + 1)]; simp

theorem CR.fill {vs : Array Value} {ds es : List D} {v : Value} {d : D} {off : Nat} (h : CR P role w vs ds) (hd : Rd P role w v d) (hc : (cellsD d).all D.isCell = true) (hle : off + (cellsD d).length ≤ ds.length) :
    CR P role w (v.cells.zipIdx.foldl (fun cs (c, j) => cs.setIfInBounds (off + j) c) vs) (setCells ds off (cellsD d)) := by
  obtain ⟨k1, k2⟩ := cellsD_rd hd hc
  have e : v.cells.zipIdx.foldl (fun cs (c, j) => cs.setIfInBounds (off + j) c) vs = (v.cells.toList.zipIdx 0).foldl (fun cs (c, j) => cs.setIfInBounds (off + j) c) vs := by
    rw [← Array.foldl_toList]; simp
  rw [e]
  have hsz := h.1
  refine ⟨?_, fun i y e hy he => ?_⟩
  · rw [fold_size]
    simp only [setCells, List.length_append, List.length_take, List.length_drop]; omega
  · rw [fold_get off v.cells.toList 0 vs i (by simp [k1]; omega)] at hy
    rw [setCells_get hle] at he
    simp only [Nat.add_zero, Array.length_toList, k1] at hy
    by_cases h1 : i < off
    · rw [if_pos h1] at he; rw [if_neg (by omega)] at hy; exact h.2 i y e hy he
    · rw [if_neg h1] at he
      by_cases h2 : i < off + (cellsD d).length
      · rw [if_pos h2] at he; rw [if_pos (by omega)] at hy
        have := k2 (i - off) y e (by simpa using hy) he
        exact ⟨this.1, this.2.1⟩
      · rw [if_neg h2] at he; rw [if_neg (by omega)] at hy; exact h.2 i y e hy he

theorem fill_sim {place : Nat → Option (Nat × Nat)} : ∀ (ps : List (Nat × D)) (qs : List (Nat × Value)) (vs : Array Value) (ds cs : List D), CR P role w vs ds → fillD place ds ps = some cs → ps.length = qs.length →
    (∀ (i : Nat) (p : Nat × D) (q : Nat × Value), ps[i]? = some p → qs[i]? = some q → p.1 = q.1 ∧ Rd P role w q.2 p.2) → ∃ cells, Instr.fill place vs qs = some cells ∧ CR P role w cells cs
  | [], [], vs, ds, cs, h, hf, _, _ => by simp only [fillD] at hf; cases hf; exact ⟨vs, rfl, h⟩
  | [], _ :: _, _, _, _, _, _, hl, _ => by simp at hl
  | _ :: _, [], _, _, _, _, _, hl, _ => by simp at hl
  | (i, d) :: ps, (j, v) :: qs, vs, ds, cs, h, hf, hl, hp => by
    have h0 := hp 0 (i, d) (j, v) rfl rfl
    obtain ⟨rfl, hv⟩ := h0
    simp only [fillD] at hf
    cases hpl : place i with
    | none => simp [hpl] at hf
    | some q =>
      obtain ⟨off, size⟩ := q
      simp only [hpl] at hf
      split at hf
      · rename_i hc
        simp only [Bool.and_eq_true, decide_eq_true_eq] at hc
        obtain ⟨⟨c1, c2⟩, c3⟩ := hc
        obtain ⟨k1, k2⟩ := cellsD_rd hv c3
        have hsz := h.1
        have hstep := CR.fill (es := []) (off := off) (d := d) (v := v) h hv c3 (by omega)
        obtain ⟨cells, e1, e2⟩ := fill_sim ps qs _ _ cs hstep hf (by simpa using hl) (fun k p q hk hq => hp (k + 1) p q (by simpa using hk) (by simpa using hq))
        refine ⟨cells, ?_, e2⟩
        simp only [Instr.fill, hpl]
        rw [if_neg (by simp [k1, c1]; omega)]
        exact e1
      · cases hf

theorem rdParts_sim (hS : Sim P E A role a w s) {ty : Nat → TypeId} : ∀ (xs : List (Nat × Operand)) (l : List Nat) (K : List (Nat × D) → List Nat → Prop), (rdParts P ty xs).run orc s l K →
    ∃ ds l', K ds l' ∧ ds.length = (xs.map fun (i, x) => (i, a.eval x)).length ∧ ∀ (i : Nat) (p : Nat × D) (q : Nat × Value), ds[i]? = some p → (xs.map fun (i, x) => (i, a.eval x))[i]? = some q → p.1 = q.1 ∧ Rd P role w q.2 p.2
  | [], l, K, h => ⟨[], l, h, rfl, fun i x d hx => by simp at hx⟩
  | (t, x) :: xs, l, K, h => by
    rw [rdParts, run_bind] at h
    obtain ⟨d, l1, h1, h2, _, h3⟩ := rdV_sim hS h
    rw [run_bind] at h1
    obtain ⟨ds, l2, h4, h5, h6⟩ := rdParts_sim hS xs _ _ h1
    refine ⟨(t, d) :: ds, l2, h4, by simp [h5], fun i y e hy he => ?_⟩
    cases i with
    | zero => simp at hy he; subst hy; subst he; exact ⟨rfl, h3⟩
    | succ i => simp at hy he; exact h6 i y e hy (by simpa using he)

theorem zeroCells_sim {t : TypeId} {z : List D} (h : zeroCellsD P t = some z) : ∃ i v, P.info? t = some i ∧ i.zero = some v ∧ CR P role w v.cells (z.map D.strip) := by
  unfold zeroCellsD at h
  cases hi : P.info? t with
  | none => simp [hi] at h
  | some i =>
    cases hz : i.zero with
    | none => simp [hi, hz] at h
    | some v =>
      simp only [hi, hz, Option.bind_some] at h
      obtain ⟨k1, k2⟩ := litCells_rd (role := role) (w := w) _ _ _ h
      refine ⟨i, v, rfl, hz, by simpa using k1, fun j y d hy hd => ?_⟩
      simp only [List.getElem?_map, Option.map_eq_some_iff] at hd
      obtain ⟨d', hd', rfl⟩ := hd
      have := k2 j y d' (by simpa using hy) hd'
      exact ⟨this.2, this.1.strip⟩

theorem cellsOf_info {t : TypeId} {i : TypeInfo} (h : P.info? t = some i) : P.cellsOf t = i.size := by simp [Program.cellsOf, h]

theorem placesOf_built {t : TypeId} {place : Nat → Option (Nat × Nat)} {ty : Nat → TypeId} {it : TypeInfo} {z : Value} {qs : List (Nat × Value)} {cells : Array Value} (h : placesOf P t = some (place, ty)) (hi : P.info? t = some it) (hz : it.zero = some z)
    (hf : Instr.fill place z.cells qs = some cells) : P.built t qs = some cells := by
  unfold placesOf at h
  unfold Program.built
  split at h
  · rename_i n e hu
    split at h
    · rename_i he
      obtain ⟨ie, he⟩ := Option.isSome_iff_exists.1 he
      cases h
      simp only [hi, hu, hz, he]
      simp only [cellsOf_info he] at hf
      exact hf
    · cases h
  · rename_i fs hu
    split at h
    · rename_i he
      cases h
      simp only [hi, hu, hz]
      have hm : fs.toList.mapM (fun f => (P.info? f.type).map fun i => (f.offset, i.size)) = some (fs.toList.map fun f : Field => (f.offset, P.cellsOf f.type)) := by
        generalize fs.toList = L at he
        induction L with
        | nil => rfl
        | cons f L ih =>
          simp only [List.all_cons, Bool.and_eq_true] at he
          obtain ⟨i, hi'⟩ := Option.isSome_iff_exists.1 he.1
          simp [List.mapM_cons, hi', ih he.2, cellsOf_info hi']
      rw [hm]
      simp only
      have e : (fun i : Nat => ((fs.toList.map fun f : Field => (f.offset, P.cellsOf f.type)).toArray[i]? : Option (Nat × Nat))) = fun i : Nat => (fs.toList[i]?).map fun f : Field => (f.offset, P.cellsOf f.type) := by
        funext i; simp
      rw [e]; exact hf
    · cases h
  · cases h

theorem build_sim (hS : Sim P E A role a w s) {o : Oper} {t : TypeId} {parts : Array (Nat × Operand)} (ho : o.op = .build t parts) (h : (buildL P o t parts).run orc s l K) : Oper.wp P o a w (After P E A s K) Q := by
  unfold buildL at h
  split at h
  · rename_i place ty z hpl hz
    rw [run_bind] at h
    obtain ⟨ds, l1, h, hlen, hds⟩ := rdParts_sim hS _ _ _ h
    split at h
    · rename_i cs hcs
      obtain ⟨it, v, hi, hzv, hcr⟩ := zeroCells_sim (role := role) (w := w) hz
      obtain ⟨cells, e1, e2⟩ := fill_sim ds _ _ _ cs hcr hcs hlen hds
      have hb := placesOf_built hpl hi hzv e1
      refine pure_sim hS h (x := .agg cells) ?_ e2.agg rfl
      have hb' : P.built t (parts.map fun (i, x) => (i, a.eval x)).toList = some cells := by rw [← hb]; simp
      simp [execOp, ho, run_build w t _ cells hb']
    · exact h.elim
  · exact h.elim

theorem run_part {t : TypeId} {vs : Array Value} {cs : List D} {off : Nat} {d : D} (h : Rd P role w (.agg vs) (.agg cs)) (hd : partD P t cs off = some d) : ∃ x, (part t vs off).run P w = .ok x w ∧ Rd P role w x d := by
  cases h with
  | agg hl h1 h =>
    unfold partD at hd
    cases hg : aggOf P t with
    | none => simp [hg] at hd
    | some g =>
      obtain ⟨ha, i, hi⟩ := run_isAgg' (w := w) hg
      cases g with
      | false =>
        simp only [hg] at hd
        have hlt := (List.getElem?_eq_some_iff.1 hd).1
        have hlt' : off < vs.size := by omega
        refine ⟨vs[off], ?_, h off _ d (by simp [hlt']) hd⟩
        simp [part, ha, hlt']
      | true =>
        simp only [hg] at hd
        split at hd
        · rename_i hle
          cases hd
          refine ⟨.agg (vs.extract off (off + P.cellsOf t)), ?_, .agg (by simp; omega) (fun j x hx => ?_) (fun j x d hx hd => ?_)⟩
          · simp [part, ha, run_sizeOf' hi]
          · rw [Array.getElem?_extract] at hx
            split at hx
            · exact h1 _ x hx
            · cases hx
          · rw [Array.getElem?_extract] at hx
            split at hx
            · rw [List.getElem?_take] at hd
              split at hd
              · rw [List.getElem?_drop] at hd
                exact h _ x d hx hd
              · cases hd
            · cases hx
        · cases hd

theorem field_sim (hS : Sim P E A role a w s) {o : Oper} {t : TypeId} {x : Operand} {i : Nat} (ho : o.op = .field t x i) (h : (fieldL P o t x i).run orc s l K) : Oper.wp P o a w (After P E A s K) Q := by
  unfold fieldL at h
  rw [run_bind] at h
  obtain ⟨d, l1, h, h2, h3, h4⟩ := rdV_sim hS h
  split at h
  · rename_i cs f hf
    split at h
    · rename_i e he
      obtain ⟨fs, hu, hfi⟩ := wf_fieldsOf hf
      generalize hx : a.eval x = v at h4
      have h4' := h4
      cases h4 with
      | agg hl h1 hr =>
        rename_i vs
        obtain ⟨y, hy1, hy2⟩ := run_part h4' he
        refine pure_sim hS h (x := y) ?_ hy2.strip (strip_strip _)
        simp [execOp, ho, hx, Instr.field, run_underlying hu, hfi, asAgg, hy1]
    · exact h.elim
  · exact h.elim

theorem extract_sim (hS : Sim P E A role a w s) {o : Oper} {x : Operand} {i : Nat} (ho : o.op = .extract x i) (h : (extractL P o x i).run orc s l K) : Oper.wp P o a w (After P E A s K) Q := by
  unfold extractL at h
  rw [run_bind] at h
  obtain ⟨d, l1, h, h2, h3, h4⟩ := rdV_sim hS h
  split at h
  · rename_i ds
    split at h
    · rename_i e he
      generalize hx : a.eval x = v at h4
      cases h4 with
      | tup hl hr =>
        rename_i vs
        have hlt := (List.getElem?_eq_some_iff.1 he).1
        have hlt' : i < vs.size := by omega
        refine pure_sim hS h (x := vs[i]) ?_ (hr i vs[i] e (by simp [hlt']) he).strip (strip_strip _)
        simp [execOp, ho, hx, Instr.extract, hlt']
    · exact h.elim
  · exact h.elim

theorem iface_sim (hS : Sim P E A role a w s) {o : Oper} {t : TypeId} {x : Operand} (ho : o.op = .makeInterface t x) (h : (ifaceL P o t x).run orc s l K) : Oper.wp P o a w (After P E A s K) Q := by
  obtain ⟨hc, h⟩ := h
  rw [run_bind] at h
  obtain ⟨d, l1, h, h2, h3, h4⟩ := rdV_sim hS h
  refine pure_sim hS h (x := .iface t (a.eval x)) ?_ (.iface h4) rfl
  simp [execOp, ho, run_makeInterface w t _ hc]

theorem Rd.bool {x : Value} {b : Bool} (h : Rd P role w x (.v (.bool b))) : x = .bool b := by cases h; rfl
theorem Rd.int {x : Value} {k : IntKind} {n : Int} (h : Rd P role w x (.v (.int k n))) : x = .int k n := by cases h; rfl
theorem Rd.inKind {x : Value} {k : IntKind} {n : Int} (h : Rd P role w x (.v (.int k n))) : inKind k n = true := by cases h; assumption
theorem Rd.string {x : Value} {b : ByteArray} (h : Rd P role w x (.v (.string b))) : x = .string b := by cases h; rfl

theorem pick_sim (hS : Sim P E A role a w s) {o : Oper} {c x y : Operand} (ho : o.op = .pick c x y) (h : (pickL P o c x y).run orc s l K) : Oper.wp P o a w (After P E A s K) Q := by
  unfold pickL at h
  rw [run_bind] at h
  obtain ⟨d, l1, h, h2, h3, h4⟩ := rdV_sim hS h
  split at h
  · rename_i b
    rw [run_bind] at h
    obtain ⟨dx, l2, h, hx2, hx3⟩ := rdO_sim hS h
    rw [run_bind] at h
    obtain ⟨dy, l3, h, hy2, hy3⟩ := rdO_sim hS h
    have hc := h4.bool
    have hr : (execOp a.eval o).run P w = .ok (.value (if b then a.eval x else a.eval y)) w := by simp [execOp, ho, hc, asBool]
    split at h
    · rename_i u v
      refine pure_sim hS h hr ?_ rfl
      have e1 := (hx3 rfl).bool
      have e2 := (hy3 rfl).bool
      rw [e1, e2]
      cases b <;> exact .v rfl
    · obtain ⟨hv, h⟩ := h
      refine pure_sim hS h hr ?_ ?_
      · cases b
        · exact hy3 hv
        · exact hx3 hv
      · cases b
        · exact hy2
        · exact hx2
  · exact h.elim

theorem unOp_sim (hS : Sim P E A role a w s) {o : Oper} {op : UnOp} {t : TypeId} {x : Operand} (ho : o.op = .unOp op t x) (h : (unOpL P o op t x).run orc s l K) : Oper.wp P o a w (After P E A s K) Q := by
  unfold unOpL at h
  rw [run_bind] at h
  obtain ⟨d, l1, h, h2, h3, h4⟩ := rdV_sim hS h
  split at h
  · refine pure_sim hS h (x := _) ?_ (.v rfl) rfl
    simp [execOp, ho, h4.bool, Op.unary]
  · refine pure_sim hS h (x := _) ?_ (.v (inKind_wrap _ _)) rfl
    simp [execOp, ho, h4.int, Op.unary, Op.intArith]
  · refine pure_sim hS h (x := _) ?_ (.v (inKind_wrap _ _)) rfl
    simp [execOp, ho, h4.int, Op.unary, Op.intBits]
  · exact h.elim
end
end Go.Proofs.YtlfdelobjbdimaaDoor

namespace Go.Proofs.YtlfdelobjbdimaaDoor
open Go.RowKit
open Look (ret rd chk)

/-- What an operation on two integers asks, and comes to. -/
def intBin (op : BinOp) (k : IntKind) (x : Int) (k' : IntKind) (y : Int) : Option (Bool × D) := match op with
  | .shl => some (decide (0 ≤ y), .v (.int k (k.wrap (x * 2 ^ (min y.toNat k.bits)))))
  | .shr => some (decide (0 ≤ y), .v (.int k (x.fdiv (2 ^ (min y.toNat k.bits)))))
  | op => if k = k' then match op with
    | .add => some (true, .v (.int k (k.wrap (x + y))))
    | .sub => some (true, .v (.int k (k.wrap (x - y))))
    | .mul => some (true, .v (.int k (k.wrap (x * y))))
    | .quo => some (decide (y ≠ 0), .v (.int k (k.wrap (x.tdiv y))))
    | .rem => some (decide (y ≠ 0), .v (.int k (x.tmod y)))
    | .and => some (true, .v (.int k (bits .and k x y)))
    | .or => some (true, .v (.int k (bits .or k x y)))
    | .xor => some (true, .v (.int k (bits .xor k x y)))
    | .andNot => some (true, .v (.int k (bits .andNot k x y)))
    | .eql => some (true, .v (.bool (x == y)))
    | .neq => some (true, .v (.bool (x != y)))
    | .lss => some (true, .v (.bool (decide (x < y))))
    | .leq => some (true, .v (.bool (decide (x ≤ y))))
    | .gtr => some (true, .v (.bool (decide (x > y))))
    | .geq => some (true, .v (.bool (decide (x ≥ y))))
    | _ => none
    else none
/-- The like for two texts. -/
def strEq (x y : ByteArray) : Bool := x.data.toList == y.data.toList
def strLt (x y : ByteArray) : Bool := Op.bytesLess x.data.toList y.data.toList
def strBin (op : BinOp) (x y : ByteArray) : Option (Bool × D) := match op with
  | .add => some (decide (x.size + y.size ≤ 9223372036854775807), .v (.string (x ++ y)))
  | .eql => some (true, .v (.bool (strEq x y)))
  | .neq => some (true, .v (.bool (!strEq x y)))
  | .lss => some (true, .v (.bool (strLt x y)))
  | .leq => some (true, .v (.bool (strLt x y || strEq x y)))
  | .gtr => some (true, .v (.bool (!(strLt x y || strEq x y))))
  | .geq => some (true, .v (.bool (!strLt x y)))
  | _ => none

section
variable (P : Program)
mutual
/-- Whether two values of a type are one. -/
def eqD : Nat → TypeId → D → D → Option Bool
  | 0, _, _, _ => none
  | n + 1, t, x, y => match P.underlying t with
    | some .bool => match x, y with
      | .v (.bool a), .v (.bool b) => some (a == b)
      | _, _ => none
    | some (.int _) => match x, y with
      | .v (.int k a), .v (.int k' b) => if k = k' then some (a == b) else none
      | _, _ => none
    | some .string => match x, y with
      | .v (.string a), .v (.string b) => some (strEq a b)
      | _, _ => none
    | some (.struct fs) => match x, y with
      | .agg xs, .agg ys => if P.stoodInHeld t then none else eqFieldsD n xs ys fs.toList
      | _, _ => none
    | some (.interface _) => match x, y with
      | .v .nilIface, .v .nilIface => some true
      | .v .nilIface, .iface _ _ => some false
      | .iface _ _, .v .nilIface => some false
      | .iface tx a, .iface ty b => if tx = ty then (if ((P.info? tx).map (·.comparable)).getD false then eqD n tx a b else none) else some false
      | _, _ => none
    | some (.pointer _) => match x, y with
      | .v (.pointer none), .v (.pointer none) => some true
      | .v (.pointer none), .box _ _ => some false
      | .box _ _, .v (.pointer none) => some false
      | _, _ => none
    | some (.slice _) => match x, y with
      | _, _ => none
    | _ => none
def eqFieldsD : Nat → List D → List D → List Field → Option Bool
  | _, _, _, [] => some true
  | 0, _, _, _ :: _ => none
  | n + 1, xs, ys, f :: fs => if f.name = "_" then eqFieldsD n xs ys fs else
    match partD P f.type xs f.offset, partD P f.type ys f.offset with
    | some a, some b => match eqD n f.type a b, eqFieldsD n xs ys fs with
      | some r, some q => some (r && q)
      | _, _ => none
    | _, _ => none
end

def isConstB : Operand → Bool
  | .const _ => true
  | _ => false
def isNilB : D → Bool
  | .v .nilIface => true
  | _ => false
def isAggD : D → Bool
  | .agg _ => true
  | _ => false

def binL (o : Oper) (op : BinOp) (t : TypeId) (x y : Operand) (ty : TypeId) : Look (List (Nat × D)) :=
  (rdV P t x).bind fun dx => (rdV P ty y).bind fun dy => match dx, dy with
    | .v (.int k a), .v (.int k' b) => match intBin op k a k' b with
      | some (c, d) => .chk c (putW o d [])
      | none => .fail
    | .v (.string a), .v (.string b) => match strBin op a b with
      | some (c, d) => .chk c (putW o d [])
      | none => .fail
    | dx, dy => .chk ((!isNilB dx || !isNilB dy || isConstB x || isConstB y) && (!isAggD dx || !P.eqGuardType P.depth t)) (match eqD P 40 t dx dy with
      | some b => match op with
        | .eql => putW o (.v (.bool b)) []
        | .neq => putW o (.v (.bool (!b))) []
        | _ => .fail
      | none => .fail)

def convL (o : Oper) (src dst : TypeId) (x : Operand) : Look (List (Nat × D)) := (rdV P src x).bind fun d => match P.underlying src, P.underlying dst, d with
  | some _, some (.int k), .v (.int _ n) => putW o (.v (.int k (k.wrap n))) []
  | some (.int _), some .string, _ => .fail
  | some .string, some .string, .v (.string s) => putW o (.v (.string s)) []
  | _, _, _ => .fail
end

section
variable {P : Program} {orc : Orc} {E : Env} {A : List Nat} {role : Nat → Role} {a : Act} {w : World} {s : List D} {l : List Nat}
variable {K : List (Nat × D) → List Nat → Prop} {Q : Exit → Act → World → Prop}

theorem intBin_run {op : BinOp} {k k' : IntKind} {x y : Int} {c : Bool} {d : D} {t : TypeId} (h : intBin op k x k' y = some (c, d)) (hc : c = true) (hx : inKind k x = true) :
    ∃ v, d = .v v ∧ leafV v = true ∧ (binOp op t (.int k x) (.int k' y)).run P w = .ok v w := by
  subst hc
  cases op <;> simp only [intBin, Option.some.injEq, Prod.mk.injEq] at h
  case shl =>
    obtain ⟨h1, rfl⟩ := h
    have : ¬ y < 0 := by simpa using h1
    exact ⟨_, rfl, inKind_wrap _ _, by simp [binOp, Op.shift, this]⟩
  case shr =>
    obtain ⟨h1, rfl⟩ := h
    have : ¬ y < 0 := by simpa using h1
    exact ⟨_, rfl, inKind_div _ hx, by simp [binOp, Op.shift, this]⟩
  all_goals
    split at h
    · rename_i hk
      subst hk
      simp only [Option.some.injEq, Prod.mk.injEq, reduceCtorEq] at h
      try
        obtain ⟨h1, rfl⟩ := h
        refine ⟨_, rfl, (by first | rfl | exact inKind_wrap _ _ | exact inKind_mod hx), ?_⟩
        first
        | (simp [binOp, Op.intArith]; done)
        | (simp only [binOp, ne_eq, not_true_eq_false, if_false, Op.intBits]; rfl)
        | (simp [binOp, Op.intCmp]; done)
        | (have h2 : ¬ y = 0 := by simpa using h1
           simp [binOp, Op.intDiv, h2]; done)
    · cases h

theorem strBin_run {op : BinOp} {x y : ByteArray} {c : Bool} {d : D} {t : TypeId} (h : strBin op x y = some (c, d)) (hc : c = true) :
    ∃ v, d = .v v ∧ leafV v = true ∧ (binOp op t (.string x) (.string y)).run P w = .ok v w := by
  subst hc
  cases op <;> simp only [strBin, Option.some.injEq, Prod.mk.injEq, reduceCtorEq] at h
  case add =>
    obtain ⟨h1, rfl⟩ := h
    have h2 : ¬ ((x.size + y.size : Nat) : Int) > IntKind.i64.max := by
      simp [IntKind.max, IntKind.signed, IntKind.bits] at h1 ⊢; omega
    refine ⟨_, rfl, rfl, ?_⟩
    simp only [binOp, Op.stringOp]
    rw [if_neg h2]; rfl
  all_goals
    obtain ⟨h1, rfl⟩ := h
    exact ⟨_, rfl, rfl, by simp [binOp, Op.stringOp, strEq, strLt, ByteArray.toList_eq]⟩

theorem fieldsOf_prog {t : TypeId} {fs : Array Field} (h : P.underlying t = some (.struct fs)) : P.fieldsOf t = fs := by simp [Program.fieldsOf, h]

mutual
theorem eqD_run : ∀ (n : Nat) (d : Nat) (t : TypeId) (x y : D) (vx vy : Value) (b : Bool), eqD P n t x y = some b → Rd P role w vx x → Rd P role w vy y → (Op.equalIn (d + n) t vx vy).run P w = .ok b w
  | 0, _, _, _, _, _, _, _, h, _, _ => by simp [eqD] at h
  | n + 1, d, t, x, y, vx, vy, b, h, hx, hy => by
    simp only [eqD] at h
    rw [show d + (n + 1) = (d + n) + 1 by omega]
    split at h
    · rename_i hu
      split at h
      · cases h; cases hx; cases hy; exact run_equalIn_bool w _ t _ _ hu
      · cases h
    · rename_i k hu
      split at h
      · split at h
        · rename_i hk; subst hk; cases h; cases hx; cases hy; exact run_equalIn_int w _ t _ _ _ _ hu
        · cases h
      · cases h
    · rename_i hu
      split at h
      · cases h; cases hx; cases hy
        rw [run_equalIn_string w _ t _ _ hu, ByteArray.toList_eq, ByteArray.toList_eq]; rfl
      · cases h
    · rename_i fs hu
      split at h
      · split at h
        · cases h
        · rename_i xs ys hp
          have hx' := hx
          have hy' := hy
          cases hx; cases hy
          rename_i vs1 _ _ _ vs2 _ _ _
          rw [run_equalIn_struct w _ t _ _ (by rw [fieldsOf_prog hu]; exact hu) (by simpa using hp), fieldsOf_prog hu]
          exact eqFieldsD_run n d fs.toList xs ys _ _ b h hx' hy'
      · cases h
    · rename_i ms hu
      split at h
      · cases h; cases hx; cases hy; simp [Op.equalIn, run_underlying hu]
      · cases h; cases hx; cases hy; simp [Op.equalIn, run_underlying hu]
      · cases h; cases hx; cases hy; simp [Op.equalIn, run_underlying hu]
      · rename_i tx a ty b'
        cases hx with
        | iface hx =>
          cases hy with
          | iface hy =>
            split at h
            · rename_i ht
              subst ht
              split at h
              · rename_i hcmp
                have ih := eqD_run n d tx a b' _ _ b h hx hy
                cases hi : P.info? tx with
                | none => simp [hi] at hcmp
                | some i =>
                  simp [hi] at hcmp
                  simp [Op.equalIn, run_underlying hu, typeInfo, hi, hcmp, ih]
              · cases h
            · rename_i ht
              cases h
              simp [Op.equalIn, run_underlying hu, ht]
      · cases h
    · rename_i e hu
      split at h
      · cases h; cases hx; cases hy; simp [Op.equalIn, run_underlying hu]
      · cases h; cases hx; cases hy; simp [Op.equalIn, run_underlying hu]
      · cases h; cases hx; cases hy; simp [Op.equalIn, run_underlying hu]
      · cases h
    · cases h
    · cases h
theorem eqFieldsD_run : ∀ (n : Nat) (d : Nat) (fs : List Field) (xs ys : List D) (vx vy : Array Value) (b : Bool), eqFieldsD P n xs ys fs = some b → Rd P role w (.agg vx) (.agg xs) → Rd P role w (.agg vy) (.agg ys) → (Op.eqFields (d + n) vx vy fs).run P w = .ok b w
  | n, d, [], xs, ys, vx, vy, b, h, hx, hy => by
    have : b = true := by cases n <;> simp [eqFieldsD] at h <;> exact h
    subst this
    simp [Op.eqFields]
  | 0, _, _ :: _, _, _, _, _, _, h, _, _ => by simp [eqFieldsD] at h
  | n + 1, d, f :: fs, xs, ys, vx, vy, b, h, hx, hy => by
    simp only [eqFieldsD] at h
    simp only [Op.eqFields]
    split at h
    · rename_i hf
      have ih := eqFieldsD_run n (d + 1) fs xs ys vx vy b h hx hy
      rw [if_neg (by simpa using hf)]
      rw [show d + (n + 1) = d + 1 + n by omega]; exact ih
    · rename_i hf
      rw [if_pos hf]
      split at h
      · rename_i pa pb ha hb
        split at h
        · rename_i r q hr hq
          cases h
          obtain ⟨va, ra, rda⟩ := run_part hx ha
          obtain ⟨vb, rb, rdb⟩ := run_part hy hb
          have h1 := eqD_run n (d + 1) f.type pa pb va vb r hr rda rdb
          have h2 := eqFieldsD_run n (d + 1) fs xs ys vx vy q hq hx hy
          rw [show d + 1 + n = d + (n + 1) by omega] at h1 h2
          simp only [Sem.run_bind, ra, rb, h1, Result.andThen_ok]
          cases r
          · simp
          · simp [h2]
        · cases h
      · cases h
end

theorem eqGuard_run {op : BinOp} {t : TypeId} {x y : Operand} {dx dy : D} {vx vy : Value} (hx : Rd P role w vx dx) (hy : Rd P role w vy dy)
    (h : ((!isNilB dx || !isNilB dy || isConstB x || isConstB y) && (!isAggD dx || !P.eqGuardType P.depth t)) = true) : (eqGuard op t x y vx vy).run P w = .ok () w := by
  simp only [Bool.and_eq_true, Bool.or_eq_true, Bool.not_eq_true'] at h
  by_cases hop : (op matches .eql | .neq) = true
  · by_cases h1 : vx = .nilIface ∧ vy = .nilIface
    · obtain ⟨rfl, rfl⟩ := h1
      cases hx; cases hy
      have hc : (isConstB x || isConstB y) = true := by
        rcases h.1 with ((h | h) | h) | h
        · simp [isNilB] at h
        · simp [isNilB] at h
        · simp [h]
        · simp [h]
      cases x <;> cases y <;> simp [isConstB] at hc <;> cases op <;> simp [eqGuard] at hop ⊢
    · by_cases h2 : ∃ cs ds, vx = .agg cs ∧ vy = .agg ds
      · obtain ⟨cs, ds, rfl, rfl⟩ := h2
        have hg : P.eqGuardType P.depth t = false := by
          rcases h.2 with h | h
          · cases hx with
            | agg => simp [isAggD] at h
            | v hv => simp [leafV] at hv
          · exact h
        exact run_eqGuard_agg w op t x y cs ds hg
      · cases op <;> simp [eqGuard] at hop ⊢ <;> (split <;> first | (exact absurd ⟨rfl, rfl⟩ h1) | (exact absurd ⟨_, _, rfl, rfl⟩ h2) | simp)
  · cases op <;> simp [eqGuard] at hop ⊢

theorem bin_sim (hS : Sim P E A role a w s) {o : Oper} {op : BinOp} {t ty : TypeId} {x y : Operand} (ho : o.op = .binOp op t x y ty) (h : (binL P o op t x y ty).run orc s l K) : Oper.wp P o a w (After P E A s K) Q := by
  unfold binL at h
  rw [run_bind] at h
  obtain ⟨dx, l1, h, hx2, hx3, hx4⟩ := rdV_sim hS h
  rw [run_bind] at h
  obtain ⟨dy, l2, h, hy2, hy3, hy4⟩ := rdV_sim hS h
  split at h
  · split at h
    · rename_i c d hb
      obtain ⟨hc, h⟩ := h
      obtain ⟨z, rfl, hz, hr⟩ := intBin_run (P := P) (w := w) (t := t) hb hc hx4.inKind
      refine pure_sim hS h (x := z) ?_ (.v hz) rfl
      have hg : ∀ k u k' v, (eqGuard op t x y (.int k u) (.int k' v)).run P w = .ok () w := by intros; cases op <;> simp [eqGuard]
      simp [execOp, ho, hx4.int, hy4.int, hg, hr]
    · exact h.elim
  · split at h
    · rename_i c d hb
      obtain ⟨hc, h⟩ := h
      obtain ⟨z, rfl, hz, hr⟩ := strBin_run (P := P) (w := w) (t := t) hb hc
      refine pure_sim hS h (x := z) ?_ (.v hz) rfl
      have hg : ∀ u v, (eqGuard op t x y (.string u) (.string v)).run P w = .ok () w := by intros; cases op <;> simp [eqGuard]
      simp [execOp, ho, hx4.string, hy4.string, hg, hr]
    · exact h.elim
  · rename_i n1 n2
    obtain ⟨hc, h⟩ := h
    split at h
    · rename_i b hb
      have hg := eqGuard_run (op := op) hx4 hy4 hc
      have he := eqD_run 40 9960 t dx dy _ _ b hb hx4 hy4
      have key : ∀ q, (op = .eql ∧ q = b ∨ op = .neq ∧ q = !b) → (execOp a.eval o).run P w = .ok (.value (.bool q)) w := by
        intro q hq
        have hbin : (binOp op t (a.eval x) (a.eval y)).run P w = .ok (.bool q) w := by
          generalize a.eval x = vx at *
          generalize a.eval y = vy at *
          have ni : ∀ k u k' v, ¬ (vx = .int k u ∧ vy = .int k' v) := by
            rintro k u k' v ⟨rfl, rfl⟩; cases hx4; cases hy4; exact n1 _ _ _ _ rfl rfl
          have ns : ∀ u v, ¬ (vx = .string u ∧ vy = .string v) := by
            rintro u v ⟨rfl, rfl⟩; cases hx4; cases hy4; exact n2 _ _ rfl rfl
          have nf : ∀ k u k' v, ¬ (vx = .float k u ∧ vy = .float k' v) := by
            rintro k u k' v ⟨rfl, rfl⟩; cases hx4; cases hy4; simp only [eqD] at hb; repeat' split at hb
            all_goals cases hb
          have nc : ∀ k u u' k' v v', ¬ (vx = .complex k u u' ∧ vy = .complex k' v v') := by
            rintro k u u' k' v v' ⟨rfl, rfl⟩; cases hx4; cases hy4; simp only [eqD] at hb; repeat' split at hb
            all_goals cases hb
          rcases hq with ⟨rfl, rfl⟩ | ⟨rfl, rfl⟩
          · unfold binOp
            split <;> first | (simp [Op.equal, Op.maxDepth, he]; done) | (exfalso; first | exact ni _ _ _ _ ⟨rfl, rfl⟩ | exact ns _ _ ⟨rfl, rfl⟩ | exact nf _ _ _ _ ⟨rfl, rfl⟩ | exact nc _ _ _ _ _ _ ⟨rfl, rfl⟩ | (simp_all; done))
          · unfold binOp
            split <;> first | (simp [Op.equal, Op.maxDepth, he]; done) | (exfalso; first | exact ni _ _ _ _ ⟨rfl, rfl⟩ | exact ns _ _ ⟨rfl, rfl⟩ | exact nf _ _ _ _ ⟨rfl, rfl⟩ | exact nc _ _ _ _ _ _ ⟨rfl, rfl⟩ | (simp_all; done))
        simp [execOp, ho, hg, hbin]
      split at h
      · exact pure_sim hS h (key b (.inl ⟨rfl, rfl⟩)) (.v rfl) rfl
      · exact pure_sim hS h (key (!b) (.inr ⟨rfl, rfl⟩)) (.v rfl) rfl
      · exact h.elim
    · exact h.elim

theorem conv_sim (hS : Sim P E A role a w s) {o : Oper} {src dst : TypeId} {x : Operand} (ho : o.op = .convert src dst x) (h : (convL P o src dst x).run orc s l K) : Oper.wp P o a w (After P E A s K) Q := by
  unfold convL at h
  rw [run_bind] at h
  obtain ⟨d, l1, h, h2, h3, h4⟩ := rdV_sim hS h
  split at h
  · rename_i _ k _ n hs hd
    refine pure_sim hS h (x := .int k (k.wrap n)) ?_ (.v (inKind_wrap _ _)) rfl
    simp [execOp, ho, h4.int, convert, run_underlying hs, run_underlying hd, Conv.intToInt]
  · exact h.elim
  · rename_i s' hs hd
    refine pure_sim hS h (x := .string s') ?_ (.v rfl) rfl
    simp [execOp, ho, h4.string, convert, run_underlying hs, run_underlying hd]
  · exact h.elim
end
end Go.Proofs.YtlfdelobjbdimaaDoor

namespace Go.Proofs.YtlfdelobjbdimaaDoor
open Go.RowKit
open Look (ret rd chk)

section
variable (P : Program)
def callL (o : Oper) (f : Nat) (args : Array Operand) (types : Array TypeId) : Look (List (Nat × D)) :=
  (rdAll P (args.toList.zipIdx.map fun (x, i) => (types.getD i 0, x))).bind fun ds => .call f ds fun d => putW o d.strip []

def lenD : D → Option Int
  | .list _ _ es => some es.length
  | .v (.string s) => some s.size
  | _ => none
def lenL (o : Oper) (t : TypeId) (x : Operand) : Look (List (Nat × D)) := (rdO P t x).bind fun d => match P.underlying t, d with
  | some (.slice _), .list _ _ es => putW o (.v (.int .i64 (es.length : Int))) []
  | some .string, .v (.string s) => putW o (.v (.int .i64 (s.size : Int))) []
  | _, _ => .fail

def byteAt (s : ByteArray) (i : Nat) : Int := ((s.data.toList.getD i 0).toNat : Int)
def indexL (o : Oper) (t : TypeId) (x ix : Operand) : Look (List (Nat × D)) := (rdV P t x).bind fun d => (rdV P t ix).bind fun i => match P.underlying t, d, i with
  | some .string, .v (.string s), .v (.int _ n) => .chk (decide (0 ≤ n) && decide (n < (s.size : Int))) (putW o (.v (.int .u8 (byteAt s n.toNat))) [])
  | some (.array len e), .agg cs, .v (.int _ n) => match partD P e cs (n.toNat * P.cellsOf e) with
    | some d => .chk (decide (0 ≤ n) && decide (n < (len : Int)) && (P.info? e).isSome) (putW o d.strip [])
    | none => .fail
  | _, _, _ => .fail

/-- A bound of a slice: a number, or the end. -/
def rdBound (t : TypeId) : Option Operand → Look (Option Int)
  | none => .ret none
  | some x => (rdV P t x).bind fun d => match d with
    | .v (.int _ n) => .ret (some n)
    | _ => .fail
def sliceL (o : Oper) (t : TypeId) (x : Operand) (lo hi mx : Option Operand) : Look (List (Nat × D)) := match mx with
  | some _ => .fail
  | none => (rdV P t x).bind fun d => (rdBound P t lo).bind fun l => (rdBound P t hi).bind fun h => match P.underlying t, d with
    | some .string, .v (.string s) => .chk (decide (0 ≤ l.getD 0) && decide (l.getD 0 ≤ h.getD s.size) && decide (h.getD s.size ≤ (s.size : Int)))
        (putW o (.v (.string (s.extract (l.getD 0).toNat (h.getD s.size).toNat))) [])
    | some (.slice e), .list _ T es => .chk (T == e && (P.info? e).isSome && decide (0 ≤ l.getD 0) && decide (l.getD 0 ≤ h.getD es.length) && decide (h.getD es.length ≤ (es.length : Int)))
        (putW o (.list false T ((es.take (h.getD es.length).toNat).drop (l.getD 0).toNat)) [])
    | _, _ => .fail

/-- append: onto a row of ours. -/
def appendL (o : Oper) (t1 t2 : TypeId) (x y : Operand) : Look (List (Nat × D)) := match P.underlying t1, o.dst with
  | some (.slice e), some t =>
    let go (es : List (List D)) (ws : List (Nat × D)) : Look (List (Nat × D)) := (rdV P t2 y).bind fun d => match d with
      | .list _ T2 es2 => .chk (t1 == t2 && T2 == e && (zeroCellsD P e).isSome && decide (0 < P.cellsOf e) && decide ((P.cellsOf e) = ((zeroCellsD P e).getD []).length)) (.chk (decide ((es.length + es2.length) * (P.bytesOf e + 1) ≤ 70368744177664)) (putW o (.list true e (es ++ es2)) ws))
      | _ => .fail
    match x with
    | .tmp u => .rd u fun d => match d with
      | .list true T es => .chk (T == e && u != t) (go es [(u, .list false T es)])
      | _ => .fail
    | .const (.slice none 0 0) => go [] []
    | _ => .fail
  | _, _ => .fail
end
end Go.Proofs.YtlfdelobjbdimaaDoor

namespace Go.Proofs.YtlfdelobjbdimaaDoor
open Go.RowKit
open Look (ret rd chk)

def mask (role : Nat → Role) : Nat → Role := fun k => match role k with
  | .row lim _ => .row lim none
  | _ => .none
theorem mask_row {role : Nat → Role} {k lim : Nat} {p : Option (Nat × Option Nat)} : mask role k = .row lim p ↔ p = none ∧ ∃ q, role k = .row lim q := by
  unfold mask; cases role k <;> simp [eq_comm, and_comm]
theorem mask_loc {role : Nat → Role} {k t : Nat} : mask role k ≠ .loc t := by unfold mask; cases role k <;> simp
theorem mask_own {role : Nat → Role} {k lim : Nat} {p : Nat × Option Nat} : mask role k ≠ .row lim (some p) := by
  intro h; have := (mask_row.1 h).1; cases this
theorem pub_mask {role : Nat → Role} {b n : Nat} : pubAt (mask role) b n ↔ pubAt role b n := by
  unfold pubAt
  constructor
  · rintro ⟨lim, ow, h, hn⟩; obtain ⟨_, q, hq⟩ := mask_row.1 h; exact ⟨lim, q, hq, hn⟩
  · rintro ⟨lim, ow, h, hn⟩; exact ⟨lim, none, mask_row.2 ⟨rfl, _, h⟩, hn⟩

/-- A call of a named function, with a Go body or without one. -/
def CallsV (P : Program) (f : FuncId) (args : Array Value) (w : World) (R : Ending → World → Prop) : Prop := match (callFunc f args).run P w with
  | .ok (.enter g as) w' => Calls P g as w' R
  | .ok (.value v) w' => R (.returned v) w'
  | _ => False
/-- A function whose arguments read so hands back what reads so, and only makes memory. -/
def PS (P : Program) (f : Nat) (ds : List D) (d : D) : Prop :=
  ∀ (role : Nat → Role) (w : World) (args : Array Value), (∀ k, role k ≠ .none → k < w.heap.size) → (∀ k, (∀ t, role k ≠ .loc t) ∧ ∀ lim p, role k ≠ .row lim (some p)) →
    args.size = ds.length → (∀ (i : Nat) (x : Value) (e : D), args[i]? = some x → ds[i]? = some e → Rd P role w x e) →
    CallsV P f args w fun e w' => ∃ v role', e = .returned v ∧ Exd w w' ∧ (∀ k, k < w.heap.size → role' k = role k) ∧ (∀ k, role' k ≠ .none → k < w'.heap.size) ∧ Rd P role' w' v d

/-- The contracts that a walk may use. -/
def OrcOK (P : Program) (orc : Orc) : Prop := ∀ f ds K, orc f ds K → ∃ d, K d ∧ (∀ K' : D → Prop, K' d → orc f ds K') ∧ PS P f ds d
theorem OrcOK.det {P : Program} {orc : Orc} (h : OrcOK P orc) (f : Nat) (ds : List D) : Det (orc f ds) := fun K hK => by
  obtain ⟨d, h1, h2, _⟩ := h f ds K hK
  exact ⟨d, h1, h2⟩

section
variable {P : Program} {orc : Orc} {E : Env} {A : List Nat} {role : Nat → Role} {a : Act} {w : World} {s : List D} {l : List Nat}
variable {K : List (Nat × D) → List Nat → Prop} {Q : Exit → Act → World → Prop}

theorem call_after (hS : Sim P E A role a w s) {o : Oper} {d : D} {l2 : List Nat} {v : Value} {w' : World} {r' : Nat → Role} (hno : ∀ t, o.dst = some t → (get s t).isObj = false) (hK : K ([] ++ List.map (fun t => (t, d.strip)) o.dst.toList) l2)
    (hx : Exd w w') (hold : ∀ k, k < w.heap.size → r' k = mask role k) (hlow : ∀ k, r' k ≠ .none → k < w'.heap.size) (hrd : Rd P r' w' v d) : After P E A s K (a.put o.dst v) w' := by
  have hne : ∀ k, role k ≠ .none → k < w.heap.size := hS.low
  let r2 : Nat → Role := fun k => if k < w.heap.size then role k else mask r' k
  have r2old : ∀ k, k < w.heap.size → r2 k = role k := fun k hk => if_pos hk
  have r2new : ∀ k, ¬ k < w.heap.size → r2 k = mask r' k := fun k hk => if_neg hk
  have evo1 : Evo r' w' r2 w' := ⟨fun b n hp => by
    by_cases hb : b < w.heap.size
    · obtain ⟨lim, ow, h1, h2⟩ := hp
      rw [hold b hb] at h1
      obtain ⟨_, q, hq⟩ := mask_row.1 h1
      exact ⟨lim, q, (r2old b hb).trans hq, h2⟩
    · obtain ⟨lim, ow, h1, h2⟩ := pub_mask.2 hp
      exact ⟨lim, ow, (r2new b hb).trans h1, h2⟩, fun _ _ _ _ _ => rfl⟩
  have hk : Kept role w r2 w' none := ⟨⟨fun b n hp => by
      obtain ⟨lim, ow, h1, h2⟩ := hp
      exact ⟨lim, ow, (r2old b (hne b (by rw [h1]; simp))).trans h1, h2⟩, fun b n o hp _ => by
      obtain ⟨lim, ow, h1, _⟩ := hp
      exact hx.cell (p := ⟨b, o, none⟩) (hne b (by rw [h1]; simp))⟩,
    fun b t h => (r2old b (hne b (by rw [h]; simp))).trans h, fun b t h _ => hx.block b (hne b (by rw [h]; simp)), fun b lim p h _ => ⟨(r2old b (hne b (by rw [h]; simp))).trans h, hx.block b (hne b (by rw [h]; simp))⟩⟩
  have hS' : Sim P E A r2 a w' s := by
    refine hS.turn (hS.ext.trans hx) (fun k hk => r2old k (Nat.lt_of_lt_of_le hk hS.ext.size)) (fun k hk => ?_) (fun b b' t hb hb' => ?_) fun t => (hS.tm t).keep hk (by simp) (by simp)
    · by_cases hlt : k < w.heap.size
      · exact Nat.lt_of_lt_of_le hlt hx.size
      · rw [r2new k hlt] at hk; exact hlow k fun e => hk (by unfold mask; rw [e])
    · have f : ∀ b, r2 b = .loc t → role b = .loc t := by
        intro b hb
        by_cases hlt : b < w.heap.size
        · rw [r2old b hlt] at hb; exact hb
        · rw [r2new b hlt] at hb; exact absurd hb mask_loc
      exact hS.inj b b' t (f b hb) (f b' hb')
  exact ⟨_, l2, r2, hK, put_sim hS' hno (hrd.evo evo1).strip (strip_strip _)⟩

theorem call_sim (hO : OrcOK P orc) (hS : Sim P E A role a w s) {o : Oper} {f : Nat} {args : Array Operand} {types : Array TypeId} (ho : o.op = .call { callee := .value (.func f), args, argTypes := types })
    (h : (callL P o f args types).run orc s l K) : Oper.wp P o a w (After P E A s K) Q := by
  unfold callL at h
  rw [run_bind] at h
  obtain ⟨ds, l1, h, hlen, hds⟩ := rdAll_sim hS _ _ _ h
  obtain ⟨d, hd, _, hps⟩ := hO f ds _ h
  obtain ⟨l2, hno, hK⟩ := putW_sim hd
  have hrun : (execOp a.eval o).run P w = (callFunc f (args.map a.eval)).run P w := by
    simp [execOp, ho, resolve, Act.eval, Deferred.ofValue, invoke]
  have hargs : ∀ (i : Nat) (x : Value) (e : D), (args.map a.eval)[i]? = some x → ds[i]? = some e → Rd P (mask role) w x e := by
    intro i x e hx he
    simp only [Array.getElem?_map, Option.map_eq_some_iff] at hx
    obtain ⟨y, hy, rfl⟩ := hx
    have h1 : (args.toList.zipIdx.map fun (x, i) => (types.getD i 0, x))[i]? = some (types.getD i 0, y) := by
      simp [List.getElem?_map, List.getElem?_zipIdx, hy]
    exact (hds i _ e h1 he).1.evo ⟨fun b n hp => pub_mask.2 hp, fun _ _ _ _ _ => rfl⟩
  have hcall := hps (mask role) w (args.map a.eval) (fun k hk => hS.low k fun e => hk (by unfold mask; rw [e])) (fun k => ⟨fun t => mask_loc, fun lim p => mask_own⟩) (by rw [hlen]; simp) hargs
  have fin : ∀ e w', (∃ v role', e = Ending.returned v ∧ Exd w w' ∧ (∀ k, k < w.heap.size → role' k = mask role k) ∧ (∀ k, role' k ≠ .none → k < w'.heap.size) ∧ Rd P role' w' v d) → ∃ v, e = .returned v ∧ After P E A s K (a.put o.dst v) w' := by
    rintro e w' ⟨v, r', rfl, hx, hold, hlow, hrd⟩
    refine ⟨v, rfl, ?_⟩
    exact call_after hS hno hK hx hold hlow hrd
  unfold Oper.wp
  rw [hrun]
  unfold CallsV at hcall
  generalize (callFunc f (args.map a.eval)).run P w = r at hcall
  match r, hcall with
  | .ok (.enter g as) w1, hc =>
    refine Calls.mono hc ?_
    intro e w' hR
    obtain ⟨v, rfl, h⟩ := fin e w' hR
    exact h
  | .ok (.value v) w1, hc =>
    obtain ⟨v', e, h⟩ := fin _ _ hc
    cases e
    exact h

theorem len_sim (hS : Sim P E A role a w s) {o : Oper} {x : Operand} {t : TypeId} {types : Array TypeId} (ht : types[0]? = some t) (ho : o.op = .call { callee := .builtin .len, args := #[x], argTypes := types })
    (h : (lenL P o t x).run orc s l K) : Oper.wp P o a w (After P E A s K) Q := by
  unfold lenL at h
  rw [run_bind] at h
  obtain ⟨d, l1, h, h2, h3⟩ := rdO_sim hS h
  split at h
  · rename_i e ow T es hu
    have hr := h3 rfl
    have : ∃ a' n c, a.eval x = .slice a' n c ∧ n = es.length := by
      generalize a.eval x = v at hr
      cases hr with
      | nil => exact ⟨_, _, _, rfl, rfl⟩
      | list f hl => exact ⟨_, _, _, rfl, hl.symm⟩
    obtain ⟨a', n, c, hv, rfl⟩ := this
    refine pure_sim hS h (x := .int .i64 es.length) ?_ (.v rfl) rfl
    simp [execOp, ho, resolve, invoke, builtin, Builtin.len_, ht, run_underlying hu, hv, goInt]
  · rename_i sv hu
    have hv := (h3 rfl).string
    refine pure_sim hS h (x := .int .i64 sv.size) ?_ (.v rfl) rfl
    simp [execOp, ho, resolve, invoke, builtin, Builtin.len_, ht, run_underlying hu, hv, goInt]
  · exact h.elim

theorem index_sim (hS : Sim P E A role a w s) {o : Oper} {t : TypeId} {x ix : Operand} (ho : o.op = .index t x ix) (h : (indexL P o t x ix).run orc s l K) : Oper.wp P o a w (After P E A s K) Q := by
  unfold indexL at h
  rw [run_bind] at h
  obtain ⟨d, l1, g, h2, h3, h4⟩ := rdV_sim hS h
  clear h
  rw [run_bind] at g
  obtain ⟨i, l2, h, i2, i3, i4⟩ := rdV_sim hS g
  clear g
  split at h
  · rename_i sv k n hu
    obtain ⟨hc, h⟩ := h
    simp only [Bool.and_eq_true, decide_eq_true_eq] at hc
    refine pure_sim hS h (x := .int .u8 (byteAt sv n.toNat)) ?_ (.v (by
      show inKind .u8 (byteAt sv n.toNat) = true
      unfold byteAt
      have := UInt8.toNat_lt (sv.data.toList.getD n.toNat 0)
      generalize (sv.data.toList.getD n.toNat 0).toNat = q at this
      have e : (2 : Int) ^ IntKind.u8.bits = 256 := rfl
      unfold inKind
      rw [e]
      have h1 : (0 : Int) ≤ (q : Int) := by omega
      have h2 : (q : Int) < 256 := by omega
      simp [h1, h2])) rfl
    have hlt : n.toNat < sv.size := by omega
    have hg : sv[n.toNat]? = some sv[n.toNat] := by simp [hlt]
    have hb : byteAt sv n.toNat = (sv[n.toNat].toNat : Int) := by
      unfold byteAt
      rw [List.getD_eq_getElem?_getD]
      have : sv.data.toList[n.toNat]? = some sv[n.toNat] := by
        have h' : n.toNat < sv.data.toList.length := by simpa using hlt
        rw [List.getElem?_eq_getElem h']; rfl
      rw [this]; rfl
    rw [hb]
    simp [execOp, ho, h4.string, i4.int, Instr.index, asIntOf, run_underlying hu, hc.1, hg]
  · rename_i len e cs k n hu
    split at h
    · rename_i d' hd'
      obtain ⟨hc, h⟩ := h
      simp only [Bool.and_eq_true, decide_eq_true_eq] at hc
      obtain ⟨inf, hinf⟩ := Option.isSome_iff_exists.1 hc.2
      generalize hx : a.eval x = v at h4
      have h4' := h4
      cases h4 with
      | agg hl h1 hr =>
        obtain ⟨y, hy1, hy2⟩ := run_part h4' hd'
        refine pure_sim hS h (x := y) ?_ hy2.strip (strip_strip _)
        simp [execOp, ho, hx, i4.int, Instr.index, asIntOf, run_underlying hu, hc.1.1, hc.1.2, run_sizeOf' hinf, hy1]
    · exact h.elim
  · exact h.elim

theorem indexAddr_sim (hS : Sim P E A role a w s) {o : Oper} {t : TypeId} {x ix : Operand} (ho : o.op = .indexAddr t x ix) (hA : ∀ t, o.dst = some t → t ∈ A) (h : (indexAddrL P o t x ix).run orc s l K) : Oper.wp P o a w (After P E A s K) Q := by
  cases x with
  | tmp u =>
    simp only [indexAddrL, Look.run] at h
    rw [run_bind] at h
    obtain ⟨i, l2, h, i2, i3, i4⟩ := rdV_sim hS h
    split at h
    · rename_i k n
      split at h
      · rename_i e ow T es hu hg
        obtain ⟨hc, hc2, h⟩ := h
        simp only [Bool.and_eq_true, decide_eq_true_eq, beq_iff_eq] at hc hc2
        obtain ⟨rfl, hi⟩ := hc
        obtain ⟨inf, hinf⟩ := Option.isSome_iff_exists.1 hi
        have hro := RT.ro (hS.tm u) (by rw [hg]; rfl)
        rw [hg] at hro
        have hrd := hro.1
        have hx' : a.eval (.tmp u) = a.tmps.getD u undef := rfl
        generalize a.tmps.getD u undef = v at hrd hx'
        have hlt : n.toNat < es.length := by omega
        have hge : es[n.toNat]? = some (es.getD n.toNat []) := by simp [List.getElem?_eq_getElem hlt, hlt]
        cases hrd with
        | nil => simp at hlt
        | list f hl hcap hp hs h1 hcell hr =>
          rename_i b off len cap
          have hel := hs n.toNat _ hge
          have hseg : (n.toNat + 1) * P.cellsOf T ≤ len * P.cellsOf T := Nat.mul_le_mul_right _ (by omega)
          rw [Nat.add_mul] at hseg
          have key : Rd P role w (.pointer (some ⟨b, off + n.toNat * P.cellsOf T + 0, none⟩)) (.box (es.getD n.toNat []) 0) := by
            refine .box (o := off + n.toNat * P.cellsOf T) (f n.toNat) ?_ (fun k d hk => h1 _ _ k d hge hk) (fun k d hk => hcell _ _ k d hge hk) (fun k d hk => hr _ _ k d hge hk)
            obtain ⟨lim, ow, e1, e2⟩ := hp (by omega)
            exact ⟨lim, ow, e1, by omega⟩
          refine pure_sim hS h ?_ key rfl
          have hn : n < (len : Int) := by omega
          simp [execOp, ho, hx', i4.int, Instr.indexAt, asIntOf, run_underlying hu, hc2.1, hn, run_sizeOf' hinf, Addr.add_lit']
      · rename_i len e d hu
        split at h
        · exact h.elim
        · rename_i d' hd'
          obtain ⟨hi, hc2, h⟩ := h
          simp only [Bool.and_eq_true, decide_eq_true_eq] at hc2
          obtain ⟨inf, hinf⟩ := Option.isSome_iff_exists.1 hi
          obtain ⟨b, off, hx, _, k2, k3, k4⟩ := shift_sim hS hd'
          refine addr_put hS h hA k3 k2 k4 ?_
          have hx' : a.eval (.tmp u) = .pointer (some ⟨b, off, none⟩) := hx
          simp [execOp, ho, hx', i4.int, Instr.indexAt, asIntOf, run_underlying hu, sureAddr_run, hc2.1, hc2.2, run_sizeOf' hinf, Addr.add_lit']
      · exact h.elim
    · exact h.elim
  | _ => exact h.elim
end
end Go.Proofs.YtlfdelobjbdimaaDoor

namespace Go.Proofs.YtlfdelobjbdimaaDoor
open Go.RowKit
open Look (ret rd chk)

section
variable {P : Program} {orc : Orc} {E : Env} {A : List Nat} {role : Nat → Role} {a : Act} {w : World} {s : List D} {l : List Nat}
variable {K : List (Nat × D) → List Nat → Prop} {Q : Exit → Act → World → Prop}

theorem rdBound_sim (hS : Sim P E A role a w s) {t : TypeId} {x : Option Operand} {K : Option Int → List Nat → Prop} (h : (rdBound P t x).run orc s l K) :
    ∃ n l', K n l' ∧ (x = none ∧ n = none ∨ ∃ y k m, x = some y ∧ n = some m ∧ a.eval y = .int k m) := by
  cases x with
  | none => exact ⟨none, l, h, .inl ⟨rfl, rfl⟩⟩
  | some y =>
    simp only [rdBound] at h
    rw [run_bind] at h
    obtain ⟨d, l1, h, h2, h3, h4⟩ := rdV_sim hS h
    split at h
    · exact ⟨_, _, h, .inr ⟨y, _, _, rfl, rfl, h4.int⟩⟩
    · exact h.elim

theorem run_sliceBounds {isSlice : Bool} {len cap : Nat} {lo hi : Option Operand} {l h : Option Int} (hl : lo = none ∧ l = none ∨ ∃ y k m, lo = some y ∧ l = some m ∧ a.eval y = .int k m)
    (hh : hi = none ∧ h = none ∨ ∃ y k m, hi = some y ∧ h = some m ∧ a.eval y = .int k m) (h0 : 0 ≤ l.getD 0) (h1 : l.getD 0 ≤ h.getD len) (h2 : h.getD len ≤ len) (hc : len ≤ cap) :
    (Instr.sliceBounds isSlice len cap (lo.map a.eval) (hi.map a.eval) none).run P w = .ok ((l.getD 0).toNat, (h.getD len).toNat, cap) w := by
  rcases hl with ⟨rfl, rfl⟩ | ⟨y, k, m, rfl, rfl, ey⟩ <;> rcases hh with ⟨rfl, rfl⟩ | ⟨z, k', m', rfl, rfl, ez⟩
  · simp [Instr.sliceBounds]
  · simp at h0 h1 h2
    have : m' ≤ (cap : Int) := by omega
    simp [Instr.sliceBounds, Instr.sliceBound, ez, asIntOf, this, h1]
  · simp at h0 h1 h2
    simp [Instr.sliceBounds, Instr.sliceBound, ey, asIntOf, h0, h1]
  · simp at h0 h1 h2
    have : m' ≤ (cap : Int) := by omega
    have h3 : (m : Int) ≤ (m'.toNat : Int) := by omega
    have h4 : 0 ≤ m' := by omega
    simp [Instr.sliceBounds, Instr.sliceBound, ey, ez, asIntOf, this, h0, h1, h3, h4]
    intro h5; omega

theorem slice_sim (hS : Sim P E A role a w s) {o : Oper} {t : TypeId} {x : Operand} {lo hi mx : Option Operand} (ho : o.op = .slice t x lo hi mx) (h : (sliceL P o t x lo hi mx).run orc s l K) : Oper.wp P o a w (After P E A s K) Q := by
  unfold sliceL at h
  cases mx with
  | some _ => exact h.elim
  | none =>
    simp only at h
    rw [run_bind] at h
    obtain ⟨d, l1, g1, h2, h3, h4⟩ := rdV_sim hS h
    clear h
    rw [run_bind] at g1
    obtain ⟨lv, l2, g2, hlv⟩ := rdBound_sim hS g1
    clear g1
    rw [run_bind] at g2
    obtain ⟨hv, l3, h, hhv⟩ := rdBound_sim hS g2
    clear g2
    split at h
    · rename_i sv hu
      obtain ⟨hc, h⟩ := h
      simp only [Bool.and_eq_true, decide_eq_true_eq] at hc
      have hb := run_sliceBounds (P := P) (w := w) (isSlice := false) hlv hhv hc.1.1 hc.1.2 hc.2 (Nat.le_refl _)
      refine pure_sim hS h (x := .string (sv.extract (lv.getD 0).toNat (hv.getD sv.size).toNat)) ?_ (.v rfl) rfl
      simp [execOp, ho, h4.string, Instr.sliceAt, Instr.slice, run_underlying hu, hb]
    · rename_i e ow T es hu
      obtain ⟨hc, h⟩ := h
      simp only [Bool.and_eq_true, decide_eq_true_eq, beq_iff_eq] at hc
      obtain ⟨⟨⟨⟨rfl, hi'⟩, c1⟩, c2⟩, c3⟩ := hc
      obtain ⟨inf, hinf⟩ := Option.isSome_iff_exists.1 hi'
      have hsz := run_sizeOf' (P := P) (w := w) hinf
      generalize hx : a.eval x = v at h4
      cases h4 with
      | nil =>
        simp only [List.length_nil] at c2 c3 h
        have e1 : lv.getD 0 = 0 := by omega
        have e2 : hv.getD (0 : Nat) = 0 := by omega
        have hb := run_sliceBounds (P := P) (w := w) (isSlice := true) (len := 0) (cap := 0) hlv hhv c1 c2 c3 (Nat.le_refl _)
        rw [e1, e2] at hb
        refine pure_sim hS h (x := .slice none 0 0) ?_ ?_ rfl
        · simp [execOp, ho, hx, Instr.sliceAt, Instr.slice, run_underlying hu, hb, hsz]
        · simp; exact .nil
      | list f hl hcap hp hs h1 hcell hr =>
        rename_i b off len cap
        subst hl
        have hb := run_sliceBounds (P := P) (w := w) (isSlice := true) hlv hhv c1 c2 c3 hcap
        generalize hlo : (lv.getD 0).toNat = L at *
        generalize hhi : (hv.getD es.length).toNat = H at *
        have hLH : L ≤ H := by omega
        have hHn : H ≤ es.length := by omega
        have hget : ∀ i e, ((es.take H).drop L)[i]? = some e → es[L + i]? = some e ∧ L + i < H := fun i e hi => by
          rw [List.getElem?_drop, List.getElem?_take] at hi
          split at hi
          · exact ⟨hi, by assumption⟩
          · cases hi
        have hrun : (execOp a.eval o).run P w = .ok (.value (.slice (some (if cap = L then ⟨b, off, none⟩ else ⟨b, off + L * P.cellsOf T, none⟩)) (H - L) (cap - L))) w := by
          by_cases hcl : cap = L
          · subst hcl; simp [execOp, ho, hx, Instr.sliceAt, Instr.slice, run_underlying hu, hb, hsz]
          · simp [execOp, ho, hx, Instr.sliceAt, Instr.slice, run_underlying hu, hb, hsz, hcl, Addr.add_lit']
        refine pure_sim hS h hrun ?_ rfl
        by_cases hcl : cap = L
        · rw [if_pos hcl]
          have hnil : (es.take H).drop L = [] := by
            apply List.eq_nil_of_length_eq_zero; simp; omega
          rw [hnil]
          refine .list (fun _ _ => undef) (by simp; omega) (by omega) (fun h0 => by omega) ?_ ?_ ?_ ?_ <;> simp
        · rw [if_neg hcl]
          refine .list (fun i k => f (L + i) k) (by simp; omega) (by omega) (fun h0 => ?_) (fun i e hi => hs _ e (hget i e hi).1) (fun i e k d hi => h1 _ e k d (hget i e hi).1) (fun i e k d hi hk => ?_) (fun i e k d hi => hr _ e k d (hget i e hi).1)
          · obtain ⟨lim, ow', e1, e2⟩ := hp (by omega)
            refine ⟨lim, ow', e1, ?_⟩
            have : L * P.cellsOf T + (H - L) * P.cellsOf T ≤ es.length * P.cellsOf T := by rw [← Nat.add_mul]; exact Nat.mul_le_mul_right _ (by omega)
            omega
          · have := hcell (L + i) e k d (hget i e hi).1 hk
            rw [Nat.add_mul] at this
            rw [show off + L * P.cellsOf T + i * P.cellsOf T + k = off + (L * P.cellsOf T + i * P.cellsOf T) + k by omega]
            exact this
    · exact h.elim

/-- A new block is a row of ours. -/
def newRowR (role : Nat → Role) (H lim : Nat) (p : Nat × Option Nat) : Nat → Role := fun k => if k = H then .row lim (some p) else role k
theorem newRowR_ne {role : Nat → Role} {H lim k : Nat} {p : Nat × Option Nat} (h : k ≠ H) : newRowR role H lim p k = role k := if_neg h

theorem newRow_sim (hS : Sim P E A role a w s) {t n cap : Nat} {T : TypeId} {es : List (List D)} {cur : Array Value} {w' : World} (hheap : w'.heap = w.heap.push (.cells cur T (0, 0))) (hbel : Below w.heap.size w w')
    (hl : es.length = n) (hcap : n ≤ cap) (hm : cap ≤ maxLen) (hsz : cur.size = cap * P.cellsOf T) (hs : ∀ (i : Nat) (e : List D), es[i]? = some e → e.length = P.cellsOf T)
    (hc : ∀ (i : Nat) (e : List D) (k : Nat) (d : D), es[i]? = some e → e[k]? = some d → ∃ y, cur[i * P.cellsOf T + k]? = some y ∧ y.oneCell' = true ∧ Rd P role w y d)
    (hno : (get s t).isObj = false) : ∃ role', Sim P E A role' (a.put (some t) (.slice (some ⟨w.heap.size, 0, none⟩) n cap)) w' (s.set t (.list true T es)) := by
  have hlow := hS.low
  have hsize : w'.heap.size = w.heap.size + 1 := by rw [hheap]; simp
  have hat : w'.heap[w.heap.size]? = some (.cells cur T (0, 0)) := by rw [hheap]; simp
  have ne : ∀ k, role k ≠ .none → k ≠ w.heap.size := fun k hk e => by have := hlow k hk; omega
  have evo : Evo role w (newRowR role w.heap.size (n * P.cellsOf T) (t, none)) w' := ⟨fun b n' hp => by
    obtain ⟨lim, ow, h1, h2⟩ := hp
    exact ⟨lim, ow, by rw [newRowR_ne (ne b (by rw [h1]; simp))]; exact h1, h2⟩, fun b n' o hp _ => by
    obtain ⟨lim, ow, h1, _⟩ := hp
    exact hbel.cell (p := ⟨b, o, none⟩) (hlow b (by rw [h1]; simp))⟩
  have hk : Kept role w (newRowR role w.heap.size (n * P.cellsOf T) (t, none)) w' none :=
    ⟨evo, fun b u h => by rw [newRowR_ne (ne b (by rw [h]; simp))]; exact h, fun b u h _ => hbel.block b (hlow b (by rw [h]; simp)),
      fun b lim p h _ => ⟨by rw [newRowR_ne (ne b (by rw [h]; simp))]; exact h, hbel.block b (hlow b (by rw [h]; simp))⟩⟩
  have hS' : Sim P E A (newRowR role w.heap.size (n * P.cellsOf T) (t, none)) a w' s := by
    refine hS.turn (hS.ext.trans hbel) (fun k hk => newRowR_ne (by have := hS.ext.size; omega)) (fun k hk => ?_) (fun b b' u hb hb' => ?_) fun u => (hS.tm u).keep hk (by simp) (by simp)
    · by_cases e : k = w.heap.size
      · omega
      · rw [newRowR_ne e] at hk; have := hlow k hk; omega
    · have f : ∀ b, newRowR role w.heap.size (n * P.cellsOf T) (t, none) b = .loc u → role b = .loc u := by
        intro b hb
        unfold newRowR at hb
        split at hb
        · cases hb
        · exact hb
      exact hS.inj b b' u (f b hb) (f b' hb')
  refine ⟨_, hS'.put (RO.rt ⟨?_, fun T' es' e => ?_⟩) hno (fun u off e => by cases e) rfl⟩
  · refine .list (fun i k => cur.getD (i * P.cellsOf T + k) undef) hl hcap (fun _ => ⟨n * P.cellsOf T, _, if_pos rfl, by omega⟩) hs (fun i e k d hi hk => ?_) (fun i e k d hi hk => ?_) (fun i e k d hi hk => ?_)
    all_goals obtain ⟨y, h1, h2, h3⟩ := hc i e k d hi hk
    · simp [h1, h2]
    · simp only [World.cell?, hat]; simp [h1]
    · have : cur.getD (i * P.cellsOf T + k) undef = y := by simp [h1]
      rw [this]; exact h3.evo evo
  · cases e
    rw [hl]
    exact .inr ⟨w.heap.size, cap, cur, rfl, if_pos rfl, hS.ext.size, hat, hcap, hm, hsz⟩

theorem flatten_replicate_get {α : Type} (L : List α) (hL : 0 < L.length) : ∀ (n i : Nat), i < n * L.length → (List.replicate n L).flatten[i]? = L[i % L.length]?
  | 0, i, h => by omega
  | n + 1, i, h => by
    rw [List.replicate_succ, List.flatten_cons, List.getElem?_append]
    rw [Nat.add_mul] at h
    split
    · rename_i h1; rw [Nat.mod_eq_of_lt h1]
    · rename_i h1
      rw [flatten_replicate_get L hL n (i - L.length) (by omega)]
      have h2 := Nat.mod_eq_sub_mod (a := i) (b := L.length) (by omega)
      rw [h2]

theorem chunks_get (c : Nat) : ∀ (n : Nat) (cs : List D) (i : Nat) (e : List D), cs.length = n * c → (chunks c n cs)[i]? = some e → i < n ∧ e.length = c ∧ ∀ k d, e[k]? = some d → cs[i * c + k]? = some d
  | 0, cs, i, e, _, h => by simp [chunks] at h
  | n + 1, cs, i, e, hl, h => by
    rw [Nat.add_mul] at hl
    simp only [chunks] at h
    cases i with
    | zero =>
      simp at h; subst h
      refine ⟨by omega, by simp; omega, fun k d hk => ?_⟩
      rw [List.getElem?_take] at hk
      split at hk
      · simpa using hk
      · cases hk
    | succ i =>
      simp at h
      obtain ⟨h1, h2, h3⟩ := chunks_get c n (cs.drop c) i e (by simp; omega) h
      refine ⟨by omega, h2, fun k d hk => ?_⟩
      have := h3 k d hk
      rw [List.getElem?_drop] at this
      rw [Nat.add_mul, show i * c + 1 * c + k = c + (i * c + k) by omega]; exact this
theorem chunks_length (c : Nat) : ∀ (n : Nat) (cs : List D), (chunks c n cs).length = n
  | 0, _ => rfl
  | n + 1, cs => by simp [chunks, chunks_length c n]

theorem buildSlice_sim (hS : Sim P E A role a w s) {o : Oper} {t : TypeId} {len : Nat} {parts : Array (Nat × Operand)} (ho : o.op = .buildSlice t len parts) (h : (buildSliceL P o t len parts).run orc s l K) : Oper.wp P o a w (After P E A s K) Q := by
  unfold buildSliceL at h
  split at h
  · rename_i e hu
    split at h
    · rename_i z hz
      obtain ⟨hc, h⟩ := h
      simp only [Bool.and_eq_true, decide_eq_true_eq] at hc
      obtain ⟨⟨⟨hi, hzl⟩, hpos⟩, hsmall⟩ := hc
      obtain ⟨it, v, hi', hzv, hcr⟩ := zeroCells_sim (role := role) (w := w) hz
      rw [run_bind] at h
      obtain ⟨ds, l1, h, hlen, hds⟩ := rdParts_sim hS _ _ _ h
      split at h
      · rename_i cs hcs
        split at h
        · exact h.elim
        · rename_i td htd
          obtain ⟨hno, hK⟩ := h
          have hno : (get s td).isObj = false := by simpa using hno
          have hcell := cellsOf_info hi'
          have hvs : v.cells.size = P.cellsOf e := by have := hcr.1; simp at this; omega
          -- the cells at first
          have hcr0 : CR P role w (if len * it.size = 0 then #[] else (Array.range (len * it.size)).map (v.cells[· % v.cells.size]!)) ((List.replicate len (z.map D.strip)).flatten) := by
            have hzl' : (z.map D.strip).length = P.cellsOf e := by simp [hzl]
            have hlenf : ((List.replicate len (z.map D.strip)).flatten).length = len * P.cellsOf e := by simp [hzl]
            by_cases h0 : len * it.size = 0
            · rw [if_pos h0]
              have : len = 0 := by
                rcases Nat.eq_zero_or_pos len with h | h
                · exact h
                · have := Nat.mul_pos h (hcell ▸ hpos); omega
              subst this
              exact ⟨by simp, fun i y d hy => by simp at hy⟩
            · rw [if_neg h0]
              refine ⟨by rw [hlenf]; simp [hcell], fun i y d hy hd => ?_⟩
              have hilt := (List.getElem?_eq_some_iff.1 hd).1
              rw [hlenf] at hilt
              rw [flatten_replicate_get _ (by rw [hzl']; exact hpos) len i (by rw [hzl']; exact hilt), hzl'] at hd
              have hm : i % P.cellsOf e < P.cellsOf e := Nat.mod_lt _ hpos
              refine hcr.2 (i % P.cellsOf e) y d ?_ hd
              simp only [Array.getElem?_map, Option.map_eq_some_iff] at hy
              obtain ⟨j, hj, rfl⟩ := hy
              have hj' := (Array.getElem?_eq_some_iff.1 hj).2
              simp at hj'
              subst hj'
              rw [hvs]
              have : i % P.cellsOf e < v.cells.size := by omega
              simp [this]
          obtain ⟨cells, e1, e2⟩ := fill_sim ds _ _ _ cs hcr0 hcs hlen hds
          have hcslen : cells.size = len * P.cellsOf e := by
            have : ∀ (ps : List (Nat × D)) (c0 c1 : List D), fillD (fun i => some (i * P.cellsOf e, P.cellsOf e)) c0 ps = some c1 → c1.length = c0.length := by
              intro ps
              induction ps with
              | nil => intro c0 c1 h; simp only [fillD] at h; cases h; rfl
              | cons p ps ih =>
                obtain ⟨i, d⟩ := p
                intro c0 c1 h
                simp only [fillD] at h
                split at h
                · rename_i hc
                  simp only [Bool.and_eq_true, decide_eq_true_eq] at hc
                  rw [ih _ _ h]
                  simp only [setCells, List.length_append, List.length_take, List.length_drop]; omega
                · cases h
            have h2 := this _ _ _ hcs
            have h3 := e2.1
            simp [hzl] at h2
            omega
          have hrun : (Instr.buildSlice t len (parts.map fun (i, x) => (i, a.eval x))).run P w = .ok (.slice (some ⟨w.heap.size, 0, none⟩) len len) (w.alloc (.cells cells e)) := by
            have e1' : Instr.fill (fun i => some (i * it.size, it.size)) (if len * it.size = 0 then #[] else (Array.range (len * it.size)).map (v.cells[· % v.cells.size]!)) (parts.map fun (i, x) => (i, a.eval x)).toList = some cells := by
              rw [← hcell]; rw [← hcell] at e1; simpa using e1
            have hns : ¬ len * it.size > 2 ^ 24 := by rw [← hcell]; omega
            by_cases h0 : len * it.size = 0
            · rw [if_pos h0] at e1'
              have e3 : (List.map (fun x => (x.fst, a.eval x.snd)) parts.toList) = (parts.map fun (i, x) => (i, a.eval x)).toList := by simp
              simp [Instr.buildSlice, run_underlying hu, sizeOf, typeInfo, hi', h0]
              rw [show (Array.map (fun (_ : Nat) => (default : Value)) (Array.range 0)) = #[] from by rw [Array.range_zero', Array.map_empty], e3, e1']
              simp [newRow]
            · rw [if_neg h0] at e1'
              exact run_buildSlice w t e len _ cells it v hu hi' hzv hns h0 e1'
          obtain ⟨role', hh⟩ := newRow_sim (t := td) (n := len) (cap := len) (T := e) (es := chunks (P.cellsOf e) len cs) (cur := cells) (w' := w.alloc (.cells cells e)) hS rfl ((Exd.refl w).al)
            (chunks_length _ _ _) (Nat.le_refl _) (by
              have : len * 1 ≤ len * P.cellsOf e := Nat.mul_le_mul_left _ hpos
              simp only [maxLen]; omega) hcslen
            (fun i e' hi => (chunks_get _ _ _ i e' (by have := e2.1; omega) hi).2.1)
            (fun i e' k d hi hk => by
              have h3 := (chunks_get _ _ _ i e' (by have := e2.1; omega) hi).2.2 k d hk
              have hlt := (List.getElem?_eq_some_iff.1 h3).1
              have hlt' : i * P.cellsOf e + k < cells.size := by have := e2.1; omega
              exact ⟨cells[i * P.cellsOf e + k], by simp [hlt'], e2.2 _ _ d (by simp [hlt']) h3⟩) hno
          refine wp_value (v := .slice (some ⟨w.heap.size, 0, none⟩) len len) (w' := w.alloc (.cells cells e)) ?_ ⟨_, _, role', hK, ?_⟩
          · simp [execOp, ho, hrun]
          · rw [htd]; exact hh
      · exact h.elim
    · exact h.elim
  · exact h.elim
end
end Go.Proofs.YtlfdelobjbdimaaDoor

namespace Go.Proofs.YtlfdelobjbdimaaDoor
open Go.RowKit
open Look (ret rd chk)

section
variable {P : Program} {orc : Orc} {E : Env} {A : List Nat} {role : Nat → Role} {a : Act} {w : World} {s : List D} {l : List Nat}
variable {K : List (Nat × D) → List Nat → Prop} {Q : Exit → Act → World → Prop}

/-- What a list's cells hold, in a row. -/
theorem list_news {v : Value} {ow : Bool} {T : TypeId} {es : List (List D)} (h : Rd P role w v (.list ow T es)) (hpos : 0 < P.cellsOf T) (hm : es ≠ []) :
    ∃ (ad : Addr) (c : Nat) (news : List Value), v = .slice (some ad) es.length c ∧ news.length = es.length * P.cellsOf T ∧ (∀ (j : Nat) (u : Value), news[j]? = some u → w.cell? (ad.add j) = some u) ∧ (∀ u : Value, u ∈ news → u.oneCell' = true) ∧
      ∀ (i : Nat) (e : List D) (k : Nat) (d : D), es[i]? = some e → e[k]? = some d → ∃ y, news[i * P.cellsOf T + k]? = some y ∧ Rd P role w y d := by
  cases h with
  | nil => exact absurd rfl hm
  | list f hl hcap hp hs h1 hcell hr =>
    rename_i b off len cap
    subst hl
    have hidx : ∀ j, j < es.length * P.cellsOf T → j / P.cellsOf T < es.length ∧ j % P.cellsOf T < P.cellsOf T ∧ j / P.cellsOf T * P.cellsOf T + j % P.cellsOf T = j := fun j hj =>
      ⟨(Nat.div_lt_iff_lt_mul hpos).2 hj, Nat.mod_lt _ hpos, by rw [Nat.mul_comm]; exact Nat.div_add_mod _ _⟩
    have hel : ∀ j, j < es.length * P.cellsOf T → ∃ e d, es[j / P.cellsOf T]? = some e ∧ e[j % P.cellsOf T]? = some d := fun j hj => by
      obtain ⟨h2, h3, _⟩ := hidx j hj
      have he : es[j / P.cellsOf T]? = some es[j / P.cellsOf T] := List.getElem?_eq_getElem h2
      have := hs _ _ he
      exact ⟨_, _, he, List.getElem?_eq_getElem (by omega)⟩
    refine ⟨⟨b, off, none⟩, cap, (List.range (es.length * P.cellsOf T)).map fun j => f (j / P.cellsOf T) (j % P.cellsOf T), rfl, by simp, fun j u hu => ?_, fun u hu => ?_, fun i e k d he hk => ?_⟩
    · simp only [List.getElem?_map, Option.map_eq_some_iff] at hu
      obtain ⟨j', hj, rfl⟩ := hu
      obtain ⟨hlt, e⟩ := List.getElem?_eq_some_iff.1 hj
      simp at hlt e; subst e
      obtain ⟨e, d, he, hd⟩ := hel j hlt
      have := hcell _ e _ d he hd
      obtain ⟨_, _, h4⟩ := hidx j hlt
      rw [Addr.add_lit', ← this]
      congr 2
      omega
    · simp only [List.mem_map, List.mem_range] at hu
      obtain ⟨j, hj, rfl⟩ := hu
      obtain ⟨e, d, he, hd⟩ := hel j hj
      exact h1 _ e _ d he hd
    · have hi := (List.getElem?_eq_some_iff.1 he).1
      have hk' := (List.getElem?_eq_some_iff.1 hk).1
      rw [hs i e he] at hk'
      have hlt := seg_lt (c := P.cellsOf T) hi hk'
      refine ⟨f i k, ?_, hr i e k d he hk⟩
      have h2 : (i * P.cellsOf T + k) / P.cellsOf T = i := by rw [Nat.mul_comm, Nat.mul_add_div hpos, Nat.div_eq_of_lt hk']; rfl
      have h3 : (i * P.cellsOf T + k) % P.cellsOf T = k := by rw [Nat.mul_comm, Nat.mul_add_mod, Nat.mod_eq_of_lt hk']
      simp [hlt, h2, h3]

theorem list_sizes {v : Value} {ow : Bool} {T : TypeId} {es : List (List D)} (h : Rd P role w v (.list ow T es)) : ∀ (i : Nat) (e : List D), es[i]? = some e → e.length = P.cellsOf T := by
  cases h with
  | nil => intro i e h; simp at h
  | list f hl hcap hp hs => exact hs

theorem append_none {t1 t2 e : TypeId} {i : TypeInfo} {base : Option Addr} {n cap c2 : Nat} {b2 : Option Addr} {ty : TypeId} (hu : P.underlying t1 = some (.slice e)) (hu2 : P.underlying t2 = some (.slice e)) (hi : P.info? e = some i) (hcap : n ≤ cap) :
    (Builtin.append_ #[t1, t2] ty #[.slice base n cap, .slice b2 0 c2]).run P w = .ok (.slice base n cap) w := by
  cases base <;> cases b2 <;> simp [Builtin.append_, run_underlying hu, run_underlying hu2, sizeOf, typeInfo, hi, Builtin.lenOf, Builtin.firstCells, loadCells, loadCellsFrom, storeCells, hcap]

/-- append, behind the reading of its operands. -/
theorem append_core {a0 : Act} (ha0 : a0 = a) (hS : Sim P E A role a w s) {o : Oper} {x y : Operand} {t1 T : TypeId} {es es2 : List (List D)} {t : Nat} {p : Nat × Option Nat} {types : Array TypeId} {ow2 : Bool} (hty : types = #[t1, t1])
    (ho : o.op = .call { callee := .builtin .append, args := #[x, y], argTypes := types }) (hdst : o.dst = some t) (hu : P.underlying t1 = some (.slice T)) (hz : (zeroCellsD P T).isSome = true) (hpos : 0 < P.cellsOf T)
    (hzl : P.cellsOf T = ((zeroCellsD P T).getD []).length)
    (hx : RO P E role w p (a0.eval x) (.list true T es)) (hf : Free s p) (hy : Rd P role w (a0.eval y) (.list ow2 T es2)) (hsz : (es.length + es2.length) * (P.bytesOf T + 1) ≤ 70368744177664)
    (hno : (get s t).isObj = false) : ∃ v w' role', (execOp a.eval o).run P w = .ok (.value v) w' ∧ Sim P E A role' (a.put (some t) v) w' (s.set t (.list true T (es ++ es2))) := by
  subst ha0
  subst hty
  obtain ⟨z, hz⟩ := Option.isSome_iff_exists.1 hz
  obtain ⟨it, zv, hi, hzv, hcr⟩ := zeroCells_sim (role := role) (w := w) hz
  have hcell := cellsOf_info hi
  have hby : P.bytesOf T = it.bytes := by simp [Program.bytesOf, hi]
  have hzs : zv.cells.size = it.size := by rw [← hcell, hzl, hz]; have := hcr.1; simpa using this
  rw [Nat.mul_add] at hsz
  have hown := hx.2 T es rfl
  have hrx := hx.1
  have exec : ∀ {v w'}, (Builtin.append_ #[t1, t1] o.type #[a0.eval x, a0.eval y]).run P w = .ok v w' → (execOp a0.eval o).run P w = .ok (.value v) w' := by
    intro v w' h
    simp [execOp, ho, resolve, invoke, builtin, h]
  have hs1 := list_sizes hrx
  have hs2 := list_sizes hy
  have hs12 : ∀ (i : Nat) (e : List D), (es ++ es2)[i]? = some e → e.length = P.cellsOf T := by
    intro i e h
    rw [List.getElem?_append] at h
    split at h
    · exact hs1 _ _ h
    · exact hs2 _ _ h
  by_cases hm : es2 = []
  · -- nothing is appended
    subst hm
    have hb2 : ∃ b2 c2, a0.eval y = .slice b2 0 c2 := by
      generalize a0.eval y = v at hy
      cases hy with
      | nil => exact ⟨_, _, rfl⟩
      | list f hl => simp at hl; subst hl; exact ⟨_, _, rfl⟩
    obtain ⟨b2, c2, hb2⟩ := hb2
    have hb1 : ∃ b n c, a0.eval x = .slice b n c ∧ n ≤ c := by
      generalize a0.eval x = v at hrx
      cases hrx with
      | nil => exact ⟨_, _, _, rfl, Nat.le_refl _⟩
      | list f hl hcap => exact ⟨_, _, _, rfl, hcap⟩
    obtain ⟨b, n, c, hb1, hnc⟩ := hb1
    have hrun := append_none (P := P) (w := w) (base := b) (b2 := b2) (c2 := c2) (ty := o.type) hu hu hi hnc
    rw [← hb1, ← hb2] at hrun
    rw [List.append_nil]
    have := take_sim (o := o) hS hx rfl hf (fun t' ht' => by rw [hdst] at ht'; cases ht'; exact hno)
    rw [hdst] at this
    obtain ⟨role', h⟩ := this
    exact ⟨_, w, role', exec hrun, h⟩
  · obtain ⟨ad, c2, news, hy2, hnl, hnc, hn1, hnr⟩ := list_news hy hpos hm
    have hm0 : 0 < es2.length := by cases es2 with | nil => exact absurd rfl hm | cons => simp
    rw [hcell] at hnl
    -- the elements behind, in cells of which these are the first
    have elems : ∀ (olds : List Value) (rest : List Value), olds.length = es.length * P.cellsOf T → (∀ (i : Nat) (e : List D) (k : Nat) (d : D), es[i]? = some e → e[k]? = some d → ∃ y, olds[i * P.cellsOf T + k]? = some y ∧ y.oneCell' = true ∧ Rd P role w y d) →
        ∀ (i : Nat) (e : List D) (k : Nat) (d : D), (es ++ es2)[i]? = some e → e[k]? = some d → ∃ y, (olds ++ news ++ rest)[i * P.cellsOf T + k]? = some y ∧ y.oneCell' = true ∧ Rd P role w y d := by
      intro olds rest hol hor i e k d he hk
      rw [List.getElem?_append] at he
      split at he
      · obtain ⟨y, h1, h2, h3⟩ := hor i e k d he hk
        have hlt := (List.getElem?_eq_some_iff.1 h1).1
        refine ⟨y, ?_, h2, h3⟩
        rw [List.append_assoc, List.getElem?_append_left hlt]; exact h1
      · rename_i hge
        obtain ⟨y, h1, h2⟩ := hnr _ e k d he hk
        have hlt := (List.getElem?_eq_some_iff.1 h1).1
        refine ⟨y, ?_, hn1 y (List.mem_of_getElem? h1), h2⟩
        have e2 : i * P.cellsOf T + k = es.length * P.cellsOf T + ((i - es.length) * P.cellsOf T + k) := by
          have : i = es.length + (i - es.length) := by omega
          conv => lhs; rw [this, Nat.add_mul]
          omega
        rw [e2, List.append_assoc, List.getElem?_append_right (by omega), hol, show es.length * P.cellsOf T + ((i - es.length) * P.cellsOf T + k) - es.length * P.cellsOf T = (i - es.length) * P.cellsOf T + k by omega, List.getElem?_append_left hlt]
        exact h1
    rcases hown with hnil | ⟨g, cap, cur, hv, hrole, hgE, hg, hncap, hcm, hcs⟩
    · -- onto nothing
      have hes : es = [] := by
        rw [hnil] at hrx; cases hrx; rfl
      subst hes
      simp only [List.length_nil, Nat.zero_add] at hsz
      have hrun := run_append_nil (P := P) w t1 o.type T it zv hu hi hzv ad es2.length c2 news hnl hnc hm0 (by omega) (by rw [← hby]; omega)
      rw [← hnil, ← hy2] at hrun
      have hcapm : grownCap w es2.length 0 T ≤ maxLen := grownCap_le_maxLen w _ _ T (by simp only [maxLen]; omega)
      have hge := grownCap_ge w es2.length 0 T
      obtain ⟨role', h⟩ := newRow_sim (t := t) (n := es2.length) (cap := grownCap w es2.length 0 T) (T := T) (es := es2) hS (w' := w.drew.alloc (.cells (news.toArray ++ Builtin.zeroCells zv.cells (grownCap w es2.length 0 T - es2.length)) T)) rfl ((Exd.refl w).dr.al) rfl hge hcapm
        (by simp only [Array.size_append, List.size_toArray, size_zeroCells, hzs, hnl, hcell, ← Nat.add_mul]; congr 1; omega) hs2
        (fun i e k d he hk => by
          obtain ⟨y, h1, h2, h3⟩ := elems [] (Builtin.zeroCells zv.cells (grownCap w es2.length 0 T - es2.length)).toList (by simp) (fun i e k d he => by simp at he) i e k d (by simpa using he) hk
          refine ⟨y, ?_, h2, h3⟩
          rw [← h1, ← Array.getElem?_toList]; simp) hno
      exact ⟨_, _, role', exec hrun, by simpa using h⟩
    · have hcells : ∀ (i : Nat) (e : List D) (k : Nat) (d : D), es[i]? = some e → e[k]? = some d → ∃ y, (cur.toList.take (es.length * P.cellsOf T))[i * P.cellsOf T + k]? = some y ∧ y.oneCell' = true ∧ Rd P role w y d := by
        intro i e k d he hk
        rw [hv] at hrx
        cases hrx with
        | list f hl hcap hp hs h1 hcell' hr =>
          have hk' := (List.getElem?_eq_some_iff.1 hk).1
          have hi' := (List.getElem?_eq_some_iff.1 he).1
          rw [hs i e he] at hk'
          have hlt := seg_lt (c := P.cellsOf T) hi' hk'
          have h2 := hcell' i e k d he hk
          simp only [World.cell?, hg] at h2
          refine ⟨f i k, ?_, h1 i e k d he hk, hr i e k d he hk⟩
          rw [List.getElem?_take, if_pos hlt]
          simpa using h2
      have hol : (cur.toList.take (es.length * P.cellsOf T)).length = es.length * P.cellsOf T := by
        have := Nat.mul_le_mul_right (P.cellsOf T) hncap
        simp; omega
      by_cases hroom : es.length + es2.length ≤ cap
      · -- there is room
        have hfit : es.length * it.size + news.length ≤ cur.size := by rw [hnl, hcs, hcell, ← Nat.add_mul]; exact Nat.mul_le_mul_right _ hroom
        have hrun := run_append_room (P := P) w t1 o.type T it hu hi g es.length cap cur hg ad es2.length c2 news hnl hnc hn1 hroom hfit
        rw [← hv, ← hy2] at hrun
        rw [← hcell] at hrun hfit
        have hoth : ∀ k c, k ≠ g → (w.setRow g c).heap[k]? = w.heap[k]? := fun k c hk => setRow_other w g k c hk
        have hset := setRow_heap w g cur (cur.toList.take (es.length * P.cellsOf T) ++ news ++ cur.toList.drop (es.length * P.cellsOf T + news.length)).toArray T (0, 0) hg
        have hext : Exd E.w0 (w.setRow g (cur.toList.take (es.length * P.cellsOf T) ++ news ++ cur.toList.drop (es.length * P.cellsOf T + news.length)).toArray) :=
          hS.ext.trans' ⟨rfl, rfl, rfl, by simp, fun k hk' => hoth k _ (by omega)⟩
        have hS1 := hS.reown hrole hf (q := (t, none))
        have hself : own role g (es.length * P.cellsOf T) (some (t, none)) g = .row (es.length * P.cellsOf T) (some (t, none)) := by simp [own]
        have evo : Evo role w (own role g ((es ++ es2).length * P.cellsOf T) (some (t, none))) (w.setRow g (cur.toList.take (es.length * P.cellsOf T) ++ news ++ cur.toList.drop (es.length * P.cellsOf T + news.length)).toArray) := by
          refine ⟨fun b n hp => pub_own hrole (Nat.mul_le_mul_right _ (by simp)) hp, fun b n o hp ho' => ?_⟩
          by_cases hb : b = g
          · subst hb
            obtain ⟨lim, ow, h1, h2⟩ := hp
            rw [hrole] at h1; cases h1
            simp only [World.cell?, hset, hg]
            have h3 : o < (cur.toList.take (es.length * P.cellsOf T)).length := by omega
            rw [← Array.getElem?_toList, List.append_assoc, List.getElem?_append_left h3, List.getElem?_take, if_pos (Nat.lt_of_lt_of_le ho' h2)]
            simp
          · exact World.cell?_of_block (w := w) (a := ⟨b, o, none⟩) (hoth b _ hb)
        have hne : ∀ {b n}, b ≠ g → own role g n (some (t, none)) b = role b := fun h => by simp [own, h]
        have hkp : Kept (own role g (es.length * P.cellsOf T) (some (t, none))) w (own role g ((es ++ es2).length * P.cellsOf T) (some (t, none))) (w.setRow g (cur.toList.take (es.length * P.cellsOf T) ++ news ++ cur.toList.drop (es.length * P.cellsOf T + news.length)).toArray) (some g) := by
          refine ⟨⟨fun b n hp => evo.pub b n ?_, fun b n o hp ho' => evo.cell b n o ?_ ho'⟩, fun b u h => ?_, fun b u h hne' => hoth b _ (by simpa using hne'), fun b lim p h hne' => ?_⟩
          · obtain ⟨lim, ow, h1, h2⟩ := hp
            by_cases hb : b = g
            · subst hb; rw [hself] at h1; cases h1; exact ⟨_, _, hrole, h2⟩
            · rw [hne hb] at h1; exact ⟨lim, ow, h1, h2⟩
          · obtain ⟨lim, ow, h1, h2⟩ := hp
            by_cases hb : b = g
            · subst hb; rw [hself] at h1; cases h1; exact ⟨_, _, hrole, h2⟩
            · rw [hne hb] at h1; exact ⟨lim, ow, h1, h2⟩
          · have hb : b ≠ g := fun e => by subst e; rw [hself] at h; cases h
            rw [hne hb] at h ⊢; exact h
          · have hb : b ≠ g := by simpa using hne'
            rw [hne hb] at h ⊢; exact ⟨h, hoth b _ hb⟩
        have hS2 : Sim P E A (own role g ((es ++ es2).length * P.cellsOf T) (some (t, none))) a0 (w.setRow g (cur.toList.take (es.length * P.cellsOf T) ++ news ++ cur.toList.drop (es.length * P.cellsOf T + news.length)).toArray) (s.set t .undef) := by
          have hS1' : Sim P E A (own role g (es.length * P.cellsOf T) (some (t, none))) a0 w (s.set t .undef) := by
            have := hS1.put (t := t) (x := a0.tmps.getD t undef) (d := .undef) trivial hno (fun u off e => by cases e) rfl
            have hid : a0.put (some t) (a0.tmps.getD t undef) = a0 := by
              show { a0 with tmps := a0.tmps.setIfInBounds t (a0.tmps.getD t undef) } = a0
              have : a0.tmps.setIfInBounds t (a0.tmps.getD t undef) = a0.tmps := by
                apply Array.ext_getElem?
                intro i
                by_cases hi : t = i
                · subst hi
                  by_cases hlt : t < a0.tmps.size <;> simp [hlt]
                · simp [hi]
              rw [this]
            rw [hid] at this; exact this
          refine hS1'.turn hext (fun k hk => ?_) (fun k hk => ?_) (fun b b' u hb hb' => ?_) fun u => ?_
          · have hb : k ≠ g := by omega
            rw [hne hb, hne hb]
          · rw [setRow_size]
            by_cases hb : k = g
            · subst hb; exact hS.low _ (by rw [hrole]; simp)
            · rw [hne hb] at hk; exact hS.low k hk
          · have f : ∀ b, own role g ((es ++ es2).length * P.cellsOf T) (some (t, none)) b = .loc u → role b = .loc u := by
              intro b hb
              by_cases h : b = g
              · subst h; simp [own] at hb
              · rw [hne h] at hb; exact hb
            exact hS.inj b b' u (f b hb) (f b' hb')
          · by_cases hut : u = t
            · subst hut
              rw [get_set]
              split
              · trivial
              · rename_i h
                have : get s u = .undef := get_ge (by
                  rcases Nat.lt_or_ge u s.length with h' | h'
                  · exact absurd ⟨rfl, h'⟩ h
                  · exact h')
                rw [this]; trivial
            · refine (hS1'.tm u).keep hkp (fun b e => by cases e; rw [hself]; simp) (fun b lim i e => ?_)
              cases e; rw [hself]; simp; intro _ e; exact absurd e.symm hut
        refine ⟨_, _, own role g ((es ++ es2).length * P.cellsOf T) (some (t, none)), exec hrun, ?_⟩
        have hfin := hS2.put (t := t) (x := .slice (some ⟨g, 0, none⟩) (es.length + es2.length) cap) (d := .list true T (es ++ es2)) (RO.rt ⟨?_, fun T' es' e => ?_⟩) (by rw [get_set]; split <;> first | rfl | exact hno) (fun u off e => by cases e) rfl
        · have : (s.set t D.undef).set t (.list true T (es ++ es2)) = s.set t (.list true T (es ++ es2)) := by simp
          rw [this] at hfin; exact hfin
        · refine .list (fun i k => (cur.toList.take (es.length * P.cellsOf T) ++ news ++ cur.toList.drop (es.length * P.cellsOf T + news.length)).getD (i * P.cellsOf T + k) undef) (by simp) hroom (fun _ => ⟨(es ++ es2).length * P.cellsOf T, some (t, none), by simp [own], by simp⟩) hs12 (fun i e k d he hk => ?_) (fun i e k d he hk => ?_) (fun i e k d he hk => ?_)
          all_goals obtain ⟨y, h1, h2, h3⟩ := elems _ (cur.toList.drop (es.length * P.cellsOf T + news.length)) hol hcells i e k d he hk
          · simp only [List.getD_eq_getElem?_getD, h1]; exact h2
          · simp only [World.cell?, hset, Nat.zero_add]
            rw [← Array.getElem?_toList, h1]; simp only [List.getD_eq_getElem?_getD, h1, Option.getD_some]; rfl
          · simp only [List.getD_eq_getElem?_getD, h1]; exact h3.evo evo
        · cases e
          refine .inr ⟨g, cap, _, by simp, by simp [own], hgE, hset, by simpa using hroom, hcm, ?_⟩
          simp only [List.size_toArray, List.length_append, List.length_drop, Array.length_toList, hol]; omega
      · -- it moves
        have holds : ∀ (j : Nat) (u : Value), (cur.toList.take (es.length * P.cellsOf T))[j]? = some u → w.cell? ((⟨g, 0, none⟩ : Addr).add j) = some u := by
          intro j u hu'
          rw [List.getElem?_take] at hu'
          split at hu'
          · rw [Addr.add_lit']; simp only [World.cell?, hg, Nat.zero_add]; simpa using hu'
          · cases hu'
        have hrun := run_append_grow (P := P) w t1 o.type T it zv hu hi hzv ⟨g, 0, none⟩ es.length cap (cur.toList.take (es.length * P.cellsOf T)) (by rw [hol, hcell]) holds ad es2.length c2 news hnl hnc (by omega) (by omega) (growslice_fits (by omega) (by rw [← hby]; omega))
        rw [← hv, ← hy2] at hrun
        have hcapm : grownCap w (es.length + es2.length) cap T ≤ maxLen := grownCap_le_maxLen w _ _ T (by simp only [maxLen]; omega)
        have hge := grownCap_ge w (es.length + es2.length) cap T
        obtain ⟨role', h⟩ := newRow_sim (t := t) (n := es.length + es2.length) (cap := grownCap w (es.length + es2.length) cap T) (T := T) (es := es ++ es2) hS
          (w' := w.drew.alloc (.cells ((cur.toList.take (es.length * P.cellsOf T)).toArray ++ news.toArray ++ Builtin.zeroCells zv.cells (grownCap w (es.length + es2.length) cap T - (es.length + es2.length))) T)) rfl ((Exd.refl w).dr.al) (by simp) hge hcapm
          (by simp only [Array.size_append, List.size_toArray, size_zeroCells, hzs, hnl, hol]; rw [hcell, ← Nat.add_mul, ← Nat.add_mul]; congr 1; omega) hs12
          (fun i e k d he hk => by
            obtain ⟨y, h1, h2, h3⟩ := elems _ (Builtin.zeroCells zv.cells (grownCap w (es.length + es2.length) cap T - (es.length + es2.length))).toList hol hcells i e k d he hk
            refine ⟨y, ?_, h2, h3⟩
            rw [← h1, ← Array.getElem?_toList]; simp) hno
        exact ⟨_, _, role', exec hrun, h⟩

theorem append_sim (hS : Sim P E A role a w s) {o : Oper} {x y : Operand} {t1 t2 : TypeId} (ho : o.op = .call { callee := .builtin .append, args := #[x, y], argTypes := #[t1, t2] })
    (h : (appendL P o t1 t2 x y).run orc s l K) : Oper.wp P o a w (After P E A s K) Q := by
  unfold appendL at h
  split at h
  · rename_i e t hu hdst
    have fin : ∀ {v : Value} {w' : World} {role' : Nat → Role} {es : List (List D)} {s1 : List D} {ws : List (Nat × D)} {l' : List Nat}, apply ws s = s1 → (execOp a.eval o).run P w = .ok (.value v) w' → Sim P E A role' (a.put (some t) v) w' (s1.set t (.list true e es)) →
        K (ws ++ (o.dst.toList.map fun t => (t, D.list true e es))) l' → Oper.wp P o a w (After P E A s K) Q := by
      intro v w' role' es s1 ws l' hap hr hs hK
      refine wp_value hr ⟨_, l', role', hK, ?_⟩
      rw [apply_dst, hdst, hap]; exact hs
    simp only at h
    cases x with
    | tmp u =>
      simp only [Look.run] at h
      split at h
      · rename_i T es hg
        obtain ⟨hc, h⟩ := h
        simp only [Bool.and_eq_true, beq_iff_eq, bne_iff_ne] at hc
        obtain ⟨rfl, hut⟩ := hc
        rw [run_bind] at h
        obtain ⟨d, l1, g, h2, h3, h4⟩ := rdV_sim hS h
        clear h
        split at g
        · rename_i ow2 T2 es2
          obtain ⟨hc1, hc2, g⟩ := g
          simp only [Bool.and_eq_true, beq_iff_eq, decide_eq_true_eq] at hc1 hc2
          obtain ⟨⟨⟨⟨rfl, rfl⟩, hz⟩, hpos⟩, hzl⟩ := hc1
          obtain ⟨l', hno, hK⟩ := putW_sim g
          have hulen : u < s.length := by
            rcases Nat.lt_or_ge u s.length with h0 | h0
            · exact h0
            · rw [get_ge h0] at hg; cases hg
          have hS1 := hS.stripTmp u
          rw [hg] at hS1
          have hro : RO P E role w (u, none) (a.eval (.tmp u)) (.list true T2 es) := by
            have := RT.ro (hS.tm u) (by rw [hg]; rfl); rw [hg] at this; exact this
          have hf : Free (s.set u (D.list true T2 es).strip) (u, none) := by simp only [Free]; rw [get_set_self hulen]; rfl
          obtain ⟨v, w', role', hr, hs⟩ := append_core (a0 := a) rfl hS1 (t := t) (o := o) rfl ho hdst hu hz hpos hzl hro hf h4 hc2 (by
            rw [get_set]; split
            · rename_i e; exact absurd e.1 hut
            · exact hno t hdst)
          exact fin rfl hr hs hK
        · exact g.elim
      · first | exact h.elim | (simp [Look.run] at h)
    | const c =>
      split at h
      · rename_i heq; cases heq
      · rename_i heq
        cases heq
        rw [run_bind] at h
        obtain ⟨d, l1, g, h2, h3, h4⟩ := rdV_sim hS h
        clear h
        split at g
        · rename_i ow2 T2 es2
          obtain ⟨hc1, hc2, g⟩ := g
          simp only [Bool.and_eq_true, beq_iff_eq, decide_eq_true_eq] at hc1 hc2
          obtain ⟨⟨⟨⟨rfl, rfl⟩, hz⟩, hpos⟩, hzl⟩ := hc1
          obtain ⟨l', hno, hK⟩ := putW_sim g
          obtain ⟨v, w', role', hr, hs⟩ := append_core (a0 := a) rfl hS (t := t) (o := o) (p := (t, some 0)) (es := []) rfl ho hdst hu hz hpos hzl ⟨.nil, fun _ _ _ => .inl rfl⟩ (fun T cs d h1 => by
            have := hno t hdst; rw [h1] at this; simp [D.isObj] at this) h4 hc2 (hno t hdst)
          exact fin rfl hr hs hK
        · exact g.elim
      · first | exact h.elim | (simp [Look.run] at h)
    | _ => exact h.elim
  · exact h.elim
end
end Go.Proofs.YtlfdelobjbdimaaDoor

namespace Go.Proofs.YtlfdelobjbdimaaDoor
open Go.RowKit
open Look (ret rd chk)

section
variable (P : Program)
def minL (o : Oper) (t1 t2 : TypeId) (x y : Operand) : Look (List (Nat × D)) := (rdV P t1 x).bind fun dx => (rdV P t2 y).bind fun dy => match dx, dy with
  | .v (.int k a), .v (.int k' b) => .chk (k == k') (putW o (.v (.int k (bif decide (b < a) then b else a))) [])
  | _, _ => .fail
def isU8 (e : TypeId) : Bool := match P.underlying e with
  | some (.int .u8) => true
  | _ => false
/-- A slice of bytes to its own type: its row gets a mark behind its cells. -/
def markL (o : Oper) (src dst : TypeId) (x : Operand) : Look (List (Nat × D)) := match x with
  | .tmp u => .rd u fun d => match P.underlying dst, d with
    | some (.slice e), .list true T (c :: es) => .chk (src == dst && T == e && isU8 P e && !(o.dst == some u)) (putW o (.list false T (c :: es)) [(u, .list false T (c :: es))])
    | _, _ => .fail
  | _ => .fail
def isStr (t : TypeId) : Bool := match P.underlying t with
  | some .string => true
  | _ => false
/-- A byte's number. -/
def byteN : List D → Option Int
  | [.v (.int .u8 n)] => some n
  | _ => none
/-- Bytes as a text. -/
def strOfD (es : List (List D)) : ByteArray := strOfNums (es.map fun c => (byteN c).getD 0)
def strL (o : Oper) (src dst : TypeId) (x : Operand) : Look (List (Nat × D)) := (rdV P src x).bind fun d => match P.underlying src, d with
  | some (.slice e), .list _ T es => .chk (T == e && isU8 P e && isStr P dst) (.chk (es.all fun c => (byteN c).isSome) (putW o (.v (.string (strOfD es))) []))
  | _, _ => .fail
/-- A text's bytes. -/
def bytesD (s : ByteArray) : List (List D) := s.data.toList.map fun b => [.v (.int .u8 ((b.toNat : Nat) : Int))]
def bytL (o : Oper) (src dst : TypeId) (x : Operand) : Look (List (Nat × D)) := (rdV P src x).bind fun d => match P.underlying dst, d with
  | some (.slice e), .v (.string s) => .chk (isU8 P e && isStr P src && decide (P.cellsOf e = 1)) (.chk (decide (s.size ≤ 1073741824)) (putW o (.list false e (bytesD s)) []))
  | _, _ => .fail
def isSl (t : TypeId) : Bool := match P.underlying t with
  | some (.slice _) => true
  | _ => false
/-- Conversions. -/
def convX (o : Oper) (src dst : TypeId) (x : Operand) : Look (List (Nat × D)) := bif isSl P src then (bif isSl P dst then markL P o src dst x else strL P o src dst x) else bif isSl P dst then bytL P o src dst x else convL P o src dst x
end

section
variable {P : Program} {orc : Orc} {E : Env} {A : List Nat} {role : Nat → Role} {a : Act} {w : World} {s : List D} {l : List Nat}
variable {K : List (Nat × D) → List Nat → Prop} {Q : Exit → Act → World → Prop}

theorem min_sim (hS : Sim P E A role a w s) {o : Oper} {x y : Operand} {t1 t2 : TypeId} (ho : o.op = .call { callee := .builtin .min, args := #[x, y], argTypes := #[t1, t2] })
    (h : (minL P o t1 t2 x y).run orc s l K) : Oper.wp P o a w (After P E A s K) Q := by
  unfold minL at h
  rw [run_bind] at h
  obtain ⟨d, l1, h, h2, h3, h4⟩ := rdV_sim hS h
  rw [run_bind] at h
  obtain ⟨d', l2, h, h2', h3', h4'⟩ := rdV_sim hS h
  match d, d', h, h4, h4' with
  | .v (.int k m), .v (.int k' n), h, h4, h4' =>
    obtain ⟨hk, h⟩ := h
    simp only [beq_iff_eq] at hk
    subst hk
    have e1 := h4.int
    have e2 := h4'.int
    have l1' : leafV (.int k m) = true := by
      rw [e1] at h4; cases h4 with | v h => exact h
    have l2' : leafV (.int k n) = true := by
      rw [e2] at h4'; cases h4' with | v h => exact h
    have hif : (if n < m then n else m) = bif decide (n < m) then n else m := by by_cases hc : n < m <;> simp [hc]
    refine pure_sim hS h (x := .int k (bif decide (n < m) then n else m)) ?_ (.v ?_) rfl
    · simp [execOp, ho, e1, e2, resolve, invoke, builtin, Builtin.min_, Builtin.min2, hif]
    · cases decide (n < m) <;> assumption

theorem freeze_at {g k : Nat} {cur : Array Value} {T : TypeId} (h : w.heap[g]? = some (.cells cur T (0, 0))) : (w.freeze ⟨g, k, none⟩ 1).heap[g]? = some (.cells cur T (k, k + 1)) := by
  simp [World.freeze, Array.getElem?_modify, h]
theorem freeze_other {g k b : Nat} (h : b ≠ g) : (w.freeze ⟨g, k, none⟩ 1).heap[b]? = w.heap[b]? := by
  simp [World.freeze, Array.getElem?_modify, Ne.symm h]
theorem freeze_size (g k : Nat) : (w.freeze ⟨g, k, none⟩ 1).heap.size = w.heap.size := by simp [World.freeze]
theorem freeze_cell {g k : Nat} {cur : Array Value} {T : TypeId} (h : w.heap[g]? = some (.cells cur T (0, 0))) (p : Addr) : (w.freeze ⟨g, k, none⟩ 1).cell? p = w.cell? p := by
  by_cases hb : p.block = g
  · simp only [World.cell?, hb, freeze_at h, h]
  · exact World.cell?_of_block (freeze_other hb)

theorem mark_sim (hS : Sim P E A role a w s) {o : Oper} {src dst : TypeId} {x : Operand} (ho : o.op = .convert src dst x) (h : (markL P o src dst x).run orc s l K) : Oper.wp P o a w (After P E A s K) Q := by
  unfold markL at h
  cases x with
  | tmp u =>
    simp only [Look.run] at h
    split at h
    · rename_i e T c es hu hg
      obtain ⟨hc, h⟩ := h
      simp only [Bool.and_eq_true, beq_iff_eq, Bool.not_eq_true', beq_eq_false_iff_ne] at hc
      obtain ⟨⟨⟨rfl, rfl⟩, h8⟩, hne⟩ := hc
      have hu8 : P.underlying T = some (.int .u8) := by
        unfold isU8 at h8; split at h8
        · assumption
        · cases h8
      obtain ⟨l', hno, hK⟩ := putW_sim h
      have hulen : u < s.length := by
        rcases Nat.lt_or_ge u s.length with h0 | h0
        · exact h0
        · rw [get_ge h0] at hg; cases hg
      have hro : RO P E role w (u, none) (a.eval (.tmp u)) (.list true T (c :: es)) := by
        have := RT.ro (hS.tm u) (by rw [hg]; rfl); rw [hg] at this; exact this
      rcases hro.2 T _ rfl with hnil | ⟨g, cap, cur, hv, hrole, hgE, hheap, hncap, hcm, hcs⟩
      · have := hro.1; rw [hnil] at this; cases this
      have hS1 := hS.stripTmp u
      rw [hg] at hS1
      have hrun : (execOp a.eval o).run P w = .ok (.value (.slice (some ⟨g, 0, none⟩) (c :: es).length cap)) (w.freeze ⟨g, cur.size, none⟩ 1) := by
        have hsh : w.shape? g = some (T, cur.size) := by simp [World.shape?, hheap]
        simp [execOp, ho, hv, convert, run_underlying hu, run_underlying hu8, markStringish, hsh]
      have evo : Evo role w role (w.freeze ⟨g, cur.size, none⟩ 1) := ⟨fun _ _ h => h, fun b n o hp ho => freeze_cell hheap _⟩
      have hkp : Kept role w role (w.freeze ⟨g, cur.size, none⟩ 1) (some g) :=
        ⟨evo, fun _ _ h => h, fun b t h hb => freeze_other (by simpa using hb), fun b lim p h hb => ⟨h, freeze_other (by simpa using hb)⟩⟩
      have hext : Exd E.w0 (w.freeze ⟨g, cur.size, none⟩ 1) :=
        hS.ext.trans' ⟨rfl, rfl, rfl, by rw [freeze_size]; exact Nat.le_refl _, fun k hk => freeze_other (by omega)⟩
      have hS2 : Sim P E A role a (w.freeze ⟨g, cur.size, none⟩ 1) (s.set u (D.list true T (c :: es)).strip) := by
        refine hS1.turn hext (fun k hk => rfl) (fun k hk => by rw [freeze_size]; exact hS.low k hk) hS.inj fun t => ?_
        by_cases ht : t = u
        · subst ht
          rw [get_set_self hulen]
          have := hS1.tm t
          rw [get_set_self hulen] at this
          exact RO.rt ⟨(RT.ro this rfl).1.evo evo, fun T' es' e => by simp [D.strip] at e⟩
        · exact (hS1.tm t).keep hkp (fun b e => by cases e; rw [hrole]; simp) (fun b lim i e => by cases e; rw [hrole]; simp; intro _ e; exact absurd e.symm ht)
      refine wp_value hrun ⟨_, l', role, hK, ?_⟩
      rw [apply_dst]
      cases hd : o.dst with
      | none => exact hS2
      | some t =>
        have htu : t ≠ u := fun e => hne (by rw [hd, e])
        have hfin := hS2.put (t := t) (x := .slice (some ⟨g, 0, none⟩) (c :: es).length cap) (d := .list false T (c :: es)) (RO.rt ⟨?_, fun T' es' e => by cases e⟩) (by rw [get_set, if_neg (fun e => htu e.1.symm)]; exact hno t hd) (fun u off e => by cases e) rfl
        · exact hfin
        · have := hro.1
          rw [hv] at this
          exact this.strip.evo evo
    · exact h.elim
  | const c => exact h.elim
  | func f => exact h.elim
  | global g => exact h.elim
theorem isU8_eq {e : TypeId} (h : isU8 P e = true) : P.underlying e = some (.int .u8) := by
  unfold isU8 at h; split at h
  · assumption
  · cases h
theorem isStr_eq {e : TypeId} (h : isStr P e = true) : P.underlying e = some .string := by
  unfold isStr at h; split at h
  · assumption
  · cases h
theorem byteN_eq {c : List D} (h : (byteN c).isSome = true) : c = [.v (.int .u8 ((byteN c).getD 0))] := by
  unfold byteN at h ⊢; split at h
  · rfl
  · cases h
theorem str_sim (hS : Sim P E A role a w s) {o : Oper} {src dst : TypeId} {x : Operand} (ho : o.op = .convert src dst x) (h : (strL P o src dst x).run orc s l K) : Oper.wp P o a w (After P E A s K) Q := by
  unfold strL at h
  rw [run_bind] at h
  obtain ⟨d, l1, h, h2, h3, h4⟩ := rdV_sim hS h
  split at h
  · rename_i e ow T es hu
    obtain ⟨hc, hb, h⟩ := h
    simp only [Bool.and_eq_true, beq_iff_eq] at hc
    obtain ⟨⟨rfl, h8⟩, hs⟩ := hc
    rw [List.all_eq_true] at hb
    have hu8 := isU8_eq h8
    have hst := isStr_eq hs
    refine pure_sim hS h (x := .string (strOfD es)) ?_ (.v rfl) rfl
    have key : (convert src dst (a.eval x)).run P w = .ok (.string (strOfD es)) w := by
      generalize a.eval x = v at h4
      cases h4 with
      | nil => exact run_convert_bytes_nil w src T hu hu8 0 0 dst hst
      | list f hl hcap hp hsz h1 hcell hr =>
        rename_i b off len cap
        refine run_convert_bytes_arg w src T hu hu8 b off len cap (es.map fun c => (byteN c).getD 0) (by simpa using hl) (fun i hi => ?_) dst hst
        have hi' : i < es.length := by omega
        have he : es[i]? = some es[i] := List.getElem?_eq_getElem hi'
        have hbt := byteN_eq (hb _ (List.getElem_mem hi'))
        have hT : P.cellsOf T = 1 := by
          have := hsz i _ he; rw [hbt] at this; simpa using this.symm
        have hk : es[i][0]? = some (.v (.int .u8 ((byteN es[i]).getD 0))) := by rw [hbt]; rfl
        have h5 := hcell i _ 0 _ he hk
        have h6 := hr i _ 0 _ he hk
        rw [hT, Nat.mul_one, Nat.add_zero] at h5
        rw [h5]
        cases h6e : f i 0 <;> rw [h6e] at h6 <;> cases h6
        rw [List.getD_eq_getElem?_getD, List.getElem?_map, he]; rfl
    simp [execOp, ho, key]
  · exact h.elim

/-- A new row, not ours to append to. -/
theorem newList_sim (hS : Sim P E A role a w s) {t n cap : Nat} {T : TypeId} {es : List (List D)} {cur : Array Value} {fz : Nat × Nat} {w' : World} (hsize : w'.heap.size = w.heap.size + 1) (hat : w'.heap[w.heap.size]? = some (.cells cur T fz)) (hbel : Below w.heap.size w w')
    (hl : es.length = n) (hcap : n ≤ cap) (hs : ∀ (i : Nat) (e : List D), es[i]? = some e → e.length = P.cellsOf T)
    (hc : ∀ (i : Nat) (e : List D) (k : Nat) (d : D), es[i]? = some e → e[k]? = some d → ∃ y, cur[i * P.cellsOf T + k]? = some y ∧ y.oneCell' = true ∧ Rd P role w y d)
    (hno : (get s t).isObj = false) : ∃ role', Sim P E A role' (a.put (some t) (.slice (some ⟨w.heap.size, 0, none⟩) n cap)) w' (s.set t (.list false T es)) := by
  have hlow := hS.low
  have ne : ∀ k, role k ≠ .none → k ≠ w.heap.size := fun k hk e => by have := hlow k hk; omega
  have evo : Evo role w (newRowR role w.heap.size (n * P.cellsOf T) (t, none)) w' := ⟨fun b n' hp => by
    obtain ⟨lim, ow, h1, h2⟩ := hp
    exact ⟨lim, ow, by rw [newRowR_ne (ne b (by rw [h1]; simp))]; exact h1, h2⟩, fun b n' o hp _ => by
    obtain ⟨lim, ow, h1, _⟩ := hp
    exact hbel.cell (p := ⟨b, o, none⟩) (hlow b (by rw [h1]; simp))⟩
  have hk : Kept role w (newRowR role w.heap.size (n * P.cellsOf T) (t, none)) w' none :=
    ⟨evo, fun b u h => by rw [newRowR_ne (ne b (by rw [h]; simp))]; exact h, fun b u h _ => hbel.block b (hlow b (by rw [h]; simp)),
      fun b lim p h _ => ⟨by rw [newRowR_ne (ne b (by rw [h]; simp))]; exact h, hbel.block b (hlow b (by rw [h]; simp))⟩⟩
  have hS' : Sim P E A (newRowR role w.heap.size (n * P.cellsOf T) (t, none)) a w' s := by
    refine hS.turn (hS.ext.trans hbel) (fun k hk => newRowR_ne (by have := hS.ext.size; omega)) (fun k hk => ?_) (fun b b' u hb hb' => ?_) fun u => (hS.tm u).keep hk (by simp) (by simp)
    · by_cases e : k = w.heap.size
      · omega
      · rw [newRowR_ne e] at hk; have := hlow k hk; omega
    · have f : ∀ b, newRowR role w.heap.size (n * P.cellsOf T) (t, none) b = .loc u → role b = .loc u := by
        intro b hb
        unfold newRowR at hb
        split at hb
        · cases hb
        · exact hb
      exact hS.inj b b' u (f b hb) (f b' hb')
  refine ⟨_, hS'.put (RO.rt ⟨?_, fun T' es' e => by cases e⟩) hno (fun u off e => by cases e) rfl⟩
  refine .list (fun i k => cur.getD (i * P.cellsOf T + k) undef) hl hcap (fun _ => ⟨n * P.cellsOf T, _, if_pos rfl, by omega⟩) hs (fun i e k d hi hk => ?_) (fun i e k d hi hk => ?_) (fun i e k d hi hk => ?_)
  all_goals obtain ⟨y, h1, h2, h3⟩ := hc i e k d hi hk
  · simp [h1, h2]
  · simp only [World.cell?, hat]; simp [h1]
  · have : cur.getD (i * P.cellsOf T + k) undef = y := by simp [h1]
    rw [this]; exact h3.evo evo
theorem byt_sim (hS : Sim P E A role a w s) {o : Oper} {src dst : TypeId} {x : Operand} (ho : o.op = .convert src dst x) (h : (bytL P o src dst x).run orc s l K) : Oper.wp P o a w (After P E A s K) Q := by
  unfold bytL at h
  rw [run_bind] at h
  obtain ⟨d, l1, h, h2, h3, h4⟩ := rdV_sim hS h
  split at h
  · rename_i e sv hu
    obtain ⟨hc, hb, h⟩ := h
    simp only [Bool.and_eq_true, decide_eq_true_eq] at hc hb
    obtain ⟨⟨h8, hs⟩, hT⟩ := hc
    have hu8 := isU8_eq h8
    have hst := isStr_eq hs
    obtain ⟨l', hno, hK⟩ := putW_sim h
    have hrun : (execOp a.eval o).run P w = .ok (.value (.slice (some ⟨w.heap.size, 0, none⟩) sv.size (grownCap w sv.size 0 e))) (Lib.bytesWorld w e sv) := by
      simp [execOp, ho, h4.string, Lib.run_convert_string_bytes w src dst e sv hst hu hu8]
    have hbel : Below w.heap.size w (Lib.bytesWorld w e sv) :=
      ⟨rfl, rfl, rfl, by rw [Lib.bytesWorld_size]; omega, fun k hk => Lib.bytesWorld_at_old w e sv k hk⟩
    cases hd : o.dst with
    | none =>
      refine wp_value hrun ⟨_, l', role, hK, ?_⟩
      rw [apply_dst, hd]
      have hk : Kept role w role (Lib.bytesWorld w e sv) none :=
        ⟨⟨fun _ _ h => h, fun b n o hp _ => hbel.cell (p := ⟨b, o, none⟩) (by obtain ⟨lim, ow, h1, _⟩ := hp; exact hS.low b (by rw [h1]; simp))⟩, fun _ _ h => h, fun b u h _ => hbel.block b (hS.low b (by rw [h]; simp)),
          fun b lim p h _ => ⟨h, hbel.block b (hS.low b (by rw [h]; simp))⟩⟩
      exact hS.turn (hS.ext.trans hbel) (fun k hk => rfl) (fun k hk => by have := hS.low k hk; rw [Lib.bytesWorld_size]; omega) hS.inj fun u => (hS.tm u).keep hk (by simp) (by simp)
    | some t =>
      obtain ⟨role', hfin⟩ := newList_sim (t := t) (n := sv.size) (cap := grownCap w sv.size 0 e) (T := e) (es := bytesD sv) hS (Lib.bytesWorld_size w e sv) (Lib.bytesWorld_at_new w e sv) hbel
        (by unfold bytesD; rw [List.length_map, Array.length_toList]; rfl) (grownCap_ge w sv.size 0 e) (fun i c hi => by
          rw [hT]
          unfold bytesD at hi
          rw [List.getElem?_map, Option.map_eq_some_iff] at hi
          obtain ⟨b, _, rfl⟩ := hi; rfl) (fun i c k d hi hk => by
          unfold bytesD at hi
          rw [List.getElem?_map, Option.map_eq_some_iff] at hi
          obtain ⟨b, hb, rfl⟩ := hi
          have hk0 : k = 0 := by
            have := (List.getElem?_eq_some_iff.1 hk).1
            simp at this; exact this
          subst hk0
          obtain rfl : D.v (.int .u8 ((b.toNat : Nat) : Int)) = d := by simpa using hk
          refine ⟨.int .u8 ((b.toNat : Nat) : Int), ?_, rfl, .v ?_⟩
          · rw [hT, Nat.mul_one, Nat.add_zero]
            have hlt := (List.getElem?_eq_some_iff.1 hb).1
            unfold Lib.bytesCells
            rw [Array.getElem?_append_left (by simpa using hlt), Array.getElem?_map, ← Array.getElem?_toList, hb]; rfl
          · have : b.toNat < 256 := b.toNat_lt
            show (false || (decide (0 ≤ ((b.toNat : Nat) : Int)) && decide (((b.toNat : Nat) : Int) < 256))) = true
            rw [Bool.false_or, Bool.and_eq_true, decide_eq_true_eq, decide_eq_true_eq]; omega) (hno t hd)
      refine wp_value hrun ⟨_, l', role', hK, ?_⟩
      rw [apply_dst, hd]
      exact hfin
  · exact h.elim
theorem convX_sim (hS : Sim P E A role a w s) {o : Oper} {src dst : TypeId} {x : Operand} (ho : o.op = .convert src dst x) (h : (convX P o src dst x).run orc s l K) : Oper.wp P o a w (After P E A s K) Q := by
  unfold convX at h
  cases hb : isSl P src with
  | true =>
    rw [hb] at h
    cases hb2 : isSl P dst with
    | true => rw [hb2] at h; exact mark_sim hS ho h
    | false => rw [hb2] at h; exact str_sim hS ho h
  | false =>
    rw [hb] at h
    cases hb2 : isSl P dst with
    | true => rw [hb2] at h; exact byt_sim hS ho h
    | false => rw [hb2] at h; exact conv_sim hS ho h
end
end Go.Proofs.YtlfdelobjbdimaaDoor
