/-
  Slices: cut, made of parts, appended to: each operation's step. No program in sight.
-/
import Derived.Test.YtnjhmlnmdnocmaaAbsL
namespace Go.Proofs.Ytnjhmlnmdnocmaa
set_option linter.unusedSimpArgs false
set_option linter.unusedVariables false
open Go.RowKit
open Look (ret rd chk)

section
variable {P : Program} {orc : Orc} {E : Env} {A : List Nat} {role : Nat → Role} {a : Act} {w : World} {s : List D} {l : List Nat}
variable {K : List (Nat × D) → List Nat → Prop} {Q : Exit → Act → World → Prop}

theorem rdBound_sim (hS : Sim P E A role a w s) {t : TypeId} {x : Option Operand} {K : Option Int → List Nat → Prop} (h : (rdBound P t x).run orc s l K) :
    ∃ n l', K n l' ∧ (x = none ∧ n = none ∨ ∃ y k m, x = some y ∧ n = some m ∧ a.eval y = .int k m) := by
  cases x with
  | none => exact ⟨none, l, h, .inl ⟨rfl, rfl⟩⟩
  | some y =>
    simp only [rdBound] at h
    rw [run_bind] at h
    obtain ⟨d, l1, h, h2, h3, h4⟩ := rdV_sim hS h
    split at h
    · exact ⟨_, _, h, .inr ⟨y, _, _, rfl, rfl, h4.int⟩⟩
    · exact h.elim

theorem run_sliceBounds {isSlice : Bool} {len cap : Nat} {lo hi : Option Operand} {l h : Option Int} (hl : lo = none ∧ l = none ∨ ∃ y k m, lo = some y ∧ l = some m ∧ a.eval y = .int k m)
    (hh : hi = none ∧ h = none ∨ ∃ y k m, hi = some y ∧ h = some m ∧ a.eval y = .int k m) (h0 : 0 ≤ l.getD 0) (h1 : l.getD 0 ≤ h.getD len) (h2 : h.getD len ≤ len) (hc : len ≤ cap) :
    (Instr.sliceBounds isSlice len cap (lo.map a.eval) (hi.map a.eval) none).run P w = .ok ((l.getD 0).toNat, (h.getD len).toNat, cap) w := by
  rcases hl with ⟨rfl, rfl⟩ | ⟨y, k, m, rfl, rfl, ey⟩ <;> rcases hh with ⟨rfl, rfl⟩ | ⟨z, k', m', rfl, rfl, ez⟩
  · simp [Instr.sliceBounds]
  · simp at h0 h1 h2
    have : m' ≤ (cap : Int) := by omega
    simp [Instr.sliceBounds, Instr.sliceBound, ez, asIntOf, this, h1]
  · simp at h0 h1 h2
    simp [Instr.sliceBounds, Instr.sliceBound, ey, asIntOf, h0, h1]
  · simp at h0 h1 h2
    have : m' ≤ (cap : Int) := by omega
    have h3 : (m : Int) ≤ (m'.toNat : Int) := by omega
    have h4 : 0 ≤ m' := by omega
    simp [Instr.sliceBounds, Instr.sliceBound, ey, ez, asIntOf, this, h0, h1, h3, h4]
    intro h5; omega

theorem slice_sim (hS : Sim P E A role a w s) {o : Oper} {t : TypeId} {x : Operand} {lo hi mx : Option Operand} (ho : o.op = .slice t x lo hi mx) (h : (sliceL P o t x lo hi mx).run orc s l K) : Oper.wp P o a w (After P E A s K) Q := by
  unfold sliceL at h
  cases mx with
  | some _ => exact h.elim
  | none =>
    simp only at h
    rw [run_bind] at h
    obtain ⟨d, l1, g1, h2, h3, h4⟩ := rdV_sim hS h
    clear h
    rw [run_bind] at g1
    obtain ⟨lv, l2, g2, hlv⟩ := rdBound_sim hS g1
    clear g1
    rw [run_bind] at g2
    obtain ⟨hv, l3, h, hhv⟩ := rdBound_sim hS g2
    clear g2
    split at h
    · rename_i sv hu
      obtain ⟨hc, h⟩ := h
      simp only [Bool.and_eq_true, decide_eq_true_eq] at hc
      have hb := run_sliceBounds (P := P) (w := w) (isSlice := false) hlv hhv hc.1.1 hc.1.2 hc.2 (Nat.le_refl _)
      refine pure_sim hS h (x := .string (sv.extract (lv.getD 0).toNat (hv.getD sv.size).toNat)) ?_ (.v rfl) rfl
      simp [execOp, ho, h4.string, Instr.sliceAt, Instr.slice, run_underlying hu, hb]
    · rename_i e ow T es hu
      obtain ⟨hc, h⟩ := h
      simp only [Bool.and_eq_true, decide_eq_true_eq, beq_iff_eq] at hc
      obtain ⟨⟨⟨⟨rfl, hi'⟩, c1⟩, c2⟩, c3⟩ := hc
      obtain ⟨inf, hinf⟩ := Option.isSome_iff_exists.1 hi'
      have hsz := run_sizeOf' (P := P) (w := w) hinf
      generalize hx : a.eval x = v at h4
      cases h4 with
      | nil =>
        simp only [List.length_nil] at c2 c3 h
        have e1 : lv.getD 0 = 0 := by omega
        have e2 : hv.getD (0 : Nat) = 0 := by omega
        have hb := run_sliceBounds (P := P) (w := w) (isSlice := true) (len := 0) (cap := 0) hlv hhv c1 c2 c3 (Nat.le_refl _)
        rw [e1, e2] at hb
        refine pure_sim hS h (x := .slice none 0 0) ?_ ?_ rfl
        · simp [execOp, ho, hx, Instr.sliceAt, Instr.slice, run_underlying hu, hb, hsz]
        · simp; exact .nil
      | list f hl hcap hp hs h1 hcell hr =>
        rename_i b off len cap
        subst hl
        have hb := run_sliceBounds (P := P) (w := w) (isSlice := true) hlv hhv c1 c2 c3 hcap
        generalize hlo : (lv.getD 0).toNat = L at *
        generalize hhi : (hv.getD es.length).toNat = H at *
        have hLH : L ≤ H := by omega
        have hHn : H ≤ es.length := by omega
        have hget : ∀ i e, ((es.take H).drop L)[i]? = some e → es[L + i]? = some e ∧ L + i < H := fun i e hi => by
          rw [List.getElem?_drop, List.getElem?_take] at hi
          split at hi
          · exact ⟨hi, by assumption⟩
          · cases hi
        have hrun : (execOp a.eval o).run P w = .ok (.value (.slice (some (if cap = L then ⟨b, off, none⟩ else ⟨b, off + L * P.cellsOf T, none⟩)) (H - L) (cap - L))) w := by
          by_cases hcl : cap = L
          · subst hcl; simp [execOp, ho, hx, Instr.sliceAt, Instr.slice, run_underlying hu, hb, hsz]
          · simp [execOp, ho, hx, Instr.sliceAt, Instr.slice, run_underlying hu, hb, hsz, hcl, Addr.add_lit']
        refine pure_sim hS h hrun ?_ rfl
        by_cases hcl : cap = L
        · rw [if_pos hcl]
          have hnil : (es.take H).drop L = [] := by
            apply List.eq_nil_of_length_eq_zero; simp; omega
          rw [hnil]
          refine .list (fun _ _ => undef) (by simp; omega) (by omega) (fun h0 => by omega) ?_ ?_ ?_ ?_ <;> simp
        · rw [if_neg hcl]
          refine .list (fun i k => f (L + i) k) (by simp; omega) (by omega) (fun h0 => ?_) (fun i e hi => hs _ e (hget i e hi).1) (fun i e k d hi => h1 _ e k d (hget i e hi).1) (fun i e k d hi hk => ?_) (fun i e k d hi => hr _ e k d (hget i e hi).1)
          · obtain ⟨lim, ow', e1, e2⟩ := hp (by omega)
            refine ⟨lim, ow', e1, ?_⟩
            have : L * P.cellsOf T + (H - L) * P.cellsOf T ≤ es.length * P.cellsOf T := by rw [← Nat.add_mul]; exact Nat.mul_le_mul_right _ (by omega)
            omega
          · have := hcell (L + i) e k d (hget i e hi).1 hk
            rw [Nat.add_mul] at this
            rw [show off + L * P.cellsOf T + i * P.cellsOf T + k = off + (L * P.cellsOf T + i * P.cellsOf T) + k by omega]
            exact this
    · exact h.elim

/-- A new block is a row of ours. -/
def newRowR (role : Nat → Role) (H lim : Nat) (p : Nat × Option Nat) : Nat → Role := fun k => if k = H then .row lim (some p) else role k
theorem newRowR_ne {role : Nat → Role} {H lim k : Nat} {p : Nat × Option Nat} (h : k ≠ H) : newRowR role H lim p k = role k := if_neg h

theorem newRow_sim (hS : Sim P E A role a w s) {t n cap : Nat} {T : TypeId} {es : List (List D)} {cur : Array Value} {w' : World} (hheap : w'.heap = w.heap.push (.cells cur T (0, 0))) (hbel : Below w.heap.size w w')
    (hl : es.length = n) (hcap : n ≤ cap) (hm : cap ≤ maxLen) (hsz : cur.size = cap * P.cellsOf T) (hs : ∀ (i : Nat) (e : List D), es[i]? = some e → e.length = P.cellsOf T)
    (hc : ∀ (i : Nat) (e : List D) (k : Nat) (d : D), es[i]? = some e → e[k]? = some d → ∃ y, cur[i * P.cellsOf T + k]? = some y ∧ y.oneCell' = true ∧ Rd P role w y d)
    (hno : (get s t).isObj = false) : ∃ role', Sim P E A role' (a.put (some t) (.slice (some ⟨w.heap.size, 0, none⟩) n cap)) w' (s.set t (.list true T es)) := by
  have hlow := hS.low
  have hsize : w'.heap.size = w.heap.size + 1 := by rw [hheap]; simp
  have hat : w'.heap[w.heap.size]? = some (.cells cur T (0, 0)) := by rw [hheap]; simp
  have ne : ∀ k, role k ≠ .none → k ≠ w.heap.size := fun k hk e => by have := hlow k hk; omega
  have evo : Evo role w (newRowR role w.heap.size (n * P.cellsOf T) (t, none)) w' := ⟨fun b n' hp => by
    obtain ⟨lim, ow, h1, h2⟩ := hp
    exact ⟨lim, ow, by rw [newRowR_ne (ne b (by rw [h1]; simp))]; exact h1, h2⟩, fun b n' o hp _ => by
    obtain ⟨lim, ow, h1, _⟩ := hp
    exact hbel.cell (p := ⟨b, o, none⟩) (hlow b (by rw [h1]; simp))⟩
  have hk : Kept role w (newRowR role w.heap.size (n * P.cellsOf T) (t, none)) w' none :=
    ⟨evo, fun b u h => by rw [newRowR_ne (ne b (by rw [h]; simp))]; exact h, fun b u h _ => hbel.block b (hlow b (by rw [h]; simp)),
      fun b lim p h _ => ⟨by rw [newRowR_ne (ne b (by rw [h]; simp))]; exact h, hbel.block b (hlow b (by rw [h]; simp))⟩⟩
  have hS' : Sim P E A (newRowR role w.heap.size (n * P.cellsOf T) (t, none)) a w' s := by
    refine hS.turn (hS.ext.trans hbel) (fun k hk => newRowR_ne (by have := hS.ext.size; omega)) (fun k hk => ?_) (fun b b' u hb hb' => ?_) fun u => (hS.tm u).keep hk (by simp) (by simp)
    · by_cases e : k = w.heap.size
      · omega
      · rw [newRowR_ne e] at hk; have := hlow k hk; omega
    · have f : ∀ b, newRowR role w.heap.size (n * P.cellsOf T) (t, none) b = .loc u → role b = .loc u := by
        intro b hb
        unfold newRowR at hb
        split at hb
        · cases hb
        · exact hb
      exact hS.inj b b' u (f b hb) (f b' hb')
  refine ⟨_, hS'.put (RO.rt ⟨?_, fun T' es' e => ?_⟩) hno (fun u off e => by cases e) rfl⟩
  · refine .list (fun i k => cur.getD (i * P.cellsOf T + k) undef) hl hcap (fun _ => ⟨n * P.cellsOf T, _, if_pos rfl, by omega⟩) hs (fun i e k d hi hk => ?_) (fun i e k d hi hk => ?_) (fun i e k d hi hk => ?_)
    all_goals obtain ⟨y, h1, h2, h3⟩ := hc i e k d hi hk
    · simp [h1, h2]
    · simp only [World.cell?, hat]; simp [h1]
    · have : cur.getD (i * P.cellsOf T + k) undef = y := by simp [h1]
      rw [this]; exact h3.evo evo
  · cases e
    rw [hl]
    exact .inr ⟨w.heap.size, cap, cur, rfl, if_pos rfl, hS.ext.size, hat, hcap, hm, hsz⟩

theorem flatten_replicate_get {α : Type} (L : List α) (hL : 0 < L.length) : ∀ (n i : Nat), i < n * L.length → (List.replicate n L).flatten[i]? = L[i % L.length]?
  | 0, i, h => by omega
  | n + 1, i, h => by
    rw [List.replicate_succ, List.flatten_cons, List.getElem?_append]
    rw [Nat.add_mul] at h
    split
    · rename_i h1; rw [Nat.mod_eq_of_lt h1]
    · rename_i h1
      rw [flatten_replicate_get L hL n (i - L.length) (by omega)]
      have h2 := Nat.mod_eq_sub_mod (a := i) (b := L.length) (by omega)
      rw [h2]

theorem chunks_get (c : Nat) : ∀ (n : Nat) (cs : List D) (i : Nat) (e : List D), cs.length = n * c → (chunks c n cs)[i]? = some e → i < n ∧ e.length = c ∧ ∀ k d, e[k]? = some d → cs[i * c + k]? = some d
  | 0, cs, i, e, _, h => by simp [chunks] at h
  | n + 1, cs, i, e, hl, h => by
    rw [Nat.add_mul] at hl
    simp only [chunks] at h
    cases i with
    | zero =>
      simp at h; subst h
      refine ⟨by omega, by simp; omega, fun k d hk => ?_⟩
      rw [List.getElem?_take] at hk
      split at hk
      · simpa using hk
      · cases hk
    | succ i =>
      simp at h
      obtain ⟨h1, h2, h3⟩ := chunks_get c n (cs.drop c) i e (by simp; omega) h
      refine ⟨by omega, h2, fun k d hk => ?_⟩
      have := h3 k d hk
      rw [List.getElem?_drop] at this
      rw [Nat.add_mul, show i * c + 1 * c + k = c + (i * c + k) by omega]; exact this
theorem chunks_length (c : Nat) : ∀ (n : Nat) (cs : List D), (chunks c n cs).length = n
  | 0, _ => rfl
  | n + 1, cs => by simp [chunks, chunks_length c n]

theorem buildSlice_sim (hS : Sim P E A role a w s) {o : Oper} {t : TypeId} {len : Nat} {parts : Array (Nat × Operand)} (ho : o.op = .buildSlice t len parts) (h : (buildSliceL P o t len parts).run orc s l K) : Oper.wp P o a w (After P E A s K) Q := by
  unfold buildSliceL at h
  split at h
  · rename_i e hu
    split at h
    · rename_i z hz
      obtain ⟨hc, h⟩ := h
      simp only [Bool.and_eq_true, decide_eq_true_eq] at hc
      obtain ⟨⟨⟨hi, hzl⟩, hpos⟩, hsmall⟩ := hc
      obtain ⟨it, v, hi', hzv, hcr⟩ := zeroCells_sim (role := role) (w := w) hz
      rw [run_bind] at h
      obtain ⟨ds, l1, h, hlen, hds⟩ := rdParts_sim hS _ _ _ h
      split at h
      · rename_i cs hcs
        split at h
        · exact h.elim
        · rename_i td htd
          obtain ⟨hno, hK⟩ := h
          have hno : (get s td).isObj = false := by simpa using hno
          have hcell := cellsOf_info hi'
          have hvs : v.cells.size = P.cellsOf e := by have := hcr.1; simp at this; omega
          -- the cells at first
          have hcr0 : CR P role w (if len * it.size = 0 then #[] else (Array.range (len * it.size)).map (v.cells[· % v.cells.size]!)) ((List.replicate len (z.map D.strip)).flatten) := by
            have hzl' : (z.map D.strip).length = P.cellsOf e := by simp [hzl]
            have hlenf : ((List.replicate len (z.map D.strip)).flatten).length = len * P.cellsOf e := by simp [hzl]
            by_cases h0 : len * it.size = 0
            · rw [if_pos h0]
              have : len = 0 := by
                rcases Nat.eq_zero_or_pos len with h | h
                · exact h
                · have := Nat.mul_pos h (hcell ▸ hpos); omega
              subst this
              exact ⟨by simp, fun i y d hy => by simp at hy⟩
            · rw [if_neg h0]
              refine ⟨by rw [hlenf]; simp [hcell], fun i y d hy hd => ?_⟩
              have hilt := (List.getElem?_eq_some_iff.1 hd).1
              rw [hlenf] at hilt
              rw [flatten_replicate_get _ (by rw [hzl']; exact hpos) len i (by rw [hzl']; exact hilt), hzl'] at hd
              have hm : i % P.cellsOf e < P.cellsOf e := Nat.mod_lt _ hpos
              refine hcr.2 (i % P.cellsOf e) y d ?_ hd
              simp only [Array.getElem?_map, Option.map_eq_some_iff] at hy
              obtain ⟨j, hj, rfl⟩ := hy
              have hj' := (Array.getElem?_eq_some_iff.1 hj).2
              simp at hj'
              subst hj'
              rw [hvs]
              have : i % P.cellsOf e < v.cells.size := by omega
              simp [this]
          obtain ⟨cells, e1, e2⟩ := fill_sim ds _ _ _ cs hcr0 hcs hlen hds
          have hcslen : cells.size = len * P.cellsOf e := by
            have : ∀ (ps : List (Nat × D)) (c0 c1 : List D), fillD (fun i => some (i * P.cellsOf e, P.cellsOf e)) c0 ps = some c1 → c1.length = c0.length := by
              intro ps
              induction ps with
              | nil => intro c0 c1 h; simp only [fillD] at h; cases h; rfl
              | cons p ps ih =>
                obtain ⟨i, d⟩ := p
                intro c0 c1 h
                simp only [fillD] at h
                split at h
                · rename_i hc
                  simp only [Bool.and_eq_true, decide_eq_true_eq] at hc
                  rw [ih _ _ h]
                  simp only [setCells, List.length_append, List.length_take, List.length_drop]; omega
                · cases h
            have h2 := this _ _ _ hcs
            have h3 := e2.1
            simp [hzl] at h2
            omega
          have hrun : (Instr.buildSlice t len (parts.map fun (i, x) => (i, a.eval x))).run P w = .ok (.slice (some ⟨w.heap.size, 0, none⟩) len len) (w.alloc (.cells cells e)) := by
            have e1' : Instr.fill (fun i => some (i * it.size, it.size)) (if len * it.size = 0 then #[] else (Array.range (len * it.size)).map (v.cells[· % v.cells.size]!)) (parts.map fun (i, x) => (i, a.eval x)).toList = some cells := by
              rw [← hcell]; rw [← hcell] at e1; simpa using e1
            have hns : ¬ len * it.size > 2 ^ 24 := by rw [← hcell]; omega
            by_cases h0 : len * it.size = 0
            · rw [if_pos h0] at e1'
              have e3 : (List.map (fun x => (x.fst, a.eval x.snd)) parts.toList) = (parts.map fun (i, x) => (i, a.eval x)).toList := by simp
              simp [Instr.buildSlice, run_underlying hu, sizeOf, typeInfo, hi', h0]
              rw [show (Array.map (fun (_ : Nat) => (default : Value)) (Array.range 0)) = #[] from by rw [Array.range_zero', Array.map_empty], e3, e1']
              simp [newRow]
            · rw [if_neg h0] at e1'
              exact run_buildSlice w t e len _ cells it v hu hi' hzv hns h0 e1'
          obtain ⟨role', hh⟩ := newRow_sim (t := td) (n := len) (cap := len) (T := e) (es := chunks (P.cellsOf e) len cs) (cur := cells) (w' := w.alloc (.cells cells e)) hS rfl ((Exd.refl w).al)
            (chunks_length _ _ _) (Nat.le_refl _) (by
              have : len * 1 ≤ len * P.cellsOf e := Nat.mul_le_mul_left _ hpos
              simp only [maxLen]; omega) hcslen
            (fun i e' hi => (chunks_get _ _ _ i e' (by have := e2.1; omega) hi).2.1)
            (fun i e' k d hi hk => by
              have h3 := (chunks_get _ _ _ i e' (by have := e2.1; omega) hi).2.2 k d hk
              have hlt := (List.getElem?_eq_some_iff.1 h3).1
              have hlt' : i * P.cellsOf e + k < cells.size := by have := e2.1; omega
              exact ⟨cells[i * P.cellsOf e + k], by simp [hlt'], e2.2 _ _ d (by simp [hlt']) h3⟩) hno
          refine wp_value (v := .slice (some ⟨w.heap.size, 0, none⟩) len len) (w' := w.alloc (.cells cells e)) ?_ ⟨_, _, role', hK, ?_⟩
          · simp [execOp, ho, hrun]
          · rw [htd]; exact hh
      · exact h.elim
    · exact h.elim
  · exact h.elim
end
end Go.Proofs.Ytnjhmlnmdnocmaa
