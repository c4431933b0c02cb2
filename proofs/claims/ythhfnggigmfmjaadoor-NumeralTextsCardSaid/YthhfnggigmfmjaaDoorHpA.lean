/-
  Values that may hold addresses, and the memory behind them, as a walk knows them. No program in sight. What an operation looks at, and what it comes to, where values may hold addresses; operations on values without any. No program in sight. Operations on variables and on addresses: new ones, loads, stores, where values may hold addresses. No program in sight. Stores, addresses within variables and rows, where values may hold addresses. No program in sight.
-/
import Derived.Test.YthhfnggigmfmjaaDoorAbsO
set_option linter.unusedSimpArgs false
set_option linter.unusedVariables false
set_option linter.unusedSimpArgs false
set_option linter.unusedVariables false
namespace Go.Proofs.YthhfnggigmfmjaaDoor.Hp
set_option linter.unusedSimpArgs false
set_option linter.unusedVariables false
open Go.RowKit

/-- What is known of a value: nothing; (of a slot) it is no more; a value without an address of ours; a nil slice; a pointer into a slot, or to a cell of an element of a slot's row; a slice of a slot's row; an interface's; a function with what it captured; a map; a struct's or an array's cells; results. What is known of a slot: a variable's cells; a row's elements, of which some first ones stay as they are. -/
inductive M where
  | undef
  | dead
  | d (d : D)
  | nil (T : TypeId)
  | ref (k off : Nat)
  | el (T : TypeId) (k i j : Nat)
  | sl (T : TypeId) (k off len : Nat)
  | ifc (t : TypeId) (m : M)
  | clo (f : Nat) (cs : List M)
  | mp (k : Nat)
  | agg (cs : List M)
  | tup (cs : List M)
  | var (T : TypeId) (cs : List M)
  | row (T : TypeId) (lim : Nat) (es : List (List D))
  deriving Inhabited

def get (s : List M) (t : Nat) : M := s.getD t .undef
theorem get_set_self {s : List M} {t : Nat} {d : M} (h : t < s.length) : get (s.set t d) t = d := by simp [get, h]
theorem get_set_ne {s : List M} {t u : Nat} {d : M} (h : t ≠ u) : get (s.set t d) u = get s u := by
  simp [get, List.getElem?_set_ne h]
theorem get_ge {s : List M} {t : Nat} (h : s.length ≤ t) : get s t = .undef := by simp [get, h]
theorem get_set {s : List M} {t u : Nat} {d : M} : get (s.set t d) u = if t = u ∧ t < s.length then d else get s u := by
  by_cases h : t = u
  · subst h
    by_cases hl : t < s.length
    · simp [get_set_self hl, hl]
    · rw [List.set_eq_of_length_le (by omega)]; simp [hl]
  · rw [get_set_ne h]; simp [h]
theorem lt_of_get {s : List M} {t : Nat} (h : get s t ≠ .undef) : t < s.length := by
  rcases Nat.lt_or_ge t s.length with h0 | h0
  · exact h0
  · exact absurd (get_ge h0) h

/-- Where a slot's cells are: a block, the first cell, how many cells the block has. -/
structure Loc where
  b : Nat
  o : Nat
  n : Nat
abbrev Bet := Nat → Option Loc
def upd (β : Bet) (k : Nat) (l : Loc) : Bet := fun j => if j = k then some l else β j

def M.isCell : M → Bool
  | .d x => x.isCell
  | .nil _ | .ref .. | .el .. | .sl .. | .ifc .. | .clo .. | .mp _ => true
  | _ => false
def M.isVal : M → Bool
  | .undef | .dead | .var .. | .row .. => false
  | .d x => x.isVal
  | _ => true
def M.alive : M → Bool
  | .var .. | .row .. => true
  | _ => false

/-- How a value reads. -/
inductive Rm (P : Program) (role : Nat → Role) (β : Bet) (w : World) : Value → M → Prop
  | undef {x : Value} : Rm P role β w x .undef
  | d {x : Value} {d : D} (h : Rd P role w x d) (hs : d.strip = d) : Rm P role β w x (.d d)
  | nil {T : TypeId} : Rm P role β w (.slice none 0 0) (.nil T)
  | ref {k off : Nat} {l : Loc} (h : β k = some l) : Rm P role β w (.pointer (some ⟨l.b, l.o + off, none⟩)) (.ref k off)
  | el {T k i j : Nat} {l : Loc} (h : β k = some l) : Rm P role β w (.pointer (some ⟨l.b, l.o + i * P.cellsOf T + j, none⟩)) (.el T k i j)
  | sl {T k off len cap : Nat} {l : Loc} {a : Option Addr} (h : β k = some l) (hc : len ≤ cap) (hn : l.o + (off + cap) * P.cellsOf T ≤ l.n) (ha : 0 < cap → a = some ⟨l.b, l.o + off * P.cellsOf T, none⟩) (hp : ∀ ad, a = some ad → ad.spot = none) : Rm P role β w (.slice a len cap) (.sl T k off len)
  | ifc {t : TypeId} {x : Value} {m : M} (h : Rm P role β w x m) (hv : m.isVal = true) : Rm P role β w (.iface t x) (.ifc t m)
  | clo {f : Nat} {vs : Array Value} {cs : List M} (hl : vs.size = cs.length) (hv : ∀ m ∈ cs, m.isVal = true) (h : ∀ (i : Nat) (x : Value) (m : M), vs[i]? = some x → cs[i]? = some m → Rm P role β w x m) : Rm P role β w (.func (.func f) #[] vs) (.clo f cs)
  | mp {k : Nat} {l : Loc} (h : β k = some l) : Rm P role β w (.map (some l.b)) (.mp k)
  | agg {vs : Array Value} {cs : List M} (hl : vs.size = cs.length) (h1 : ∀ (i : Nat) (x : Value), vs[i]? = some x → x.oneCell' = true) (h : ∀ (i : Nat) (x : Value) (m : M), vs[i]? = some x → cs[i]? = some m → Rm P role β w x m) : Rm P role β w (.agg vs) (.agg cs)
  | tup {vs : Array Value} {cs : List M} (hl : vs.size = cs.length) (h : ∀ (i : Nat) (x : Value) (m : M), vs[i]? = some x → cs[i]? = some m → Rm P role β w x m) : Rm P role β w (.tuple vs) (.tup cs)

/-- What stays, stays. -/
structure Ev (role : Nat → Role) (β : Bet) (w : World) (role' : Nat → Role) (β' : Bet) (w' : World) : Prop where
  evo : Evo role w role' w'
  bet : ∀ k l, β k = some l → β' k = some l
theorem Ev.refl (role : Nat → Role) (β : Bet) (w : World) : Ev role β w role β w := ⟨Evo.refl _ _, fun _ _ h => h⟩
theorem Ev.trans {r1 r2 r3 : Nat → Role} {β1 β2 β3 : Bet} {a b c : World} (h : Ev r1 β1 a r2 β2 b) (k : Ev r2 β2 b r3 β3 c) : Ev r1 β1 a r3 β3 c :=
  ⟨h.evo.trans k.evo, fun i l hi => k.bet i l (h.bet i l hi)⟩

section
variable {P : Program} {role role' : Nat → Role} {β β' : Bet} {w w' : World}
theorem Rm.ev {x : Value} {m : M} (h : Rm P role β w x m) (e : Ev role β w role' β' w') : Rm P role' β' w' x m := by
  induction h with
  | undef => exact .undef
  | d h hs => exact .d (h.evo e.evo) hs
  | nil => exact .nil
  | ref h => exact .ref (e.bet _ _ h)
  | el h => exact .el (e.bet _ _ h)
  | sl h hc hn ha hp => exact .sl (e.bet _ _ h) hc hn ha hp
  | ifc _ hv ih => exact .ifc ih hv
  | clo hl hv _ ih => exact .clo hl hv ih
  | mp h => exact .mp (e.bet _ _ h)
  | agg hl h1 _ ih => exact .agg hl h1 ih
  | tup hl _ ih => exact .tup hl ih
theorem Rm.one {x : Value} {m : M} (h : Rm P role β w x m) (hc : m.isCell = true) : x.oneCell' = true := by
  cases h with
  | d h hs => exact h.one hc
  | undef => cases hc
  | agg => cases hc
  | tup => cases hc
  | _ => rfl

/-- What a slot's block holds. -/
def SO (P : Program) (role : Nat → Role) (β : Bet) (w : World) (k : Nat) : M → Prop
  | .undef => β k = none
  | .dead => True
  | .var T cs => ∃ l vs, β k = some l ∧ l.o = 0 ∧ l.n = cs.length ∧ w.heap[l.b]? = some (.cells vs T (0, 0)) ∧ vs.size = cs.length ∧ role l.b = .none ∧
      ∀ (i : Nat) (y : Value) (m : M), vs[i]? = some y → cs[i]? = some m → y.oneCell' = true ∧ Rm P role β w y m
  | .row T lim es => ∃ l cur fz, β k = some l ∧ w.heap[l.b]? = some (.cells cur T fz) ∧ (∀ i, i < cur.size → ¬ (fz.1 ≤ i ∧ i < fz.2)) ∧ cur.size = l.n ∧ l.o + es.length * P.cellsOf T ≤ l.n ∧ lim ≤ es.length ∧
      (∀ n, pubAt role l.b n → n ≤ l.o + lim * P.cellsOf T) ∧ (∀ (i : Nat) (e : List D), es[i]? = some e → e.length = P.cellsOf T) ∧
      ∀ (i : Nat) (e : List D) (j : Nat) (d : D), es[i]? = some e → e[j]? = some d → ∃ y, cur[l.o + i * P.cellsOf T + j]? = some y ∧ y.oneCell' = true ∧ Rd P role w y d
  | _ => False

theorem SO.bet {k : Nat} {m : M} (h : SO P role β w k m) (ha : m.alive = true) : ∃ l, β k = some l := by
  cases m <;> try (cases ha; done)
  · obtain ⟨l, _, h, _⟩ := h; exact ⟨l, h⟩
  · obtain ⟨l, _, _, h, _⟩ := h; exact ⟨l, h⟩
/-- A slot whose block is not touched. -/
theorem SO.ev {k : Nat} {m : M} (h : SO P role β w k m) (e : Ev role β w role' β' w') (hu : m = .undef → β' k = none)
    (hb : ∀ l, m.alive = true → β k = some l → w'.heap[l.b]? = w.heap[l.b]? ∧ role' l.b = role l.b) : SO P role' β' w' k m := by
  cases m <;> try (exact h)
  · exact hu rfl
  · obtain ⟨l, vs, h1, h2, h3, h4, h5, h6, h7⟩ := h
    obtain ⟨e1, e2⟩ := hb l rfl h1
    exact ⟨l, vs, e.bet _ _ h1, h2, h3, e1.trans h4, h5, e2.trans h6, fun i y m hy hm => ⟨(h7 i y m hy hm).1, (h7 i y m hy hm).2.ev e⟩⟩
  · obtain ⟨l, cur, fz, h1, h2, h3, h4, h5, h6, h7, h8, h9⟩ := h
    obtain ⟨e1, e2⟩ := hb l rfl h1
    refine ⟨l, cur, fz, e.bet _ _ h1, e1.trans h2, h3, h4, h5, h6, fun n hn => h7 n ?_, h8, fun i e' j d hi hj => ?_⟩
    · obtain ⟨lim, ow, q1, q2⟩ := hn; exact ⟨lim, ow, e2.symm.trans q1, q2⟩
    · obtain ⟨y, q1, q2, q3⟩ := h9 i e' j d hi hj
      exact ⟨y, q1, q2, q3.evo e.evo⟩
end

/-- Where a call began: its world; what the blocks were; how many slots it was given, and where they are. -/
structure Env where
  w0 : World
  r0 : Nat → Role
  n : Nat
  β0 : Bet
/-- A block of a slot that was given. -/
def Env.lent (E : Env) (b : Nat) : Prop := ∃ j l, j < E.n ∧ E.β0 j = some l ∧ l.b = b

/-- A frame (temporaries, then slots) and the world against what is known of them. -/
structure Sim (P : Program) (E : Env) (N H : Nat) (role : Nat → Role) (β : Bet) (a : Act) (w : World) (s : List M) : Prop where
  ext : Below 0 E.w0 w
  frame : ∀ b, b < E.w0.heap.size → ¬ E.lent b → w.heap[b]? = E.w0.heap[b]?
  keep : ∀ b n o, pubAt E.r0 b n → o < n → w.cell? ⟨b, o, none⟩ = E.w0.cell? ⟨b, o, none⟩
  pub0 : ∀ b n, pubAt E.r0 b n → pubAt role b n
  mask : ∀ k, (∀ t, role k ≠ .loc t) ∧ ∀ lim p, role k ≠ .row lim (some p)
  roleF : ∀ b, b < E.w0.heap.size → ¬ E.lent b → role b = E.r0 b
  low : ∀ k, role k ≠ .none → k < w.heap.size
  lowB : ∀ k l, β k = some l → l.b < w.heap.size
  bet0 : ∀ k l, E.β0 k = some l → β k = some l
  new : ∀ k l, β k = some l → E.w0.heap.size ≤ l.b ∨ E.lent l.b
  inj : ∀ k k' l l', (get s (N + k)).alive = true → (get s (N + k')).alive = true → β k = some l → β k' = some l' → l.b = l'.b → k = k'
  defers : a.defers = []
  size : a.tmps.size = N
  len : s.length = N + H
  tm : ∀ t, t < N → Rm P role β w (a.tmps.getD t undef) (get s t)
  so : ∀ k, SO P role β w k (get s (N + k))

section
variable {P : Program} {E : Env} {N H : Nat} {role role' : Nat → Role} {β β' : Bet} {a : Act} {w w' : World} {s s' : List M}

/-- The world turns, and slots with it. -/
theorem Sim.turn (h : Sim P E N H role β a w s) (hx : Below 0 w w') (ev : Ev role β w role' β' w') (hmask : ∀ k, (∀ t, role' k ≠ .loc t) ∧ ∀ lim p, role' k ≠ .row lim (some p)) (hlow : ∀ k, role' k ≠ .none → k < w'.heap.size)
    (hlowB : ∀ k l, β' k = some l → l.b < w'.heap.size) (hnew : ∀ k l, β' k = some l → E.w0.heap.size ≤ l.b ∨ E.lent l.b)
    (hfr : ∀ b, b < E.w0.heap.size → ¬ E.lent b → w'.heap[b]? = w.heap[b]? ∧ role' b = role b) (hlen : s'.length = N + H) (htm : ∀ t, t < N → get s' t = get s t)
    (hinj : ∀ k k' l l', (get s' (N + k)).alive = true → (get s' (N + k')).alive = true → β' k = some l → β' k' = some l' → l.b = l'.b → k = k') (hso : ∀ k, SO P role' β' w' k (get s' (N + k))) : Sim P E N H role' β' a w' s' where
  ext := h.ext.trans hx
  frame b hb hl := (hfr b hb hl).1.trans (h.frame b hb hl)
  keep b n o hp ho := (ev.evo.cell b n o (h.pub0 b n hp) ho).trans (h.keep b n o hp ho)
  pub0 b n hp := ev.evo.pub b n (h.pub0 b n hp)
  mask := hmask
  roleF b hb hl := (hfr b hb hl).2.trans (h.roleF b hb hl)
  low := hlow
  lowB := hlowB
  bet0 k l hk := ev.bet k l (h.bet0 k l hk)
  new := hnew
  inj := hinj
  defers := h.defers
  size := h.size
  len := hlen
  tm t ht := by rw [htm t ht]; exact (h.tm t ht).ev ev
  so := hso

/-- A temporary gets a value; the world is as it was. -/
theorem Sim.put (h : Sim P E N H role β a w s) {t : Nat} {x : Value} {m : M} (ht : t < N) (hm : Rm P role β w x m) : Sim P E N H role β (a.put (some t) x) w (s.set t m) where
  ext := h.ext
  frame := h.frame
  keep := h.keep
  pub0 := h.pub0
  mask := h.mask
  roleF := h.roleF
  low := h.low
  lowB := h.lowB
  bet0 := h.bet0
  new := h.new
  inj k k' l l' hk hk' := by
    rw [get_set_ne (by omega)] at hk hk'; exact h.inj k k' l l' hk hk'
  defers := h.defers
  size := by simp [Act.put, h.size]
  len := by simp [h.len]
  tm u hu := by
    show Rm P role β w ((a.tmps.setIfInBounds t x).getD u Go.undef) _
    rw [getD_set, get_set, h.size]
    have := h.len
    by_cases e : t = u
    · subst e; rw [if_pos ⟨rfl, ht⟩, if_pos ⟨rfl, by omega⟩]; exact hm
    · rw [if_neg (fun e' => e e'.1), if_neg (fun e' => e e'.1)]; exact h.tm u hu
  so k := by rw [get_set_ne (by omega)]; exact h.so k

/-- New blocks, and nothing else; some of them stay as they are. -/
theorem Sim.grow (h : Sim P E N H role β a w s) (hx : Exd w w') (hold : ∀ k, k < w.heap.size → role' k = role k) (hmask : ∀ k, (∀ t, role' k ≠ .loc t) ∧ ∀ lim p, role' k ≠ .row lim (some p)) (hlow : ∀ k, role' k ≠ .none → k < w'.heap.size) :
    Ev role β w role' β w' ∧ Sim P E N H role' β a w' s := by
  have ev : Ev role β w role' β w' := ⟨⟨fun b n hp => by
    obtain ⟨lim, ow, h1, h2⟩ := hp
    exact ⟨lim, ow, by rw [hold b (h.low b (by rw [h1]; simp))]; exact h1, h2⟩, fun b n o hp _ => by
    obtain ⟨lim, ow, h1, _⟩ := hp
    exact hx.cell (p := ⟨b, o, none⟩) (h.low b (by rw [h1]; simp))⟩, fun _ _ hk => hk⟩
  refine ⟨ev, h.turn (hx.mono (Nat.zero_le _)) ev hmask hlow (fun k l hk => Nat.lt_of_lt_of_le (h.lowB k l hk) hx.size) h.new (fun b hb _ => ⟨hx.block b (Nat.lt_of_lt_of_le hb h.ext.size), hold b (Nat.lt_of_lt_of_le hb h.ext.size)⟩) h.len (fun _ _ => rfl) h.inj fun k => ?_⟩
  refine (h.so k).ev ev (fun e => ?_) fun l ha hl => ⟨hx.block _ (h.lowB k l hl), hold _ (h.lowB k l hl)⟩
  have := h.so k; rw [e] at this; exact this

/-- A new slot, of a new block. -/
theorem Sim.slot (h : Sim P E N H role β a w s) {k : Nat} {l : Loc} {m : M} (hk : get s (N + k) = .undef) (hkl : k < H) (hx : Exd w w') (hb : w.heap.size ≤ l.b) (hb' : l.b < w'.heap.size)
    (hm : SO P role (upd β k l) w' k m) : Ev role β w role (upd β k l) w' ∧ Sim P E N H role (upd β k l) a w' (s.set (N + k) m) := by
  have hno : β k = none := by have := h.so k; rw [hk] at this; exact this
  have ev : Ev role β w role (upd β k l) w' := ⟨⟨fun _ _ hp => hp, fun b n o hp _ => by
    obtain ⟨lim, ow, h1, _⟩ := hp
    exact hx.cell (p := ⟨b, o, none⟩) (h.low b (by rw [h1]; simp))⟩, fun j l' hj => by
    unfold upd; rw [if_neg (fun e => by subst e; rw [hno] at hj; cases hj)]; exact hj⟩
  have hu : ∀ j l', upd β k l j = some l' → j = k ∧ l' = l ∨ j ≠ k ∧ β j = some l' := fun j l' hj => by
    unfold upd at hj
    split at hj
    · rename_i e; cases hj; exact .inl ⟨e, rfl⟩
    · rename_i e; exact .inr ⟨e, hj⟩
  have hsz := h.ext.size
  refine ⟨ev, h.turn (hx.mono (Nat.zero_le _)) ev h.mask (fun b hb => Nat.lt_of_lt_of_le (h.low b hb) hx.size) (fun j l' hj => ?_) (fun j l' hj => ?_) (fun b hb _ => ⟨hx.block b (Nat.lt_of_lt_of_le hb hsz), rfl⟩) (by simp [h.len]) (fun t ht => get_set_ne (by omega)) (fun j j' l1 l2 hj hj' h1 h2 hbb => ?_) fun j => ?_⟩
  · rcases hu j l' hj with ⟨_, rfl⟩ | ⟨_, hj⟩
    · exact hb'
    · exact Nat.lt_of_lt_of_le (h.lowB j l' hj) hx.size
  · rcases hu j l' hj with ⟨_, rfl⟩ | ⟨_, hj⟩
    · exact .inl (by omega)
    · exact h.new j l' hj
  · rcases hu j l1 h1 with ⟨e1, e1'⟩ | ⟨n1, g1⟩ <;> rcases hu j' l2 h2 with ⟨e2, e2'⟩ | ⟨n2, g2⟩
    · rw [e1, e2]
    · subst e1'; have := h.lowB j' l2 g2; omega
    · subst e2'; have := h.lowB j l1 g1; omega
    · rw [get_set_ne (by omega)] at hj hj'
      exact h.inj j j' l1 l2 hj hj' g1 g2 hbb
  · by_cases e : j = k
    · subst e; rw [get_set_self (by rw [h.len]; omega)]; exact hm
    · rw [get_set_ne (by omega)]
      refine (h.so j).ev ev (fun e' => ?_) fun l' ha hl => ⟨hx.block _ (h.lowB j l' hl), rfl⟩
      have := h.so j; rw [e'] at this
      unfold upd; rw [if_neg e]; exact this

/-- A slot's block is written. -/
theorem Sim.write (h : Sim P E N H role β a w s) {k : Nat} {l : Loc} {m : M} (hl : β k = some l) (ha : (get s (N + k)).alive = true) (hx : Below 0 w w') (hoth : ∀ b, b ≠ l.b → w'.heap[b]? = w.heap[b]?)
    (hsz : w'.heap.size = w.heap.size) (hpub : ∀ n o, pubAt role l.b n → o < n → w'.cell? ⟨l.b, o, none⟩ = w.cell? ⟨l.b, o, none⟩)
    (hm : Ev role β w role β w' → SO P role β w' k m) : Ev role β w role β w' ∧ Sim P E N H role β a w' (s.set (N + k) m) := by
  have ev : Ev role β w role β w' := ⟨⟨fun _ _ hp => hp, fun b n o hp ho => by
    by_cases e : b = l.b
    · subst e; exact hpub n o hp ho
    · exact World.cell?_of_block (w := w) (a := ⟨b, o, none⟩) (hoth b e)⟩, fun _ _ hk => hk⟩
  have hkl : N + k < s.length := lt_of_get fun e => by rw [e] at ha; cases ha
  refine ⟨ev, h.turn hx ev h.mask (fun b hb => hsz ▸ h.low b hb) (fun j l' hj => hsz ▸ h.lowB j l' hj) h.new (fun b hb hnl => ⟨hoth b fun e => ?_, rfl⟩) (by simp [h.len]) (fun t ht => get_set_ne (by omega)) (fun j j' l1 l2 hj hj' h1 h2 hbb => ?_) fun j => ?_⟩
  · subst e
    rcases h.new k l hl with h1 | h1
    · omega
    · exact hnl h1
  · have f : ∀ j, (get (s.set (N + k) m) (N + j)).alive = true → (get s (N + j)).alive = true := fun j hj => by
      by_cases e : j = k
      · subst e; exact ha
      · rw [get_set_ne (by omega)] at hj; exact hj
    exact h.inj j j' l1 l2 (f j hj) (f j' hj') h1 h2 hbb
  · by_cases e : j = k
    · subst e; rw [get_set_self hkl]; exact hm ev
    · rw [get_set_ne (by omega)]
      refine (h.so j).ev ev (fun e' => ?_) fun l' ha' hl' => ⟨hoth _ fun e' => e (h.inj j k l' l ha' ha hl' hl e'), rfl⟩
      have := h.so j; rw [e'] at this; exact this
end
end Go.Proofs.YthhfnggigmfmjaaDoor.Hp

set_option linter.unusedSimpArgs false
set_option linter.unusedVariables false
namespace Go.Proofs.YthhfnggigmfmjaaDoor.Hp
open Go.RowKit

/-- A look at a frame: what it reads, asks, which function it calls with which values and slots. -/
inductive Lk (α : Type) : Type where
  | ret (a : α)
  | rd (t : Nat) (k : M → Lk α)
  | chk (b : Bool) (k : Lk α)
  | br (b : Bool) (x y : Lk α)
  | call (f : Nat) (as hs : List M) (k : M → List M → Lk α)
  | fail

abbrev OrcM := Nat → List M → List M → (M → List M → Prop) → Prop
namespace Lk
variable {α β : Type}
def bind : Lk α → (α → Lk β) → Lk β
  | .ret a, f => f a
  | .rd t k, f => .rd t fun d => (k d).bind f
  | .chk b k, f => .chk b (k.bind f)
  | .br b x y, f => .br b (x.bind f) (y.bind f)
  | .call g as hs k, f => .call g as hs fun d hs' => (k d hs').bind f
  | .fail, _ => .fail
def run (orc : OrcM) : Lk α → List M → List Nat → (α → List Nat → Prop) → Prop
  | .ret a, _, l, K => K a l
  | .rd t k, s, l, K => (k (get s t)).run orc s (t :: l) K
  | .chk b k, s, l, K => bif b then k.run orc s l K else False
  | .br b x y, s, l, K => bif b then x.run orc s l K else y.run orc s l K
  | .call f as hs k, s, l, K => orc f as hs fun d hs' => (k d hs').run orc s l K
  | .fail, _, _, _ => False
end Lk

def DetM (m : (M → List M → Prop) → Prop) : Prop := ∀ K, m K → ∃ d hs, K d hs ∧ ∀ K' : M → List M → Prop, K' d hs → m K'

section
variable {orc : OrcM} {α β : Type} {s s' : List M}
theorem run_chk {b : Bool} {k : Lk α} {l : List Nat} {K : α → List Nat → Prop} : (Lk.chk b k).run orc s l K ↔ b = true ∧ k.run orc s l K := by
  simp only [Lk.run]; rw [cond_and]
theorem run_bind (m : Lk α) (f : α → Lk β) : ∀ (l : List Nat) (K : β → List Nat → Prop), (m.bind f).run orc s l K ↔ m.run orc s l (fun a l' => (f a).run orc s l' K) := by
  induction m with
  | ret a => intro l K; rfl
  | rd t k ih => intro l K; exact ih _ _ K
  | chk b k ih =>
    intro l K
    simp only [Lk.bind, run_chk]
    exact and_congr_right fun _ => ih l K
  | br b x y ih1 ih2 =>
    intro l K
    simp only [Lk.bind, Lk.run]
    cases b
    · exact ih2 l K
    · exact ih1 l K
  | call g as hs k ih =>
    intro l K
    simp only [Lk.bind, Lk.run]
    have : (fun d hs' => ((k d hs').bind f).run orc s l K) = (fun d hs' => (k d hs').run orc s l fun a l' => (f a).run orc s l' K) := funext fun d => funext fun hs' => propext (ih d hs' l K)
    rw [this]
  | fail => intro l K; rfl

/-- One outcome, and what was read. -/
theorem run_out (ho : ∀ f as hs, DetM (orc f as hs)) (m : Lk α) : ∀ (l : List Nat) (K : α → List Nat → Prop), m.run orc s l K →
    ∃ a l', K a l' ∧ ∃ r, l' = r ++ l ∧ ∀ s', (∀ t, t ∈ r → get s' t = get s t) → ∀ K' : α → List Nat → Prop, K' a l' → m.run orc s' l K' := by
  induction m with
  | ret a => intro l K h; exact ⟨a, l, h, [], rfl, fun _ _ K' hK => hK⟩
  | rd t k ih =>
    intro l K h
    obtain ⟨a, l', h2, r, hr, h3⟩ := ih _ _ K h
    refine ⟨a, l', h2, r ++ [t], by rw [hr]; simp, fun s' hs K' hK => ?_⟩
    show (k (get s' t)).run orc s' (t :: l) _
    rw [hs t (by simp)]
    exact h3 s' (fun u hu => hs u (by simp [hu])) K' hK
  | chk b k ih =>
    intro l K h
    rw [run_chk] at h
    obtain ⟨a, l', h2, r, hr, h3⟩ := ih l K h.2
    exact ⟨a, l', h2, r, hr, fun s' hs K' hK => run_chk.2 ⟨h.1, h3 s' hs K' hK⟩⟩
  | br b x y ih1 ih2 =>
    intro l K h
    cases b with
    | false =>
      obtain ⟨a, l', h2, r, hr, h3⟩ := ih2 l K h
      exact ⟨a, l', h2, r, hr, fun s' hs K' hK => h3 s' hs K' hK⟩
    | true =>
      obtain ⟨a, l', h2, r, hr, h3⟩ := ih1 l K h
      exact ⟨a, l', h2, r, hr, fun s' hs K' hK => h3 s' hs K' hK⟩
  | call g as hs k ih =>
    intro l K h
    obtain ⟨d, hs', hd, hk⟩ := ho g as hs _ h
    obtain ⟨a, l', h2, r, hr, h3⟩ := ih d hs' l K hd
    exact ⟨a, l', h2, r, hr, fun s' hs K' hK => hk _ (h3 s' hs K' hK)⟩
  | fail => intro l K h; exact h.elim
end

def apply (ws : List (Nat × M)) (s : List M) : List M := ws.foldl (fun s p => s.set p.1 p.2) s
theorem apply_nil {s : List M} : apply [] s = s := rfl
theorem apply_cons {p : Nat × M} {ws : List (Nat × M)} {s : List M} : apply (p :: ws) s = apply ws (s.set p.1 p.2) := rfl
theorem apply_append {ws vs : List (Nat × M)} {s : List M} : apply (ws ++ vs) s = apply vs (apply ws s) := by unfold apply; rw [List.foldl_append]
theorem apply_length : ∀ (ws : List (Nat × M)) (s : List M), (apply ws s).length = s.length
  | [], s => rfl
  | p :: ws, s => by rw [apply_cons, apply_length ws]; simp
/-- The last write. -/
def wr (ws : List (Nat × M)) (t : Nat) (d : M) : M := ws.foldl (fun d p => if p.1 = t then p.2 else d) d
theorem get_apply : ∀ (ws : List (Nat × M)) (s : List M) (t : Nat), t < s.length → get (apply ws s) t = wr ws t (get s t)
  | [], s, t, _ => rfl
  | p :: ws, s, t, h => by
    rw [apply_cons, get_apply ws _ t (by simpa using h), get_set]
    show _ = wr ws t (if p.1 = t then p.2 else get s t)
    by_cases hp : p.1 = t
    · rw [if_pos ⟨hp, by omega⟩, if_pos hp]
    · rw [if_neg (fun e => hp e.1), if_neg hp]

/-- A value without an address of ours, as it was known. -/
def toD : M → D
  | .d x => x
  | .nil T => .list false T []
  | _ => .undef
def oldF (N : Nat) (s : List M) : List D := (s.take N).map toD
theorem oldF_get {N : Nat} {s : List M} (hN : N ≤ s.length) {t : Nat} : Proofs.YthhfnggigmfmjaaDoor.get (oldF N s) t = if t < N then toD (get s t) else .undef := by
  unfold oldF Proofs.YthhfnggigmfmjaaDoor.get get
  rw [List.getD_eq_getElem?_getD, List.getElem?_map, List.getElem?_take]
  split
  · rename_i h
    rw [List.getD_eq_getElem?_getD, List.getElem?_eq_getElem (by omega)]; rfl
  · rfl

def lift {α : Type} (N : Nat) : Proofs.YthhfnggigmfmjaaDoor.Look α → Lk α
  | .ret a => .ret a
  | .rd t k => .rd t fun m => .chk (decide (t < N)) (lift N (k (toD m)))
  | .chk b k => .chk b (lift N k)
  | .call _ _ _ => .fail
  | .fail => .fail
def noOrc : Orc := fun _ _ _ => False
theorem lift_run {orc : OrcM} {α : Type} {N : Nat} {s : List M} (hN : N ≤ s.length) (m : Proofs.YthhfnggigmfmjaaDoor.Look α) : ∀ (l : List Nat) (K : α → List Nat → Prop), (lift N m).run orc s l K → m.run noOrc (oldF N s) l K := by
  induction m with
  | ret a => intro l K h; exact h
  | rd t k ih =>
    intro l K h
    simp only [lift, Lk.run] at h
    rw [cond_and, decide_eq_true_eq] at h
    show (k (Proofs.YthhfnggigmfmjaaDoor.get (oldF N s) t)).run _ _ _ _
    rw [oldF_get hN, if_pos h.1]
    exact ih _ _ _ h.2
  | chk b k ih =>
    intro l K h
    simp only [lift] at h
    rw [run_chk] at h
    exact ⟨h.1, ih _ _ h.2⟩
  | call f ds k _ => intro l K h; exact h.elim
  | fail => intro l K h; exact h.elim

section
variable (P : Program) (N : Nat)
def delegL (o : Oper) : Lk (List (Nat × M)) := (lift N (absOp P false o)).bind fun ws =>
  .chk ((ws.all fun p => p.2.isVal && decide (p.1 < N)) && (match o.dst with | none => true | some t => ws.any fun p => p.1 == t)) (.ret (ws.map fun p => (p.1, M.d p.2.strip)))
end

abbrev After (P : Program) (E : Env) (N H : Nat) (s : List M) (K : List (Nat × M) → List Nat → Prop) (a' : Act) (w' : World) : Prop :=
  ∃ ws l' role' β', K ws l' ∧ Sim P E N H role' β' a' w' (apply ws s)

theorem wp_put {P : Program} {o : Oper} {a : Act} {w : World} {next : Act → World → Prop} {Q : Exit → Act → World → Prop} (h : Oper.wp P o a w next Q) : Oper.wp P o a w (fun a' w' => next a' w' ∧ ∃ v, a'.tmps = (a.put o.dst v).tmps) Q := by
  unfold Oper.wp at h ⊢
  generalize (execOp a.eval o).run P w = r at h
  match r, h with
  | .ok (.value v) w', h => exact ⟨h, v, rfl⟩
  | .ok .skip w', h => exact ⟨h, _, rfl⟩
  | .ok (.defer d) w', h =>
    refine ⟨h, undef, ?_⟩
    cases o.dst <;> rfl
  | .ok (.enter f args) w', h =>
    refine Calls.mono h fun e w2 he => ?_
    cases e with
    | returned v => exact ⟨he, v, rfl⟩
    | panicked chain => exact he
    | outgrown => exact he
  | .ok (.row row args) w', h => exact Rows.mono h fun v w2 he => ⟨he, v, rfl⟩
  | .halt (.panic v) w', h => exact h

section
variable {P : Program} {E : Env} {N H : Nat} {role role' : Nat → Role} {β β' : Bet} {a a' : Act} {w w' : World} {s s' : List M} {orc : OrcM} {l : List Nat}
variable {K : List (Nat × M) → List Nat → Prop} {Q : Exit → Act → World → Prop}

/-- Temporaries are known otherwise. -/
theorem Sim.temps (h : Sim P E N H role β a w s) (hd : a'.defers = []) (hsz : a'.tmps.size = N) (hlen : s'.length = N + H) (hsl : ∀ k, get s' (N + k) = get s (N + k)) (htm : ∀ t, t < N → Rm P role β w (a'.tmps.getD t undef) (get s' t)) : Sim P E N H role β a' w s' where
  ext := h.ext
  frame := h.frame
  keep := h.keep
  pub0 := h.pub0
  mask := h.mask
  roleF := h.roleF
  low := h.low
  lowB := h.lowB
  bet0 := h.bet0
  new := h.new
  inj k k' l l' hk hk' := by rw [hsl] at hk hk'; exact h.inj k k' l l' hk hk'
  defers := hd
  size := hsz
  len := hlen
  tm := htm
  so k := by rw [hsl]; exact h.so k

theorem mask_id (h : ∀ k, (∀ t, role k ≠ .loc t) ∧ ∀ lim p, role k ≠ .row lim (some p)) {r2 : Nat → Role} {k : Nat} (e : r2 k = role k) : Proofs.YthhfnggigmfmjaaDoor.mask r2 k = role k := by
  unfold Proofs.YthhfnggigmfmjaaDoor.mask
  rw [e]
  cases hr : role k with
  | none => rfl
  | loc t => exact absurd hr ((h k).1 t)
  | row lim ow =>
    cases ow with
    | none => rfl
    | some p => exact absurd hr ((h k).2 lim p)

theorem toD_rt {x : Value} {m : M} {E' : Proofs.YthhfnggigmfmjaaDoor.Env} {t : Nat} (h : Rm P role β w x m) : RT P E' role w t x (toD m) := by
  cases h with
  | d h hs => exact (h.ro hs).rt
  | nil =>
    have : Rd P role w (.slice none 0 0) (.list false ‹TypeId› []) := .nil
    exact (this.ro rfl).rt
  | _ => trivial

theorem Sim.old (h : Sim P E N H role β a w s) (A : List Nat) : Proofs.YthhfnggigmfmjaaDoor.Sim P ⟨w, role⟩ A role a w (oldF N s) where
  ext := Exd.refl w
  old k hk := ⟨rfl, (h.mask k).1, (h.mask k).2⟩
  low := h.low
  defers := h.defers
  size := by have := h.len; simp [oldF, h.size]; omega
  tm t := by
    rw [oldF_get (by have := h.len; omega)]
    split
    · rename_i ht; exact toD_rt (h.tm t ht)
    · trivial
  inj b b' t hb _ := absurd hb ((h.mask b).1 t)
  live x u off hx := by
    exfalso
    rw [oldF_get (by have := h.len; omega)] at hx
    split at hx
    · rename_i ht
      have := h.tm x ht
      generalize get s x = m at this hx
      generalize a.tmps.getD x Go.undef = xv at this
      cases this with
      | d h hs => simp only [toD] at hx; subst hx; have := h.isVal; simp [D.isVal] at this
      | nil => simp [toD] at hx
      | _ => simp [toD] at hx
    · cases hx

theorem oldW {N : Nat} {s : List M} (hN : N ≤ s.length) {ws : List (Nat × D)} (hv : ∀ p ∈ ws, p.2.isVal = true ∧ p.1 < N) (t : Nat) (ht : t < N) :
    (t ∈ ws.map (·.1) → ∃ d, d.isVal = true ∧ Proofs.YthhfnggigmfmjaaDoor.get (Proofs.YthhfnggigmfmjaaDoor.apply ws (oldF N s)) t = d ∧ get (apply (ws.map fun p => (p.1, M.d p.2.strip)) s) t = .d d.strip) ∧
    (t ∉ ws.map (·.1) → get (apply (ws.map fun p => (p.1, M.d p.2.strip)) s) t = get s t) := by
  have h1 : ∀ (ws : List (Nat × D)) (d0 : D) (m0 : M), (∀ p ∈ ws, p.2.isVal = true ∧ p.1 < N) → (t ∈ ws.map (·.1) → ∃ d, d.isVal = true ∧ Proofs.YthhfnggigmfmjaaDoor.wr ws t d0 = d ∧ wr (ws.map fun p => (p.1, M.d p.2.strip)) t m0 = .d d.strip) ∧ (t ∉ ws.map (·.1) → wr (ws.map fun p => (p.1, M.d p.2.strip)) t m0 = m0) := by
    intro ws
    induction ws with
    | nil => intro d0 m0 _; exact ⟨fun h => by simp at h, fun _ => rfl⟩
    | cons p ws ih =>
      intro d0 m0 hv
      have ihx := ih (if p.1 = t then p.2 else d0) (if p.1 = t then .d p.2.strip else m0) (fun q hq => hv q (by simp [hq]))
      refine ⟨fun h => ?_, fun h => ?_⟩
      · by_cases hm : t ∈ ws.map (·.1)
        · exact ihx.1 hm
        · have hp : p.1 = t := by
            simp only [List.map_cons, List.mem_cons] at h
            rcases h with h | h
            · exact h.symm
            · exact absurd h hm
          refine ⟨p.2, (hv p (by simp)).1, ?_, ?_⟩
          · show Proofs.YthhfnggigmfmjaaDoor.wr ws t (if p.1 = t then p.2 else d0) = _
            rw [if_pos hp]; exact wr_not hm
          · show wr _ t (if p.1 = t then M.d p.2.strip else m0) = _
            have e := ihx.2 hm
            simp only [if_pos hp] at e ⊢; exact e
      · simp only [List.map_cons, List.mem_cons, not_or] at h
        show wr _ t (if p.1 = t then M.d p.2.strip else m0) = _
        have := ihx.2 h.2
        rw [if_neg (fun e => h.1 e.symm)] at this ⊢
        exact this
  have hl : (oldF N s).length = N := by simp [oldF]; omega
  have := h1 ws (Proofs.YthhfnggigmfmjaaDoor.get (oldF N s) t) (get s t) hv
  rw [Proofs.YthhfnggigmfmjaaDoor.get_apply ws _ t (by omega), get_apply _ s t (by omega)]
  exact this

theorem deleg_sim (hS : Sim P E N H role β a w s) {o : Oper} (h : (delegL P N o).run orc s l K) : Oper.wp P o a w (After P E N H s K) Q := by
  unfold delegL at h
  rw [run_bind] at h
  have hN : N ≤ s.length := by have := hS.len; omega
  have h1 := lift_run hN _ _ _ h
  have h2 := op_sim (E := ⟨w, role⟩) (A := o.dst.toList) (orc := noOrc) (fun _ _ _ hk => hk.elim) (hS.old _) (fun _ t ht => by rw [ht]; simp) h1 (Q := Q)
  refine Oper.wp_mono ?_ (wp_put h2)
  rintro a' w' ⟨⟨ws, l', r2, hK, hS2⟩, v, hv⟩
  rw [run_chk] at hK
  obtain ⟨hc, hK⟩ := hK
  simp only [Bool.and_eq_true, List.all_eq_true, decide_eq_true_eq] at hc
  obtain ⟨hws, hdst⟩ := hc
  have hold : ∀ k, k < w.heap.size → Proofs.YthhfnggigmfmjaaDoor.mask r2 k = role k := fun k hk => mask_id hS.mask (hS2.old k hk).1
  obtain ⟨ev, hS3⟩ := hS.grow (role' := Proofs.YthhfnggigmfmjaaDoor.mask r2) hS2.ext hold (fun k => ⟨fun t => mask_loc, fun lim p => mask_own⟩) (fun k hk => hS2.low k fun e => hk (by unfold Proofs.YthhfnggigmfmjaaDoor.mask; rw [e]))
  refine ⟨_, l', _, β, hK, hS3.temps hS2.defers ?_ (by rw [apply_length]; exact hS.len) (fun k => ?_) fun t ht => ?_⟩
  · rw [hv]
    cases o.dst with
    | none => exact hS.size
    | some t => simp [Act.put, hS.size]
  · rw [get, get]
    have hget : ∀ (ws : List (Nat × D)) (s : List M), (∀ p ∈ ws, p.1 < N) → get (apply (ws.map fun p => (p.1, M.d p.2.strip)) s) (N + k) = get s (N + k) := by
      intro ws
      induction ws with
      | nil => intro s _; rfl
      | cons p ws ih =>
        intro s hp
        rw [List.map_cons, apply_cons, ih _ (fun q hq => hp q (by simp [hq])), get_set_ne (by have := hp p (by simp); omega)]
    exact hget ws s fun p hp => (hws p hp).2
  · have ho := oldW hN hws t ht
    by_cases hm : t ∈ ws.map (·.1)
    · obtain ⟨d, hd, e1, e2⟩ := ho.1 hm
      rw [e2]
      have := hS2.tm t
      rw [e1] at this
      exact .d ((RT.ro this hd).1.strip.evo ⟨fun b n hp => pub_mask.2 hp, fun _ _ _ _ _ => rfl⟩) (strip_strip _)
    · rw [ho.2 hm, hv]
      have hne : ∀ t', o.dst = some t' → t' ≠ t := fun t' e e' => by
        subst e'
        rw [e] at hdst
        simp only [List.any_eq_true, beq_iff_eq] at hdst
        obtain ⟨p, hp, rfl⟩ := hdst
        exact hm (List.mem_map.2 ⟨p, hp, rfl⟩)
      have : (a.put o.dst v).tmps.getD t undef = a.tmps.getD t undef := by
        cases hd : o.dst with
        | none => rfl
        | some t' =>
          show (a.tmps.setIfInBounds t' v).getD t undef = _
          rw [getD_set, if_neg (fun e => hne t' hd e.1)]
      rw [this]
      exact (hS.tm t ht).ev ev
end
end Go.Proofs.YthhfnggigmfmjaaDoor.Hp

set_option linter.unusedSimpArgs false
set_option linter.unusedVariables false
namespace Go.Proofs.YthhfnggigmfmjaaDoor.Hp
open Go.RowKit

def isUndef : M → Bool
  | .undef => true
  | _ => false
theorem isUndef_eq {m : M} (h : isUndef m = true) : m = .undef := by cases m <;> first | rfl | cases h

section
variable (P : Program) (N H : Nat)
def constM (t : TypeId) (x : Value) : Option M := match x with
  | .slice none 0 0 => match P.underlying t with
    | some (.slice e) => some (.nil e)
    | _ => none
  | x => (lit P t x).map fun d => .d d.strip
/-- An operand's value. -/
def rdM (t : TypeId) : Operand → Lk M
  | .tmp u => .chk (decide (u < N)) (.rd u .ret)
  | .const x => match constM P t x with
    | some m => .ret m
    | none => .fail
  | .func f => .ret (.d (.v (.func (.func f) #[] #[])))
  | .global _ => .fail
def rdMV (t : TypeId) (x : Operand) : Lk M := (rdM P N t x).bind fun m => .chk m.isVal (.ret m)
def rdAll : List (TypeId × Operand) → Lk (List M)
  | [] => .ret []
  | (t, x) :: xs => (rdMV P N t x).bind fun m => (rdAll xs).bind fun ms => .ret (m :: ms)
/-- The operation's temporary gets a value, behind other writes. -/
def putM (o : Oper) (m : M) (ws : List (Nat × M)) : Lk (List (Nat × M)) := match o.dst with
  | none => .ret ws
  | some t => .chk (decide (t < N)) (.ret (ws ++ [(t, m)]))

/-- Known cells without addresses of ours. -/
def pureAll : List M → Option (List D)
  | [] => some []
  | .d x :: l => match pureAll l with
    | some ds => some (x :: ds)
    | none => none
  | _ :: _ => none
/-- Cells without addresses of ours; a nil slice among them is one without elements. -/
def pureRow : List M → Option (List D)
  | [] => some []
  | .d x :: l => match pureRow l with
    | some ds => some (x :: ds)
    | none => none
  | .nil T :: l => match pureRow l with
    | some ds => some (.list false T [] :: ds)
    | none => none
  | _ :: _ => none
def mkAgg (cs : List M) : M := match pureAll cs with
  | some ds => .d (.agg ds)
  | none => .agg cs
/-- A part of cells: of a type, from an offset on. -/
def partM (t : TypeId) (cs : List M) (off : Nat) : Option M := match aggOf P t with
  | some true => if off + P.cellsOf t ≤ cs.length then some (mkAgg ((cs.drop off).take (P.cellsOf t))) else none
  | some false => cs[off]?
  | none => none
/-- A value's cells. -/
def cellsM : M → List M
  | .agg cs => cs
  | .d (.agg ds) => ds.map fun x => .d x.strip
  | m => [m]
def setM (cs : List M) (off : Nat) (ds : List M) : List M := cs.take off ++ ds ++ cs.drop (off + ds.length)
def ofD0 : D → M
  | .list true T [] => .nil T
  | d => .d d.strip
def zeroM (T : TypeId) : Option (List M) := (zeroCellsD P T).map fun ds => ds.map ofD0

def moveL (o : Oper) (t : TypeId) (x : Operand) : Lk (List (Nat × M)) := (rdMV P N t x).bind fun m => putM N o m []
def allocL (o : Oper) (T : TypeId) (fr : List Nat) : Lk (List (Nat × M)) := match fr, zeroM P T with
  | k :: _, some cs => .chk (decide (k < H)) (.rd (N + k) fun m => .chk (isUndef m) (putM N o (.ref k 0) [(N + k, .var T cs)]))
  | _, _ => .fail
def boxL (o : Oper) (T : TypeId) (x : Operand) (fr : List Nat) : Lk (List (Nat × M)) := match fr with
  | k :: _ => (rdMV P N T x).bind fun v => .chk (decide (k < H) && (cellsM v).all M.isCell) (.rd (N + k) fun m => .chk (isUndef m) (putM N o (.ref k 0) [(N + k, .var T (cellsM v))]))
  | _ => .fail
/-- Cells of a row's element, in the form that their type tells. -/
def loadL (o : Oper) (t : TypeId) (x : Operand) : Lk (List (Nat × M)) := (rdM P N t x).bind fun p => match p with
  | .ref k off => .rd (N + k) fun c => match c with
    | .var _ cs => match partM P t cs off with
      | some m => .chk m.isVal (putM N o m [])
      | none => .fail
    | _ => .fail
  | .el T k i j => .rd (N + k) fun c => match c with
    | .row T' _ es => .chk (T == T' && decide (i < es.length)) (match partN P t (es.getD i []) j with
      | some (b, d) => .chk b (putM N o (.d d.strip) [])
      | none => .fail)
    | _ => .fail
  | .d _ => delegL P N o
  | _ => .fail
def storeL (t : TypeId) (x y : Operand) : Lk (List (Nat × M)) := (rdM P N t x).bind fun p => (rdMV P N t y).bind fun v => match p with
  | .ref k off => .rd (N + k) fun c => match c with
    | .var T cs => .chk ((P.info? t).isSome && decide ((cellsM v).length = P.cellsOf t) && decide (off + P.cellsOf t ≤ cs.length) && (cellsM v).all M.isCell) (.ret [(N + k, .var T (setM cs off (cellsM v)))])
    | _ => .fail
  | .el T k i j => .rd (N + k) fun c => match c with
    | .row T' lim es => match pureRow (cellsM v) with
      | some ds => .chk (T == T' && (P.info? t).isSome && decide (ds.length = P.cellsOf t) && decide (j + P.cellsOf t ≤ P.cellsOf T) && ds.all D.isCell) (.chk (decide (i < es.length)) (.chk (decide (lim ≤ i)) (.ret [(N + k, .row T' lim (es.set i (setCells (es.getD i []) j ds)))])))
      | none => .fail
    | _ => .fail
  | _ => .fail
def fieldAddrL (o : Oper) (S : TypeId) (x : Operand) (i : Nat) : Lk (List (Nat × M)) := (rdM P N S x).bind fun p => match p with
  | .d _ => delegL P N o
  | .ref k off => match (fieldsOf P S)[i]? with
    | some f => .chk ((P.info? f.type).isSome && decide (P.cellsOf f.type ≠ 0)) (putM N o (.ref k (off + f.offset)) [])
    | none => .fail
  | .el T k n j => match (fieldsOf P S)[i]? with
    | some f => .chk ((P.info? f.type).isSome && decide (P.cellsOf f.type ≠ 0)) (putM N o (.el T k n (j + f.offset)) [])
    | none => .fail
  | _ => .fail
def indexAddrL (o : Oper) (t : TypeId) (x ix : Operand) : Lk (List (Nat × M)) := (rdM P N t x).bind fun p => match p with
  | .d _ => delegL P N o
  | .sl T k off len => (rdM P N t ix).bind fun i => match i with
    | .d (.v (.int _ n)) => match P.underlying t with
      | some (.slice e) => .chk (T == e && (P.info? e).isSome) (.chk (decide (0 ≤ n) && decide (n < (len : Int))) (putM N o (.el T k (off + n.toNat) 0) []))
      | _ => .fail
    | _ => .fail
  | .ref k off => (rdM P N t ix).bind fun i => match i with
    | .d (.v (.int _ n)) => match P.underlying t with
      | some (.array len e) => .chk (P.info? e).isSome (.chk (decide (0 ≤ n) && decide (n < (len : Int))) (putM N o (.ref k (off + n.toNat * P.cellsOf e)) []))
      | _ => .fail
    | _ => .fail
  | _ => .fail
def nilCheckL (o : Oper) (x : Operand) : Lk (List (Nat × M)) := (rdM P N o.type x).bind fun p => match p with
  | .ref .. | .el .. | .ifc .. | .clo .. => putM N o p []
  | .d (.box cs off) => putM N o (.d (.box cs off)) []
  | .d (.iface t x) => putM N o (.d (D.iface t x).strip) []
  | .d (.v (.func (.func f) x y)) => putM N o (.d (.v (.func (.func f) x y))) []
  | _ => .fail
end

section
variable {P : Program} {E : Env} {N H : Nat} {role role' : Nat → Role} {β β' : Bet} {a a' : Act} {w w' : World} {s s' : List M} {orc : OrcM} {l : List Nat}
variable {K : List (Nat × M) → List Nat → Prop} {Q : Exit → Act → World → Prop}

theorem constM_rm {t : TypeId} {x : Value} {m : M} (h : constM P t x = some m) : Rm P role β w x m := by
  unfold constM at h
  split at h
  · split at h
    · cases h; exact .nil
    · cases h
  · simp only [Option.map_eq_some_iff] at h
    obtain ⟨d, hd, rfl⟩ := h
    exact .d (lit_rd hd).strip (strip_strip _)
theorem rdM_sim (hS : Sim P E N H role β a w s) {t : TypeId} {x : Operand} {K : M → List Nat → Prop} (h : (rdM P N t x).run orc s l K) : ∃ m l', K m l' ∧ Rm P role β w (a.eval x) m := by
  cases x with
  | tmp u =>
    simp only [rdM] at h
    rw [run_chk, decide_eq_true_eq] at h
    exact ⟨_, _, h.2, hS.tm u h.1⟩
  | const v =>
    simp only [rdM] at h
    split at h
    · rename_i m hm
      exact ⟨_, _, h, constM_rm hm⟩
    · exact h.elim
  | func f => exact ⟨_, _, h, .d (.v rfl) rfl⟩
  | global g => exact h.elim
theorem rdMV_sim (hS : Sim P E N H role β a w s) {t : TypeId} {x : Operand} {K : M → List Nat → Prop} (h : (rdMV P N t x).run orc s l K) : ∃ m l', K m l' ∧ m.isVal = true ∧ Rm P role β w (a.eval x) m := by
  rw [rdMV, run_bind] at h
  obtain ⟨m, l', h1, h2⟩ := rdM_sim hS h
  rw [run_chk] at h1
  exact ⟨m, l', h1.2, h1.1, h2⟩
theorem rdAll_sim (hS : Sim P E N H role β a w s) : ∀ (xs : List (TypeId × Operand)) (l : List Nat) (K : List M → List Nat → Prop), (rdAll P N xs).run orc s l K →
    ∃ ms l', K ms l' ∧ ms.length = xs.length ∧ (∀ m ∈ ms, m.isVal = true) ∧ ∀ (i : Nat) (x : TypeId × Operand) (m : M), xs[i]? = some x → ms[i]? = some m → Rm P role β w (a.eval x.2) m
  | [], l, K, h => ⟨[], l, h, rfl, by simp, fun i x d hx => by simp at hx⟩
  | (t, x) :: xs, l, K, h => by
    rw [rdAll, run_bind] at h
    obtain ⟨m, l1, h1, h2, h3⟩ := rdMV_sim hS h
    rw [run_bind] at h1
    obtain ⟨ms, l2, h4, h5, h7, h6⟩ := rdAll_sim hS xs _ _ h1
    refine ⟨m :: ms, l2, h4, by simp [h5], fun y hy => ?_, fun i y e hy he => ?_⟩
    · rcases List.mem_cons.1 hy with rfl | hy
      · exact h2
      · exact h7 y hy
    · cases i with
      | zero => simp at hy he; subst hy; subst he; exact h3
      | succ i => simp at hy he; exact h6 i y e hy he

/-- The end of an operation with a value. -/
theorem fin_sim {ws : List (Nat × M)} (hS : Sim P E N H role' β' a w' (apply ws s)) {o : Oper} {m : M} {x : Value} (h : (putM N o m ws).run orc s l K) (hr : (execOp a.eval o).run P w = .ok (.value x) w') (hm : Rm P role' β' w' x m) : Oper.wp P o a w (After P E N H s K) Q := by
  unfold putM at h
  refine wp_value hr ?_
  cases hd : o.dst with
  | none => rw [hd] at h; exact ⟨ws, l, role', β', h, hS⟩
  | some t =>
    rw [hd] at h
    simp only at h
    rw [run_chk, decide_eq_true_eq] at h
    refine ⟨_, _, role', β', h.2, ?_⟩
    rw [apply_append]
    exact hS.put h.1 hm
theorem pure_sim (hS : Sim P E N H role β a w s) {o : Oper} {m : M} {x : Value} (h : (putM N o m []).run orc s l K) (hr : (execOp a.eval o).run P w = .ok (.value x) w) (hm : Rm P role β w x m) : Oper.wp P o a w (After P E N H s K) Q :=
  fin_sim (ws := []) hS h hr hm

theorem move_sim (hS : Sim P E N H role β a w s) {o : Oper} {t : TypeId} {x : Operand} (ho : o.op = .move x ∨ o.op = .assign x) (h : (moveL P N o t x).run orc s l K) : Oper.wp P o a w (After P E N H s K) Q := by
  unfold moveL at h
  rw [run_bind] at h
  obtain ⟨m, l1, h1, h2, h3⟩ := rdMV_sim hS h
  exact pure_sim hS h1 (by rcases ho with ho | ho <;> simp [execOp, ho]) h3

/-- A new variable. -/
theorem new_sim (hS : Sim P E N H role β a w s) {o : Oper} {T : TypeId} {cells : Array Value} {cs : List M} {k : Nat} (hk : k < H) (hu : get s (N + k) = .undef) (h : (putM N o (.ref k 0) [(N + k, .var T cs)]).run orc s l K)
    (hr : (execOp a.eval o).run P w = .ok (.value (.pointer (some ⟨w.heap.size, 0, none⟩))) (w.alloc (.cells cells T)))
    (hl : cells.size = cs.length) (hc : ∀ (i : Nat) (y : Value) (m : M), cells[i]? = some y → cs[i]? = some m → y.oneCell' = true ∧ Rm P role β w y m) : Oper.wp P o a w (After P E N H s K) Q := by
  have hno : β k = none := by have := hS.so k; rw [hu] at this; exact this
  have hb : ∀ (o : Obj), (w.alloc o).heap.size = w.heap.size + 1 := fun o => size_alloc' w o
  have hx : Exd w (w.alloc (.cells cells T)) := (Exd.refl w).al
  have hrole : role w.heap.size = .none := by
    cases hr : role w.heap.size with
    | none => rfl
    | _ => have := hS.low w.heap.size (by rw [hr]; simp); omega
  have ev : Ev role β w role (upd β k ⟨w.heap.size, 0, cs.length⟩) (w.alloc (.cells cells T)) := ⟨⟨fun _ _ hp => hp, fun b n o hp _ => by
    obtain ⟨lim, ow, h1, _⟩ := hp
    exact hx.cell (p := ⟨b, o, none⟩) (hS.low b (by rw [h1]; simp))⟩, fun j l' hj => by
    unfold upd; rw [if_neg (fun e => by subst e; rw [hno] at hj; cases hj)]; exact hj⟩
  obtain ⟨_, hS'⟩ := hS.slot (l := ⟨w.heap.size, 0, cs.length⟩) (m := .var T cs) hu hk hx (Nat.le_refl _) (by rw [hb]; exact Nat.lt_succ_self _)
    ⟨⟨w.heap.size, 0, cs.length⟩, cells, by simp [upd], rfl, rfl, at_alloc' _ _, hl, hrole, fun i y m hy hm => ⟨(hc i y m hy hm).1, (hc i y m hy hm).2.ev ev⟩⟩
  have hm : Rm P role (upd β k ⟨w.heap.size, 0, cs.length⟩) (w.alloc (.cells cells T)) (.pointer (some ⟨w.heap.size, 0 + 0, none⟩)) (.ref k 0) := .ref (l := ⟨w.heap.size, 0, cs.length⟩) (if_pos rfl)
  exact fin_sim (ws := [(N + k, .var T cs)]) hS' h hr hm

theorem ofD0_rm {x : Value} {d : D} (h : x.oneCell' = true ∧ Rd P role w x d ∧ isList d = false ∨ x = .slice none 0 0 ∧ ∃ T, d = .list true T []) : x.oneCell' = true ∧ Rm P role β w x (ofD0 d) := by
  rcases h with ⟨h1, h2, h3⟩ | ⟨rfl, T, rfl⟩
  · refine ⟨h1, ?_⟩
    have : ofD0 d = .d d.strip := by
      unfold ofD0
      split
      · simp [isList] at h3
      · rfl
    rw [this]; exact .d h2.strip (strip_strip _)
  · exact ⟨rfl, .nil⟩
theorem zeroM_sim {T : TypeId} {cs : List M} (h : zeroM P T = some cs) : ∃ i z, P.info? T = some i ∧ i.zero = some z ∧ z.cells.size = cs.length ∧ ∀ (j : Nat) (y : Value) (m : M), z.cells[j]? = some y → cs[j]? = some m → y.oneCell' = true ∧ Rm P role β w y m := by
  unfold zeroM at h
  simp only [Option.map_eq_some_iff] at h
  obtain ⟨ds, hds, rfl⟩ := h
  unfold zeroCellsD at hds
  cases hi : P.info? T with
  | none => simp [hi] at hds
  | some i =>
    cases hz : i.zero with
    | none => simp [hi, hz] at hds
    | some z =>
      simp only [hi, hz, Option.bind_some] at hds
      have hl := (litCells_rd (role := role) (w := w) _ _ _ hds).1
      refine ⟨i, z, rfl, hz, by simpa using hl, fun j y m hy hm => ?_⟩
      simp only [List.getElem?_map, Option.map_eq_some_iff] at hm
      obtain ⟨d, hd, rfl⟩ := hm
      exact ofD0_rm (litCells_rd' _ _ _ hds j y d (by simpa using hy) hd)
theorem alloc_sim (hS : Sim P E N H role β a w s) {o : Oper} {T : TypeId} {fr : List Nat} (ho : o.op = .alloc T) (h : (allocL P N H o T fr).run orc s l K) : Oper.wp P o a w (After P E N H s K) Q := by
  unfold allocL at h
  split at h
  · rename_i k _ cs hcs
    rw [run_chk, decide_eq_true_eq] at h
    obtain ⟨hk, h⟩ := h
    simp only [Lk.run] at h
    rw [cond_and] at h
    obtain ⟨i, z, hi, hz, hl, hc⟩ := zeroM_sim (role := role) (β := β) (w := w) hcs
    refine new_sim hS hk (isUndef_eq h.1) h.2 (cells := z.cells) ?_ hl hc
    simp [execOp, ho, Instr.alloc, zeroValue, typeInfo, hi, hz, newVar, newRow, newObj]
    rfl
  · exact h.elim

theorem cellsM_rm {x : Value} {m : M} (h : Rm P role β w x m) (hc : (cellsM m).all M.isCell = true) :
    x.cells.size = (cellsM m).length ∧ ∀ (i : Nat) (y : Value) (e : M), x.cells[i]? = some y → (cellsM m)[i]? = some e → y.oneCell' = true ∧ Rm P role β w y e := by
  have one : cellsM m = [m] → x.cells.size = (cellsM m).length ∧ ∀ (i : Nat) (y : Value) (e : M), x.cells[i]? = some y → (cellsM m)[i]? = some e → y.oneCell' = true ∧ Rm P role β w y e := by
    intro hcd
    rw [hcd] at hc ⊢
    have h1 := h.one (by simpa using hc)
    rw [cells_one h1]
    refine ⟨rfl, fun i y e hy he => ?_⟩
    cases i with
    | zero => simp at hy he; subst hy; subst he; exact ⟨h1, h⟩
    | succ i => simp at hy
  cases m <;> try (exact one rfl)
  · rename_i d
    cases d <;> try (exact one rfl)
    rename_i cs
    cases h with
    | d h hs =>
      cases h with
      | agg hl h1 h =>
        refine ⟨by simp [cellsM, Value.cells, hl], fun i y e hy he => ?_⟩
        simp only [cellsM, List.getElem?_map, Option.map_eq_some_iff] at he
        obtain ⟨e', he', rfl⟩ := he
        exact ⟨h1 i y hy, .d (h i y e' hy he').strip (strip_strip _)⟩
  · cases h with
    | agg hl h1 h => exact ⟨hl, fun i y e hy he => ⟨h1 i y hy, h i y e hy he⟩⟩
theorem box_sim (hS : Sim P E N H role β a w s) {o : Oper} {T : TypeId} {x : Operand} {fr : List Nat} (ho : o.op = .box T x) (h : (boxL P N H o T x fr).run orc s l K) : Oper.wp P o a w (After P E N H s K) Q := by
  unfold boxL at h
  split at h
  · rename_i k _
    rw [run_bind] at h
    obtain ⟨m, l1, h, h2, h3⟩ := rdMV_sim hS h
    rw [run_chk, Bool.and_eq_true, decide_eq_true_eq] at h
    obtain ⟨⟨hk, hc⟩, h⟩ := h
    simp only [Lk.run] at h
    rw [cond_and] at h
    obtain ⟨k1, k2⟩ := cellsM_rm h3 hc
    refine new_sim hS hk (isUndef_eq h.1) h.2 (cells := (a.eval x).cells) ?_ k1 k2
    simp [execOp, ho, Instr.box, newVar, newRow, newObj]
    rfl
  · exact h.elim

/-! ### Loads -/
theorem pureAll_get : ∀ {cs : List M} {ds : List D}, pureAll cs = some ds → cs = ds.map M.d
  | [], ds, h => by simp only [pureAll] at h; cases h; rfl
  | m :: cs, ds, h => by
    cases m <;> simp only [pureAll] at h <;> try (cases h; done)
    split at h
    · rename_i ds' hd; cases h; rw [pureAll_get hd]; rfl
    · cases h
theorem pureRow_get : ∀ {cs : List M} {ds : List D}, pureRow cs = some ds → cs.length = ds.length ∧ ∀ (i : Nat) (m : M) (d : D), cs[i]? = some m → ds[i]? = some d → (∀ x, Rm P role β w x m → Rd P role w x d ∧ d.strip = d) ∧ m.isCell = d.isCell
  | [], ds, h => by simp only [pureRow] at h; cases h; exact ⟨rfl, fun i m d hm => by simp at hm⟩
  | m :: cs, ds, h => by
    cases m <;> simp only [pureRow] at h <;> try (cases h; done)
    · split at h
      · rename_i ds' hd; cases h
        obtain ⟨h1, h2⟩ := pureRow_get hd
        refine ⟨by simp [h1], fun i m d hm hd' => ?_⟩
        cases i with
        | zero =>
          simp at hm hd'; subst hm; subst hd'
          exact ⟨fun x hx => by cases hx with | d h hs => exact ⟨h, hs⟩, rfl⟩
        | succ i => simp at hm hd'; exact h2 i m d hm hd'
      · cases h
    · split at h
      · rename_i ds' hd; cases h
        obtain ⟨h1, h2⟩ := pureRow_get hd
        refine ⟨by simp [h1], fun i m d hm hd' => ?_⟩
        cases i with
        | zero =>
          simp at hm hd'; subst hm; subst hd'
          exact ⟨fun x hx => by cases hx; exact ⟨.nil, rfl⟩, rfl⟩
        | succ i => simp at hm hd'; exact h2 i m d hm hd'
      · cases h
theorem mkAgg_rm {vs : Array Value} {cs : List M} (hl : vs.size = cs.length) (h1 : ∀ (i : Nat) (x : Value), vs[i]? = some x → x.oneCell' = true) (h : ∀ (i : Nat) (x : Value) (m : M), vs[i]? = some x → cs[i]? = some m → Rm P role β w x m) : Rm P role β w (.agg vs) (mkAgg cs) := by
  unfold mkAgg
  split
  · rename_i ds hd
    have e := pureAll_get hd
    subst e
    have hl' : vs.size = ds.length := by simpa using hl
    refine .d (.agg hl' h1 fun i x d hx hd' => ?_) rfl
    have := h i x (.d d) hx (by simp [hd'])
    cases this with
    | d h hs => exact h
  · exact .agg hl h1 h
/-- A load of cells that are known. -/
theorem run_load_known {t : TypeId} {b off : Nat} {cs : List M} {m : M} (f : Nat → Value) (hd : partM P t cs off = some m) (o : Nat)
    (hc : ∀ (k : Nat) (e : M), cs[k]? = some e → w.cell? ⟨b, o + k, none⟩ = some (f k)) (h1 : ∀ (k : Nat) (e : M), cs[k]? = some e → (f k).oneCell' = true) (hr : ∀ (k : Nat) (e : M), cs[k]? = some e → Rm P role β w (f k) e) :
    ∃ x, (loadVar t ⟨b, o + off, none⟩).run P w = .ok x w ∧ Rm P role β w x m := by
  unfold partM at hd
  cases ha : aggOf P t with
  | none => simp [ha] at hd
  | some g =>
    obtain ⟨hg, i, hi⟩ := run_isAgg' (w := w) ha
    cases g with
    | false =>
      simp only [ha] at hd
      refine ⟨f off, ?_, hr off m hd⟩
      simp [loadVar, hg, run_load, hc off m hd]
    | true =>
      simp only [ha] at hd
      split at hd
      · rename_i hle
        cases hd
        have hload := run_loadCells (P := P) w ⟨b, o + off, none⟩ (P.cellsOf t) (fun k => f (off + k)) (fun j hj => by
          rw [Addr.add_lit', Nat.add_assoc]
          exact hc (off + j) cs[off + j] (by simp [show off + j < cs.length by omega]))
        refine ⟨.agg ((List.range (P.cellsOf t)).map fun k => f (off + k)).toArray, ?_, ?_⟩
        · simp [loadVar, hg, run_sizeOf' hi, hload]
        · refine mkAgg_rm (by simp; omega) (fun i x hx => ?_) (fun i x d hx hd => ?_)
          · simp [List.getElem?_map, List.getElem?_range] at hx
            obtain ⟨j, hj, rfl⟩ := hx
            obtain ⟨hlt, e⟩ := List.getElem?_eq_some_iff.1 hj
            simp at hlt e
            subst e
            exact h1 (off + i) cs[off + i] (by simp [show off + i < cs.length by omega])
          · simp [List.getElem?_map] at hx
            obtain ⟨j, hj, rfl⟩ := hx
            obtain ⟨hlt, e⟩ := List.getElem?_eq_some_iff.1 hj
            simp at hlt e
            subst e
            rw [List.getElem?_take, if_pos hlt, List.getElem?_drop] at hd
            exact hr (off + i) d hd
      · cases hd
theorem load_sim (hS : Sim P E N H role β a w s) {o : Oper} {t : TypeId} {x : Operand} (ho : o.op = .load t x) (h : (loadL P N o t x).run orc s l K) : Oper.wp P o a w (After P E N H s K) Q := by
  unfold loadL at h
  rw [run_bind] at h
  obtain ⟨p, l1, h, hp⟩ := rdM_sim hS h
  generalize hx : a.eval x = v at hp
  split at h
  · rename_i k off
    simp only [Lk.run] at h
    have hso := hS.so k
    generalize get s (N + k) = c at h hso
    split at h
    · rename_i T cs
      split at h
      · rename_i m hm
        rw [run_chk] at h
        obtain ⟨l2, vs, e1, e2, e3, e4, e5, e6, e7⟩ := hso
        cases hp with
        | ref hβ =>
          rw [e1] at hβ; cases hβ
          have hc : ∀ (k : Nat) (e : M), cs[k]? = some e → vs[k]? = some (vs.getD k Go.undef) := fun k e hk => by
            have := (List.getElem?_eq_some_iff.1 hk).1
            have hlt : k < vs.size := by omega
            simp [hlt]
          obtain ⟨y, hy1, hy2⟩ := run_load_known (P := P) (role := role) (β := β) (w := w) (b := l2.b) (fun k => vs.getD k Go.undef) hm l2.o
            (fun k e hk => by rw [e2, Nat.zero_add]; simp only [World.cell?, e4]; simpa using hc k e hk) (fun k e hk => (e7 k _ e (hc k e hk) hk).1) (fun k e hk => (e7 k _ e (hc k e hk) hk).2)
          refine pure_sim hS h.2 (x := y) ?_ hy2
          simp [execOp, ho, hx, Instr.loadAt, sureAddr_run, hy1]
      · exact h.elim
    · exact h.elim
  · rename_i T k i j
    simp only [Lk.run] at h
    have hso := hS.so k
    generalize get s (N + k) = c at h hso
    split at h
    · rename_i T' lim es
      rw [run_chk, Bool.and_eq_true, beq_iff_eq, decide_eq_true_eq] at h
      obtain ⟨⟨rfl, hi⟩, h⟩ := h
      split at h
      · rename_i b d hd
        rw [run_chk] at h
        obtain ⟨rfl, h⟩ := h
        obtain ⟨d', hd', hdd, hds⟩ := partN_sim hd
        obtain ⟨l2, cur, fz, e1, e2, e3, e4, e5, e6, e7, e8, e9⟩ := hso
        cases hp with
        | el hβ =>
          rw [e1] at hβ; cases hβ
          have he : es[i]? = some (es.getD i []) := by simp [List.getD_eq_getElem?_getD, hi]
          have hc : ∀ (k : Nat) (e : D), (es.getD i [])[k]? = some e → ∃ y, cur[l2.o + i * P.cellsOf T + k]? = some y ∧ y.oneCell' = true ∧ Rd P role w y e := fun k e hk => e9 i _ k e he hk
          obtain ⟨y, hy1, hy2, _⟩ := run_loadVar_known (P := P) (role := role) (w := w) (b := l2.b) (fun k => cur.getD (l2.o + i * P.cellsOf T + k) Go.undef) hd' (l2.o + i * P.cellsOf T)
            (fun k e hk => by obtain ⟨y, q1, _⟩ := hc k e hk; simp only [World.cell?, e2]; simp [q1])
            (fun k e hk => by obtain ⟨y, q1, q2, _⟩ := hc k e hk; simp [q1, q2]) (fun k e hk => by obtain ⟨y, q1, q2, q3⟩ := hc k e hk; simp only [Array.getD_eq_getD_getElem?, q1, Option.getD_some]; exact q3)
          refine pure_sim hS h (x := y) ?_ (.d (hdd hy2).strip (strip_strip _))
          simp [execOp, ho, hx, Instr.loadAt, sureAddr_run, hy1]
      · exact h.elim
    · exact h.elim
  · exact deleg_sim hS h
  · exact h.elim
end
end Go.Proofs.YthhfnggigmfmjaaDoor.Hp

set_option linter.unusedSimpArgs false
set_option linter.unusedVariables false
namespace Go.Proofs.YthhfnggigmfmjaaDoor.Hp
open Go.RowKit

theorem splice_get {cur : Array Value} {news : List Value} {off x : Nat} (h : off + news.length ≤ cur.size) :
    ((cur.toList.take off ++ news ++ cur.toList.drop (off + news.length)).toArray)[x]? = if x < off then cur[x]? else if x < off + news.length then news[x - off]? else cur[x]? := by
  simp only [List.getElem?_toArray]
  have h1 : (cur.toList.take off).length = off := by simp; omega
  rw [List.getElem?_append]
  simp only [List.length_append, h1]
  by_cases c1 : x < off
  · rw [if_pos c1, if_pos (by omega), List.getElem?_append, h1, if_pos c1]; simp [c1]
  · rw [if_neg c1]
    by_cases c2 : x < off + news.length
    · rw [if_pos c2, if_pos c2, List.getElem?_append, h1, if_neg c1]
    · rw [if_neg c2, if_neg c2, List.getElem?_drop]
      simp only [Array.getElem?_toList]
      congr 1; omega
theorem splice_size {cur : Array Value} {news : List Value} {off : Nat} (h : off + news.length ≤ cur.size) : (cur.toList.take off ++ news ++ cur.toList.drop (off + news.length)).toArray.size = cur.size := by
  simp; omega
theorem setM_get {cs ds : List M} {off i : Nat} (h : off + ds.length ≤ cs.length) : (setM cs off ds)[i]? = if i < off then cs[i]? else if i < off + ds.length then ds[i - off]? else cs[i]? := by
  unfold setM
  have h1 : (cs.take off).length = off := by simp; omega
  rw [List.getElem?_append]
  simp only [List.length_append, h1]
  split
  · rw [List.getElem?_append]
    simp only [h1]
    split
    · rename_i h2; simp [h2]
    · rename_i h2 h3; simp [h2, h3]
  · rename_i h2
    rw [List.getElem?_drop]
    have h3 : ¬ i < off := by omega
    simp only [h3, if_false]
    exact congrArg (cs[·]?) (by omega)
theorem setM_length {cs ds : List M} {off : Nat} (h : off + ds.length ≤ cs.length) : (setM cs off ds).length = cs.length := by unfold setM; simp; omega

/-- Cells are stored where none of the block's cells is frozen. -/
theorem run_storeCells_nf (P : Program) (g o : Nat) (t : TypeId) (fz : Nat × Nat) : ∀ (vs : List Value) (i : Nat) (cur : Array Value) (w : World), w.heap[g]? = some (.cells cur t fz) → (∀ i, i < cur.size → ¬ (fz.1 ≤ i ∧ i < fz.2)) → o + i + vs.length ≤ cur.size → (∀ v ∈ vs, v.oneCell' = true) →
    (storeCells ⟨g, o, none⟩ vs i).run P w = .ok () (w.setRow g (cur.toList.take (o + i) ++ vs ++ cur.toList.drop (o + i + vs.length)).toArray)
  | [], i, cur, w, hg, _, _, _ => by
    simp only [storeCells, List.append_nil, List.length_nil, Nat.add_zero, List.take_append_drop, Array.toArray_toList]
    rw [setRow_self w g cur t fz hg]
    rfl
  | v :: rest, i, cur, w, hg, hfz, hl, h1 => by
    have hi : o + i < cur.size := by simp at hl; omega
    have hadd : (⟨g, o, none⟩ : Addr).add i = ⟨g, o + i, none⟩ := by unfold Addr.add; split <;> simp_all
    have hcell : w.cell? ⟨g, o + i, none⟩ = some cur[o + i] := by simp [World.cell?, hg, hi]
    have hfro : w.frozen? ⟨g, o + i, none⟩ = false := by
      obtain ⟨lo, hi'⟩ := fz
      have := hfz (o + i) hi
      simp only [World.frozen?, hg]
      cases hd : decide (lo ≤ o + i) && decide (o + i < hi') with
      | false => rfl
      | true => simp at hd; exact absurd hd this
    have hst : (store ((⟨g, o, none⟩ : Addr).add i) v).run P w = .ok () (w.setRow g (cur.setIfInBounds (o + i) v)) := by
      rw [hadd, run_store P w _ v _ (h1 v (by simp)), hcell]
      simp [hfro, setCell_eq_setRow w g (o + i) cur t fz v hg]
    have ih := run_storeCells_nf P g o t fz rest (i + 1) (cur.setIfInBounds (o + i) v) (w.setRow g (cur.setIfInBounds (o + i) v)) (setRow_heap w g cur _ t _ hg) (by simpa using hfz) (by simp at hl ⊢; omega) (fun x hx => h1 x (by simp [hx]))
    simp only [storeCells, Sem.run_bind, hst, Result.andThen_ok, ih, setRow_setRow]
    congr 3
    have e := list_seg_step cur.toList (o + i) v rest (by simp at hl ⊢; omega)
    simpa [Array.toList_setIfInBounds, Nat.add_assoc] using e

section
variable {P : Program} {E : Env} {N H : Nat} {role role' : Nat → Role} {β β' : Bet} {a a' : Act} {w w' : World} {s s' : List M} {orc : OrcM} {l : List Nat}
variable {K : List (Nat × M) → List Nat → Prop} {Q : Exit → Act → World → Prop}

theorem run_storeVar_nf {t : TypeId} {b off : Nat} {T : TypeId} {fz : Nat × Nat} {vs : Array Value} {v : Value} (hi : (P.info? t).isSome = true) (hv : v.cells.size = P.cellsOf t) (hb : w.heap[b]? = some (.cells vs T fz)) (hfz : ∀ i, i < vs.size → ¬ (fz.1 ≤ i ∧ i < fz.2))
    (hle : off + v.cells.size ≤ vs.size) (h1 : ∀ x ∈ v.cells.toList, x.oneCell' = true) :
    (storeVar t ⟨b, off, none⟩ v).run P w = .ok () (w.setRow b (vs.toList.take off ++ v.cells.toList ++ vs.toList.drop (off + v.cells.toList.length)).toArray) := by
  obtain ⟨i, hi⟩ := Option.isSome_iff_exists.1 hi
  have := run_storeCells_nf P b off T fz v.cells.toList 0 vs w hb hfz (by simpa using hle) h1
  simp only [Nat.add_zero] at this
  simp [storeVar, run_sizeOf' hi, hv, this]

theorem below_setRow (w : World) (b : Nat) (c : Array Value) : Below 0 w (w.setRow b c) := ⟨rfl, rfl, rfl, by simp, fun k hk => absurd hk (by omega)⟩
theorem setRow_size (w : World) (b : Nat) (c : Array Value) : (w.setRow b c).heap.size = w.heap.size := by simp

/-- What is written into a variable's cells. -/
theorem var_write (hS : Sim P E N H role β a w s) {k off : Nat} {T : TypeId} {cs ds : List M} {lo : Loc} {vs : Array Value} {news : List Value} (hg : get s (N + k) = .var T cs) (hl : β k = some lo) (h0 : lo.o = 0) (hn : lo.n = cs.length) (hb : w.heap[lo.b]? = some (.cells vs T (0, 0))) (hsz : vs.size = cs.length) (hr : role lo.b = .none)
    (hcells : ∀ (i : Nat) (y : Value) (m : M), vs[i]? = some y → cs[i]? = some m → y.oneCell' = true ∧ Rm P role β w y m) (hlen : news.length = ds.length) (hle : off + ds.length ≤ cs.length)
    (hnew : ∀ (i : Nat) (y : Value) (m : M), news[i]? = some y → ds[i]? = some m → y.oneCell' = true ∧ Rm P role β w y m) :
    Sim P E N H role β a (w.setRow lo.b (vs.toList.take off ++ news ++ vs.toList.drop (off + news.length)).toArray) (s.set (N + k) (.var T (setM cs off ds))) := by
  refine (hS.write hl (by rw [hg]; rfl) (below_setRow _ _ _) (fun b hb' => setRow_other w lo.b b _ hb') (setRow_size _ _ _) (fun n o hp _ => ?_) fun ev => ?_).2
  · obtain ⟨lim, ow, h1, _⟩ := hp; rw [hr] at h1; cases h1
  · refine ⟨lo, _, hl, h0, by rw [setM_length hle]; exact hn, setRow_heap w lo.b vs _ T (0, 0) hb, by rw [splice_size (by omega), setM_length hle, hsz], hr, fun i y m hy hm => ?_⟩
    rw [splice_get (by omega)] at hy
    rw [setM_get hle] at hm
    rw [hlen] at hy
    by_cases c1 : i < off
    · rw [if_pos c1] at hy hm; exact ⟨(hcells i y m hy hm).1, (hcells i y m hy hm).2.ev ev⟩
    · rw [if_neg c1] at hy hm
      by_cases c2 : i < off + ds.length
      · rw [if_pos c2] at hy hm; exact ⟨(hnew _ y m hy hm).1, (hnew _ y m hy hm).2.ev ev⟩
      · rw [if_neg c2] at hy hm; exact ⟨(hcells i y m hy hm).1, (hcells i y m hy hm).2.ev ev⟩

theorem setCells_length {cs ds : List D} {off : Nat} (h : off + ds.length ≤ cs.length) : (setCells cs off ds).length = cs.length := by unfold setCells; simp; omega
theorem row_index {o c i i' j j' n : Nat} (hj' : j' < c) (h1 : j ≤ c) (h2 : j + n ≤ c) : (o + i' * c + j' < o + i * c + j ↔ i' < i ∨ i' = i ∧ j' < j) ∧ (o + i' * c + j' < o + i * c + j + n ↔ i' < i ∨ i' = i ∧ j' < j + n) := by
  rcases Nat.lt_trichotomy i' i with h | h | h
  · have : (i' + 1) * c ≤ i * c := Nat.mul_le_mul_right _ h
    rw [Nat.add_mul] at this
    constructor <;> constructor <;> intro _ <;> first | (left; exact h) | omega
  · subst h; constructor <;> constructor <;> intro hh <;> first | (right; exact ⟨rfl, by omega⟩) | (rcases hh with hh | ⟨_, hh⟩ <;> omega)
  · have : (i + 1) * c ≤ i' * c := Nat.mul_le_mul_right _ h
    rw [Nat.add_mul] at this
    constructor <;> constructor <;> intro hh <;> first | omega | (rcases hh with hh | ⟨hh, _⟩ <;> omega)

/-- What is written into a row's element. -/
theorem row_write (hS : Sim P E N H role β a w s) {k i j lim : Nat} {T : TypeId} {es : List (List D)} {ds : List D} {lo : Loc} {cur : Array Value} {fz : Nat × Nat} {news : List Value} (hg : get s (N + k) = .row T lim es) (hl : β k = some lo) (hso : SO P role β w k (.row T lim es)) (hb : w.heap[lo.b]? = some (.cells cur T fz))
    (hi : i < es.length) (hlim : lim ≤ i) (hlen : news.length = ds.length) (hle : j + ds.length ≤ P.cellsOf T)
    (hnew : ∀ (i : Nat) (y : Value) (d : D), news[i]? = some y → ds[i]? = some d → y.oneCell' = true ∧ Rd P role w y d) :
    Sim P E N H role β a (w.setRow lo.b (cur.toList.take (lo.o + i * P.cellsOf T + j) ++ news ++ cur.toList.drop (lo.o + i * P.cellsOf T + j + news.length)).toArray) (s.set (N + k) (.row T lim (es.set i (setCells (es.getD i []) j ds)))) := by
  obtain ⟨l2, cur2, fz2, e1, e2, e3, e4, e5, e6, e7, e8, e9⟩ := hso
  rw [hl] at e1; cases e1
  rw [hb] at e2; cases e2
  have he : es[i]? = some (es.getD i []) := by simp [List.getD_eq_getElem?_getD, hi]
  have hel := e8 i _ he
  have hseg : (i + 1) * P.cellsOf T ≤ es.length * P.cellsOf T := Nat.mul_le_mul_right _ hi
  rw [Nat.add_mul] at hseg
  have hfit : lo.o + i * P.cellsOf T + j + news.length ≤ cur.size := by omega
  have hlimle : lim * P.cellsOf T ≤ i * P.cellsOf T := Nat.mul_le_mul_right _ hlim
  refine (hS.write hl (by rw [hg]; rfl) (below_setRow _ _ _) (fun b hb' => setRow_other w lo.b b _ hb') (setRow_size _ _ _) (fun n o hp ho => ?_) fun ev => ?_).2
  · have := e7 n hp
    have hlt : o < lo.o + i * P.cellsOf T + j := by omega
    simp only [World.cell?, setRow_heap w lo.b cur _ T fz hb, hb]
    rw [splice_get hfit, if_pos hlt]
  · refine ⟨lo, _, fz, hl, setRow_heap w lo.b cur _ T fz hb, by rw [splice_size hfit]; exact e3, by rw [splice_size hfit]; exact e4, by simpa using e5, by simpa using e6, e7, fun i' e hi' => ?_, fun i' e j' d hi' hj' => ?_⟩
    · rw [List.getElem?_set] at hi'
      split at hi'
      · cases hi'; rw [setCells_length (by omega)]; exact hel
      · exact e8 i' e hi'
    · rw [splice_get hfit]
      have key : ∀ e0, es[i']? = some e0 → j' < P.cellsOf T → (lo.o + i' * P.cellsOf T + j' < lo.o + i * P.cellsOf T + j ↔ i' < i ∨ i' = i ∧ j' < j) ∧ (lo.o + i' * P.cellsOf T + j' < lo.o + i * P.cellsOf T + j + news.length ↔ i' < i ∨ i' = i ∧ j' < j + news.length) := fun e0 _ hj2 => row_index hj2 (by omega) (by omega)
      rw [List.getElem?_set] at hi'
      split at hi'
      · rename_i hii
        subst hii
        · cases hi'
          have hj2 : j' < P.cellsOf T := by
            have := (List.getElem?_eq_some_iff.1 hj').1
            rw [setCells_length (by omega)] at this; omega
          obtain ⟨k1, k2⟩ := key _ he hj2
          rw [setCells_get (by omega)] at hj'
          by_cases c1 : j' < j
          · rw [if_pos c1] at hj'
            rw [if_pos (k1.2 (.inr ⟨rfl, c1⟩))]
            obtain ⟨y, q1, q2, q3⟩ := e9 i _ j' d he hj'
            exact ⟨y, q1, q2, q3.evo ev.evo⟩
          · rw [if_neg c1] at hj'
            rw [if_neg (fun hh => by rcases k1.1 hh with h0 | h0 <;> omega)]
            by_cases c2 : j' < j + ds.length
            · rw [if_pos c2] at hj'
              rw [if_pos (k2.2 (.inr ⟨rfl, by omega⟩)), show lo.o + i * P.cellsOf T + j' - (lo.o + i * P.cellsOf T + j) = j' - j by omega]
              have hlt := (List.getElem?_eq_some_iff.1 hj').1
              have hy : news[j' - j]? = some (news[j' - j]'(by omega)) := List.getElem?_eq_getElem (by omega)
              obtain ⟨q2, q3⟩ := hnew _ _ d hy hj'
              exact ⟨_, hy, q2, q3.evo ev.evo⟩
            · rw [if_neg c2] at hj'
              rw [if_neg (fun hh => by rcases k2.1 hh with h0 | h0 <;> omega)]
              obtain ⟨y, q1, q2, q3⟩ := e9 i _ j' d he hj'
              exact ⟨y, q1, q2, q3.evo ev.evo⟩
      · rename_i hii
        have hj2 : j' < P.cellsOf T := by
          have := (List.getElem?_eq_some_iff.1 hj').1
          rw [e8 i' e hi'] at this; exact this
        obtain ⟨k1, k2⟩ := key _ hi' hj2
        obtain ⟨y, q1, q2, q3⟩ := e9 i' e j' d hi' hj'
        refine ⟨y, ?_, q2, q3.evo ev.evo⟩
        by_cases c1 : i' < i
        · rw [if_pos (k1.2 (.inl c1))]; exact q1
        · rw [if_neg (fun hh => by rcases k1.1 hh with h0 | h0 <;> omega), if_neg (fun hh => by rcases k2.1 hh with h0 | h0 <;> omega)]; exact q1

theorem store_sim (hS : Sim P E N H role β a w s) {o : Oper} {t : TypeId} {x y : Operand} (ho : o.op = .store t x y) (hno : o.dst = none) (h : (storeL P N t x y).run orc s l K) : Oper.wp P o a w (After P E N H s K) Q := by
  unfold storeL at h
  rw [run_bind] at h
  obtain ⟨p, l1, g, hp⟩ := rdM_sim hS h
  clear h
  rw [run_bind] at g
  obtain ⟨v, l2, h, hv, hvr⟩ := rdMV_sim hS g
  clear g
  generalize hx : a.eval x = xv at hp
  have fin : ∀ {w' : World} {ws : List (Nat × M)} {l' : List Nat}, (execOp a.eval o).run P w = .ok .skip w' → Sim P E N H role β a w' (apply ws s) → K ws l' → Oper.wp P o a w (After P E N H s K) Q := by
    intro w' ws l' hr hs hK
    refine wp_skip' hr ⟨ws, l', role, β, hK, ?_⟩
    rw [hno]; exact hs
  split at h
  · rename_i k off
    simp only [Lk.run] at h
    have hso := hS.so k
    generalize hg : get s (N + k) = c at h hso
    cases c <;> try exact False.elim h
    case var T cs =>
      simp only at h
      rw [run_chk] at h
      obtain ⟨hc, hK⟩ := h
      simp only [Bool.and_eq_true, decide_eq_true_eq] at hc
      obtain ⟨⟨⟨hi, hlen⟩, hle⟩, hall⟩ := hc
      obtain ⟨lo, vs, e1, e2, e3, e4, e5, e6, e7⟩ := hso
      obtain ⟨k1, k2⟩ := cellsM_rm hvr hall
      cases hp with
      | ref hβ =>
        rw [e1] at hβ; cases hβ
        have hrun := run_storeVar_nf (P := P) (w := w) (t := t) (v := a.eval y) (off := off) hi (by omega) e4 (fun i _ hh => by simp at hh) (by omega) (fun z hz => by
          obtain ⟨i, hi', rfl⟩ := List.getElem_of_mem hz
          have hi2 : i < (cellsM v).length := by simp at hi'; omega
          exact (k2 i _ (cellsM v)[i] (by simp at hi'; simp [hi']) (by simp [hi2])).1)
        refine fin ?_ (var_write (news := (a.eval y).cells.toList) hS hg e1 e2 e3 e4 e5 e6 e7 (by simp [k1]) (by omega) (fun i z m hz hm => k2 i z m (by simpa using hz) hm)) hK
        simp [execOp, ho, hx, e2, Instr.storeAt, sureAddr_run, hrun]
  · rename_i T k i j
    simp only [Lk.run] at h
    have hso := hS.so k
    generalize hg : get s (N + k) = c at h hso
    cases c <;> try exact False.elim h
    case row T' lim es =>
      simp only at h
      split at h
      · rename_i ds hds
        obtain ⟨hl2, ed⟩ := pureRow_get (P := P) (role := role) (β := β) (w := w) hds
        rw [run_chk, run_chk, run_chk] at h
        obtain ⟨hc, hie, hlim, hK⟩ := h
        simp only [Bool.and_eq_true, beq_iff_eq, decide_eq_true_eq] at hc hie hlim
        obtain ⟨⟨⟨⟨rfl, hi⟩, hlen⟩, hle⟩, hall⟩ := hc
        have hallM : (cellsM v).all M.isCell = true := by
          rw [List.all_eq_true] at hall ⊢
          intro m hm
          obtain ⟨i, hi', rfl⟩ := List.getElem_of_mem hm
          have hd : ds[i]? = some (ds[i]'(by omega)) := List.getElem?_eq_getElem (by omega)
          rw [(ed i _ _ (List.getElem?_eq_getElem hi') hd).2]
          exact hall _ (List.getElem_mem _)
        obtain ⟨k1, k2⟩ := cellsM_rm hvr hallM
        have hso' := hso
        obtain ⟨lo, cur, fz, e1, e2, e3, e4, e5, e6, e7, e8, e9⟩ := hso'
        cases hp with
        | el hβ =>
          rw [e1] at hβ; cases hβ
          have hseg : (i + 1) * P.cellsOf T ≤ es.length * P.cellsOf T := Nat.mul_le_mul_right _ hie
          rw [Nat.add_mul] at hseg
          have hrun := run_storeVar_nf (P := P) (w := w) (t := t) (v := a.eval y) (off := lo.o + i * P.cellsOf T + j) hi (by omega) e2 e3 (by omega) (fun z hz => by
            obtain ⟨i, hi', rfl⟩ := List.getElem_of_mem hz
            have hi2 : i < (cellsM v).length := by simp at hi'; omega
            exact (k2 i _ (cellsM v)[i] (by simp at hi'; simp [hi']) (by simp [hi2])).1)
          refine fin ?_ (row_write (news := (a.eval y).cells.toList) hS hg e1 hso e2 hie hlim (by simp [k1, hl2]) (by omega) (fun i z d hz hd => ?_)) hK
          · simp [execOp, ho, hx, Instr.storeAt, sureAddr_run, hrun]
          · have hlt := (List.getElem?_eq_some_iff.1 hd).1
            have hm : (cellsM v)[i]? = some ((cellsM v)[i]'(by omega)) := List.getElem?_eq_getElem (by omega)
            have := k2 i z _ (by simpa using hz) hm
            exact ⟨this.1, ((ed i _ d hm hd).1 z this.2).1⟩
      · exact h.elim
  · exact h.elim

theorem fieldAddr_sim (hS : Sim P E N H role β a w s) {o : Oper} {S : TypeId} {x : Operand} {i : Nat} (ho : o.op = .fieldAddr S x i) (h : (fieldAddrL P N o S x i).run orc s l K) : Oper.wp P o a w (After P E N H s K) Q := by
  unfold fieldAddrL at h
  rw [run_bind] at h
  obtain ⟨p, l1, h, hp⟩ := rdM_sim hS h
  generalize hx : a.eval x = xv at hp
  have key : ∀ {f : Field} {b off : Nat}, (fieldsOf P S)[i]? = some f → ((P.info? f.type).isSome && decide (P.cellsOf f.type ≠ 0)) = true → a.eval x = .pointer (some ⟨b, off, none⟩) → (execOp a.eval o).run P w = .ok (.value (.pointer (some ⟨b, off + f.offset, none⟩))) w := by
    intro f b off hf hc hx'
    simp only [Bool.and_eq_true, decide_eq_true_eq] at hc
    obtain ⟨fs, hu, hfi⟩ := wf_fieldsOf hf
    obtain ⟨inf, hinf⟩ := Option.isSome_iff_exists.1 hc.1
    simp [execOp, ho, hx', Instr.fieldAt, run_underlying hu, hfi, sureAddr_run, fieldPlace, run_sizeOf' hinf, hc.2, Addr.add_lit']
  split at h
  · exact deleg_sim hS h
  · split at h
    · rename_i k off _ f hf
      rw [run_chk] at h
      cases hp with
      | ref hβ =>
        rename_i lo
        have hm : Rm P role β w (.pointer (some ⟨lo.b, lo.o + (off + f.offset), none⟩)) (.ref k (off + f.offset)) := .ref hβ
        rw [← Nat.add_assoc] at hm
        exact pure_sim hS h.2 (key hf h.1 hx) hm
    · exact h.elim
  · split at h
    · rename_i T k n j _ f hf
      rw [run_chk] at h
      cases hp with
      | el hβ =>
        rename_i lo
        have hm : Rm P role β w (.pointer (some ⟨lo.b, lo.o + n * P.cellsOf T + (j + f.offset), none⟩)) (.el T k n (j + f.offset)) := .el hβ
        rw [← Nat.add_assoc] at hm
        exact pure_sim hS h.2 (key hf h.1 hx) hm
    · exact h.elim
  · exact h.elim

theorem Rm.int {k : IntKind} {n : Int} {x : Value} (h : Rm P role β w x (.d (.v (.int k n)))) : x = .int k n := by
  cases h with | d h _ => exact h.int
theorem indexAddr_sim (hS : Sim P E N H role β a w s) {o : Oper} {t : TypeId} {x ix : Operand} (ho : o.op = .indexAddr t x ix) (h : (indexAddrL P N o t x ix).run orc s l K) : Oper.wp P o a w (After P E N H s K) Q := by
  unfold indexAddrL at h
  rw [run_bind] at h
  obtain ⟨p, l1, h, hp⟩ := rdM_sim hS h
  generalize hx : a.eval x = xv at hp
  split at h
  · exact deleg_sim hS h
  · rename_i T k off len
    rw [run_bind] at h
    obtain ⟨iv, l2, h, hi⟩ := rdM_sim hS h
    split at h
    · rename_i ki n
      split at h
      · rename_i e hu
        rw [run_chk, run_chk] at h
        obtain ⟨hc, hb, h⟩ := h
        simp only [Bool.and_eq_true, beq_iff_eq, decide_eq_true_eq] at hc hb
        obtain ⟨rfl, hie⟩ := hc
        obtain ⟨inf, hinf⟩ := Option.isSome_iff_exists.1 hie
        cases hp with
        | sl hβ hlc hn ha hsp =>
          rename_i cap lo ad
          have hcap : 0 < cap := by omega
          have hm : Rm P role β w (.pointer (some ⟨lo.b, lo.o + (off + n.toNat) * P.cellsOf T + 0, none⟩)) (.el T k (off + n.toNat) 0) := .el hβ
          refine pure_sim hS h ?_ hm
          simp [execOp, ho, hx, hi.int, Instr.indexAt, asIntOf, run_underlying hu, ha hcap, hb.1, hb.2, run_sizeOf' hinf, Addr.add_lit', Nat.add_mul, Nat.add_assoc]
      · exact h.elim
    · exact h.elim
  · rename_i k off
    rw [run_bind] at h
    obtain ⟨iv, l2, h, hi⟩ := rdM_sim hS h
    split at h
    · rename_i ki n
      split at h
      · rename_i len e hu
        rw [run_chk, run_chk] at h
        obtain ⟨hie, hb, h⟩ := h
        simp only [Bool.and_eq_true, decide_eq_true_eq] at hb
        obtain ⟨inf, hinf⟩ := Option.isSome_iff_exists.1 hie
        cases hp with
        | ref hβ =>
          rename_i lo
          have hm : Rm P role β w (.pointer (some ⟨lo.b, lo.o + (off + n.toNat * P.cellsOf e), none⟩)) (.ref k (off + n.toNat * P.cellsOf e)) := .ref hβ
          refine pure_sim hS h ?_ hm
          simp [execOp, ho, hx, hi.int, Instr.indexAt, asIntOf, run_underlying hu, sureAddr_run, hb.1, hb.2, run_sizeOf' hinf, Addr.add_lit', Nat.add_assoc]
      · exact h.elim
    · exact h.elim
  · exact h.elim

theorem nilCheck_sim (hS : Sim P E N H role β a w s) {o : Oper} {x : Operand} (ho : o.op = .nilCheck x) (h : (nilCheckL P N o x).run orc s l K) : Oper.wp P o a w (After P E N H s K) Q := by
  unfold nilCheckL at h
  rw [run_bind] at h
  obtain ⟨p, l1, h, hp⟩ := rdM_sim hS h
  generalize hx : a.eval x = xv at hp
  split at h
  · have hp' := hp
    cases hp' with
    | ref hβ => exact pure_sim hS h (by simp [execOp, ho, hx]) hp
  · have hp' := hp
    cases hp' with
    | el hβ => exact pure_sim hS h (by simp [execOp, ho, hx]) hp
  · have hp' := hp
    cases hp' with
    | ifc hβ => exact pure_sim hS h (by simp [execOp, ho, hx]) hp
  · have hp' := hp
    cases hp' with
    | clo hl hv hβ => exact pure_sim hS h (by simp [execOp, ho, hx]) hp
  · cases hp with
    | d h1 hs =>
      have h2 := h1
      cases h2 with
      | box f hp0 h10 hc0 hr0 => exact pure_sim hS h (by simp [execOp, ho, hx]) (.d h1 rfl)
  · cases hp with
    | d h1 hs =>
      have h2 := h1
      cases h2 with
      | iface h0 => exact pure_sim hS h (by simp [execOp, ho, hx]) (.d h1.strip (strip_strip _))
  · cases hp with
    | d h1 hs =>
      have h2 := h1
      cases h2 with
      | v h0 => exact pure_sim hS h (by simp [execOp, ho, hx]) (.d h1 rfl)
  · exact h.elim
end
end Go.Proofs.YthhfnggigmfmjaaDoor.Hp
