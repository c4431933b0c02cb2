/-
  A frame and its world against what a walk knows of them. No program in sight.
-/
import Derived.Test.YtnjhmlnmdnocmaaAbsA
namespace Go.Proofs.Ytnjhmlnmdnocmaa
set_option linter.unusedSimpArgs false
set_option linter.unusedVariables false
open Go.RowKit

/-- Where a call began: its world, and what the blocks were then. -/
structure Env where
  w0 : World
  r0 : Nat → Role

section
variable (P : Program) (E : Env) (role : Nat → Role) (w : World)
/-- A slice whose row is ours to append to. -/
def Owned (p : Nat × Option Nat) (x : Value) (T : TypeId) (n : Nat) : Prop :=
  x = .slice none 0 0 ∨ ∃ g cap cur, x = .slice (some ⟨g, 0, none⟩) n cap ∧ role g = .row (n * P.cellsOf T) (some p) ∧ E.w0.heap.size ≤ g ∧ w.heap[g]? = some (.cells cur T (0, 0)) ∧ n ≤ cap ∧ cap ≤ maxLen ∧ cur.size = cap * P.cellsOf T
/-- A value at a place. -/
def RO (p : Nat × Option Nat) (x : Value) (d : D) : Prop := Rd P role w x d ∧ ∀ T es, d = .list true T es → Owned P E role w p x T es.length
/-- What a temporary holds. -/
def RT (t : Nat) (x : Value) : D → Prop
  | .undef => True
  | .obj T cs => ∃ b vs, x = .pointer (some ⟨b, 0, none⟩) ∧ role b = .loc t ∧ E.w0.heap.size ≤ b ∧ w.heap[b]? = some (.cells vs T (0, 0)) ∧ vs.size = cs.length ∧
      ∀ (i : Nat) (y : Value) (d : D), vs[i]? = some y → cs[i]? = some d → y.oneCell' = true ∧ RO P E role w (t, some i) y d
  | .addr u off => ∃ b, x = .pointer (some ⟨b, off, none⟩) ∧ role b = .loc u
  | d => RO P E role w (t, none) x d
end

structure Sim (P : Program) (E : Env) (A : List Nat) (role : Nat → Role) (a : Act) (w : World) (s : List D) : Prop where
  ext : Exd E.w0 w
  old : ∀ k, k < E.w0.heap.size → role k = E.r0 k ∧ (∀ t, E.r0 k ≠ .loc t) ∧ ∀ lim p, E.r0 k ≠ .row lim (some p)
  low : ∀ k, role k ≠ .none → k < w.heap.size
  defers : a.defers = []
  size : a.tmps.size = s.length
  tm : ∀ t, RT P E role w t (a.tmps.getD t undef) (get s t)
  inj : ∀ b b' t, role b = .loc t → role b' = .loc t → b = b'
  live : ∀ x u off, get s x = .addr u off → x ∈ A ∧ ∃ T cs, get s u = .obj T cs

section
variable {P : Program} {E : Env} {role role' : Nat → Role} {w w' : World} {A : List Nat} {a : Act} {s : List D}

theorem RT.ro {t : Nat} {x : Value} {d : D} (h : RT P E role w t x d) (hd : d.isVal = true) : RO P E role w (t, none) x d := by
  cases d <;> first | exact h | simp [D.isVal] at hd
theorem RO.rt {t : Nat} {x : Value} {d : D} (h : RO P E role w (t, none) x d) : RT P E role w t x d := by
  have := h.1.isVal
  cases d <;> first | exact h | simp [D.isVal] at this
theorem RO.strip {p q : Nat × Option Nat} {x : Value} {d : D} (h : RO P E role w p x d) : RO P E role w q x d.strip := by
  refine ⟨h.1.strip, fun T es he => ?_⟩
  cases d <;> simp [D.strip] at he
theorem Rd.ro {p : Nat × Option Nat} {x : Value} {d : D} (h : Rd P role w x d) (hd : d.strip = d) : RO P E role w p x d := by
  refine ⟨h, fun T es he => ?_⟩
  subst he; simp [D.strip] at hd

/-- What becomes of the blocks that are not the one that is written. -/
structure Kept (role : Nat → Role) (w : World) (role' : Nat → Role) (w' : World) (b0 : Option Nat) : Prop where
  evo : Evo role w role' w'
  loc : ∀ b t, role b = .loc t → role' b = .loc t
  locH : ∀ b t, role b = .loc t → some b ≠ b0 → w'.heap[b]? = w.heap[b]?
  row : ∀ b lim p, role b = .row lim (some p) → some b ≠ b0 → role' b = .row lim (some p) ∧ w'.heap[b]? = w.heap[b]?

theorem Owned.keep {b0 : Option Nat} (k : Kept role w role' w' b0) {p : Nat × Option Nat} {x : Value} {T : TypeId} {n : Nat} (h : Owned P E role w p x T n)
    (hb : ∀ b lim, b0 = some b → role b ≠ .row lim (some p)) : Owned P E role' w' p x T n := by
  rcases h with h | ⟨g, cap, cur, h1, h2, h3, h4, h5⟩
  · exact .inl h
  · have hne : some g ≠ b0 := fun e => hb g _ e.symm h2
    obtain ⟨k1, k2⟩ := k.row g _ _ h2 hne
    exact .inr ⟨g, cap, cur, h1, k1, h3, k2.trans h4, h5⟩
theorem RO.keep {b0 : Option Nat} (k : Kept role w role' w' b0) {p : Nat × Option Nat} {x : Value} {d : D} (h : RO P E role w p x d)
    (hb : ∀ b lim, b0 = some b → role b ≠ .row lim (some p)) : RO P E role' w' p x d :=
  ⟨h.1.evo k.evo, fun T es he => (h.2 T es he).keep k hb⟩
/-- A temporary that has nothing to do with the block that is written holds what it held. -/
theorem RT.keep {b0 : Option Nat} (k : Kept role w role' w' b0) {t : Nat} {x : Value} {d : D} (h : RT P E role w t x d)
    (hl : ∀ b, b0 = some b → role b ≠ .loc t) (hb : ∀ b lim i, b0 = some b → role b ≠ .row lim (some (t, i))) : RT P E role' w' t x d := by
  cases d
  case undef => trivial
  case obj T cs =>
    obtain ⟨b, vs, h1, h2, h3, h4, h5, h6⟩ := h
    have hne : some b ≠ b0 := fun e => hl b e.symm h2
    exact ⟨b, vs, h1, k.loc b t h2, h3, (k.locH b t h2 hne).trans h4, h5, fun i y d hy hd => ⟨(h6 i y d hy hd).1, (h6 i y d hy hd).2.keep k fun b lim e => hb b lim (some i) e⟩⟩
  case addr u off =>
    obtain ⟨b, h1, h2⟩ := h
    exact ⟨b, h1, k.loc b u h2⟩
  all_goals exact RO.keep k h fun b lim e => hb b lim none e

theorem getD_set {tmps : Array Value} {t u : Nat} {x : Value} : (tmps.setIfInBounds t x).getD u undef = if t = u ∧ t < tmps.size then x else tmps.getD u undef := by
  by_cases h : t = u
  · subst h
    by_cases hl : t < tmps.size
    · simp [hl]
    · simp [hl]
  · simp [h]

/-- A temporary that is no variable's gets a value; the world is as it was. -/
theorem Sim.put (h : Sim P E A role a w s) {t : Nat} {x : Value} {d : D} (hd : RT P E role w t x d) (ho : (get s t).isObj = false)
    (ha : ∀ u off, d = .addr u off → t ∈ A ∧ ∃ T cs, get s u = .obj T cs) (hno : d.isObj = false) : Sim P E A role (a.put (some t) x) w (s.set t d) where
  ext := h.ext
  old := h.old
  low := h.low
  defers := h.defers
  size := by simp [Act.put, h.size]
  tm u := by
    show RT P E role w u ((a.tmps.setIfInBounds t x).getD u undef) _
    rw [getD_set, get_set, h.size]
    split
    · rename_i e; obtain ⟨rfl, _⟩ := e; exact hd
    · exact h.tm u
  inj := h.inj
  live y u off hy := by
    have key : (∃ T cs, get s u = .obj T cs) → ∃ T cs, get (s.set t d) u = .obj T cs := by
      rintro ⟨T, cs, hu⟩
      refine ⟨T, cs, ?_⟩
      rw [get_set, if_neg (fun e => by obtain ⟨rfl, _⟩ := e; rw [hu] at ho; simp [D.isObj] at ho)]
      exact hu
    rw [get_set] at hy
    split at hy
    · rename_i e; obtain ⟨rfl, _⟩ := e
      exact ⟨(ha u off hy).1, key (ha u off hy).2⟩
    · exact ⟨(h.live y u off hy).1, key (h.live y u off hy).2⟩

/-- The world turns; each temporary is shown anew. -/
theorem Sim.turn (h : Sim P E A role a w s) (hx : Exd E.w0 w') (hold : ∀ k, k < E.w0.heap.size → role' k = role k) (hlow : ∀ k, role' k ≠ .none → k < w'.heap.size)
    (hinj : ∀ b b' t, role' b = .loc t → role' b' = .loc t → b = b') (htm : ∀ t, RT P E role' w' t (a.tmps.getD t undef) (get s t)) : Sim P E A role' a w' s where
  ext := hx
  old k hk := by obtain ⟨h1, h2⟩ := h.old k hk; exact ⟨(hold k hk).trans h1, h2⟩
  low := hlow
  defers := h.defers
  size := h.size
  tm := htm
  inj := hinj
  live := h.live

/-- Less is known. -/
theorem Sim.forget (h : Sim P E [] role a w s) (t : Nat) : Sim P E [] role a w (s.set t .undef) where
  ext := h.ext
  old := h.old
  low := h.low
  defers := h.defers
  size := by simp [h.size]
  tm u := by
    rw [get_set]
    split
    · trivial
    · exact h.tm u
  inj := h.inj
  live y u off hy := by
    rw [get_set] at hy
    split at hy
    · cases hy
    · exact absurd (h.live y u off hy).1 (by simp)
end
end Go.Proofs.Ytnjhmlnmdnocmaa
