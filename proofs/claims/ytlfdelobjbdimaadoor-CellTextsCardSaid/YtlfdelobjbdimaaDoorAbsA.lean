/-
  Abstract values: what a walk knows of Go's values without addresses; how they read in a world. No program in sight. A frame and its world against what a walk knows of them. No program in sight. What an operation does to what a walk knows. No program in sight: the tables of a program are an argument. Operations on what a walk knows against the operations themselves: moves, variables, loads and stores. No program in sight. Variables, loads, stores, addresses: what a walk knows against the operations. No program in sight. Variables, loads, stores, addresses: each operation's step. No program in sight. Loads, stores, addresses: each operation's step. No program in sight. Stores; addresses of elements. No program in sight.
-/
import Derived.WalkKit
set_option linter.unusedSimpArgs false
set_option linter.unusedVariables false
namespace Go.Proofs.YtlfdelobjbdimaaDoor
set_option linter.unusedSimpArgs false
set_option linter.unusedVariables false
open Go.RowKit

/-- w' is w with new blocks, and nothing else: what was there stands as it stood. -/
def Exd (w w' : World) : Prop := Below w.heap.size w w'
theorem Exd.refl (w : World) : Exd w w := Below.refl _ _
theorem Exd.trans {a b c : World} (h : Exd a b) (k : Exd b c) : Exd a c := Below.trans h (Below.mono k h.size)
theorem Exd.trans' {a b c : World} (h : Exd a b) (k : Below a.heap.size b c) : Exd a c := Below.trans h k
theorem Exd.al {a w : World} {o : Obj} (h : Exd a w) : Exd a (w.alloc o) := Below.alloc h h.size o
theorem size_alloc' (w : World) (o : Obj) : (w.alloc o).heap.size = w.heap.size + 1 := by show (w.heap.push o).size = _; simp
theorem at_alloc' (w : World) (o : Obj) : (w.alloc o).heap[w.heap.size]? = some o := by show (w.heap.push o)[w.heap.size]? = _; simp
theorem Exd.dr {a w : World} (h : Exd a w) : Exd a w.drew := Below.drew h

/-- What is known of a value: nothing; a value without an address; a struct's or an array's cells; results; an interface's; a slice (whether its row is ours to append to, its elements' type, its elements' cells); a pointer to cells that stay as they are; a variable of ours (its type and cells); an address within one. -/
inductive D where
  | undef
  | v (x : Value)
  | agg (cs : List D)
  | tup (ds : List D)
  | iface (t : TypeId) (d : D)
  | list (own : Bool) (T : TypeId) (es : List (List D))
  | box (cs : List D) (off : Nat)
  | obj (T : TypeId) (cs : List D)
  | addr (u : Nat) (off : Nat)
  deriving Inhabited

def get (s : List D) (t : Nat) : D := s.getD t .undef
theorem get_set_self {s : List D} {t : Nat} {d : D} (h : t < s.length) : get (s.set t d) t = d := by simp [get, h]
theorem get_set_ne {s : List D} {t u : Nat} {d : D} (h : t ≠ u) : get (s.set t d) u = get s u := by
  simp [get, List.getElem?_set_ne h]
theorem get_ge {s : List D} {t : Nat} (h : s.length ≤ t) : get s t = .undef := by simp [get, h]
theorem get_set {s : List D} {t u : Nat} {d : D} : get (s.set t d) u = if t = u ∧ t < s.length then d else get s u := by
  by_cases h : t = u
  · subst h
    by_cases hl : t < s.length
    · simp [get_set_self hl, hl]
    · rw [List.set_eq_of_length_le (by omega)]; simp [hl]
  · rw [get_set_ne h]; simp [h]

/-- An integer without a sign is of its kind. -/
def inKind (k : IntKind) (n : Int) : Bool := k.signed || (decide (0 ≤ n) && decide (n < 2 ^ k.bits))
theorem inKind_wrap (k : IntKind) (n : Int) : inKind k (k.wrap n) = true := by
  unfold inKind IntKind.wrap
  cases hk : k.signed with
  | true => rfl
  | false =>
    have h2 : (0 : Int) < 2 ^ k.bits := Int.pow_pos (by omega)
    simp only [Bool.false_and, Bool.false_or, Bool.false_eq_true, if_false, Bool.and_eq_true, decide_eq_true_eq]
    exact ⟨Int.emod_nonneg _ (by omega), Int.emod_lt_of_pos _ h2⟩
theorem inKind_div {k : IntKind} {n : Int} (m : Nat) (h : inKind k n = true) : inKind k (n.fdiv (2 ^ m)) = true := by
  unfold inKind at h ⊢
  cases hk : k.signed with
  | true => rfl
  | false =>
    simp only [hk, Bool.false_or, Bool.and_eq_true, decide_eq_true_eq] at h ⊢
    have h2 : (0 : Int) < 2 ^ m := Int.pow_pos (by omega)
    rw [Int.fdiv_eq_ediv_of_nonneg _ (by omega)]
    exact ⟨Int.ediv_nonneg h.1 (by omega), Int.lt_of_le_of_lt (Int.ediv_le_self _ h.1) h.2⟩
theorem inKind_mod {k : IntKind} {n m : Int} (h : inKind k n = true) : inKind k (n.tmod m) = true := by
  unfold inKind at h ⊢
  cases hk : k.signed with
  | true => rfl
  | false =>
    simp only [hk, Bool.false_or, Bool.and_eq_true, decide_eq_true_eq] at h ⊢
    refine ⟨Int.tmod_nonneg _ h.1, ?_⟩
    rw [Int.tmod_eq_emod_of_nonneg h.1]
    obtain ⟨a, rfl⟩ := Int.eq_ofNat_of_zero_le h.1
    have h5 : (a : Int) % m ≤ a := by
      have key : ∀ b : Nat, (a : Int) % (b : Int) ≤ a := fun b => by
        have : (a : Int) % (b : Int) = ((a % b : Nat) : Int) := by omega
        rw [this]
        have := Nat.mod_le a b
        omega
      rcases Int.natAbs_eq m with e | e
      · rw [e]; exact key _
      · rw [e, Int.emod_neg]; exact key _
    omega
/-- A value that holds no address. -/
def leafV : Value → Bool
  | .int k n => inKind k n
  | .bool _ | .float _ _ | .complex _ _ _ | .string _ | .pointer none | .map none | .chan none | .nilFunc | .nilIface => true
  | .func _ f c => f.isEmpty && c.isEmpty
  | _ => false

/-- The types of a type's cells. -/
def cellTypes (P : Program) : Nat → TypeId → List TypeId
  | 0, _ => []
  | n + 1, t => match P.underlying t with
    | some (.struct fs) => fs.toList.flatMap fun f => cellTypes P n f.type
    | some (.array k e) => (List.replicate k (cellTypes P n e)).flatten
    | _ => [t]
/-- A literal of one cell, of a type. -/
def litT (P : Program) (t : TypeId) (x : Value) : Option D := match x with
  | .slice none 0 0 => match P.underlying t with
    | some (.slice e) => some (.list true e [])
    | _ => none
  | x => if leafV x then some (.v x) else none
def litCells (P : Program) : List TypeId → List Value → Option (List D)
  | [], [] => some []
  | t :: ts, x :: xs => match litT P t x, litCells P ts xs with
    | some d, some ds => some (d :: ds)
    | _, _ => none
  | _, _ => none
/-- A literal's abstract value. -/
def lit (P : Program) (t : TypeId) (x : Value) : Option D := match x with
  | .agg cs => (litCells P (cellTypes P 9 t) cs.toList).map .agg
  | x => litT P t x

def D.strip : D → D
  | .list _ T es => .list false T es
  | d => d
/-- A value: neither unknown nor a variable's address. -/
def D.isVal : D → Bool
  | .undef | .obj _ _ | .addr _ _ => false
  | _ => true
/-- A value that one cell holds. -/
def D.isCell : D → Bool
  | .undef | .obj _ _ | .addr _ _ | .agg _ | .tup _ => false
  | _ => true
def D.isObj : D → Bool
  | .obj _ _ => true
  | _ => false

/-- What a block is to a walk: nothing known of it; the variable of a temporary; a row: how many of its cells stay as they are, and whose it is to append to (a temporary, or a cell of a variable). -/
inductive Role where
  | none
  | loc (t : Nat)
  | row (lim : Nat) (own : Option (Nat × Option Nat))

def pubAt (role : Nat → Role) (b n : Nat) : Prop := ∃ lim ow, role b = .row lim ow ∧ n ≤ lim

/-- How an abstract value reads in a world. -/
inductive Rd (P : Program) (role : Nat → Role) (w : World) : Value → D → Prop
  | v {x : Value} (h : leafV x = true) : Rd P role w x (.v x)
  | agg {vs : Array Value} {cs : List D} (hl : vs.size = cs.length) (h1 : ∀ (i : Nat) (x : Value), vs[i]? = some x → x.oneCell' = true)
      (h : ∀ (i : Nat) (x : Value) (d : D), vs[i]? = some x → cs[i]? = some d → Rd P role w x d) : Rd P role w (.agg vs) (.agg cs)
  | tup {vs : Array Value} {ds : List D} (hl : vs.size = ds.length)
      (h : ∀ (i : Nat) (x : Value) (d : D), vs[i]? = some x → ds[i]? = some d → Rd P role w x d) : Rd P role w (.tuple vs) (.tup ds)
  | iface {t : TypeId} {x : Value} {d : D} (h : Rd P role w x d) : Rd P role w (.iface t x) (.iface t d)
  | nil {o : Bool} {T : TypeId} : Rd P role w (.slice none 0 0) (.list o T [])
  | list {b off len cap : Nat} {o : Bool} {T : TypeId} {es : List (List D)} (f : Nat → Nat → Value) (hl : es.length = len) (hcap : len ≤ cap)
      (hp : 0 < len → pubAt role b (off + len * P.cellsOf T))
      (hs : ∀ (i : Nat) (e : List D), es[i]? = some e → e.length = P.cellsOf T)
      (h1 : ∀ (i : Nat) (e : List D) (k : Nat) (d : D), es[i]? = some e → e[k]? = some d → (f i k).oneCell' = true)
      (hc : ∀ (i : Nat) (e : List D) (k : Nat) (d : D), es[i]? = some e → e[k]? = some d → w.cell? ⟨b, off + i * P.cellsOf T + k, none⟩ = some (f i k))
      (h : ∀ (i : Nat) (e : List D) (k : Nat) (d : D), es[i]? = some e → e[k]? = some d → Rd P role w (f i k) d) :
      Rd P role w (.slice (some ⟨b, off, none⟩) len cap) (.list o T es)
  | box {b o off : Nat} {cs : List D} (f : Nat → Value) (hp : pubAt role b (o + cs.length))
      (h1 : ∀ (k : Nat) (d : D), cs[k]? = some d → (f k).oneCell' = true)
      (hc : ∀ (k : Nat) (d : D), cs[k]? = some d → w.cell? ⟨b, o + k, none⟩ = some (f k))
      (h : ∀ (k : Nat) (d : D), cs[k]? = some d → Rd P role w (f k) d) :
      Rd P role w (.pointer (some ⟨b, o + off, none⟩)) (.box cs off)

/-- What stays, stays. -/
structure Evo (role : Nat → Role) (w : World) (role' : Nat → Role) (w' : World) : Prop where
  pub : ∀ b n, pubAt role b n → pubAt role' b n
  cell : ∀ b n o, pubAt role b n → o < n → w'.cell? ⟨b, o, none⟩ = w.cell? ⟨b, o, none⟩

theorem Evo.refl (role : Nat → Role) (w : World) : Evo role w role w := ⟨fun _ _ h => h, fun _ _ _ _ _ => rfl⟩
theorem Evo.trans {r1 r2 r3 : Nat → Role} {a b c : World} (h : Evo r1 a r2 b) (k : Evo r2 b r3 c) : Evo r1 a r3 c :=
  ⟨fun x n hp => k.pub x n (h.pub x n hp), fun x n o hp ho => (k.cell x n o (h.pub x n hp) ho).trans (h.cell x n o hp ho)⟩

theorem seg_lt {i len c k : Nat} (hi : i < len) (hk : k < c) : i * c + k < len * c := by
  have : (i + 1) * c ≤ len * c := Nat.mul_le_mul_right _ (by omega)
  rw [Nat.add_mul] at this; omega

theorem Rd.evo {P : Program} {role role' : Nat → Role} {w w' : World} {x : Value} {d : D} (h : Rd P role w x d) (e : Evo role w role' w') : Rd P role' w' x d := by
  induction h with
  | v h => exact .v h
  | agg hl h1 _ ih => exact .agg hl h1 ih
  | tup hl _ ih => exact .tup hl ih
  | iface _ ih => exact .iface ih
  | nil => exact .nil
  | list f hl hcap hp hs h1 hc _ ih =>
    refine .list f hl hcap (fun h0 => e.pub _ _ (hp h0)) hs h1 (fun i e' k d he hk => ?_) ih
    have hlt := (List.getElem?_eq_some_iff.1 he).1
    have hk' := (List.getElem?_eq_some_iff.1 hk).1
    rw [hs i e' he] at hk'
    have := seg_lt (c := P.cellsOf _) (hl ▸ hlt) hk'
    rw [e.cell _ _ _ (hp (by omega)) (by omega)]
    exact hc i e' k d he hk
  | box f hp h1 hc _ ih =>
    refine .box f (e.pub _ _ hp) h1 (fun k d hk => ?_) ih
    have hk' := (List.getElem?_eq_some_iff.1 hk).1
    rw [e.cell _ _ _ hp (by omega)]
    exact hc k d hk

theorem Rd.strip {P : Program} {role : Nat → Role} {w : World} {x : Value} {d : D} (h : Rd P role w x d) : Rd P role w x d.strip := by
  cases h with
  | nil => exact .nil
  | list f hl hcap hp hs h1 hc h => exact .list f hl hcap hp hs h1 hc h
  | v h => exact .v h
  | agg hl h1 h => exact .agg hl h1 h
  | tup hl h => exact .tup hl h
  | iface h => exact .iface h
  | box f hp h1 hc h => exact .box f hp h1 hc h
theorem Rd.own {P : Program} {role : Nat → Role} {w : World} {x : Value} {o o' : Bool} {T : TypeId} {es : List (List D)} (h : Rd P role w x (.list o T es)) : Rd P role w x (.list o' T es) := by
  cases h with
  | nil => exact .nil
  | list f hl hcap hp hs h1 hc h => exact .list f hl hcap hp hs h1 hc h

theorem Rd.isVal {P : Program} {role : Nat → Role} {w : World} {x : Value} {d : D} (h : Rd P role w x d) : d.isVal = true := by
  cases h <;> rfl
theorem leafV_oneCell {x : Value} (h : leafV x = true) : x.oneCell' = true := by
  cases x <;> first | rfl | simp [leafV] at h
theorem Rd.one {P : Program} {role : Nat → Role} {w : World} {x : Value} {d : D} (h : Rd P role w x d) (hd : d.isCell = true) : x.oneCell' = true := by
  cases h with
  | v h => exact leafV_oneCell h
  | agg => simp [D.isCell] at hd
  | tup => simp [D.isCell] at hd
  | _ => rfl

theorem litT_rd {P : Program} {role : Nat → Role} {w : World} {t : TypeId} {x : Value} {d : D} (h : litT P t x = some d) : Rd P role w x d ∧ x.oneCell' = true := by
  unfold litT at h
  split at h
  · split at h
    · cases h; exact ⟨.nil, rfl⟩
    · cases h
  · split at h
    · rename_i hx
      cases h; exact ⟨.v hx, leafV_oneCell hx⟩
    · cases h
theorem litCells_rd {P : Program} {role : Nat → Role} {w : World} : ∀ (ts : List TypeId) (xs : List Value) (ds : List D), litCells P ts xs = some ds →
    xs.length = ds.length ∧ ∀ (i : Nat) (x : Value) (d : D), xs[i]? = some x → ds[i]? = some d → Rd P role w x d ∧ x.oneCell' = true
  | [], [], ds, h => by simp only [litCells] at h; cases h; exact ⟨rfl, fun i x d hx => by simp at hx⟩
  | [], _ :: _, _, h => by simp [litCells] at h
  | _ :: _, [], _, h => by simp [litCells] at h
  | t :: ts, x :: xs, ds, h => by
    simp only [litCells] at h
    split at h
    · rename_i d' ds' h1 h2
      cases h
      obtain ⟨hl, hr⟩ := litCells_rd ts xs ds' h2
      refine ⟨by simp [hl], fun i y d hy hd => ?_⟩
      cases i with
      | zero => simp at hy hd; subst hy; subst hd; exact litT_rd h1
      | succ i => simp at hy hd; exact hr i y d hy hd
    · cases h
theorem lit_rd {P : Program} {role : Nat → Role} {w : World} {t : TypeId} {x : Value} {d : D} (h : lit P t x = some d) : Rd P role w x d := by
  unfold lit at h
  split at h
  · rename_i cs
    simp only [Option.map_eq_some_iff] at h
    obtain ⟨l, hl, rfl⟩ := h
    obtain ⟨h1, h2⟩ := litCells_rd (role := role) (w := w) _ _ _ hl
    refine .agg (by simpa using h1) (fun i x hx => ?_) (fun i x d hx hd => (h2 i x d (by simpa using hx) hd).1)
    have hi := (Array.getElem?_eq_some_iff.1 hx).1
    have hi' : i < l.length := by simp at h1; omega
    exact (h2 i x l[i] (by simpa using hx) (by simp [hi'])).2
  · exact (litT_rd h).1
end Go.Proofs.YtlfdelobjbdimaaDoor

namespace Go.Proofs.YtlfdelobjbdimaaDoor
open Go.RowKit

/-- Where a call began: its world, and what the blocks were then. -/
structure Env where
  w0 : World
  r0 : Nat → Role

section
variable (P : Program) (E : Env) (role : Nat → Role) (w : World)
/-- A slice whose row is ours to append to. -/
def Owned (p : Nat × Option Nat) (x : Value) (T : TypeId) (n : Nat) : Prop :=
  x = .slice none 0 0 ∨ ∃ g cap cur, x = .slice (some ⟨g, 0, none⟩) n cap ∧ role g = .row (n * P.cellsOf T) (some p) ∧ E.w0.heap.size ≤ g ∧ w.heap[g]? = some (.cells cur T (0, 0)) ∧ n ≤ cap ∧ cap ≤ maxLen ∧ cur.size = cap * P.cellsOf T
/-- A value at a place. -/
def RO (p : Nat × Option Nat) (x : Value) (d : D) : Prop := Rd P role w x d ∧ ∀ T es, d = .list true T es → Owned P E role w p x T es.length
/-- What a temporary holds. -/
def RT (t : Nat) (x : Value) : D → Prop
  | .undef => True
  | .obj T cs => ∃ b vs, x = .pointer (some ⟨b, 0, none⟩) ∧ role b = .loc t ∧ E.w0.heap.size ≤ b ∧ w.heap[b]? = some (.cells vs T (0, 0)) ∧ vs.size = cs.length ∧
      ∀ (i : Nat) (y : Value) (d : D), vs[i]? = some y → cs[i]? = some d → y.oneCell' = true ∧ RO P E role w (t, some i) y d
  | .addr u off => ∃ b, x = .pointer (some ⟨b, off, none⟩) ∧ role b = .loc u
  | d => RO P E role w (t, none) x d
end

structure Sim (P : Program) (E : Env) (A : List Nat) (role : Nat → Role) (a : Act) (w : World) (s : List D) : Prop where
  ext : Exd E.w0 w
  old : ∀ k, k < E.w0.heap.size → role k = E.r0 k ∧ (∀ t, E.r0 k ≠ .loc t) ∧ ∀ lim p, E.r0 k ≠ .row lim (some p)
  low : ∀ k, role k ≠ .none → k < w.heap.size
  defers : a.defers = []
  size : a.tmps.size = s.length
  tm : ∀ t, RT P E role w t (a.tmps.getD t undef) (get s t)
  inj : ∀ b b' t, role b = .loc t → role b' = .loc t → b = b'
  live : ∀ x u off, get s x = .addr u off → x ∈ A ∧ ∃ T cs, get s u = .obj T cs

section
variable {P : Program} {E : Env} {role role' : Nat → Role} {w w' : World} {A : List Nat} {a : Act} {s : List D}

theorem RT.ro {t : Nat} {x : Value} {d : D} (h : RT P E role w t x d) (hd : d.isVal = true) : RO P E role w (t, none) x d := by
  cases d <;> first | exact h | simp [D.isVal] at hd
theorem RO.rt {t : Nat} {x : Value} {d : D} (h : RO P E role w (t, none) x d) : RT P E role w t x d := by
  have := h.1.isVal
  cases d <;> first | exact h | simp [D.isVal] at this
theorem RO.strip {p q : Nat × Option Nat} {x : Value} {d : D} (h : RO P E role w p x d) : RO P E role w q x d.strip := by
  refine ⟨h.1.strip, fun T es he => ?_⟩
  cases d <;> simp [D.strip] at he
theorem Rd.ro {p : Nat × Option Nat} {x : Value} {d : D} (h : Rd P role w x d) (hd : d.strip = d) : RO P E role w p x d := by
  refine ⟨h, fun T es he => ?_⟩
  subst he; simp [D.strip] at hd

/-- What becomes of the blocks that are not the one that is written. -/
structure Kept (role : Nat → Role) (w : World) (role' : Nat → Role) (w' : World) (b0 : Option Nat) : Prop where
  evo : Evo role w role' w'
  loc : ∀ b t, role b = .loc t → role' b = .loc t
  locH : ∀ b t, role b = .loc t → some b ≠ b0 → w'.heap[b]? = w.heap[b]?
  row : ∀ b lim p, role b = .row lim (some p) → some b ≠ b0 → role' b = .row lim (some p) ∧ w'.heap[b]? = w.heap[b]?

theorem Owned.keep {b0 : Option Nat} (k : Kept role w role' w' b0) {p : Nat × Option Nat} {x : Value} {T : TypeId} {n : Nat} (h : Owned P E role w p x T n)
    (hb : ∀ b lim, b0 = some b → role b ≠ .row lim (some p)) : Owned P E role' w' p x T n := by
  rcases h with h | ⟨g, cap, cur, h1, h2, h3, h4, h5⟩
  · exact .inl h
  · have hne : some g ≠ b0 := fun e => hb g _ e.symm h2
    obtain ⟨k1, k2⟩ := k.row g _ _ h2 hne
    exact .inr ⟨g, cap, cur, h1, k1, h3, k2.trans h4, h5⟩
theorem RO.keep {b0 : Option Nat} (k : Kept role w role' w' b0) {p : Nat × Option Nat} {x : Value} {d : D} (h : RO P E role w p x d)
    (hb : ∀ b lim, b0 = some b → role b ≠ .row lim (some p)) : RO P E role' w' p x d :=
  ⟨h.1.evo k.evo, fun T es he => (h.2 T es he).keep k hb⟩
/-- A temporary that has nothing to do with the block that is written holds what it held. -/
theorem RT.keep {b0 : Option Nat} (k : Kept role w role' w' b0) {t : Nat} {x : Value} {d : D} (h : RT P E role w t x d)
    (hl : ∀ b, b0 = some b → role b ≠ .loc t) (hb : ∀ b lim i, b0 = some b → role b ≠ .row lim (some (t, i))) : RT P E role' w' t x d := by
  cases d
  case undef => trivial
  case obj T cs =>
    obtain ⟨b, vs, h1, h2, h3, h4, h5, h6⟩ := h
    have hne : some b ≠ b0 := fun e => hl b e.symm h2
    exact ⟨b, vs, h1, k.loc b t h2, h3, (k.locH b t h2 hne).trans h4, h5, fun i y d hy hd => ⟨(h6 i y d hy hd).1, (h6 i y d hy hd).2.keep k fun b lim e => hb b lim (some i) e⟩⟩
  case addr u off =>
    obtain ⟨b, h1, h2⟩ := h
    exact ⟨b, h1, k.loc b u h2⟩
  all_goals exact RO.keep k h fun b lim e => hb b lim none e

theorem getD_set {tmps : Array Value} {t u : Nat} {x : Value} : (tmps.setIfInBounds t x).getD u undef = if t = u ∧ t < tmps.size then x else tmps.getD u undef := by
  by_cases h : t = u
  · subst h
    by_cases hl : t < tmps.size
    · simp [hl]
    · simp [hl]
  · simp [h]

/-- A temporary that is no variable's gets a value; the world is as it was. -/
theorem Sim.put (h : Sim P E A role a w s) {t : Nat} {x : Value} {d : D} (hd : RT P E role w t x d) (ho : (get s t).isObj = false)
    (ha : ∀ u off, d = .addr u off → t ∈ A ∧ ∃ T cs, get s u = .obj T cs) (hno : d.isObj = false) : Sim P E A role (a.put (some t) x) w (s.set t d) where
  ext := h.ext
  old := h.old
  low := h.low
  defers := h.defers
  size := by simp [Act.put, h.size]
  tm u := by
    show RT P E role w u ((a.tmps.setIfInBounds t x).getD u undef) _
    rw [getD_set, get_set, h.size]
    split
    · rename_i e; obtain ⟨rfl, _⟩ := e; exact hd
    · exact h.tm u
  inj := h.inj
  live y u off hy := by
    have key : (∃ T cs, get s u = .obj T cs) → ∃ T cs, get (s.set t d) u = .obj T cs := by
      rintro ⟨T, cs, hu⟩
      refine ⟨T, cs, ?_⟩
      rw [get_set, if_neg (fun e => by obtain ⟨rfl, _⟩ := e; rw [hu] at ho; simp [D.isObj] at ho)]
      exact hu
    rw [get_set] at hy
    split at hy
    · rename_i e; obtain ⟨rfl, _⟩ := e
      exact ⟨(ha u off hy).1, key (ha u off hy).2⟩
    · exact ⟨(h.live y u off hy).1, key (h.live y u off hy).2⟩

/-- The world turns; each temporary is shown anew. -/
theorem Sim.turn (h : Sim P E A role a w s) (hx : Exd E.w0 w') (hold : ∀ k, k < E.w0.heap.size → role' k = role k) (hlow : ∀ k, role' k ≠ .none → k < w'.heap.size)
    (hinj : ∀ b b' t, role' b = .loc t → role' b' = .loc t → b = b') (htm : ∀ t, RT P E role' w' t (a.tmps.getD t undef) (get s t)) : Sim P E A role' a w' s where
  ext := hx
  old k hk := by obtain ⟨h1, h2⟩ := h.old k hk; exact ⟨(hold k hk).trans h1, h2⟩
  low := hlow
  defers := h.defers
  size := h.size
  tm := htm
  inj := hinj
  live := h.live

/-- Less is known. -/
theorem Sim.forget (h : Sim P E [] role a w s) (t : Nat) : Sim P E [] role a w (s.set t .undef) where
  ext := h.ext
  old := h.old
  low := h.low
  defers := h.defers
  size := by simp [h.size]
  tm u := by
    rw [get_set]
    split
    · trivial
    · exact h.tm u
  inj := h.inj
  live y u off hy := by
    rw [get_set] at hy
    split at hy
    · cases hy
    · exact absurd (h.live y u off hy).1 (by simp)
end
end Go.Proofs.YtlfdelobjbdimaaDoor

namespace Go.Proofs.YtlfdelobjbdimaaDoor
open Go.RowKit

/-- A walk's look at a frame: which temporaries it reads, what it asks, which function it calls. -/
inductive Look (α : Type) : Type where
  | ret (a : α)
  | rd (t : Nat) (k : D → Look α)
  | chk (b : Bool) (k : Look α)
  | call (f : Nat) (ds : List D) (k : D → Look α)
  | fail

abbrev Orc := Nat → List D → (D → Prop) → Prop
namespace Look
variable {α β : Type}
def bind : Look α → (α → Look β) → Look β
  | .ret a, f => f a
  | .rd t k, f => .rd t fun d => (k d).bind f
  | .chk b k, f => .chk b (k.bind f)
  | .call g ds k, f => .call g ds fun d => (k d).bind f
  | .fail, _ => .fail
instance : Monad Look where
  pure := Look.ret
  bind := Look.bind
def run (orc : Orc) : Look α → List D → List Nat → (α → List Nat → Prop) → Prop
  | .ret a, _, l, K => K a l
  | .rd t k, s, l, K => (k (get s t)).run orc s (t :: l) K
  | .chk b k, s, l, K => b = true ∧ k.run orc s l K
  | .call f ds k, s, l, K => orc f ds fun d => (k d).run orc s l K
  | .fail, _, _, _ => False
end Look
open Look (ret rd chk)

/-- Of a predicate over outcomes: there is just one, and it is so. -/
def Det {α : Type} (m : (α → Prop) → Prop) : Prop := ∀ K, m K → ∃ d, K d ∧ ∀ K' : α → Prop, K' d → m K'

section
variable {orc : Orc} {α β : Type} {s s' : List D}
theorem run_bind (m : Look α) (f : α → Look β) : ∀ (l : List Nat) (K : β → List Nat → Prop), (m.bind f).run orc s l K ↔ m.run orc s l (fun a l' => (f a).run orc s l' K) := by
  induction m with
  | ret a => intro l K; rfl
  | rd t k ih => intro l K; exact ih _ _ K
  | chk b k ih => intro l K; exact and_congr_right fun _ => ih l K
  | call g ds k ih =>
    intro l K
    simp only [Look.bind, Look.run]
    have : (fun d => ((k d).bind f).run orc s l K) = (fun d => (k d).run orc s l fun a l' => (f a).run orc s l' K) := funext fun d => propext (ih d l K)
    rw [this]
  | fail => intro l K; rfl
theorem run_bind' (m : Look α) (f : α → Look β) (l : List Nat) (K : β → List Nat → Prop) : (m >>= f).run orc s l K ↔ m.run orc s l (fun a l' => (f a).run orc s l' K) := run_bind m f l K

/-- One outcome, and what was read. -/
theorem run_out (ho : ∀ f ds, Det (orc f ds)) (m : Look α) : ∀ (l : List Nat) (K : α → List Nat → Prop), m.run orc s l K →
    ∃ a l', K a l' ∧ ∃ r, l' = r ++ l ∧ ∀ s', (∀ t, t ∈ r → get s' t = get s t) → ∀ K' : α → List Nat → Prop, K' a l' → m.run orc s' l K' := by
  induction m with
  | ret a => intro l K h; exact ⟨a, l, h, [], rfl, fun _ _ K' hK => hK⟩
  | rd t k ih =>
    intro l K h
    obtain ⟨a, l', h2, r, hr, h3⟩ := ih _ _ K h
    refine ⟨a, l', h2, r ++ [t], by rw [hr]; simp, fun s' hs K' hK => ?_⟩
    show (k (get s' t)).run orc s' (t :: l) _
    rw [hs t (by simp)]
    exact h3 s' (fun u hu => hs u (by simp [hu])) K' hK
  | chk b k ih =>
    intro l K h
    obtain ⟨a, l', h2, r, hr, h3⟩ := ih l K h.2
    exact ⟨a, l', h2, r, hr, fun s' hs K' hK => ⟨h.1, h3 s' hs K' hK⟩⟩
  | call g ds k ih =>
    intro l K h
    obtain ⟨d, hd, hk⟩ := ho g ds _ h
    obtain ⟨a, l', h2, r, hr, h3⟩ := ih d l K hd
    exact ⟨a, l', h2, r, hr, fun s' hs K' hK => hk _ (h3 s' hs K' hK)⟩
  | fail => intro l K h; exact h.elim
end

/-! ## The operations -/
section
variable (P : Program)
def aggOf (t : TypeId) : Option Bool := match P.underlying t with
  | some (.struct _) | some (.array _ _) => some true
  | some _ => some false
  | none => none

/-- An operand's value; what is ours to append to is handed on as a copy. -/
def rdO (t : TypeId) : Operand → Look D
  | .tmp u => .rd u fun d => .ret d.strip
  | .const x => match lit P t x with
    | some d => .ret d.strip
    | none => .fail
  | .func f => .ret (.v (.func (.func f) #[] #[]))
  | .global _ => .fail
def rdV (t : TypeId) (x : Operand) : Look D := (rdO P t x).bind fun d => .chk d.isVal (.ret d)
def rdAll : List (TypeId × Operand) → Look (List D)
  | [] => .ret []
  | (t, x) :: xs => (rdV P t x).bind fun d => (rdAll xs).bind fun ds => .ret (d :: ds)

/-- The operation's temporary gets a value, behind other writes. -/
def putW (o : Oper) (d : D) (ws : List (Nat × D)) : Look (List (Nat × D)) := match o.dst with
  | none => .ret ws
  | some t => .rd t fun old => .chk (!old.isObj) (.ret (ws ++ [(t, d)]))

/-- A part of cells: of a type, from an offset on. -/
def partD (t : TypeId) (cs : List D) (off : Nat) : Option D :=
  match aggOf P t with
  | some true => if off + P.cellsOf t ≤ cs.length then some (.agg ((cs.drop off).take (P.cellsOf t))) else none
  | some false => cs[off]?
  | none => none

/-- A value's cells, as copies. -/
def cellsD : D → List D
  | .agg cs => cs.map D.strip
  | d => [d.strip]

/-- What a pointer leads to: the cells, the offset, and whose variable it is. -/
def deref (u : Nat) : D → Look (Option (Nat × TypeId) × List D × Nat)
  | .obj T cs => .ret (some (u, T), cs, 0)
  | .addr x off => .rd x fun d => match d with
    | .obj T cs => .ret (some (x, T), cs, off)
    | _ => .fail
  | .box cs off => .ret (none, cs, off)
  | _ => .fail
def rdPtr : Operand → Look (Option (Nat × TypeId) × List D × Nat)
  | .tmp u => .rd u fun d => deref u d
  | _ => .fail

def intOf : D → Int
  | .v (.int _ n) => n
  | _ => 0
def boolOf : D → Bool
  | .v (.bool b) => b
  | _ => false
def strOf : D → ByteArray
  | .v (.string s) => s
  | _ => ByteArray.empty
def listOf : D → List (List D)
  | .list _ _ es => es
  | _ => []
/-- A value of a type, in the form that the type tells. -/
def norm (t : TypeId) (d : D) : D := match P.underlying t with
  | some (.int k) => .v (.int k (intOf d))
  | some .bool => .v (.bool (boolOf d))
  | some .string => .v (.string (strOf d))
  | some (.slice e) => .list false e (listOf d)
  | _ => d.strip
def isD (t : TypeId) (d : D) : Bool := match P.underlying t with
  | some (.int k) => match d with
    | .v (.int k' _) => k == k'
    | _ => false
  | some .bool => match d with
    | .v (.bool _) => true
    | _ => false
  | some .string => match d with
    | .v (.string _) => true
    | _ => false
  | some (.slice e) => match d with
    | .list _ T _ => T == e
    | _ => false
  | _ => d.isCell
theorem norm_eq {t : TypeId} {d : D} (h : isD P t d = true) : norm P t d = d.strip := by
  unfold isD at h
  unfold norm
  cases hu : P.underlying t with
  | none => rfl
  | some td =>
    rw [hu] at h
    cases td
    case int k =>
      cases d <;> try (cases h)
      rename_i x
      cases x <;> try (cases h)
      rename_i k' n
      have : k = k' := by simpa using h
      subst this; rfl
    case bool =>
      cases d <;> try (cases h)
      rename_i x
      cases x <;> first | rfl | cases h
    case string =>
      cases d <;> try (cases h)
      rename_i x
      cases x <;> first | rfl | cases h
    case slice e =>
      cases d <;> try (cases h)
      rename_i o T es
      have : T = e := by simpa using h
      subst this; rfl
    all_goals rfl
/-- Cells of types, from an offset on, in the form that the types tell. -/
def normCells (cs : List D) : Nat → List TypeId → List D
  | _, [] => []
  | off, t :: ts => norm P t (cs.getD off .undef) :: normCells cs (off + 1) ts
def isCells (cs : List D) : Nat → List TypeId → Bool
  | _, [] => true
  | off, t :: ts => isD P t (cs.getD off .undef) && isCells cs (off + 1) ts
/-- A part of cells that stay, in the form that its type tells. -/
def partN (t : TypeId) (cs : List D) (off : Nat) : Option (Bool × D) := match aggOf P t with
  | some true => some (isCells P cs off (cellTypes P 9 t) && decide ((cellTypes P 9 t).length = P.cellsOf t) && decide (0 < P.cellsOf t), .agg (normCells P cs off (cellTypes P 9 t)))
  | some false => some (isD P t (cs.getD off .undef), norm P t (cs.getD off .undef))
  | none => none

def isList : D → Bool
  | .list true _ _ => true
  | _ => false

/-- A temporary is moved: what is ours to append to goes along. -/
def moveL (o : Oper) (t : TypeId) (x : Operand) (take : Bool) : Look (List (Nat × D)) := match x with
  | .tmp u => .rd u fun d => if take && isList d then .chk (o.dst != some u) (putW o d [(u, d.strip)]) else .chk d.isVal (putW o d.strip [])
  | .const (.slice none 0 0) => match P.underlying t with
    | some (.slice e) => putW o (.list true e []) []
    | _ => .fail
  | x => (rdV P t x).bind fun d => putW o d []

def fieldsOf (t : TypeId) : List Field := match P.underlying t with
  | some (.struct fs) => fs.toList
  | _ => []

def setCells (cs : List D) (off : Nat) (ds : List D) : List D := cs.take off ++ ds ++ cs.drop (off + ds.length)

/-- A number's, a truth's, a text's type. -/
def scalarT (t : TypeId) : Bool := match P.underlying t with
  | some (.int _) | some .bool | some .string => true
  | _ => false
def loadL (o : Oper) (t : TypeId) (x : Operand) (take : Bool) : Look (List (Nat × D)) :=
  (rdPtr x).bind fun (w, cs, off) => match w with
    | some (u, T) => bif scalarT P t then .chk (isD P t (cs.getD off .undef)) (putW o (norm P t (cs.getD off .undef)) []) else match partD P t cs off with
      | none => .fail
      | some d => if take && isList d then .chk (o.dst != some u) (putW o d [(u, .obj T (cs.set off d.strip))]) else .chk d.isVal (putW o d.strip [])
    | none => match partN P t cs off with
      | none => .fail
      | some (c, d) => .chk c (putW o d [])

def storeL (t : TypeId) (x y : Operand) : Look (List (Nat × D)) :=
  (rdPtr x).bind fun (w, cs, off) => match w with
    | none => .fail
    | some (u, T) =>
      let plain (d : D) : Look (List (Nat × D)) := .chk (d.isVal && (P.info? t).isSome && decide ((cellsD d).length = P.cellsOf t) && decide (off + P.cellsOf t ≤ cs.length) && (cellsD d).all D.isCell) (.ret [(u, .obj T (setCells cs off (cellsD d)))])
      match y with
      | .tmp z => .rd z fun d => if isList d then .chk (z != u && (P.info? t).isSome && decide (P.cellsOf t = 1) && decide (off < cs.length)) (.ret [(z, d.strip), (u, .obj T (setCells cs off [d]))])
        else plain d
      | y => (rdV P t y).bind plain

/-- A variable is made. -/
def zeroCellsD (T : TypeId) : Option (List D) := ((P.info? T).bind (·.zero)).bind fun z => litCells P (cellTypes P 9 T) z.cells.toList
def allocL (o : Oper) (T : TypeId) : Look (List (Nat × D)) := match zeroCellsD P T with
  | none => .fail
  | some ds => putW o (.obj T ds) []
def boxL (o : Oper) (T : TypeId) (x : Operand) : Look (List (Nat × D)) :=
  (rdV P T x).bind fun d => .chk ((cellsD d).all D.isCell) (putW o (.obj T (cellsD d)) [])

/-- An address within a variable, or within cells that stay. -/
def shift (u : Nat) (d : D) (n : Nat) : Option D := match d with
  | .obj _ _ => some (.addr u n)
  | .addr x off => some (.addr x (off + n))
  | .box cs off => some (.box cs (off + n))
  | _ => none
def fieldAddrL (o : Oper) (S : TypeId) (x : Operand) (i : Nat) : Look (List (Nat × D)) := match x with
  | .tmp u => .rd u fun d => match (fieldsOf P S)[i]? with
    | none => .fail
    | some f => match shift u d f.offset with
      | none => .fail
      | some e => .chk ((P.info? f.type).isSome && decide (P.cellsOf f.type ≠ 0)) (putW o e [])
  | _ => .fail
def indexAddrL (o : Oper) (t : TypeId) (x ix : Operand) : Look (List (Nat × D)) := match x with
  | .tmp u => .rd u fun d => (rdV P t ix).bind fun i => match i with
    | .v (.int _ n) => match P.underlying t, d with
      | some (.slice e), .list _ T es => .chk (T == e && (P.info? e).isSome) (.chk (decide (0 ≤ n) && decide (n < (es.length : Int))) (putW o (.box (es.getD n.toNat []) 0) []))
      | some (.array len e), d => match shift u d (n.toNat * P.cellsOf e) with
        | none => .fail
        | some e' => .chk ((P.info? e).isSome) (.chk (decide (0 ≤ n) && decide (n < (len : Int))) (putW o e' []))
      | _, _ => .fail
    | _ => .fail
  | _ => .fail
end
end Go.Proofs.YtlfdelobjbdimaaDoor

namespace Go.Proofs.YtlfdelobjbdimaaDoor
open Go.RowKit
open Look (ret rd chk)

def apply (ws : List (Nat × D)) (s : List D) : List D := ws.foldl (fun s p => s.set p.1 p.2) s

section
variable {P : Program} {orc : Orc} {E : Env} {A : List Nat} {role : Nat → Role} {a : Act} {w : World} {s : List D} {l : List Nat}

theorem wp_value {o : Oper} {v : Value} {w' : World} {next : Act → World → Prop} {Q : Exit → Act → World → Prop} (h : (execOp a.eval o).run P w = .ok (.value v) w') (k : next (a.put o.dst v) w') : Oper.wp P o a w next Q := by
  unfold Oper.wp; rw [h]; exact k
theorem wp_skip' {o : Oper} {w' : World} {next : Act → World → Prop} {Q : Exit → Act → World → Prop} (h : (execOp a.eval o).run P w = .ok .skip w') (k : next (a.put o.dst undef) w') : Oper.wp P o a w next Q := by
  unfold Oper.wp; rw [h]; exact k

theorem strip_strip (d : D) : d.strip.strip = d.strip := by cases d <;> rfl
theorem isVal_strip (d : D) : d.strip.isVal = d.isVal := by cases d <;> rfl

theorem rdO_sim (hS : Sim P E A role a w s) {t : TypeId} {x : Operand} {K : D → List Nat → Prop} (h : (rdO P t x).run orc s l K) :
    ∃ d l', K d l' ∧ d.strip = d ∧ (d.isVal = true → Rd P role w (a.eval x) d) := by
  cases x with
  | tmp u =>
    refine ⟨_, _, h, strip_strip _, fun hv => ?_⟩
    rw [isVal_strip] at hv
    exact ((hS.tm u).ro hv).1.strip
  | const v =>
    simp only [rdO] at h
    split at h
    · rename_i d hd
      exact ⟨_, _, h, strip_strip _, fun _ => (lit_rd hd).strip⟩
    · exact h.elim
  | func f => exact ⟨_, _, h, rfl, fun _ => .v rfl⟩
  | global g => exact h.elim

theorem rdV_sim (hS : Sim P E A role a w s) {t : TypeId} {x : Operand} {K : D → List Nat → Prop} (h : (rdV P t x).run orc s l K) :
    ∃ d l', K d l' ∧ d.strip = d ∧ d.isVal = true ∧ Rd P role w (a.eval x) d := by
  rw [rdV, run_bind] at h
  obtain ⟨d, l', h1, h2, h3⟩ := rdO_sim hS h
  exact ⟨d, l', h1.2, h2, h1.1, h3 h1.1⟩

theorem rdAll_sim (hS : Sim P E A role a w s) : ∀ (xs : List (TypeId × Operand)) (l : List Nat) (K : List D → List Nat → Prop), (rdAll P xs).run orc s l K →
    ∃ ds l', K ds l' ∧ ds.length = xs.length ∧ ∀ (i : Nat) (x : TypeId × Operand) (d : D), xs[i]? = some x → ds[i]? = some d → Rd P role w (a.eval x.2) d ∧ d.strip = d
  | [], l, K, h => ⟨[], l, h, rfl, fun i x d hx => by simp at hx⟩
  | (t, x) :: xs, l, K, h => by
    rw [rdAll, run_bind] at h
    obtain ⟨d, l1, h1, h2, _, h3⟩ := rdV_sim hS h
    rw [run_bind] at h1
    obtain ⟨ds, l2, h4, h5, h6⟩ := rdAll_sim hS xs _ _ h1
    refine ⟨d :: ds, l2, h4, by simp [h5], fun i y e hy he => ?_⟩
    cases i with
    | zero => simp at hy he; subst hy; subst he; exact ⟨h3, h2⟩
    | succ i => simp at hy he; exact h6 i y e hy he

theorem putW_sim {o : Oper} {d : D} {ws : List (Nat × D)} {K : List (Nat × D) → List Nat → Prop} (h : (putW o d ws).run orc s l K) :
    ∃ l', (∀ t, o.dst = some t → (get s t).isObj = false) ∧ K (ws ++ (o.dst.toList.map fun t => (t, d))) l' := by
  unfold putW at h
  cases hd : o.dst with
  | none => rw [hd] at h; exact ⟨l, (fun t ht => by cases ht), by simpa [Look.run] using h⟩
  | some t =>
    rw [hd] at h
    refine ⟨_, fun u hu => ?_, h.2⟩
    cases hu
    have := h.1
    simpa using this

/-- The operation's temporary gets a value of one world. -/
theorem put_sim (hS : Sim P E A role a w s) {o : Oper} {x : Value} {d : D} (hno : ∀ t, o.dst = some t → (get s t).isObj = false) (hd : Rd P role w x d) (hs : d.strip = d) :
    Sim P E A role (a.put o.dst x) w (apply ([] ++ (o.dst.toList.map fun t => (t, d))) s) := by
  cases ho : o.dst with
  | none => exact hS
  | some t =>
    refine hS.put (RO.rt (hd.ro hs)) (hno t ho) (fun u off e => ?_) ?_
    · subst e; have := hd.isVal; simp [D.isVal] at this
    · cases hd <;> rfl

/-- A pure operation: its value is known, the world is as it was. -/
theorem pure_sim (hS : Sim P E A role a w s) {o : Oper} {x : Value} {d : D} {K : List (Nat × D) → List Nat → Prop} {Q : Exit → Act → World → Prop}
    (h : (putW o d []).run orc s l K) (hr : (execOp a.eval o).run P w = .ok (.value x) w) (hd : Rd P role w x d) (hs : d.strip = d) :
    Oper.wp P o a w (fun a' w' => ∃ ws l' role', K ws l' ∧ Sim P E A role' a' w' (apply ws s)) Q := by
  obtain ⟨l', hno, hK⟩ := putW_sim h
  exact wp_value hr ⟨_, l', role, hK, put_sim hS hno hd hs⟩

/-- A nil slice is ours: it has no row. -/
theorem ro_nil (T : TypeId) (p : Nat × Option Nat) : RO P E role w p (.slice none 0 0) (.list true T []) := ⟨.nil, fun _ _ _ => Or.inl rfl⟩
theorem nil_sim (hS : Sim P E A role a w s) {o : Oper} {T : TypeId} {K : List (Nat × D) → List Nat → Prop} {Q : Exit → Act → World → Prop}
    (h : (putW o (.list true T []) []).run orc s l K) (hr : (execOp a.eval o).run P w = .ok (.value (.slice none 0 0)) w) :
    Oper.wp P o a w (fun a' w' => ∃ ws l' role', K ws l' ∧ Sim P E A role' a' w' (apply ws s)) Q := by
  obtain ⟨l', hno, hK⟩ := putW_sim h
  refine wp_value hr ⟨_, l', role, hK, ?_⟩
  cases ho : o.dst with
  | none => exact hS
  | some t => exact hS.put (RO.rt (ro_nil T _)) (hno t ho) (fun u off e => by cases e) rfl

theorem info_of_underlying {t : TypeId} {d : TypeDesc} (h : P.underlying t = some d) : ∃ i, P.info? t = some i := by
  unfold Program.underlying at h
  cases hi : P.info? t with
  | none => simp [hi] at h
  | some i => exact ⟨i, rfl⟩
theorem run_sizeOf' {t : TypeId} {i : TypeInfo} (h : P.info? t = some i) : (sizeOf t).run P w = .ok (P.cellsOf t) w := by
  simp [sizeOf, typeInfo, h, Program.cellsOf]
theorem run_isAgg' {t : TypeId} {b : Bool} (h : aggOf P t = some b) : (isAgg t).run P w = .ok b w ∧ ∃ i, P.info? t = some i := by
  unfold aggOf at h
  unfold isAgg
  cases hu : P.underlying t with
  | none => simp [hu] at h
  | some d =>
    refine ⟨?_, info_of_underlying hu⟩
    rw [Sem.run_bind, run_underlying hu w]
    cases d <;> simp [hu] at h <;> subst h <;> rfl

theorem Addr.add_lit' (b o i : Nat) : (⟨b, o, none⟩ : Addr).add i = ⟨b, o + i, none⟩ := by unfold Addr.add; split <;> simp_all

/-- A load, of cells that are known. -/
theorem run_loadVar_known {t : TypeId} {b off : Nat} {cs : List D} {d : D} (f : Nat → Value) (hd : partD P t cs off = some d) (o : Nat)
    (hc : ∀ (k : Nat) (e : D), cs[k]? = some e → w.cell? ⟨b, o + k, none⟩ = some (f k)) (h1 : ∀ (k : Nat) (e : D), cs[k]? = some e → (f k).oneCell' = true) (hr : ∀ (k : Nat) (e : D), cs[k]? = some e → Rd P role w (f k) e) :
    ∃ x, (loadVar t ⟨b, o + off, none⟩).run P w = .ok x w ∧ Rd P role w x d ∧ (aggOf P t = some false → x = f off ∧ cs[off]? = some d) := by
  unfold partD at hd
  cases ha : aggOf P t with
  | none => simp [ha] at hd
  | some g =>
    obtain ⟨hg, i, hi⟩ := run_isAgg' (w := w) ha
    cases g with
    | false =>
      simp only [ha] at hd
      refine ⟨f off, ?_, hr off d hd, fun _ => ⟨rfl, hd⟩⟩
      simp [loadVar, hg, run_load, hc off d hd]
    | true =>
      simp only [ha] at hd
      split at hd
      · rename_i hle
        cases hd
        have hload := run_loadCells (P := P) w ⟨b, o + off, none⟩ (P.cellsOf t) (fun k => f (off + k)) (fun j hj => by
          rw [Addr.add_lit', Nat.add_assoc]
          exact hc (off + j) cs[off + j] (by simp [show off + j < cs.length by omega]))
        refine ⟨.agg ((List.range (P.cellsOf t)).map fun k => f (off + k)).toArray, ?_, ?_, (fun h => by cases h)⟩
        · simp [loadVar, hg, run_sizeOf' hi, hload]
        · refine .agg (by simp; omega) (fun i x hx => ?_) (fun i x d hx hd => ?_)
          · simp [List.getElem?_map, List.getElem?_range] at hx
            obtain ⟨j, hj, rfl⟩ := hx
            have := (List.getElem?_eq_some_iff.1 hj)
            obtain ⟨hlt, e⟩ := this
            simp at hlt e
            subst e
            exact h1 (off + i) cs[off + i] (by simp [show off + i < cs.length by omega])
          · simp [List.getElem?_map] at hx
            obtain ⟨j, hj, rfl⟩ := hx
            obtain ⟨hlt, e⟩ := List.getElem?_eq_some_iff.1 hj
            simp at hlt e
            subst e
            rw [List.getElem?_take, if_pos hlt, List.getElem?_drop] at hd
            exact hr (off + i) d hd
      · cases hd
end
end Go.Proofs.YtlfdelobjbdimaaDoor

namespace Go.Proofs.YtlfdelobjbdimaaDoor
open Go.RowKit
open Look (ret rd chk)

section
variable {P : Program} {orc : Orc} {E : Env} {A : List Nat} {role : Nat → Role} {a : Act} {w : World} {s : List D} {l : List Nat}

/-- The outcome of an operation: some writes, and a frame and a world that they tell. -/
abbrev After (P : Program) (E : Env) (A : List Nat) (s : List D) (K : List (Nat × D) → List Nat → Prop) (a' : Act) (w' : World) : Prop :=
  ∃ ws l' role', K ws l' ∧ Sim P E A role' a' w' (apply ws s)

/-- What a pointer leads to. -/
def Leads (P : Program) (E : Env) (role : Nat → Role) (w : World) (s : List D) (x : Value) : Option (Nat × TypeId) → List D → Nat → Prop
  | some (u, T), cs, off => get s u = .obj T cs ∧ ∃ b vs, x = .pointer (some ⟨b, off, none⟩) ∧ role b = .loc u ∧ E.w0.heap.size ≤ b ∧ w.heap[b]? = some (.cells vs T (0, 0)) ∧ vs.size = cs.length ∧
      ∀ (i : Nat) (y : Value) (d : D), vs[i]? = some y → cs[i]? = some d → y.oneCell' = true ∧ RO P E role w (u, some i) y d
  | none, cs, off => Rd P role w x (.box cs off)

theorem rdPtr_sim (hS : Sim P E A role a w s) {x : Operand} {K : Option (Nat × TypeId) × List D × Nat → List Nat → Prop} (h : (rdPtr x).run orc s l K) :
    ∃ who cs off l', K (who, cs, off) l' ∧ Leads P E role w s (a.eval x) who cs off := by
  cases x with
  | tmp u =>
    simp only [rdPtr, Look.run] at h
    have ht := hS.tm u
    generalize hd : get s u = d at h ht
    cases d <;> simp only [deref, Look.run] at h <;> try exact h.elim
    case obj T cs =>
      obtain ⟨b, vs, h1, h2⟩ := ht
      exact ⟨_, _, _, _, h, hd, b, vs, h1, h2⟩
    case addr y off =>
      obtain ⟨b, h1, h2⟩ := ht
      have hy := hS.tm y
      generalize hd' : get s y = d' at h hy
      cases d' <;> simp only [Look.run] at h <;> try exact h.elim
      case obj T cs =>
        obtain ⟨b', vs, h3, h4, h5⟩ := hy
        have e := hS.inj _ _ _ h2 h4
        subst e
        exact ⟨_, _, _, _, h, hd', b, vs, h1, h4, h5⟩
    case box cs off => exact ⟨_, _, _, _, h, ht.1⟩
  | _ => exact h.elim

/-- A temporary's slice is ours no more. -/
theorem Sim.stripTmp (hS : Sim P E A role a w s) (u : Nat) : Sim P E A role a w (s.set u (get s u).strip) := by
  have hg : ∀ t, get (s.set u (get s u).strip) t = get s t ∨ (t = u ∧ get (s.set u (get s u).strip) t = (get s u).strip ∧ (get s u).isVal = true) := fun t => by
    rw [get_set]
    split
    · rename_i e; obtain ⟨rfl, _⟩ := e
      cases get s u <;> first | exact .inl rfl | exact .inr ⟨rfl, rfl, rfl⟩
    · exact .inl rfl
  exact {
    ext := hS.ext, old := hS.old, low := hS.low, defers := hS.defers, size := by simp [hS.size], inj := hS.inj
    tm := fun t => by
      rcases hg t with e | ⟨rfl, e, hv⟩
      · rw [e]; exact hS.tm t
      · rw [e]; exact RO.rt (((hS.tm t).ro hv).strip)
    live := fun x y off hx => by
      have hx' : get s x = .addr y off := by
        rcases hg x with e | ⟨rfl, e, hv⟩
        · rw [← e]; exact hx
        · rw [e] at hx; cases hd : get s x <;> rw [hd] at hx <;> simp [D.strip] at hx; rw [hx.1, hx.2]
      obtain ⟨h1, T, cs, h2⟩ := hS.live x y off hx'
      refine ⟨h1, T, cs, ?_⟩
      rcases hg y with e | ⟨rfl, e, hv⟩
      · rw [e]; exact h2
      · rw [h2] at hv; simp [D.isVal] at hv }

/-- A variable's cells are known otherwise. -/
theorem Sim.setObj (hS : Sim P E A role a w s) {u : Nat} {T : TypeId} {cs cs' : List D} (hg : get s u = .obj T cs) (hr : RT P E role w u (a.tmps.getD u undef) (.obj T cs')) : Sim P E A role a w (s.set u (.obj T cs')) where
  ext := hS.ext
  old := hS.old
  low := hS.low
  defers := hS.defers
  size := by simp [hS.size]
  inj := hS.inj
  tm t := by
    rw [get_set]
    split
    · rename_i e; obtain ⟨rfl, _⟩ := e; exact hr
    · exact hS.tm t
  live x y off hx := by
    have hx' : get s x = .addr y off := by
      rw [get_set] at hx; split at hx
      · cases hx
      · exact hx
    obtain ⟨h1, T', cs1, h2⟩ := hS.live x y off hx'
    refine ⟨h1, ?_⟩
    rw [get_set]
    split
    · exact ⟨_, _, rfl⟩
    · exact ⟨_, _, h2⟩

def own (role : Nat → Role) (g : Nat) (lim : Nat) (p : Option (Nat × Option Nat)) : Nat → Role := fun k => if k = g then .row lim p else role k
theorem pub_own {g lim lim' : Nat} {p q : Option (Nat × Option Nat)} (h : role g = .row lim p) (hl : lim ≤ lim') {b n : Nat} (hp : pubAt role b n) : pubAt (own role g lim' q) b n := by
  obtain ⟨m, ow, h1, h2⟩ := hp
  unfold own
  by_cases hb : b = g
  · subst hb; rw [h] at h1; cases h1; exact ⟨lim', q, by simp, by omega⟩
  · exact ⟨m, ow, by simp [hb, h1], h2⟩

/-- Nothing that is known at a place says that its slice is ours. -/
def Free (s : List D) (p : Nat × Option Nat) : Prop := match p with
  | (t, none) => isList (get s t) = false
  | (t, some i) => ∀ T cs d, get s t = .obj T cs → cs[i]? = some d → isList d = false

theorem isList_iff {d : D} : isList d = true ↔ ∃ T es, d = .list true T es := by
  cases d <;> simp [isList]
  rename_i o T es
  cases o <;> simp

/-- A row gets another owner. -/
theorem Sim.reown (hS : Sim P E A role a w s) {g lim : Nat} {p q : Nat × Option Nat} (h : role g = .row lim (some p)) (hf : Free s p) : Sim P E A (own role g lim (some q)) a w s := by
  have hgE : E.w0.heap.size ≤ g := by
    rcases Nat.lt_or_ge g E.w0.heap.size with hlt | hge
    · obtain ⟨h1, _, h3⟩ := hS.old g hlt
      exact absurd (h1.symm.trans h) (h3 _ _)
    · exact hge
  have evo : Evo role w (own role g lim (some q)) w := ⟨fun b n hp => pub_own h (Nat.le_refl _) hp, fun _ _ _ _ _ => rfl⟩
  have hRd : ∀ {x d}, Rd P role w x d → Rd P (own role g lim (some q)) w x d := fun hx => hx.evo evo
  have hOw : ∀ {p' x T n}, p' ≠ p → Owned P E role w p' x T n → Owned P E (own role g lim (some q)) w p' x T n := by
    intro p' x T n hp ho
    rcases ho with ho | ⟨g', cap, cur, h1, h2, h3⟩
    · exact .inl ho
    · refine .inr ⟨g', cap, cur, h1, ?_, h3⟩
      have : g' ≠ g := fun e => by subst e; rw [h] at h2; cases h2; exact hp rfl
      simp [own, this, h2]
  have hloc : ∀ {b t}, role b = .loc t → own role g lim (some q) b = .loc t := by
    intro b t hb
    have : b ≠ g := fun e => by subst e; rw [h] at hb; cases hb
    simp [own, this, hb]
  refine hS.turn hS.ext (fun k hk => by simp [own]; omega) (fun k hk => ?_) (fun b b' t hb hb' => ?_) (fun t => ?_)
  · unfold own at hk
    split at hk
    · rename_i e; subst e; exact hS.low k (by rw [h]; simp)
    · exact hS.low k hk
  · have f : ∀ b, own role g lim (some q) b = .loc t → role b = .loc t := by
      intro b hb; unfold own at hb; split at hb
      · cases hb
      · exact hb
    exact hS.inj b b' t (f b hb) (f b' hb')
  · have ht := hS.tm t
    have fr := hf
    generalize hd : get s t = d at ht
    cases d
    case undef => trivial
    case obj T cs =>
      obtain ⟨b, vs, h1, h2, h3, h4, h5, h6⟩ := ht
      refine ⟨b, vs, h1, hloc h2, h3, h4, h5, fun i y d hy hdd => ⟨(h6 i y d hy hdd).1, hRd (h6 i y d hy hdd).2.1, fun T' es he => ?_⟩⟩
      refine hOw (fun e => ?_) ((h6 i y d hy hdd).2.2 T' es he)
      subst e
      have := hf T cs d hd hdd
      rw [he] at this; simp [isList] at this
    case addr u off =>
      obtain ⟨b, h1, h2⟩ := ht
      exact ⟨b, h1, hloc h2⟩
    all_goals
      refine ⟨hRd ht.1, fun T' es he => ?_⟩
      refine hOw (fun e => ?_) (ht.2 T' es he)
      subst e
      have := hf
      simp only [Free, hd, he] at this
      simp [isList] at this

/-- A variable that is no more: its block is nobody's. -/
def dead (role : Nat → Role) (t : Nat) : Nat → Role := fun k => match role k with
  | .loc u => if u = t then .none else .loc u
  | r => r
theorem dead_ne {role : Nat → Role} {t b : Nat} : dead role t b ≠ .loc t := by
  unfold dead; split
  · split
    · simp
    · rename_i h; intro e; cases e; exact h rfl
  · rename_i h; exact h t
theorem dead_loc {role : Nat → Role} {t b u : Nat} : dead role t b = .loc u ↔ role b = .loc u ∧ u ≠ t := by
  unfold dead
  cases hr : role b with
  | none => simp
  | row => simp
  | loc v =>
    simp only
    split
    · rename_i e; subst e; simp; exact Eq.symm
    · rename_i e; simp; intro e'; subst e'; exact e
theorem dead_row {role : Nat → Role} {t b lim : Nat} {p : Option (Nat × Option Nat)} : dead role t b = .row lim p ↔ role b = .row lim p := by
  unfold dead
  cases hr : role b with
  | none => simp
  | row => simp
  | loc v => simp only; split <;> simp
theorem pub_dead {role : Nat → Role} {t b n : Nat} : pubAt (dead role t) b n ↔ pubAt role b n := by
  unfold pubAt; simp only [dead_row]

theorem Sim.dead (hS : Sim P E A role a w s) {t : Nat} (ht : (get s t).isObj = false) : Sim P E A (dead role t) a w s := by
  have evo : Evo role w (Proofs.YtlfdelobjbdimaaDoor.dead role t) w := ⟨fun b n hp => pub_dead.2 hp, fun _ _ _ _ _ => rfl⟩
  refine hS.turn hS.ext (fun k hk => ?_) (fun k hk => ?_) (fun b b' u hb hb' => hS.inj b b' u (dead_loc.1 hb).1 (dead_loc.1 hb').1) (fun u => ?_)
  · obtain ⟨h1, h2, _⟩ := hS.old k hk
    unfold Proofs.YtlfdelobjbdimaaDoor.dead
    cases hr : role k with
    | loc v => rw [h1] at hr; exact absurd hr (h2 v)
    | _ => rfl
  · refine hS.low k fun e => hk ?_
    unfold Proofs.YtlfdelobjbdimaaDoor.dead; rw [e]
  · have hO : ∀ {p x d}, RO P E role w p x d → RO P E (Proofs.YtlfdelobjbdimaaDoor.dead role t) w p x d := by
      intro p x d h
      refine ⟨h.1.evo evo, fun T es he => ?_⟩
      rcases h.2 T es he with ho | ⟨g', cap, cur, h1, h2, h3⟩
      · exact .inl ho
      · exact .inr ⟨g', cap, cur, h1, dead_row.2 h2, h3⟩
    have hu := hS.tm u
    generalize hd : get s u = d at hu
    cases d
    case undef => trivial
    case obj T cs =>
      obtain ⟨b, vs, h1, h2, h3, h4, h5, h6⟩ := hu
      refine ⟨b, vs, h1, dead_loc.2 ⟨h2, fun e => ?_⟩, h3, h4, h5, fun i y d hy hdd => ⟨(h6 i y d hy hdd).1, hO (h6 i y d hy hdd).2⟩⟩
      subst e; rw [hd] at ht; simp [D.isObj] at ht
    case addr v off =>
      obtain ⟨b, h1, h2⟩ := hu
      refine ⟨b, h1, dead_loc.2 ⟨h2, fun e => ?_⟩⟩
      subst e
      obtain ⟨_, T, cs, h3⟩ := hS.live u v off hd
      rw [h3] at ht; simp [D.isObj] at ht
    all_goals exact hO hu
end
end Go.Proofs.YtlfdelobjbdimaaDoor

namespace Go.Proofs.YtlfdelobjbdimaaDoor
open Go.RowKit
open Look (ret rd chk)

section
variable {P : Program} {orc : Orc} {E : Env} {A : List Nat} {role : Nat → Role} {a : Act} {w : World} {s : List D} {l : List Nat}
variable {K : List (Nat × D) → List Nat → Prop} {Q : Exit → Act → World → Prop}

theorem apply_nil : apply [] s = s := rfl
theorem apply_cons {p : Nat × D} {ws : List (Nat × D)} : apply (p :: ws) s = apply ws (s.set p.1 p.2) := rfl
theorem apply_dst {o : Oper} {d : D} {ws : List (Nat × D)} : apply (ws ++ o.dst.toList.map fun t => (t, d)) s = match o.dst with | none => apply ws s | some t => (apply ws s).set t d := by
  unfold apply
  rw [List.foldl_append]
  cases o.dst <;> rfl

/-- A new block is a variable's. -/
def newLoc (role : Nat → Role) (H t : Nat) : Nat → Role := fun k => if k = H then .loc t else role k
theorem newLoc_ne {role : Nat → Role} {H t k : Nat} (h : k ≠ H) : newLoc role H t k = role k := if_neg h

/-- An operation that makes a variable. -/
theorem new_sim (hS : Sim P E A role a w s) {o : Oper} {T : TypeId} {cells : Array Value} {ds : List D} (h : (putW o (.obj T ds) []).run orc s l K)
    (hr : (execOp a.eval o).run P w = .ok (.value (.pointer (some ⟨w.heap.size, 0, none⟩))) (w.alloc (.cells cells T)))
    (hl : cells.size = ds.length) (hc : ∀ (i : Nat) (y : Value) (d : D), cells[i]? = some y → ds[i]? = some d → y.oneCell' = true ∧ Rd P role w y d ∧ isList d = false ∨ y = .slice none 0 0 ∧ ∃ T, d = .list true T []) :
    Oper.wp P o a w (After P E A s K) Q := by
  obtain ⟨l', hno, hK⟩ := putW_sim h
  suffices hh : ∃ role', Sim P E A role' (a.put o.dst (.pointer (some ⟨w.heap.size, 0, none⟩))) (w.alloc (.cells cells T)) (apply ([] ++ o.dst.toList.map fun t => (t, D.obj T ds)) s) by
    obtain ⟨role', hh⟩ := hh
    exact wp_value hr ⟨_, l', role', hK, hh⟩
  have hEw := hS.ext.size
  have hfree : ∀ k, role k ≠ .none → k < w.heap.size := hS.low
  have hev : ∀ (r : Nat → Role), (∀ b n, pubAt role b n → pubAt r b n) → Evo role w r (w.alloc (.cells cells T)) := fun r hr => ⟨hr, fun b n o hp _ => by
    obtain ⟨lim, ow, h1, _⟩ := hp
    exact World.cell?_of_block (w := w) (a := ⟨b, o, none⟩) (Below.heap_alloc _ _ _ (hfree b (by rw [h1]; simp)))⟩
  cases ho : o.dst with
  | none =>
    refine ⟨role, ?_⟩
    have hk : Kept role w role (w.alloc (.cells cells T)) none := ⟨hev role fun _ _ h => h, fun _ _ h => h, fun b t h _ => Below.heap_alloc _ _ _ (hfree b (by rw [h]; simp)), fun b lim p h _ => ⟨h, Below.heap_alloc _ _ _ (hfree b (by rw [h]; simp))⟩⟩
    exact hS.turn hS.ext.al (fun _ _ => rfl) (fun k hk => by have := hS.low k hk; simp; omega) hS.inj fun t => (hS.tm t).keep hk (by simp) (by simp)
  | some t =>
    have hS1 := hS.dead (hno t ho)
    refine ⟨newLoc (dead role t) w.heap.size t, ?_⟩
    have hne : ∀ k, dead role t k ≠ .none → k ≠ w.heap.size := fun k hk e => by have := hS1.low k hk; omega
    have pub : ∀ b n, pubAt (dead role t) b n → pubAt (newLoc (dead role t) w.heap.size t) b n := by
      rintro b n ⟨lim, ow, h1, h2⟩
      exact ⟨lim, ow, by rw [newLoc_ne (hne b (by rw [h1]; simp))]; exact h1, h2⟩
    have hev1 : Evo (dead role t) w (newLoc (dead role t) w.heap.size t) (w.alloc (.cells cells T)) := ⟨pub, fun b n o hp _ => by
      obtain ⟨lim, ow, h1, _⟩ := hp
      exact World.cell?_of_block (w := w) (a := ⟨b, o, none⟩) (Below.heap_alloc _ _ _ (hS1.low b (by rw [h1]; simp)))⟩
    have hk : Kept (dead role t) w (newLoc (dead role t) w.heap.size t) (w.alloc (.cells cells T)) none :=
      ⟨hev1, fun b u h => by rw [newLoc_ne (hne b (by rw [h]; simp))]; exact h, fun b u h _ => Below.heap_alloc _ _ _ (hS1.low b (by rw [h]; simp)),
        fun b lim p h _ => ⟨by rw [newLoc_ne (hne b (by rw [h]; simp))]; exact h, Below.heap_alloc _ _ _ (hS1.low b (by rw [h]; simp))⟩⟩
    have hS2 : Sim P E A (newLoc (dead role t) w.heap.size t) a (w.alloc (.cells cells T)) s := by
      refine hS1.turn hS.ext.al (fun k hk => newLoc_ne (by omega)) (fun k hk => ?_) (fun b b' u hb hb' => ?_) fun u => (hS1.tm u).keep hk (by simp) (by simp)
      · simp only [size_alloc']
        by_cases e : k = w.heap.size
        · omega
        · rw [newLoc_ne e] at hk; have := hS1.low k hk; omega
      · have f : ∀ b, newLoc (dead role t) w.heap.size t b = .loc u → b = w.heap.size ∧ u = t ∨ b ≠ w.heap.size ∧ dead role t b = .loc u ∧ u ≠ t := by
          intro b hb
          unfold newLoc at hb
          split at hb
          · rename_i e; cases hb; exact .inl ⟨e, rfl⟩
          · rename_i e; exact .inr ⟨e, hb, (dead_loc.1 hb).2⟩
        rcases f b hb with ⟨e1, e2⟩ | ⟨e1, e2, e3⟩ <;> rcases f b' hb' with ⟨e1', e2'⟩ | ⟨e1', e2', e3'⟩
        · omega
        · exact absurd e2 e3'
        · exact absurd e2' e3
        · exact hS1.inj b b' u e2 e2'
    show Sim P E A _ (a.put (some t) _) _ (s.set t _)
    have key : RT P E (newLoc (dead role t) w.heap.size t) (w.alloc (.cells cells T)) t (.pointer (some ⟨w.heap.size, 0, none⟩)) (.obj T ds) := by
      refine ⟨w.heap.size, cells, rfl, if_pos rfl, hEw, at_alloc' _ _, hl, fun i y d hy hd => ?_⟩
      rcases hc i y d hy hd with ⟨h1, h2, h3⟩ | ⟨rfl, T', rfl⟩
      · have ev : Evo role w (newLoc (dead role t) w.heap.size t) (w.alloc (.cells cells T)) := ⟨fun b n hp => pub b n (pub_dead.2 hp), fun b n o hp ho => hev1.cell b n o (pub_dead.2 hp) ho⟩
        refine ⟨h1, h2.evo ev, fun T' es he => ?_⟩
        rw [he] at h3; simp [isList] at h3
      · exact ⟨rfl, .nil, fun _ _ _ => .inl rfl⟩
    exact {
      ext := hS2.ext, old := hS2.old, low := hS2.low, defers := hS2.defers, inj := hS2.inj
      size := by simp [Act.put, hS2.size]
      tm := fun u => by
        show RT _ _ _ _ u ((a.tmps.setIfInBounds t _).getD u undef) _
        rw [getD_set, get_set, hS.size]
        split
        · rename_i e; obtain ⟨rfl, _⟩ := e; exact key
        · exact hS2.tm u
      live := fun x u off hx => by
        have hx' : get s x = .addr u off := by
          rw [get_set] at hx; split at hx
          · cases hx
          · exact hx
        obtain ⟨h1, T', cs, h2⟩ := hS.live x u off hx'
        refine ⟨h1, T', cs, ?_⟩
        rw [get_set, if_neg]
        · exact h2
        · rintro ⟨rfl, _⟩
          have := hno t ho; rw [h2] at this; simp [D.isObj] at this }

theorem litCells_rd' {role : Nat → Role} {w : World} : ∀ (ts : List TypeId) (xs : List Value) (ds : List D), litCells P ts xs = some ds →
    ∀ (i : Nat) (x : Value) (d : D), xs[i]? = some x → ds[i]? = some d → x.oneCell' = true ∧ Rd P role w x d ∧ isList d = false ∨ x = .slice none 0 0 ∧ ∃ T, d = .list true T []
  | [], [], ds, h, i, x, d, hx, hd => by simp at hx
  | [], _ :: _, _, h, _, _, _, _, _ => by simp [litCells] at h
  | _ :: _, [], _, h, _, _, _, _, _ => by simp [litCells] at h
  | t :: ts, x :: xs, ds, h, i, y, e, hy, he => by
    simp only [litCells] at h
    split at h
    · rename_i d' ds' h1 h2
      cases h
      cases i with
      | zero =>
        simp at hy he; subst hy; subst he
        unfold litT at h1
        split at h1
        · split at h1
          · cases h1; exact .inr ⟨rfl, _, rfl⟩
          · cases h1
        · split at h1
          · rename_i hx
            cases h1; exact .inl ⟨leafV_oneCell hx, .v hx, rfl⟩
          · cases h1
      | succ i => simp at hy he; exact litCells_rd' ts xs ds' h2 i y e hy he
    · cases h

theorem alloc_sim (hS : Sim P E A role a w s) {o : Oper} {T : TypeId} (ho : o.op = .alloc T) (h : (allocL P o T).run orc s l K) : Oper.wp P o a w (After P E A s K) Q := by
  unfold allocL at h
  split at h
  · exact h.elim
  · rename_i ds hds
    unfold zeroCellsD at hds
    cases hi : P.info? T with
    | none => simp [hi] at hds
    | some i =>
      cases hz : i.zero with
      | none => simp [hi, hz] at hds
      | some z =>
        simp only [hi, hz, Option.bind_some] at hds
        refine new_sim hS h (cells := z.cells) ?_ ?_ ?_
        · simp [execOp, ho, Instr.alloc, zeroValue, typeInfo, hi, hz, newVar, newRow, newObj]
          rfl
        · have := (litCells_rd (role := role) (w := w) _ _ _ hds).1; simpa using this
        · intro i y d hy hd
          exact litCells_rd' _ _ _ hds i y d (by simpa using hy) hd

theorem isCell_list {d : D} (h : d.strip = d) : isList d = false := by cases d <;> simp [isList, D.strip] at h ⊢; rename_i o T es; cases o <;> simp at h ⊢

theorem cells_one {x : Value} (h : x.oneCell' = true) : x.cells = #[x] := by cases x <;> first | rfl | simp [Value.oneCell'] at h
theorem isCell_strip (d : D) : d.strip.isCell = d.isCell := by cases d <;> rfl
theorem cellsD_rd {x : Value} {d : D} (h : Rd P role w x d) (hc : (cellsD d).all D.isCell = true) :
    x.cells.size = (cellsD d).length ∧ ∀ (i : Nat) (y : Value) (e : D), x.cells[i]? = some y → (cellsD d)[i]? = some e → y.oneCell' = true ∧ Rd P role w y e ∧ isList e = false := by
  by_cases hd : ∃ cs, d = .agg cs
  · obtain ⟨cs, rfl⟩ := hd
    cases h
    rename_i vs h1 hl h
    refine ⟨by simp [cellsD, Value.cells, hl], fun i y e hy he => ?_⟩
    simp only [cellsD, List.getElem?_map, Option.map_eq_some_iff] at he
    obtain ⟨e', he', rfl⟩ := he
    exact ⟨h1 i y hy, (h i y e' hy he').strip, isCell_list (strip_strip _)⟩
  · have hcd : cellsD d = [d.strip] := by
      cases d <;> first | rfl | exact absurd ⟨_, rfl⟩ hd
    rw [hcd] at hc ⊢
    have h1 := h.one (by simpa [isCell_strip] using hc)
    rw [cells_one h1]
    refine ⟨rfl, fun i y e hy he => ?_⟩
    cases i with
    | zero =>
      simp at hy he
      subst hy; subst he
      exact ⟨h1, h.strip, isCell_list (strip_strip _)⟩
    | succ i => simp at hy

theorem box_sim (hS : Sim P E A role a w s) {o : Oper} {T : TypeId} {x : Operand} (ho : o.op = .box T x) (h : (boxL P o T x).run orc s l K) : Oper.wp P o a w (After P E A s K) Q := by
  unfold boxL at h
  rw [run_bind] at h
  obtain ⟨d, l1, h1, h2, h3, h4⟩ := rdV_sim hS h
  obtain ⟨hc, h1⟩ := h1
  obtain ⟨k1, k2⟩ := cellsD_rd h4 hc
  refine new_sim hS h1 (cells := (a.eval x).cells) ?_ k1 (fun i y d hy hd => .inl (k2 i y d hy hd))
  simp [execOp, ho, Instr.box, newVar, newRow, newObj]
  rfl
end
end Go.Proofs.YtlfdelobjbdimaaDoor

namespace Go.Proofs.YtlfdelobjbdimaaDoor
open Go.RowKit
open Look (ret rd chk)

section
variable {P : Program} {orc : Orc} {E : Env} {A : List Nat} {role : Nat → Role} {a : Act} {w : World} {s : List D} {l : List Nat}
variable {K : List (Nat × D) → List Nat → Prop} {Q : Exit → Act → World → Prop}

/-- A value moves with its slice. -/
theorem take_sim (hS : Sim P E A role a w s) {p : Nat × Option Nat} {o : Oper} {x : Value} {d : D} (hd : RO P E role w p x d) (hl : isList d = true) (hf : Free s p)
    (hno : ∀ t, o.dst = some t → (get s t).isObj = false) : ∃ role', Sim P E A role' (a.put o.dst x) w (match o.dst with | none => s | some t => s.set t d) := by
  cases ho : o.dst with
  | none => exact ⟨role, hS⟩
  | some t =>
    obtain ⟨T, es, rfl⟩ := isList_iff.1 hl
    rcases hd.2 T es rfl with rfl | ⟨g, cap, cur, h1, h2, h3⟩
    · exact ⟨role, hS.put (RO.rt ⟨hd.1, fun _ _ _ => .inl rfl⟩) (hno t ho) (fun u off e => by cases e) rfl⟩
    · have hS' := hS.reown h2 hf (q := (t, none))
      refine ⟨_, hS'.put (RO.rt ⟨hd.1.evo ⟨fun b n hp => pub_own h2 (Nat.le_refl _) hp, fun _ _ _ _ _ => rfl⟩, fun T' es' e => ?_⟩) (hno t ho) (fun u off e => by cases e) rfl⟩
      cases e
      exact .inr ⟨g, cap, cur, h1, by simp [own], h3⟩

theorem isList_strip (d : D) : isList d.strip = false := isCell_list (strip_strip d)

theorem move_sim (hS : Sim P E A role a w s) {o : Oper} {t : TypeId} {x : Operand} {take : Bool} (ho : o.op = .move x ∨ o.op = .assign x) (h : (moveL P o t x take).run orc s l K) : Oper.wp P o a w (After P E A s K) Q := by
  have hr : (execOp a.eval o).run P w = .ok (.value (a.eval x)) w := by rcases ho with ho | ho <;> simp [execOp, ho]
  unfold moveL at h
  split at h
  · rename_i u
    simp only [Look.run] at h
    split at h
    · rename_i htk
      simp only [Bool.and_eq_true] at htk
      obtain ⟨hne, h⟩ := h
      obtain ⟨l', hno, hK⟩ := putW_sim h
      have ht := hS.tm u
      have hv : (get s u).isVal = true := by obtain ⟨T, es, e⟩ := isList_iff.1 htk.2; rw [e]; rfl
      have hS1 := hS.stripTmp u
      by_cases hlen : u < s.length
      · have hf : Free (s.set u (get s u).strip) (u, none) := by simp only [Free]; rw [get_set_self hlen]; exact isList_strip _
        obtain ⟨role', h2⟩ := take_sim (o := o) hS1 (RT.ro ht hv) htk.2 hf (fun t' ht' => by
          rw [get_set]; split
          · rename_i e; obtain ⟨rfl, _⟩ := e; simp [ht'] at hne
          · exact hno t' ht')
        refine wp_value hr ⟨_, l', role', hK, ?_⟩
        rw [apply_dst]
        cases ho' : o.dst <;> rw [ho'] at h2 <;> exact h2
      · have : get s u = .undef := get_ge (Nat.le_of_not_lt hlen)
        rw [this] at hv; simp [D.isVal] at hv
    · obtain ⟨hv, h⟩ := h
      exact pure_sim hS h hr ((RT.ro (hS.tm u) hv).1.strip) (strip_strip _)
  · split at h
    · exact nil_sim hS h hr
    · exact h.elim
  · rw [run_bind] at h
    obtain ⟨d, l1, h1, h2, h3, h4⟩ := rdV_sim hS h
    exact pure_sim hS h1 hr h4 h2

theorem sureAddr_run (b off : Nat) : (Instr.sureAddr (.pointer (some ⟨b, off, none⟩))).run P w = .ok ⟨b, off, none⟩ w := rfl

theorem normCells_get {cs : List D} : ∀ (ts : List TypeId) (off : Nat), isCells P cs off ts = true → (normCells P cs off ts).length = ts.length ∧ off + ts.length ≤ max off cs.length ∧ ∀ (k : Nat) (d : D), (normCells P cs off ts)[k]? = some d → ∃ e, cs[off + k]? = some e ∧ d = e.strip
  | [], off, _ => ⟨rfl, by simp only [List.length_nil]; omega, fun k d h => by simp [normCells] at h⟩
  | t :: ts, off, h => by
    simp only [isCells, Bool.and_eq_true] at h
    obtain ⟨h1, h2, h3⟩ := normCells_get ts (off + 1) h.2
    have hlt : off < cs.length := by
      rcases Nat.lt_or_ge off cs.length with h0 | h0
      · exact h0
      · have : cs.getD off .undef = .undef := by simp [List.getD_eq_getElem?_getD, List.getElem?_eq_none h0]
        rw [this] at h
        have := h.1
        unfold isD at this
        split at this <;> first | cases this | (simp [D.isCell] at this)
    refine ⟨by simp [normCells, h1], by simp; omega, fun k d hk => ?_⟩
    cases k with
    | zero =>
      have hk' : norm P t (cs.getD off .undef) = d := by simpa only [normCells, List.getElem?_cons_zero, Option.some.injEq] using hk
      refine ⟨cs[off], by simp [hlt], ?_⟩
      rw [← hk', norm_eq P h.1]
      simp [List.getD_eq_getElem?_getD, hlt]
    | succ k =>
      simp [normCells] at hk
      obtain ⟨e, he, hd⟩ := h3 k d hk
      exact ⟨e, by rw [← he]; congr 1; omega, hd⟩

theorem partN_sim {t : TypeId} {cs : List D} {off : Nat} {d : D} (h : partN P t cs off = some (true, d)) : ∃ d', partD P t cs off = some d' ∧ (∀ {x : Value}, Rd P role w x d' → Rd P role w x d) ∧ d.strip = d := by
  unfold partN at h
  unfold partD
  cases hg : aggOf P t with
  | none => simp [hg] at h
  | some g =>
    cases g with
    | false =>
      simp only [hg, Option.some.injEq, Prod.mk.injEq] at h
      obtain ⟨h1, rfl⟩ := h
      have hlt : off < cs.length := by
        rcases Nat.lt_or_ge off cs.length with h0 | h0
        · exact h0
        · have : cs.getD off .undef = .undef := by simp [List.getD_eq_getElem?_getD, List.getElem?_eq_none h0]
          rw [this] at h1
          unfold isD at h1
          split at h1 <;> first | cases h1 | (simp [D.isCell] at h1)
      refine ⟨cs[off], by simp [hlt], fun hx => ?_, ?_⟩
      · rw [norm_eq P h1]; simp only [List.getD_eq_getElem?_getD, List.getElem?_eq_getElem hlt, Option.getD_some]; exact hx.strip
      · rw [norm_eq P h1, strip_strip]
    | true =>
      simp only [hg, Option.some.injEq, Prod.mk.injEq, Bool.and_eq_true, decide_eq_true_eq] at h
      obtain ⟨⟨⟨h1, h2⟩, h4⟩, rfl⟩ := h
      obtain ⟨k1, k2, k3⟩ := normCells_get _ _ h1
      have hle' : off + P.cellsOf t ≤ cs.length := by omega
      refine ⟨_, by simp only; rw [if_pos hle'], fun hx => ?_, rfl⟩
      cases hx with
      | agg hl h1' hr =>
        refine .agg (by rw [hl, k1, h2]; simp; omega) h1' (fun i x d hx hd => ?_)
        obtain ⟨e, he, rfl⟩ := k3 i d hd
        have hi := (List.getElem?_eq_some_iff.1 hd).1
        refine (hr i x e hx ?_).strip
        rw [List.getElem?_take, if_pos (by omega), List.getElem?_drop]; exact he

theorem load_sim (hS : Sim P E A role a w s) {o : Oper} {t : TypeId} {x : Operand} {take : Bool} (ho : o.op = .load t x) (h : (loadL P o t x take).run orc s l K) : Oper.wp P o a w (After P E A s K) Q := by
  unfold loadL at h
  rw [run_bind] at h
  obtain ⟨who, cs, off, l1, h, hld⟩ := rdPtr_sim hS h
  cases who with
  | none =>
    simp only at h
    split at h
    · exact h.elim
    · rename_i c d hd
      obtain ⟨hcc, h⟩ := h
      subst hcc
      obtain ⟨d', hd', hdd, hds⟩ := partN_sim hd
      have hld : Rd P role w (a.eval x) (.box cs off) := hld
      generalize hx : a.eval x = v at hld
      cases hld with
      | box f hp h1 hc hr0 =>
        rename_i b o'
        obtain ⟨y, hy1, hy2, _⟩ := run_loadVar_known (P := P) (role := role) (w := w) f hd' o' hc h1 hr0
        refine pure_sim hS h (x := y) ?_ (hdd hy2) hds
        simp [execOp, ho, hx, Instr.loadAt, sureAddr_run, hy1]
  | some q =>
    obtain ⟨u, T⟩ := q
    simp only at h
    by_cases hsc : scalarT P t = true
    · rw [hsc] at h
      simp only [cond_true] at h
      obtain ⟨hcc, h⟩ := h
      have hagg : aggOf P t = some false := by
        unfold scalarT at hsc
        unfold aggOf
        cases hu : P.underlying t with
        | none => simp [hu] at hsc
        | some td => rw [hu] at hsc; cases td <;> first | rfl | cases hsc
      obtain ⟨d', hd', hdd, hds⟩ := partN_sim (P := P) (role := role) (w := w) (t := t) (cs := cs) (off := off) (d := norm P t (cs.getD off .undef)) (by unfold partN; rw [hagg]; simp only [hcc])
      obtain ⟨hu, b, vs, hx, hrole, hbE, hb, hsz, hcells⟩ := hld
      have hc : ∀ (k : Nat) (e : D), cs[k]? = some e → vs[k]? = some (vs.getD k undef) := fun k e hk => by
        have := (List.getElem?_eq_some_iff.1 hk).1
        have hlt : k < vs.size := by omega
        simp [hlt]
      obtain ⟨y, hy1, hy2, _⟩ := run_loadVar_known (P := P) (role := role) (w := w) (b := b) (fun k => vs.getD k undef) hd' 0
        (fun k e hk => by rw [Nat.zero_add]; simp only [World.cell?, hb]; simpa using hc k e hk) (fun k e hk => (hcells k _ e (hc k e hk) hk).1) (fun k e hk => (hcells k _ e (hc k e hk) hk).2.1)
      rw [Nat.zero_add] at hy1
      refine pure_sim hS h (x := y) ?_ (hdd hy2) hds
      simp [execOp, ho, hx, Instr.loadAt, sureAddr_run, hy1]
    have hsf : scalarT P t = false := by simpa using hsc
    rw [hsf] at h
    simp only [cond_false] at h
    split at h
    · exact h.elim
    · rename_i d hd
      obtain ⟨hu, b, vs, hx, hrole, hbE, hb, hsz, hcells⟩ := hld
      have hc : ∀ (k : Nat) (e : D), cs[k]? = some e → vs[k]? = some (vs.getD k undef) := fun k e hk => by
        have := (List.getElem?_eq_some_iff.1 hk).1
        have hlt : k < vs.size := by omega
        simp [hlt]
      obtain ⟨y, hy1, hy2, hy3⟩ := run_loadVar_known (P := P) (role := role) (w := w) (b := b) (fun k => vs.getD k undef) hd 0
        (fun k e hk => by rw [Nat.zero_add]; simp only [World.cell?, hb]; simpa using hc k e hk) (fun k e hk => (hcells k _ e (hc k e hk) hk).1) (fun k e hk => (hcells k _ e (hc k e hk) hk).2.1)
      rw [Nat.zero_add] at hy1
      have hr : (execOp a.eval o).run P w = .ok (.value y) w := by simp [execOp, ho, hx, Instr.loadAt, sureAddr_run, hy1]
      split at h
      · rename_i htk
        simp only [Bool.and_eq_true] at htk
        obtain ⟨hne, h⟩ := h
        obtain ⟨l', hno, hK⟩ := putW_sim h
        obtain ⟨T', es, rfl⟩ := isList_iff.1 htk.2
        have hagg : aggOf P t = some false := by
          unfold partD at hd
          cases hg : aggOf P t with
          | none => simp [hg] at hd
          | some g => cases g with
            | false => rfl
            | true => simp only [hg] at hd; split at hd <;> cases hd
        obtain ⟨hyv, hcs⟩ := hy3 hagg
        have hlt := (List.getElem?_eq_some_iff.1 hcs).1
        have hRO : RO P E role w (u, some off) y (.list true T' es) := by rw [hyv]; exact (hcells off _ _ (hc off _ hcs) hcs).2
        have hS1 : Sim P E A role a w (s.set u (.obj T (cs.set off (D.list true T' es).strip))) := by
          refine hS.setObj hu ?_
          have hru := hS.tm u
          rw [hu] at hru
          obtain ⟨b', vs', k1, k2, k3, k4, k5, k6⟩ := hru
          refine ⟨b', vs', k1, k2, k3, k4, by simp [k5], fun i y' d' hi hd' => ?_⟩
          rw [List.getElem?_set] at hd'
          split at hd'
          · rename_i e; subst e
            simp [hlt] at hd'
            subst hd'
            have := k6 off y' _ hi hcs
            exact ⟨this.1, this.2.strip⟩
          · exact k6 i y' d' hi hd'
        have hulen : u < s.length := by
          rcases Nat.lt_or_ge u s.length with h0 | h0
          · exact h0
          · have : get s u = .undef := get_ge h0
            rw [hu] at this; cases this
        have hf : Free (s.set u (.obj T (cs.set off (D.list true T' es).strip))) (u, some off) := by
          intro T2 cs2 d2 h2 h3
          rw [get_set_self hulen] at h2
          cases h2
          simp [hlt] at h3
          subst h3; rfl
        obtain ⟨role', h2⟩ := take_sim (o := o) hS1 hRO rfl hf (fun t' ht' => by
          rw [get_set]; split
          · rename_i e; obtain ⟨rfl, _⟩ := e; simp [ht'] at hne
          · exact hno t' ht')
        refine wp_value hr ⟨_, l', role', hK, ?_⟩
        rw [apply_dst]
        cases ho' : o.dst <;> rw [ho'] at h2 <;> exact h2
      · obtain ⟨hv, h⟩ := h
        exact pure_sim hS h hr hy2.strip (strip_strip _)

theorem wf_fieldsOf {S : TypeId} {i : Nat} {f : Field} (h : (fieldsOf P S)[i]? = some f) : ∃ fs, P.underlying S = some (.struct fs) ∧ fs[i]? = some f := by
  unfold fieldsOf at h
  split at h
  · rename_i fs hu; exact ⟨fs, hu, by simpa using h⟩
  · simp at h

/-- An address further on. -/
theorem shift_sim (hS : Sim P E A role a w s) {u n : Nat} {d : D} (h : shift u (get s u) n = some d) :
    ∃ b off, a.tmps.getD u undef = .pointer (some ⟨b, off, none⟩) ∧ RT P E role w u (.pointer (some ⟨b, off + n, none⟩)) d ∧ d.isObj = false ∧
      (∀ t, RT P E role w t (.pointer (some ⟨b, off + n, none⟩)) d) ∧ (∀ v off', d = .addr v off' → ∃ T cs, get s v = .obj T cs) := by
  have ht := hS.tm u
  generalize hd : get s u = e at h ht
  cases e <;> simp only [shift] at h <;> try (cases h)
  case obj T cs =>
    obtain ⟨b, vs, h1, h2, _⟩ := ht
    exact ⟨b, 0, h1, ⟨b, by rw [Nat.zero_add], h2⟩, rfl, fun t => ⟨b, by rw [Nat.zero_add], h2⟩, fun v off' e => by cases e; exact ⟨T, cs, hd⟩⟩
  case addr y off =>
    obtain ⟨b, h1, h2⟩ := ht
    exact ⟨b, off, h1, ⟨b, rfl, h2⟩, rfl, fun t => ⟨b, rfl, h2⟩, fun v off' e => by cases e; exact (hS.live u _ _ hd).2⟩
  case box cs off =>
    have hb := ht.1
    generalize hx : a.tmps.getD u undef = x at hb
    cases hb with
    | box f hp h1 hc hr =>
      rename_i b o
      have key : Rd P role w (.pointer (some ⟨b, o + off + n, none⟩)) (.box cs (off + n)) := by
        rw [Nat.add_assoc]; exact .box f hp h1 hc hr
      exact ⟨b, o + off, rfl, (key.ro rfl).rt, rfl, fun t => (key.ro rfl).rt, fun v off' e => by cases e⟩

theorem addr_put (hS : Sim P E A role a w s) {o : Oper} {x : Value} {d : D} (h : (putW o d []).run orc s l K) (hA : ∀ t, o.dst = some t → t ∈ A) (hd : ∀ t, RT P E role w t x d) (hno : d.isObj = false)
    (hl : ∀ v off', d = .addr v off' → ∃ T cs, get s v = .obj T cs) (hr : (execOp a.eval o).run P w = .ok (.value x) w) : Oper.wp P o a w (After P E A s K) Q := by
  obtain ⟨l', hn, hK⟩ := putW_sim h
  refine wp_value hr ⟨_, l', role, hK, ?_⟩
  cases ho : o.dst with
  | none => exact hS
  | some t => exact hS.put (hd t) (hn t ho) (fun u off e => ⟨hA t ho, hl u off e⟩) hno

theorem fieldAddr_sim (hS : Sim P E A role a w s) {o : Oper} {S : TypeId} {x : Operand} {i : Nat} (ho : o.op = .fieldAddr S x i) (hA : ∀ t, o.dst = some t → t ∈ A) (h : (fieldAddrL P o S x i).run orc s l K) : Oper.wp P o a w (After P E A s K) Q := by
  cases x with
  | tmp u =>
    simp only [fieldAddrL, Look.run] at h
    split at h
    · exact h.elim
    · rename_i f hf
      split at h
      · exact h.elim
      · rename_i d hd
        obtain ⟨hc, h⟩ := h
        simp only [Bool.and_eq_true, decide_eq_true_eq] at hc
        obtain ⟨fs, hu, hfi⟩ := wf_fieldsOf hf
        obtain ⟨b, off, hx, _, h2, h3, h4⟩ := shift_sim hS hd
        obtain ⟨inf, hinf⟩ := Option.isSome_iff_exists.1 hc.1
        refine addr_put hS h hA h3 h2 h4 ?_
        have hx' : a.eval (.tmp u) = .pointer (some ⟨b, off, none⟩) := hx
        simp [execOp, ho, hx', Instr.fieldAt, run_underlying hu, hfi, sureAddr_run, fieldPlace, run_sizeOf' hinf, hc.2, Addr.add_lit']
  | _ => exact h.elim
end
end Go.Proofs.YtlfdelobjbdimaaDoor

namespace Go.Proofs.YtlfdelobjbdimaaDoor
open Go.RowKit
open Look (ret rd chk)

section
variable {P : Program} {orc : Orc} {E : Env} {A : List Nat} {role : Nat → Role} {a : Act} {w : World} {s : List D} {l : List Nat}
variable {K : List (Nat × D) → List Nat → Prop} {Q : Exit → Act → World → Prop}

theorem strip_of {d : D} (h : isList d = false) : d.strip = d := by
  cases d <;> first | rfl | skip
  rename_i o T es
  cases o
  · rfl
  · simp [isList] at h

theorem setCells_get {cs ds : List D} {off i : Nat} (h : off + ds.length ≤ cs.length) : (setCells cs off ds)[i]? = if i < off then cs[i]? else if i < off + ds.length then ds[i - off]? else cs[i]? := by
  unfold setCells
  have h1 : (cs.take off).length = off := by simp; omega
  rw [List.getElem?_append]
  simp only [List.length_append, h1]
  split
  · rw [List.getElem?_append]
    simp only [h1]
    split
    · rename_i h2; simp [h2]
    · rename_i h2 h3; simp [h2, h3]
  · rename_i h2
    rw [List.getElem?_drop]
    have h3 : ¬ i < off := by omega
    simp only [h3, if_false]
    exact congrArg (cs[·]?) (by omega)

/-- A variable's block is written. -/
theorem store_row (hS : Sim P E A role a w s) {u b off : Nat} {T : TypeId} {cs ds : List D} {vs : Array Value} {news : List Value} (hg : get s u = .obj T cs)
    (hx : ∃ o, a.tmps.getD u undef = .pointer (some ⟨b, o, none⟩)) (hrole : role b = .loc u) (hb : w.heap[b]? = some (.cells vs T (0, 0))) (hsz : vs.size = cs.length)
    (hcells : ∀ (i : Nat) (y : Value) (d : D), vs[i]? = some y → cs[i]? = some d → y.oneCell' = true ∧ RO P E role w (u, some i) y d)
    (hl : news.length = ds.length) (hle : off + ds.length ≤ cs.length)
    (hn : ∀ (i : Nat) (y : Value) (d : D), news[i]? = some y → ds[i]? = some d → y.oneCell' = true ∧ RO P E role w (u, some (off + i)) y d) :
    Sim P E A role a (w.setRow b (vs.toList.take off ++ news ++ vs.toList.drop (off + news.length)).toArray) (s.set u (.obj T (setCells cs off ds))) := by
  have hbE : E.w0.heap.size ≤ b := by
    rcases Nat.lt_or_ge b E.w0.heap.size with hlt | hge
    · obtain ⟨h1, h2, _⟩ := hS.old b hlt
      exact absurd (h1.symm.trans hrole) (h2 _)
    · exact hge
  have hoth : ∀ k c, k ≠ b → (w.setRow b c).heap[k]? = w.heap[k]? := fun k c hk => setRow_other w b k c hk
  have hk : Kept role w role (w.setRow b (vs.toList.take off ++ news ++ vs.toList.drop (off + news.length)).toArray) (some b) := by
    refine ⟨⟨fun _ _ h => h, fun b' n o hp _ => ?_⟩, fun _ _ h => h, fun b' t h hne => hoth b' _ (by simpa using hne), fun b' lim p h hne => ⟨h, hoth b' _ (by simpa using hne)⟩⟩
    obtain ⟨lim, ow, h1, _⟩ := hp
    exact World.cell?_of_block (w := w) (a := ⟨b', o, none⟩) (hoth b' _ (fun e => by subst e; rw [hrole] at h1; cases h1))
  have hext : Exd E.w0 (w.setRow b (vs.toList.take off ++ news ++ vs.toList.drop (off + news.length)).toArray) :=
    hS.ext.trans' ⟨rfl, rfl, rfl, by simp, fun k hk' => hoth k _ (by omega)⟩
  have hS1 := hS
  have hru := hS.tm u
  rw [hg] at hru
  obtain ⟨b', vs', k1, k2, k3, k4, k5, k6⟩ := hru
  have e := hS.inj _ _ _ k2 hrole
  subst e
  have hset := setRow_heap w b' vs (vs.toList.take off ++ news ++ vs.toList.drop (off + news.length)).toArray T (0, 0) hb
  have keepO : ∀ {i y d}, RO P E role w (u, some i) y d → RO P E role (w.setRow b' (vs.toList.take off ++ news ++ vs.toList.drop (off + news.length)).toArray) (u, some i) y d :=
    fun h => h.keep hk fun b2 lim e => by cases e; rw [hrole]; simp
  refine {
    ext := hext, old := hS.old, low := fun k hk' => by have := hS.low k hk'; simpa using this, defers := hS.defers, inj := hS.inj
    size := by simp [hS.size]
    tm := fun t => ?_
    live := fun x y o hx' => ?_ }
  · rw [get_set]
    split
    · rename_i e; obtain ⟨rfl, _⟩ := e
      refine ⟨b', _, k1, k2, k3, hset, ?_, fun i y d hy hd => ?_⟩
      · simp only [List.size_toArray, List.length_append, List.length_take, List.length_drop, Array.length_toList, setCells]; omega
      · rw [setCells_get hle] at hd
        have hy' : (if i < off then vs[i]? else if i < off + ds.length then news[i - off]? else vs[i]?) = some y := by
          rw [← hy]
          simp only [List.getElem?_toArray]
          have h1 : (vs.toList.take off).length = off := by simp; omega
          rw [List.getElem?_append]
          simp only [List.length_append, h1, hl]
          by_cases c1 : i < off
          · rw [if_pos c1, if_pos (by omega), List.getElem?_append, h1, if_pos c1]; simp [c1]
          · rw [if_neg c1]
            by_cases c2 : i < off + ds.length
            · rw [if_pos c2, if_pos c2, List.getElem?_append, h1, if_neg c1]
            · rw [if_neg c2, if_neg c2, List.getElem?_drop]
              simp only [Array.getElem?_toList]
              congr 1; omega
        by_cases c1 : i < off
        · rw [if_pos c1] at hd hy'
          exact ⟨(hcells i y d hy' hd).1, keepO (hcells i y d hy' hd).2⟩
        · rw [if_neg c1] at hd hy'
          by_cases c2 : i < off + ds.length
          · rw [if_pos c2] at hd hy'
            have := hn (i - off) y d hy' hd
            rw [show off + (i - off) = i by omega] at this
            exact ⟨this.1, keepO this.2⟩
          · rw [if_neg c2] at hd hy'
            exact ⟨(hcells i y d hy' hd).1, keepO (hcells i y d hy' hd).2⟩
    · rename_i hne
      have htu : t ≠ u := fun e => hne ⟨e.symm, by
        rcases Nat.lt_or_ge u s.length with h0 | h0
        · exact h0
        · rw [get_ge h0] at hg; cases hg⟩
      exact (hS.tm t).keep hk (fun b2 e => by cases e; rw [hrole]; intro e; cases e; exact htu rfl) (fun b2 lim i e => by cases e; rw [hrole]; simp)
  · have hx2 : get s x = .addr y o := by
      rw [get_set] at hx'; split at hx'
      · cases hx'
      · exact hx'
    obtain ⟨h1, T', cs1, h2⟩ := hS.live x y o hx2
    refine ⟨h1, ?_⟩
    rw [get_set]
    split
    · exact ⟨_, _, rfl⟩
    · exact ⟨_, _, h2⟩

theorem run_storeVar_any {t : TypeId} {b off : Nat} {T : TypeId} {vs : Array Value} {v : Value} (hi : (P.info? t).isSome = true) (hv : v.cells.size = P.cellsOf t) (hb : w.heap[b]? = some (.cells vs T (0, 0)))
    (hle : off + v.cells.size ≤ vs.size) (h1 : ∀ x ∈ v.cells.toList, x.oneCell' = true) :
    (storeVar t ⟨b, off, none⟩ v).run P w = .ok () (w.setRow b (vs.toList.take off ++ v.cells.toList ++ vs.toList.drop (off + v.cells.toList.length)).toArray) := by
  obtain ⟨i, hi⟩ := Option.isSome_iff_exists.1 hi
  have := run_storeCells_at P b off T v.cells.toList 0 vs w hb (by simpa using hle) h1
  simp only [Nat.add_zero] at this
  simp [storeVar, run_sizeOf' hi, hv, this]

/-- A store of cells that are no one's to append to. -/
theorem store_plain (hS : Sim P E A role a w s) {o : Oper} {t : TypeId} {x y : Operand} {u off : Nat} {T : TypeId} {cs : List D} {d : D} (ho : o.op = .store t x y)
    (hld : Leads P E role w s (a.eval x) (some (u, T)) cs off) (hd : Rd P role w (a.eval y) d)
    (hc : ((P.info? t).isSome && decide ((cellsD d).length = P.cellsOf t) && decide (off + P.cellsOf t ≤ cs.length) && (cellsD d).all D.isCell) = true)
    (hdst : o.dst = none ∨ True) {l' : List Nat} (hK : K [(u, .obj T (setCells cs off (cellsD d)))] l') (hno : o.dst = none) : Oper.wp P o a w (After P E A s K) Q := by
  simp only [Bool.and_eq_true, decide_eq_true_eq] at hc
  obtain ⟨⟨⟨hi, hlen⟩, hle⟩, hall⟩ := hc
  obtain ⟨hu, b, vs, hx, hrole, hbE, hb, hsz, hcells⟩ := hld
  obtain ⟨k1, k2⟩ := cellsD_rd hd hall
  have hrun := run_storeVar_any (P := P) (w := w) (t := t) (v := a.eval y) (off := off) hi (by omega) hb (by omega) (fun z hz => by
    obtain ⟨i, hi', rfl⟩ := List.getElem_of_mem hz
    have hi2 : i < (cellsD d).length := by simp at hi'; omega
    exact (k2 i _ (cellsD d)[i] (by simp at hi'; simp [hi']) (by simp [hi2])).1)
  have hpt : ∃ o, a.tmps.getD u undef = .pointer (some ⟨b, o, none⟩) := by
    have hru := hS.tm u
    rw [hu] at hru
    obtain ⟨b', vs', j1, j2, _⟩ := hru
    rw [hS.inj _ _ _ j2 hrole] at j1
    exact ⟨0, j1⟩
  refine wp_skip' (w' := w.setRow b (vs.toList.take off ++ (a.eval y).cells.toList ++ vs.toList.drop (off + (a.eval y).cells.toList.length)).toArray) ?_ ⟨_, l', role, hK, ?_⟩
  · simp [execOp, ho, hx, Instr.storeAt, sureAddr_run, hrun]
  · rw [hno]
    refine store_row hS hu hpt hrole hb hsz hcells (by simp [k1]) (by omega) (fun i z e hz he => ?_)
    have := k2 i z e (by simpa using hz) he
    exact ⟨this.1, this.2.1.ro (strip_of this.2.2)⟩

theorem store_sim (hS : Sim P E A role a w s) {o : Oper} {t : TypeId} {x y : Operand} (ho : o.op = .store t x y) (hno : o.dst = none) (h : (storeL P t x y).run orc s l K) : Oper.wp P o a w (After P E A s K) Q := by
  unfold storeL at h
  rw [run_bind] at h
  obtain ⟨who, cs, off, l1, h, hld⟩ := rdPtr_sim hS h
  cases who with
  | none => exact h.elim
  | some q =>
    obtain ⟨u, T⟩ := q
    have plain : ∀ {d : D} {l2 : List Nat}, Rd P role w (a.eval y) d → d.isVal = true →
        Look.run orc (.chk (d.isVal && (P.info? t).isSome && decide ((cellsD d).length = P.cellsOf t) && decide (off + P.cellsOf t ≤ cs.length) && (cellsD d).all D.isCell) (.ret [(u, .obj T (setCells cs off (cellsD d)))])) s l2 K →
        Oper.wp P o a w (After P E A s K) Q := by
      intro d l2 hd hv h
      obtain ⟨hc, h⟩ := h
      rw [hv, Bool.true_and] at hc
      exact store_plain hS ho hld hd hc (.inr trivial) h hno
    simp only at h
    cases y with
    | tmp z =>
      simp only [Look.run] at h
      split at h
      · rename_i htk
        obtain ⟨hc, hK⟩ := h
        simp only [Bool.and_eq_true, decide_eq_true_eq, bne_iff_ne] at hc
        obtain ⟨⟨⟨hzu, hi⟩, h1⟩, hlt⟩ := hc
        obtain ⟨T', es, hz⟩ := isList_iff.1 htk
        have hzlen : z < s.length := by
          rcases Nat.lt_or_ge z s.length with h0 | h0
          · exact h0
          · rw [get_ge h0] at hz; cases hz
        have hROz : RO P E role w (z, none) (a.eval (.tmp z)) (get s z) := RT.ro (hS.tm z) (by rw [hz]; rfl)
        have hS1 := hS.stripTmp z
        have hf : Free (s.set z (get s z).strip) (z, none) := by simp only [Free]; rw [get_set_self hzlen]; exact isList_strip _
        obtain ⟨hu, b, vs, hx, hrole, hbE, hb, hsz, hcells⟩ := hld
        have hu' : get (s.set z (get s z).strip) u = .obj T cs := by rw [get_set_ne hzu]; exact hu
        -- the slice's row goes to the cell
        have main : ∃ role', Sim P E A role' a w (s.set z (get s z).strip) ∧ role' b = .loc u ∧ RO P E role' w (u, some off) (a.eval (.tmp z)) (get s z) ∧
            ∀ (i : Nat) (y : Value) (d : D), vs[i]? = some y → cs[i]? = some d → y.oneCell' = true ∧ RO P E role' w (u, some i) y d := by
          rcases hROz.2 T' es hz with hn | ⟨g, cap, cur, g1, g2, g3⟩
          · exact ⟨role, hS1, hrole, ⟨hROz.1, fun _ _ _ => .inl hn⟩, hcells⟩
          · have hS2 := hS1.reown g2 hf (q := (u, some off))
            have ev : Evo role w (own role g (es.length * P.cellsOf T') (some (u, some off))) w := ⟨fun b n hp => pub_own g2 (Nat.le_refl _) hp, fun _ _ _ _ _ => rfl⟩
            have hbg : b ≠ g := fun e => by subst e; rw [hrole] at g2; cases g2
            refine ⟨_, hS2, by simp [own, hbg, hrole], ⟨hROz.1.evo ev, fun T2 es2 e => ?_⟩, fun i y d hy hd => ?_⟩
            · rw [hz] at e; cases e
              exact .inr ⟨g, cap, cur, g1, by simp [own], g3⟩
            · have hh := hcells i y d hy hd
              refine ⟨hh.1, hh.2.1.evo ev, fun T2 es2 e => ?_⟩
              rcases hh.2.2 T2 es2 e with ho' | ⟨g', cap', cur', e1, e2, e3⟩
              · exact .inl ho'
              · refine .inr ⟨g', cap', cur', e1, ?_, e3⟩
                have : g' ≠ g := fun e => by subst e; rw [g2] at e2; simp at e2
                simp [own, this, e2]
        obtain ⟨role', m1, m2, m3, m4⟩ := main
        have hone : (a.eval (.tmp z)).oneCell' = true := Rd.one m3.1 (by rw [hz]; rfl)
        have hcz : (a.eval (.tmp z)).cells = #[a.eval (.tmp z)] := cells_one hone
        have hrun := run_storeVar_any (P := P) (w := w) (t := t) (v := a.eval (.tmp z)) (off := off) hi (by rw [hcz, h1]; rfl) hb (by rw [hcz, hsz]; simp; omega) (fun x hx => by rw [hcz] at hx; simp at hx; rw [hx]; exact hone)
        have hpt : ∃ o, a.tmps.getD u undef = .pointer (some ⟨b, o, none⟩) := by
          have hru := hS.tm u
          rw [hu] at hru
          obtain ⟨b', vs', j1, j2, _⟩ := hru
          rw [hS.inj _ _ _ j2 hrole] at j1
          exact ⟨0, j1⟩
        refine wp_skip' (w' := w.setRow b (vs.toList.take off ++ (a.eval (.tmp z)).cells.toList ++ vs.toList.drop (off + (a.eval (.tmp z)).cells.toList.length)).toArray) ?_ ⟨_, _, role', hK, ?_⟩
        · simp [execOp, ho, hx, Instr.storeAt, sureAddr_run, hrun]
        · rw [hno]
          show Sim P E A role' a _ ((s.set z (get s z).strip).set u _)
          refine store_row m1 hu' hpt m2 hb hsz m4 (by rw [hcz]; rfl) (by simp; omega) (fun i x e hx he => ?_)
          rw [hcz] at hx
          cases i with
          | zero => simp at hx he; subst hx; subst he; exact ⟨hone, m3⟩
          | succ i => simp at hx
      · have hv := h.1
        simp only [Bool.and_eq_true] at hv
        have hv := hv.1.1.1.1
        have hro := RT.ro (hS.tm z) hv
        exact plain (d := get s z) hro.1 hv h
    | _ =>
      simp only at h
      rw [run_bind] at h
      obtain ⟨d, l2, h1, h2, h3, h4⟩ := rdV_sim hS h
      exact plain h4 h3 h1
end
end Go.Proofs.YtlfdelobjbdimaaDoor
