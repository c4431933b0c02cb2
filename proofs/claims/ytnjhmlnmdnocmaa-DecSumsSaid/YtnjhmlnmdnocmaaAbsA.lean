/-
  Abstract values: what a walk knows of Go's values without addresses; how they read in a world. No program in sight.
-/
import Derived.WalkKit
namespace Go.Proofs.Ytnjhmlnmdnocmaa
set_option linter.unusedSimpArgs false
set_option linter.unusedVariables false
open Go.RowKit

/-- w' is w with new blocks, and nothing else: what was there stands as it stood. -/
def Exd (w w' : World) : Prop := Below w.heap.size w w'
theorem Exd.refl (w : World) : Exd w w := Below.refl _ _
theorem Exd.trans {a b c : World} (h : Exd a b) (k : Exd b c) : Exd a c := Below.trans h (Below.mono k h.size)
theorem Exd.trans' {a b c : World} (h : Exd a b) (k : Below a.heap.size b c) : Exd a c := Below.trans h k
theorem Exd.al {a w : World} {o : Obj} (h : Exd a w) : Exd a (w.alloc o) := Below.alloc h h.size o
theorem size_alloc' (w : World) (o : Obj) : (w.alloc o).heap.size = w.heap.size + 1 := by show (w.heap.push o).size = _; simp
theorem at_alloc' (w : World) (o : Obj) : (w.alloc o).heap[w.heap.size]? = some o := by show (w.heap.push o)[w.heap.size]? = _; simp
theorem Exd.dr {a w : World} (h : Exd a w) : Exd a w.drew := Below.drew h

/-- What is known of a value: nothing; a value without an address; a struct's or an array's cells; results; an interface's; a slice (whether its row is ours to append to, its elements' type, its elements' cells); a pointer to cells that stay as they are; a variable of ours (its type and cells); an address within one. -/
inductive D where
  | undef
  | v (x : Value)
  | agg (cs : List D)
  | tup (ds : List D)
  | iface (t : TypeId) (d : D)
  | list (own : Bool) (T : TypeId) (es : List (List D))
  | box (cs : List D) (off : Nat)
  | obj (T : TypeId) (cs : List D)
  | addr (u : Nat) (off : Nat)
  deriving Inhabited

def get (s : List D) (t : Nat) : D := s.getD t .undef
theorem get_set_self {s : List D} {t : Nat} {d : D} (h : t < s.length) : get (s.set t d) t = d := by simp [get, h]
theorem get_set_ne {s : List D} {t u : Nat} {d : D} (h : t ≠ u) : get (s.set t d) u = get s u := by
  simp [get, List.getElem?_set_ne h]
theorem get_ge {s : List D} {t : Nat} (h : s.length ≤ t) : get s t = .undef := by simp [get, h]
theorem get_set {s : List D} {t u : Nat} {d : D} : get (s.set t d) u = if t = u ∧ t < s.length then d else get s u := by
  by_cases h : t = u
  · subst h
    by_cases hl : t < s.length
    · simp [get_set_self hl, hl]
    · rw [List.set_eq_of_length_le (by omega)]; simp [hl]
  · rw [get_set_ne h]; simp [h]

/-- An integer without a sign is of its kind. -/
def inKind (k : IntKind) (n : Int) : Bool := k.signed || (decide (0 ≤ n) && decide (n < 2 ^ k.bits))
theorem inKind_wrap (k : IntKind) (n : Int) : inKind k (k.wrap n) = true := by
  unfold inKind IntKind.wrap
  cases hk : k.signed with
  | true => rfl
  | false =>
    have h2 : (0 : Int) < 2 ^ k.bits := Int.pow_pos (by omega)
    simp only [Bool.false_and, Bool.false_or, Bool.false_eq_true, if_false, Bool.and_eq_true, decide_eq_true_eq]
    exact ⟨Int.emod_nonneg _ (by omega), Int.emod_lt_of_pos _ h2⟩
theorem inKind_div {k : IntKind} {n : Int} (m : Nat) (h : inKind k n = true) : inKind k (n.fdiv (2 ^ m)) = true := by
  unfold inKind at h ⊢
  cases hk : k.signed with
  | true => rfl
  | false =>
    simp only [hk, Bool.false_or, Bool.and_eq_true, decide_eq_true_eq] at h ⊢
    have h2 : (0 : Int) < 2 ^ m := Int.pow_pos (by omega)
    rw [Int.fdiv_eq_ediv_of_nonneg _ (by omega)]
    exact ⟨Int.ediv_nonneg h.1 (by omega), Int.lt_of_le_of_lt (Int.ediv_le_self _ h.1) h.2⟩
theorem inKind_mod {k : IntKind} {n m : Int} (h : inKind k n = true) : inKind k (n.tmod m) = true := by
  unfold inKind at h ⊢
  cases hk : k.signed with
  | true => rfl
  | false =>
    simp only [hk, Bool.false_or, Bool.and_eq_true, decide_eq_true_eq] at h ⊢
    refine ⟨Int.tmod_nonneg _ h.1, ?_⟩
    rw [Int.tmod_eq_emod_of_nonneg h.1]
    obtain ⟨a, rfl⟩ := Int.eq_ofNat_of_zero_le h.1
    have h5 : (a : Int) % m ≤ a := by
      have key : ∀ b : Nat, (a : Int) % (b : Int) ≤ a := fun b => by
        have : (a : Int) % (b : Int) = ((a % b : Nat) : Int) := by omega
        rw [this]
        have := Nat.mod_le a b
        omega
      rcases Int.natAbs_eq m with e | e
      · rw [e]; exact key _
      · rw [e, Int.emod_neg]; exact key _
    omega
/-- A value that holds no address. -/
def leafV : Value → Bool
  | .int k n => inKind k n
  | .bool _ | .float _ _ | .complex _ _ _ | .string _ | .pointer none | .map none | .chan none | .nilFunc | .nilIface => true
  | .func _ f c => f.isEmpty && c.isEmpty
  | _ => false

/-- The types of a type's cells. -/
def cellTypes (P : Program) : Nat → TypeId → List TypeId
  | 0, _ => []
  | n + 1, t => match P.underlying t with
    | some (.struct fs) => fs.toList.flatMap fun f => cellTypes P n f.type
    | some (.array k e) => (List.replicate k (cellTypes P n e)).flatten
    | _ => [t]
/-- A literal of one cell, of a type. -/
def litT (P : Program) (t : TypeId) (x : Value) : Option D := match x with
  | .slice none 0 0 => match P.underlying t with
    | some (.slice e) => some (.list true e [])
    | _ => none
  | x => if leafV x then some (.v x) else none
def litCells (P : Program) : List TypeId → List Value → Option (List D)
  | [], [] => some []
  | t :: ts, x :: xs => match litT P t x, litCells P ts xs with
    | some d, some ds => some (d :: ds)
    | _, _ => none
  | _, _ => none
/-- A literal's abstract value. -/
def lit (P : Program) (t : TypeId) (x : Value) : Option D := match x with
  | .agg cs => (litCells P (cellTypes P 9 t) cs.toList).map .agg
  | x => litT P t x

def D.strip : D → D
  | .list _ T es => .list false T es
  | d => d
/-- A value: neither unknown nor a variable's address. -/
def D.isVal : D → Bool
  | .undef | .obj _ _ | .addr _ _ => false
  | _ => true
/-- A value that one cell holds. -/
def D.isCell : D → Bool
  | .undef | .obj _ _ | .addr _ _ | .agg _ | .tup _ => false
  | _ => true
def D.isObj : D → Bool
  | .obj _ _ => true
  | _ => false

/-- What a block is to a walk: nothing known of it; the variable of a temporary; a row: how many of its cells stay as they are, and whose it is to append to (a temporary, or a cell of a variable). -/
inductive Role where
  | none
  | loc (t : Nat)
  | row (lim : Nat) (own : Option (Nat × Option Nat))

def pubAt (role : Nat → Role) (b n : Nat) : Prop := ∃ lim ow, role b = .row lim ow ∧ n ≤ lim

/-- How an abstract value reads in a world. -/
inductive Rd (P : Program) (role : Nat → Role) (w : World) : Value → D → Prop
  | v {x : Value} (h : leafV x = true) : Rd P role w x (.v x)
  | agg {vs : Array Value} {cs : List D} (hl : vs.size = cs.length) (h1 : ∀ (i : Nat) (x : Value), vs[i]? = some x → x.oneCell' = true)
      (h : ∀ (i : Nat) (x : Value) (d : D), vs[i]? = some x → cs[i]? = some d → Rd P role w x d) : Rd P role w (.agg vs) (.agg cs)
  | tup {vs : Array Value} {ds : List D} (hl : vs.size = ds.length)
      (h : ∀ (i : Nat) (x : Value) (d : D), vs[i]? = some x → ds[i]? = some d → Rd P role w x d) : Rd P role w (.tuple vs) (.tup ds)
  | iface {t : TypeId} {x : Value} {d : D} (h : Rd P role w x d) : Rd P role w (.iface t x) (.iface t d)
  | nil {o : Bool} {T : TypeId} : Rd P role w (.slice none 0 0) (.list o T [])
  | list {b off len cap : Nat} {o : Bool} {T : TypeId} {es : List (List D)} (f : Nat → Nat → Value) (hl : es.length = len) (hcap : len ≤ cap)
      (hp : 0 < len → pubAt role b (off + len * P.cellsOf T))
      (hs : ∀ (i : Nat) (e : List D), es[i]? = some e → e.length = P.cellsOf T)
      (h1 : ∀ (i : Nat) (e : List D) (k : Nat) (d : D), es[i]? = some e → e[k]? = some d → (f i k).oneCell' = true)
      (hc : ∀ (i : Nat) (e : List D) (k : Nat) (d : D), es[i]? = some e → e[k]? = some d → w.cell? ⟨b, off + i * P.cellsOf T + k, none⟩ = some (f i k))
      (h : ∀ (i : Nat) (e : List D) (k : Nat) (d : D), es[i]? = some e → e[k]? = some d → Rd P role w (f i k) d) :
      Rd P role w (.slice (some ⟨b, off, none⟩) len cap) (.list o T es)
  | box {b o off : Nat} {cs : List D} (f : Nat → Value) (hp : pubAt role b (o + cs.length))
      (h1 : ∀ (k : Nat) (d : D), cs[k]? = some d → (f k).oneCell' = true)
      (hc : ∀ (k : Nat) (d : D), cs[k]? = some d → w.cell? ⟨b, o + k, none⟩ = some (f k))
      (h : ∀ (k : Nat) (d : D), cs[k]? = some d → Rd P role w (f k) d) :
      Rd P role w (.pointer (some ⟨b, o + off, none⟩)) (.box cs off)

/-- What stays, stays. -/
structure Evo (role : Nat → Role) (w : World) (role' : Nat → Role) (w' : World) : Prop where
  pub : ∀ b n, pubAt role b n → pubAt role' b n
  cell : ∀ b n o, pubAt role b n → o < n → w'.cell? ⟨b, o, none⟩ = w.cell? ⟨b, o, none⟩

theorem Evo.refl (role : Nat → Role) (w : World) : Evo role w role w := ⟨fun _ _ h => h, fun _ _ _ _ _ => rfl⟩
theorem Evo.trans {r1 r2 r3 : Nat → Role} {a b c : World} (h : Evo r1 a r2 b) (k : Evo r2 b r3 c) : Evo r1 a r3 c :=
  ⟨fun x n hp => k.pub x n (h.pub x n hp), fun x n o hp ho => (k.cell x n o (h.pub x n hp) ho).trans (h.cell x n o hp ho)⟩

theorem seg_lt {i len c k : Nat} (hi : i < len) (hk : k < c) : i * c + k < len * c := by
  have : (i + 1) * c ≤ len * c := Nat.mul_le_mul_right _ (by omega)
  rw [Nat.add_mul] at this; omega

theorem Rd.evo {P : Program} {role role' : Nat → Role} {w w' : World} {x : Value} {d : D} (h : Rd P role w x d) (e : Evo role w role' w') : Rd P role' w' x d := by
  induction h with
  | v h => exact .v h
  | agg hl h1 _ ih => exact .agg hl h1 ih
  | tup hl _ ih => exact .tup hl ih
  | iface _ ih => exact .iface ih
  | nil => exact .nil
  | list f hl hcap hp hs h1 hc _ ih =>
    refine .list f hl hcap (fun h0 => e.pub _ _ (hp h0)) hs h1 (fun i e' k d he hk => ?_) ih
    have hlt := (List.getElem?_eq_some_iff.1 he).1
    have hk' := (List.getElem?_eq_some_iff.1 hk).1
    rw [hs i e' he] at hk'
    have := seg_lt (c := P.cellsOf _) (hl ▸ hlt) hk'
    rw [e.cell _ _ _ (hp (by omega)) (by omega)]
    exact hc i e' k d he hk
  | box f hp h1 hc _ ih =>
    refine .box f (e.pub _ _ hp) h1 (fun k d hk => ?_) ih
    have hk' := (List.getElem?_eq_some_iff.1 hk).1
    rw [e.cell _ _ _ hp (by omega)]
    exact hc k d hk

theorem Rd.strip {P : Program} {role : Nat → Role} {w : World} {x : Value} {d : D} (h : Rd P role w x d) : Rd P role w x d.strip := by
  cases h with
  | nil => exact .nil
  | list f hl hcap hp hs h1 hc h => exact .list f hl hcap hp hs h1 hc h
  | v h => exact .v h
  | agg hl h1 h => exact .agg hl h1 h
  | tup hl h => exact .tup hl h
  | iface h => exact .iface h
  | box f hp h1 hc h => exact .box f hp h1 hc h
theorem Rd.own {P : Program} {role : Nat → Role} {w : World} {x : Value} {o o' : Bool} {T : TypeId} {es : List (List D)} (h : Rd P role w x (.list o T es)) : Rd P role w x (.list o' T es) := by
  cases h with
  | nil => exact .nil
  | list f hl hcap hp hs h1 hc h => exact .list f hl hcap hp hs h1 hc h

theorem Rd.isVal {P : Program} {role : Nat → Role} {w : World} {x : Value} {d : D} (h : Rd P role w x d) : d.isVal = true := by
  cases h <;> rfl
theorem leafV_oneCell {x : Value} (h : leafV x = true) : x.oneCell' = true := by
  cases x <;> first | rfl | simp [leafV] at h
theorem Rd.one {P : Program} {role : Nat → Role} {w : World} {x : Value} {d : D} (h : Rd P role w x d) (hd : d.isCell = true) : x.oneCell' = true := by
  cases h with
  | v h => exact leafV_oneCell h
  | agg => simp [D.isCell] at hd
  | tup => simp [D.isCell] at hd
  | _ => rfl

theorem litT_rd {P : Program} {role : Nat → Role} {w : World} {t : TypeId} {x : Value} {d : D} (h : litT P t x = some d) : Rd P role w x d ∧ x.oneCell' = true := by
  unfold litT at h
  split at h
  · split at h
    · cases h; exact ⟨.nil, rfl⟩
    · cases h
  · split at h
    · rename_i hx
      cases h; exact ⟨.v hx, leafV_oneCell hx⟩
    · cases h
theorem litCells_rd {P : Program} {role : Nat → Role} {w : World} : ∀ (ts : List TypeId) (xs : List Value) (ds : List D), litCells P ts xs = some ds →
    xs.length = ds.length ∧ ∀ (i : Nat) (x : Value) (d : D), xs[i]? = some x → ds[i]? = some d → Rd P role w x d ∧ x.oneCell' = true
  | [], [], ds, h => by simp only [litCells] at h; cases h; exact ⟨rfl, fun i x d hx => by simp at hx⟩
  | [], _ :: _, _, h => by simp [litCells] at h
  | _ :: _, [], _, h => by simp [litCells] at h
  | t :: ts, x :: xs, ds, h => by
    simp only [litCells] at h
    split at h
    · rename_i d' ds' h1 h2
      cases h
      obtain ⟨hl, hr⟩ := litCells_rd ts xs ds' h2
      refine ⟨by simp [hl], fun i y d hy hd => ?_⟩
      cases i with
      | zero => simp at hy hd; subst hy; subst hd; exact litT_rd h1
      | succ i => simp at hy hd; exact hr i y d hy hd
    · cases h
theorem lit_rd {P : Program} {role : Nat → Role} {w : World} {t : TypeId} {x : Value} {d : D} (h : lit P t x = some d) : Rd P role w x d := by
  unfold lit at h
  split at h
  · rename_i cs
    simp only [Option.map_eq_some_iff] at h
    obtain ⟨l, hl, rfl⟩ := h
    obtain ⟨h1, h2⟩ := litCells_rd (role := role) (w := w) _ _ _ hl
    refine .agg (by simpa using h1) (fun i x hx => ?_) (fun i x d hx hd => (h2 i x d (by simpa using hx) hd).1)
    have hi := (Array.getElem?_eq_some_iff.1 hx).1
    have hi' : i < l.length := by simp at h1; omega
    exact (h2 i x l[i] (by simpa using hx) (by simp [hi'])).2
  · exact (litT_rd h).1
end Go.Proofs.Ytnjhmlnmdnocmaa
