/-
  What an operation does to what a walk knows. No program in sight: the tables of a program are an argument.
-/
import Derived.Test.YtnjhmlnmdnocmaaAbsB
namespace Go.Proofs.Ytnjhmlnmdnocmaa
set_option linter.unusedSimpArgs false
set_option linter.unusedVariables false
open Go.RowKit

/-- A walk's look at a frame: which temporaries it reads, what it asks, which function it calls. -/
inductive Look (α : Type) : Type where
  | ret (a : α)
  | rd (t : Nat) (k : D → Look α)
  | chk (b : Bool) (k : Look α)
  | call (f : Nat) (ds : List D) (k : D → Look α)
  | fail

abbrev Orc := Nat → List D → (D → Prop) → Prop
namespace Look
variable {α β : Type}
def bind : Look α → (α → Look β) → Look β
  | .ret a, f => f a
  | .rd t k, f => .rd t fun d => (k d).bind f
  | .chk b k, f => .chk b (k.bind f)
  | .call g ds k, f => .call g ds fun d => (k d).bind f
  | .fail, _ => .fail
instance : Monad Look where
  pure := Look.ret
  bind := Look.bind
def run (orc : Orc) : Look α → List D → List Nat → (α → List Nat → Prop) → Prop
  | .ret a, _, l, K => K a l
  | .rd t k, s, l, K => (k (get s t)).run orc s (t :: l) K
  | .chk b k, s, l, K => b = true ∧ k.run orc s l K
  | .call f ds k, s, l, K => orc f ds fun d => (k d).run orc s l K
  | .fail, _, _, _ => False
end Look
open Look (ret rd chk)

/-- Of a predicate over outcomes: there is just one, and it is so. -/
def Det {α : Type} (m : (α → Prop) → Prop) : Prop := ∀ K, m K → ∃ d, K d ∧ ∀ K' : α → Prop, K' d → m K'

section
variable {orc : Orc} {α β : Type} {s s' : List D}
theorem run_bind (m : Look α) (f : α → Look β) : ∀ (l : List Nat) (K : β → List Nat → Prop), (m.bind f).run orc s l K ↔ m.run orc s l (fun a l' => (f a).run orc s l' K) := by
  induction m with
  | ret a => intro l K; rfl
  | rd t k ih => intro l K; exact ih _ _ K
  | chk b k ih => intro l K; exact and_congr_right fun _ => ih l K
  | call g ds k ih =>
    intro l K
    simp only [Look.bind, Look.run]
    have : (fun d => ((k d).bind f).run orc s l K) = (fun d => (k d).run orc s l fun a l' => (f a).run orc s l' K) := funext fun d => propext (ih d l K)
    rw [this]
  | fail => intro l K; rfl
theorem run_bind' (m : Look α) (f : α → Look β) (l : List Nat) (K : β → List Nat → Prop) : (m >>= f).run orc s l K ↔ m.run orc s l (fun a l' => (f a).run orc s l' K) := run_bind m f l K

/-- One outcome, and what was read. -/
theorem run_out (ho : ∀ f ds, Det (orc f ds)) (m : Look α) : ∀ (l : List Nat) (K : α → List Nat → Prop), m.run orc s l K →
    ∃ a l', K a l' ∧ ∃ r, l' = r ++ l ∧ ∀ s', (∀ t, t ∈ r → get s' t = get s t) → ∀ K' : α → List Nat → Prop, K' a l' → m.run orc s' l K' := by
  induction m with
  | ret a => intro l K h; exact ⟨a, l, h, [], rfl, fun _ _ K' hK => hK⟩
  | rd t k ih =>
    intro l K h
    obtain ⟨a, l', h2, r, hr, h3⟩ := ih _ _ K h
    refine ⟨a, l', h2, r ++ [t], by rw [hr]; simp, fun s' hs K' hK => ?_⟩
    show (k (get s' t)).run orc s' (t :: l) _
    rw [hs t (by simp)]
    exact h3 s' (fun u hu => hs u (by simp [hu])) K' hK
  | chk b k ih =>
    intro l K h
    obtain ⟨a, l', h2, r, hr, h3⟩ := ih l K h.2
    exact ⟨a, l', h2, r, hr, fun s' hs K' hK => ⟨h.1, h3 s' hs K' hK⟩⟩
  | call g ds k ih =>
    intro l K h
    obtain ⟨d, hd, hk⟩ := ho g ds _ h
    obtain ⟨a, l', h2, r, hr, h3⟩ := ih d l K hd
    exact ⟨a, l', h2, r, hr, fun s' hs K' hK => hk _ (h3 s' hs K' hK)⟩
  | fail => intro l K h; exact h.elim
end

/-! ## The operations -/
section
variable (P : Program)
def aggOf (t : TypeId) : Option Bool := match P.underlying t with
  | some (.struct _) | some (.array _ _) => some true
  | some _ => some false
  | none => none

/-- An operand's value; what is ours to append to is handed on as a copy. -/
def rdO (t : TypeId) : Operand → Look D
  | .tmp u => .rd u fun d => .ret d.strip
  | .const x => match lit P t x with
    | some d => .ret d.strip
    | none => .fail
  | .func f => .ret (.v (.func (.func f) #[] #[]))
  | .global _ => .fail
def rdV (t : TypeId) (x : Operand) : Look D := (rdO P t x).bind fun d => .chk d.isVal (.ret d)
def rdAll : List (TypeId × Operand) → Look (List D)
  | [] => .ret []
  | (t, x) :: xs => (rdV P t x).bind fun d => (rdAll xs).bind fun ds => .ret (d :: ds)

/-- The operation's temporary gets a value, behind other writes. -/
def putW (o : Oper) (d : D) (ws : List (Nat × D)) : Look (List (Nat × D)) := match o.dst with
  | none => .ret ws
  | some t => .rd t fun old => .chk (!old.isObj) (.ret (ws ++ [(t, d)]))

/-- A part of cells: of a type, from an offset on. -/
def partD (t : TypeId) (cs : List D) (off : Nat) : Option D :=
  match aggOf P t with
  | some true => if off + P.cellsOf t ≤ cs.length then some (.agg ((cs.drop off).take (P.cellsOf t))) else none
  | some false => cs[off]?
  | none => none

/-- A value's cells, as copies. -/
def cellsD : D → List D
  | .agg cs => cs.map D.strip
  | d => [d.strip]

/-- What a pointer leads to: the cells, the offset, and whose variable it is. -/
def deref (u : Nat) : D → Look (Option (Nat × TypeId) × List D × Nat)
  | .obj T cs => .ret (some (u, T), cs, 0)
  | .addr x off => .rd x fun d => match d with
    | .obj T cs => .ret (some (x, T), cs, off)
    | _ => .fail
  | .box cs off => .ret (none, cs, off)
  | _ => .fail
def rdPtr : Operand → Look (Option (Nat × TypeId) × List D × Nat)
  | .tmp u => .rd u fun d => deref u d
  | _ => .fail

def intOf : D → Int
  | .v (.int _ n) => n
  | _ => 0
def boolOf : D → Bool
  | .v (.bool b) => b
  | _ => false
def strOf : D → ByteArray
  | .v (.string s) => s
  | _ => ByteArray.empty
def listOf : D → List (List D)
  | .list _ _ es => es
  | _ => []
/-- A value of a type, in the form that the type tells. -/
def norm (t : TypeId) (d : D) : D := match P.underlying t with
  | some (.int k) => .v (.int k (intOf d))
  | some .bool => .v (.bool (boolOf d))
  | some .string => .v (.string (strOf d))
  | some (.slice e) => .list false e (listOf d)
  | _ => d.strip
def isD (t : TypeId) (d : D) : Bool := match P.underlying t with
  | some (.int k) => match d with
    | .v (.int k' _) => k == k'
    | _ => false
  | some .bool => match d with
    | .v (.bool _) => true
    | _ => false
  | some .string => match d with
    | .v (.string _) => true
    | _ => false
  | some (.slice e) => match d with
    | .list _ T _ => T == e
    | _ => false
  | _ => d.isCell
theorem norm_eq {t : TypeId} {d : D} (h : isD P t d = true) : norm P t d = d.strip := by
  unfold isD at h
  unfold norm
  cases hu : P.underlying t with
  | none => rfl
  | some td =>
    rw [hu] at h
    cases td
    case int k =>
      cases d <;> try (cases h)
      rename_i x
      cases x <;> try (cases h)
      rename_i k' n
      have : k = k' := by simpa using h
      subst this; rfl
    case bool =>
      cases d <;> try (cases h)
      rename_i x
      cases x <;> first | rfl | cases h
    case string =>
      cases d <;> try (cases h)
      rename_i x
      cases x <;> first | rfl | cases h
    case slice e =>
      cases d <;> try (cases h)
      rename_i o T es
      have : T = e := by simpa using h
      subst this; rfl
    all_goals rfl
/-- Cells of types, from an offset on, in the form that the types tell. -/
def normCells (cs : List D) : Nat → List TypeId → List D
  | _, [] => []
  | off, t :: ts => norm P t (cs.getD off .undef) :: normCells cs (off + 1) ts
def isCells (cs : List D) : Nat → List TypeId → Bool
  | _, [] => true
  | off, t :: ts => isD P t (cs.getD off .undef) && isCells cs (off + 1) ts
/-- A part of cells that stay, in the form that its type tells. -/
def partN (t : TypeId) (cs : List D) (off : Nat) : Option (Bool × D) := match aggOf P t with
  | some true => some (isCells P cs off (cellTypes P 9 t) && decide ((cellTypes P 9 t).length = P.cellsOf t) && decide (0 < P.cellsOf t), .agg (normCells P cs off (cellTypes P 9 t)))
  | some false => some (isD P t (cs.getD off .undef), norm P t (cs.getD off .undef))
  | none => none

def isList : D → Bool
  | .list true _ _ => true
  | _ => false

/-- A temporary is moved: what is ours to append to goes along. -/
def moveL (o : Oper) (t : TypeId) (x : Operand) (take : Bool) : Look (List (Nat × D)) := match x with
  | .tmp u => .rd u fun d => if take && isList d then .chk (o.dst != some u) (putW o d [(u, d.strip)]) else .chk d.isVal (putW o d.strip [])
  | .const (.slice none 0 0) => match P.underlying t with
    | some (.slice e) => putW o (.list true e []) []
    | _ => .fail
  | x => (rdV P t x).bind fun d => putW o d []

def fieldsOf (t : TypeId) : List Field := match P.underlying t with
  | some (.struct fs) => fs.toList
  | _ => []

def setCells (cs : List D) (off : Nat) (ds : List D) : List D := cs.take off ++ ds ++ cs.drop (off + ds.length)

/-- A number's, a truth's, a text's type. -/
def scalarT (t : TypeId) : Bool := match P.underlying t with
  | some (.int _) | some .bool | some .string => true
  | _ => false
def loadL (o : Oper) (t : TypeId) (x : Operand) (take : Bool) : Look (List (Nat × D)) :=
  (rdPtr x).bind fun (w, cs, off) => match w with
    | some (u, T) => bif scalarT P t then .chk (isD P t (cs.getD off .undef)) (putW o (norm P t (cs.getD off .undef)) []) else match partD P t cs off with
      | none => .fail
      | some d => if take && isList d then .chk (o.dst != some u) (putW o d [(u, .obj T (cs.set off d.strip))]) else .chk d.isVal (putW o d.strip [])
    | none => match partN P t cs off with
      | none => .fail
      | some (c, d) => .chk c (putW o d [])

def storeL (t : TypeId) (x y : Operand) : Look (List (Nat × D)) :=
  (rdPtr x).bind fun (w, cs, off) => match w with
    | none => .fail
    | some (u, T) =>
      let plain (d : D) : Look (List (Nat × D)) := .chk (d.isVal && (P.info? t).isSome && decide ((cellsD d).length = P.cellsOf t) && decide (off + P.cellsOf t ≤ cs.length) && (cellsD d).all D.isCell) (.ret [(u, .obj T (setCells cs off (cellsD d)))])
      match y with
      | .tmp z => .rd z fun d => if isList d then .chk (z != u && (P.info? t).isSome && decide (P.cellsOf t = 1) && decide (off < cs.length)) (.ret [(z, d.strip), (u, .obj T (setCells cs off [d]))])
        else plain d
      | y => (rdV P t y).bind plain

/-- A variable is made. -/
def zeroCellsD (T : TypeId) : Option (List D) := ((P.info? T).bind (·.zero)).bind fun z => litCells P (cellTypes P 9 T) z.cells.toList
def allocL (o : Oper) (T : TypeId) : Look (List (Nat × D)) := match zeroCellsD P T with
  | none => .fail
  | some ds => putW o (.obj T ds) []
def boxL (o : Oper) (T : TypeId) (x : Operand) : Look (List (Nat × D)) :=
  (rdV P T x).bind fun d => .chk ((cellsD d).all D.isCell) (putW o (.obj T (cellsD d)) [])

/-- An address within a variable, or within cells that stay. -/
def shift (u : Nat) (d : D) (n : Nat) : Option D := match d with
  | .obj _ _ => some (.addr u n)
  | .addr x off => some (.addr x (off + n))
  | .box cs off => some (.box cs (off + n))
  | _ => none
def fieldAddrL (o : Oper) (S : TypeId) (x : Operand) (i : Nat) : Look (List (Nat × D)) := match x with
  | .tmp u => .rd u fun d => match (fieldsOf P S)[i]? with
    | none => .fail
    | some f => match shift u d f.offset with
      | none => .fail
      | some e => .chk ((P.info? f.type).isSome && decide (P.cellsOf f.type ≠ 0)) (putW o e [])
  | _ => .fail
def indexAddrL (o : Oper) (t : TypeId) (x ix : Operand) : Look (List (Nat × D)) := match x with
  | .tmp u => .rd u fun d => (rdV P t ix).bind fun i => match i with
    | .v (.int _ n) => match P.underlying t, d with
      | some (.slice e), .list _ T es => .chk (T == e && (P.info? e).isSome) (.chk (decide (0 ≤ n) && decide (n < (es.length : Int))) (putW o (.box (es.getD n.toNat []) 0) []))
      | some (.array len e), d => match shift u d (n.toNat * P.cellsOf e) with
        | none => .fail
        | some e' => .chk ((P.info? e).isSome) (.chk (decide (0 ≤ n) && decide (n < (len : Int))) (putW o e' []))
      | _, _ => .fail
    | _ => .fail
  | _ => .fail
end
end Go.Proofs.Ytnjhmlnmdnocmaa
