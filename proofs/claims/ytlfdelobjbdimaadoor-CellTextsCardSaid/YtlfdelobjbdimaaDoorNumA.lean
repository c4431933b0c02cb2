/-
  Contracts of dec, for runs over abstract values: by the numbers' values.
-/
import Derived.Test.YtlfdelobjbdimaaDoorAbsO
import Derived.Test.YtlfdelobjbdimaaDoorDecU
import Derived.Test.YtlfdelobjbdimaaDoorDecS
import Derived.Test.YtlfdelobjbdimaaDoorCode
set_option maxRecDepth 20000
namespace Go.Proofs.YtlfdelobjbdimaaDoor
set_option linter.unusedSimpArgs false
set_option linter.unusedVariables false
open Go.RowKit

/-! ### Values without memory -/
theorem rd_v {P : Program} {role : Nat → Role} {w : World} {x y : Value} (h : Rd P role w x (.v y)) : x = y ∧ leafV y = true := by
  cases h with | v h => exact ⟨rfl, h⟩
theorem rd_dec {P : Program} {role : Nat → Role} {w : World} {x : Value} {s : Bool} {a b : Int} (h : Rd P role w x (.agg [.v (.bool s), .v (.int .u64 a), .v (.int .u64 b)])) :
    x = .agg #[.bool s, .int .u64 a, .int .u64 b] ∧ inKind .u64 a = true ∧ inKind .u64 b = true := by
  cases h with
  | agg hl h1 h =>
    rename_i vs
    have h3 : vs.size = 3 := hl
    have g0 := rd_v (h 0 vs[0] _ (by simp [h3]) rfl)
    have g1 := rd_v (h 1 vs[1] _ (by simp [h3]) rfl)
    have g2 := rd_v (h 2 vs[2] _ (by simp [h3]) rfl)
    refine ⟨?_, g1.2, g2.2⟩
    congr 1
    apply Array.ext
    · simp [h3]
    · intro i hi hi'
      have : i = 0 ∨ i = 1 ∨ i = 2 := by omega
      rcases this with rfl | rfl | rfl
      · exact g0.1
      · exact g1.1
      · exact g2.1
theorem inKind_u64 (n : Int) : inKind .u64 n = (decide (0 ≤ n) && decide (n < 18446744073709551616)) := by
  simp only [inKind, IntKind.signed, IntKind.bits, Bool.false_or]
  congr 1
theorem u64_nat {n : Nat} (h : n < 18446744073709551616) : inKind .u64 (n : Int) = true := by
  rw [inKind_u64]; simp; omega
theorem nat_u64 {n : Int} (h : inKind .u64 n = true) : 0 ≤ n ∧ n < 18446744073709551616 := by
  rw [inKind_u64] at h; simpa using h
theorem rd_leaf {P : Program} {role : Nat → Role} {w : World} {x : Value} (h : leafV x = true) : Rd P role w x (.v x) := .v h
theorem rd_two {P : Program} {role : Nat → Role} {w : World} {x y : Value} {a b : D} (h : Rd P role w x a) (k : Rd P role w y b) : Rd P role w (.tuple #[x, y]) (.tup [a, b]) := by
  refine .tup rfl ?_
  intro i v d hv hd
  match i with
  | 0 => simp at hv hd; subst hv; subst hd; exact h
  | 1 => simp at hv hd; subst hv; subst hd; exact k
  | i + 2 => simp at hd
theorem rd_three {P : Program} {role : Nat → Role} {w : World} {s : Bool} {a b : Int} (h : inKind .u64 a = true) (k : inKind .u64 b = true) :
    Rd P role w (.agg #[.bool s, .int .u64 a, .int .u64 b]) (.agg [.v (.bool s), .v (.int .u64 a), .v (.int .u64 b)]) := by
  refine .agg rfl ?_ ?_
  · intro i v hv
    match i with
    | 0 => simp at hv; subst hv; rfl
    | 1 => simp at hv; subst hv; rfl
    | 2 => simp at hv; subst hv; rfl
    | i + 3 => simp at hv
  · intro i v d hv hd
    match i with
    | 0 => simp at hv hd; subst hv; subst hd; exact .v rfl
    | 1 => simp at hv hd; subst hv; subst hd; exact .v h
    | 2 => simp at hv hd; subst hv; subst hd; exact .v k
    | i + 3 => simp at hd

/-! ### Numbers -/
/-- The magnitude of two halves; the number of a sign and two halves; is it right? -/
def magI (x y : Int) : Nat := x.toNat * 18446744073709551616 + y.toNat
def valI (s : Bool) (x y : Int) : Int := bif s then -(magI x y : Int) else (magI x y : Int)
def goodI (s : Bool) (x y : Int) : Bool := goodB s (magI x y)
/-- A right number's three cells. -/
def decV (z : Int) : D := .agg [.v (.bool (decide (z < 0))), .v (.int .u64 ((hiN z.natAbs : Nat) : Int)), .v (.int .u64 ((loN z.natAbs : Nat) : Int))]
def decZ : D := .agg [.v (.bool false), .v (.int .u64 0), .v (.int .u64 0)]
def errD (n : Int) : D := .iface 77 (.v (.int .i64 n))
def nilD : D := .v .nilIface
/-- Is a number's magnitude below the limit? -/
def fitB (z : Int) : Bool := decide (z.natAbs < 1000000000000000000000000000000000000)

theorem magI_halves (m : Nat) : magI ((hiN m : Nat) : Int) ((loN m : Nat) : Int) = m := by unfold magI hiN loN; omega
theorem hi_magI {x y : Int} (hx : inKind .u64 x = true) (hy : inKind .u64 y = true) : ((hiN (magI x y) : Nat) : Int) = x ∧ ((loN (magI x y) : Nat) : Int) = y ∧ magI x y < 340282366920938463463374607431768211456 := by
  have := nat_u64 hx; have := nat_u64 hy
  unfold magI hiN loN; omega
theorem valI_dec (z : Int) : valI (decide (z < 0)) ((hiN z.natAbs : Nat) : Int) ((loN z.natAbs : Nat) : Int) = z := by
  unfold valI; rw [magI_halves]
  by_cases h : z < 0 <;> simp only [h, decide_true, decide_false, cond_true, cond_false] <;> omega
theorem goodI_dec (z : Int) : goodI (decide (z < 0)) ((hiN z.natAbs : Nat) : Int) ((loN z.natAbs : Nat) : Int) = fitB z := by
  unfold goodI fitB goodB; rw [magI_halves]
  by_cases h : z < 0
  · have : ¬ z.natAbs = 0 := by omega
    simp [h, this]
  · simp [h]
/-- A right number's cells are those of its value. -/
theorem dec_good {s : Bool} {m : Nat} (h : goodB s m = true) : ∃ z : Int, (decide (z < 0)) = s ∧ z.natAbs = m ∧ fitB z = true ∧ z = val s m := by
  have hm := good_lt h
  have hz := good_nz h
  refine ⟨val s m, ?_, ?_, ?_, rfl⟩
  · unfold val; cases s <;> simp at hz ⊢ <;> omega
  · unfold val; cases s <;> simp
  · unfold fitB val; cases s <;> simp <;> exact hm
theorem val_bif {s : Bool} {m : Nat} : (bif s then -(m : Int) else m) = val s m := by
  cases s <;> simp [val]
theorem valI_val {s : Bool} {x y : Int} : valI s x y = val s (magI x y) := val_bif

/-- How a number's cells read. -/
theorem rd_decV (P : Program) (role : Nat → Role) (w : World) {z : Int} (h : fitB z = true) {t : Bool} {r : Nat} (ht : t = decide (z < 0)) (hr : r = z.natAbs) : Rd P role w (.agg #[.bool (t), .int .u64 ((hiN (r) : Nat) : Int), .int .u64 ((loN (r) : Nat) : Int)]) (decV z) := by
  subst ht; subst hr
  have h' : z.natAbs < 1000000000000000000000000000000000000 := by unfold fitB at h; simpa using h
  exact rd_three (u64_nat (hiN_lt (by omega))) (u64_nat (loN_lt _))
theorem rd_decZ (P : Program) (role : Nat → Role) (w : World) : Rd P role w (.agg #[.bool false, .int .u64 0, .int .u64 0]) decZ := rd_three rfl rfl
theorem rd_err (P : Program) (role : Nat → Role) (w : World) (n : Int) : Rd P role w (.iface 77 (.int .i64 n)) (errD n) := .iface (.v rfl)
theorem rd_nil (P : Program) (role : Nat → Role) (w : World) : Rd P role w .nilIface nilD := .v rfl

/-! ### From walks to contracts -/
theorem ps_of_calls {P : Program} {f : Nat} {fn : Func} {c : Code} (hf : P.funcs[f]? = some fn) (hname : (fn.name == "runtime.NumGoroutine") = false) (hb : fn.body = some c) {ds : List D} {d : D}
    (h : ∀ role w args, args.size = ds.length → (∀ (i : Nat) (x : Value) (e : D), args[i]? = some x → ds[i]? = some e → Rd P role w x e) → ∃ v, (Calls P f args w fun e w' => e = .returned v ∧ Ext w w') ∧ ∀ w', Rd P role w' v d) : PS P f ds d := by
  intro role w args hlow hmask hsz hargs
  obtain ⟨v, h1, h2⟩ := h role w args hsz hargs
  unfold CallsV
  rw [MuLone.run_callFunc_enter hf hname hb]
  refine h1.mono ?_
  rintro e w' ⟨rfl, hx⟩
  exact ⟨v, role, rfl, hx, fun _ _ => rfl, fun k hk => Nat.lt_of_lt_of_le (hlow k hk) (Below.size hx), h2 w'⟩

theorem args_one {args : Array Value} {ds : List D} {P : Program} {role : Nat → Role} {w : World} {d : D} (hd : ds = [d]) (hsz : args.size = ds.length) (h : ∀ (i : Nat) (x : Value) (e : D), args[i]? = some x → ds[i]? = some e → Rd P role w x e) :
    ∃ x, args = #[x] ∧ Rd P role w x d := by
  subst hd
  have h1 : args.size = 1 := hsz
  refine ⟨args[0], ?_, h 0 _ _ (by simp [h1]) rfl⟩
  apply Array.ext
  · simp [h1]
  · intro i hi hi'
    obtain rfl : i = 0 := by omega
    rfl
theorem args_two {args : Array Value} {ds : List D} {P : Program} {role : Nat → Role} {w : World} {d d' : D} (hd : ds = [d, d']) (hsz : args.size = ds.length) (h : ∀ (i : Nat) (x : Value) (e : D), args[i]? = some x → ds[i]? = some e → Rd P role w x e) :
    ∃ x y, args = #[x, y] ∧ Rd P role w x d ∧ Rd P role w y d' := by
  subst hd
  have h1 : args.size = 2 := hsz
  refine ⟨args[0], args[1], ?_, h 0 _ _ (by simp [h1]) rfl, h 1 _ _ (by simp [h1]) rfl⟩
  apply Array.ext
  · simp [h1]
  · intro i hi hi'
    have : i = 0 ∨ i = 1 := by omega
    rcases this with rfl | rfl <;> rfl

/-- Of one number. -/
theorem ps_one {f : Nat} {fn : Func} {c : Code} (hf : Tryd.prog.funcs[f]? = some fn) (hname : (fn.name == "runtime.NumGoroutine") = false) (hb : fn.body = some c) {s : Bool} {x y : Int} {d : D}
    (h : ∀ m, m = magI x y → ∃ v, (∀ w, Calls Tryd.prog f #[(.agg #[.bool (s), .int .u64 ((hiN (m) : Nat) : Int), .int .u64 ((loN (m) : Nat) : Int)])] w fun e w' => e = .returned v ∧ Ext w w') ∧ ∀ role w, Rd Tryd.prog role w v d) : PS Tryd.prog f [.agg [.v (.bool s), .v (.int .u64 x), .v (.int .u64 y)]] d := by
  refine ps_of_calls hf hname hb fun role w args hsz hargs => ?_
  obtain ⟨a, rfl, ha⟩ := args_one rfl hsz hargs
  obtain ⟨rfl, hx, hy⟩ := rd_dec ha
  obtain ⟨v, h1, h2⟩ := h _ rfl
  obtain ⟨e1, e2, _⟩ := hi_magI hx hy
  rw [e1, e2] at h1
  exact ⟨v, h1 w, fun w' => h2 role w'⟩
/-- Of two numbers. -/
theorem ps_two {f : Nat} {fn : Func} {c : Code} (hf : Tryd.prog.funcs[f]? = some fn) (hname : (fn.name == "runtime.NumGoroutine") = false) (hb : fn.body = some c) {s s' : Bool} {x y x' y' : Int} {d : D}
    (h : ∀ m m', m = magI x y → m' = magI x' y' → ∃ v, (∀ w, Calls Tryd.prog f #[(.agg #[.bool (s), .int .u64 ((hiN (m) : Nat) : Int), .int .u64 ((loN (m) : Nat) : Int)]), (.agg #[.bool (s'), .int .u64 ((hiN (m') : Nat) : Int), .int .u64 ((loN (m') : Nat) : Int)])] w fun e w' => e = .returned v ∧ Ext w w') ∧ ∀ role w, Rd Tryd.prog role w v d) :
    PS Tryd.prog f [.agg [.v (.bool s), .v (.int .u64 x), .v (.int .u64 y)], .agg [.v (.bool s'), .v (.int .u64 x'), .v (.int .u64 y')]] d := by
  refine ps_of_calls hf hname hb fun role w args hsz hargs => ?_
  obtain ⟨a, b, rfl, ha, hb⟩ := args_two rfl hsz hargs
  obtain ⟨rfl, hx, hy⟩ := rd_dec ha
  obtain ⟨rfl, hx', hy'⟩ := rd_dec hb
  obtain ⟨v, h1, h2⟩ := h _ _ rfl rfl
  obtain ⟨e1, e2, _⟩ := hi_magI hx hy
  obtain ⟨e3, e4, _⟩ := hi_magI hx' hy'
  rw [e1, e2, e3, e4] at h1
  exact ⟨v, h1 w, fun w' => h2 role w'⟩

/-! ### The contracts -/
def one? : List D → Option (Bool × Int × Int)
  | [.agg [.v (.bool s), .v (.int .u64 x), .v (.int .u64 y)]] => some (s, x, y)
  | _ => none
def two? : List D → Option (Bool × Int × Int × Bool × Int × Int)
  | [.agg [.v (.bool s), .v (.int .u64 x), .v (.int .u64 y)], .agg [.v (.bool s'), .v (.int .u64 x'), .v (.int .u64 y')]] => some (s, x, y, s', x', y')
  | _ => none
theorem one?_eq {ds : List D} {s : Bool} {x y : Int} (h : one? ds = some (s, x, y)) : ds = [.agg [.v (.bool s), .v (.int .u64 x), .v (.int .u64 y)]] := by
  unfold one? at h; split at h
  · simp at h; obtain ⟨rfl, rfl, rfl⟩ := h; rfl
  · cases h
theorem two?_eq {ds : List D} {s s' : Bool} {x y x' y' : Int} (h : two? ds = some (s, x, y, s', x', y')) : ds = [.agg [.v (.bool s), .v (.int .u64 x), .v (.int .u64 y)], .agg [.v (.bool s'), .v (.int .u64 x'), .v (.int .u64 y')]] := by
  unfold two? at h; split at h
  · simp at h; obtain ⟨rfl, rfl, rfl, rfl, rfl, rfl⟩ := h; rfl
  · cases h

/-- What holds of the result, by whom it is handed on, of what is so. -/
def Says (P : Program) (f : Nat) (ds : List D) (m : (D → Prop) → Prop) : Prop := ∀ K : D → Prop, m K → ∃ d, K d ∧ (∀ K' : D → Prop, K' d → m K') ∧ PS P f ds d
theorem Says.ret {P : Program} {f : Nat} {ds : List D} {d : D} (h : PS P f ds d) : Says P f ds fun K => K d := fun _ hK => ⟨d, hK, fun _ h' => h', h⟩
theorem Says.ite {P : Program} {f : Nat} {ds : List D} {b : Bool} {m n : (D → Prop) → Prop} (h : b = true → Says P f ds m) (k : b = false → Says P f ds n) : Says P f ds fun K => bif b then m K else n K := by
  cases b with
  | true => exact h rfl
  | false => exact k rfl
theorem Says.no {P : Program} {f : Nat} {ds : List D} : Says P f ds fun _ => False := fun _ h => h.elim

/-- What numbers come to; as a variable, so that a run leaves it as it is. -/
structure Ops where
  val : Bool → Int → Int → Int
  good : Bool → Int → Int → Bool
  fit : Int → Bool
  sg : Int → Bool
  hi : Int → Int
  lo : Int → Int
  neg : Int → Int
  trunc : Int → Int
  add : Int → Int → Int
  sub : Int → Int → Int
  mul : Int → Int → Int
  cmp : Int → Int → Int
  int : Int → Int
  isInt : Int → Bool
def opsR : Ops where
  val := valI
  good := goodI
  fit := fitB
  sg z := decide (z < 0)
  hi z := ((hiN z.natAbs : Nat) : Int)
  lo z := ((loN z.natAbs : Nat) : Int)
  neg z := -z
  trunc z := z - z.tmod 1000000
  add z z' := z + z'
  sub z z' := z - z'
  mul z z' := (z * z').tdiv 1000000
  cmp := sgn
  int n := n * 1000000
  isInt n := decide (-9223372036854775808 ≤ n) && decide (n < 9223372036854775808)
def decM (M : Ops) (z : Int) : D := .agg [.v (.bool (M.sg z)), .v (.int .u64 (M.hi z)), .v (.int .u64 (M.lo z))]

def goodC (M : Ops) : Orc := fun _ ds K => match one? ds with
  | some (s, x, y) => K (.v (.bool (M.good s x y)))
  | none => False
def negC (M : Ops) : Orc := fun _ ds K => match one? ds with
  | some (s, x, y) => bif M.good s x y then K (decM M (M.neg (M.val s x y))) else K decZ
  | none => False
def truncC (M : Ops) : Orc := fun _ ds K => match one? ds with
  | some (s, x, y) => bif M.good s x y then K (decM M (M.trunc (M.val s x y))) else K decZ
  | none => False
def cmpC (M : Ops) : Orc := fun _ ds K => match two? ds with
  | some (s, x, y, s', x', y') => bif M.good s x y && M.good s' x' y' then K (.v (.int .i64 (M.cmp (M.val s x y) (M.val s' x' y')))) else K (.v (.int .i64 0))
  | none => False
/-- A number, if it is not too great. -/
def fitC (M : Ops) (z : Int) (K : D → Prop) : Prop := bif M.fit z then K (.tup [decM M z, nilD]) else K (.tup [decZ, errD 2])
def addC (M : Ops) : Orc := fun _ ds K => match two? ds with
  | some (s, x, y, s', x', y') => bif M.good s x y && M.good s' x' y' then fitC M (M.add (M.val s x y) (M.val s' x' y')) K else K (.tup [decZ, errD 1])
  | none => False
def subC (M : Ops) : Orc := fun _ ds K => match two? ds with
  | some (s, x, y, s', x', y') => bif M.good s x y && M.good s' x' y' then fitC M (M.sub (M.val s x y) (M.val s' x' y')) K else K (.tup [decZ, errD 1])
  | none => False
def mulC (M : Ops) : Orc := fun _ ds K => match two? ds with
  | some (s, x, y, s', x', y') => bif M.good s x y && M.good s' x' y' then fitC M (M.mul (M.val s x y) (M.val s' x' y')) K else K (.tup [decZ, errD 1])
  | none => False

def intC (M : Ops) : Orc := fun _ ds K => match ds with
  | [.v (.int .i64 n)] => bif M.isInt n then K (decM M (M.int n)) else False
  | _ => False
def codeC : Orc := fun _ ds K => match ds with
  | [.v .nilIface] => K (.v (.int .i64 0))
  | [.iface t (.v (.int .i64 n))] => bif t == 77 && (n == 1 || n == 2 || n == 3) then K (.v (.int .i64 n)) else False
  | _ => False
def awakeC : Orc := fun _ ds K => match ds with
  | [] => K (.v (.bool true))
  | _ => False

def Sound (f : Nat) (o : Orc) : Prop := ∀ ds, Says Tryd.prog f ds (o f ds)

theorem sound1 {f : Nat} {o : Orc} {m : Bool → Int → Int → (D → Prop) → Prop} (ho : ∀ ds K, o f ds K = match one? ds with | some (s, x, y) => m s x y K | none => False)
    (h : ∀ s x y, Says Tryd.prog f [.agg [.v (.bool s), .v (.int .u64 x), .v (.int .u64 y)]] (m s x y)) : Sound f o := by
  intro ds K hK
  rw [ho] at hK
  cases he : one? ds with
  | none => rw [he] at hK; exact hK.elim
  | some p =>
    obtain ⟨s, x, y⟩ := p
    rw [he] at hK
    obtain ⟨d, h1, h2, h3⟩ := h s x y K hK
    refine ⟨d, h1, fun K' hK' => ?_, ?_⟩
    · rw [ho, he]; exact h2 K' hK'
    · rw [one?_eq he]; exact h3
theorem sound2 {f : Nat} {o : Orc} {m : Bool → Int → Int → Bool → Int → Int → (D → Prop) → Prop} (ho : ∀ ds K, o f ds K = match two? ds with | some (s, x, y, s', x', y') => m s x y s' x' y' K | none => False)
    (h : ∀ s x y s' x' y', Says Tryd.prog f [.agg [.v (.bool s), .v (.int .u64 x), .v (.int .u64 y)], .agg [.v (.bool s'), .v (.int .u64 x'), .v (.int .u64 y')]] (m s x y s' x' y')) : Sound f o := by
  intro ds K hK
  rw [ho] at hK
  cases he : two? ds with
  | none => rw [he] at hK; exact hK.elim
  | some p =>
    obtain ⟨s, x, y, s', x', y'⟩ := p
    rw [he] at hK
    obtain ⟨d, h1, h2, h3⟩ := h s x y s' x' y' K hK
    refine ⟨d, h1, fun K' hK' => ?_, ?_⟩
    · rw [ho, he]; exact h2 K' hK'
    · rw [two?_eq he]; exact h3
end Go.Proofs.YtlfdelobjbdimaaDoor
