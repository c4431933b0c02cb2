/-
  Arithmetic, comparisons, conversions of integers; equality. No program in sight.
-/
import Derived.Test.YtnjhmlnmdnocmaaAbsI
namespace Go.Proofs.Ytnjhmlnmdnocmaa
set_option linter.unusedSimpArgs false
set_option linter.unusedVariables false
open Go.RowKit
open Look (ret rd chk)

/-- What an operation on two integers asks, and comes to. -/
def intBin (op : BinOp) (k : IntKind) (x : Int) (k' : IntKind) (y : Int) : Option (Bool × D) := match op with
  | .shl => some (decide (0 ≤ y), .v (.int k (k.wrap (x * 2 ^ (min y.toNat k.bits)))))
  | .shr => some (decide (0 ≤ y), .v (.int k (x.fdiv (2 ^ (min y.toNat k.bits)))))
  | op => if k = k' then match op with
    | .add => some (true, .v (.int k (k.wrap (x + y))))
    | .sub => some (true, .v (.int k (k.wrap (x - y))))
    | .mul => some (true, .v (.int k (k.wrap (x * y))))
    | .quo => some (decide (y ≠ 0), .v (.int k (k.wrap (x.tdiv y))))
    | .rem => some (decide (y ≠ 0), .v (.int k (x.tmod y)))
    | .and => some (true, .v (.int k (bits .and k x y)))
    | .or => some (true, .v (.int k (bits .or k x y)))
    | .xor => some (true, .v (.int k (bits .xor k x y)))
    | .andNot => some (true, .v (.int k (bits .andNot k x y)))
    | .eql => some (true, .v (.bool (x == y)))
    | .neq => some (true, .v (.bool (x != y)))
    | .lss => some (true, .v (.bool (decide (x < y))))
    | .leq => some (true, .v (.bool (decide (x ≤ y))))
    | .gtr => some (true, .v (.bool (decide (x > y))))
    | .geq => some (true, .v (.bool (decide (x ≥ y))))
    | _ => none
    else none
/-- The like for two texts. -/
def strEq (x y : ByteArray) : Bool := x.data.toList == y.data.toList
def strLt (x y : ByteArray) : Bool := Op.bytesLess x.data.toList y.data.toList
def strBin (op : BinOp) (x y : ByteArray) : Option (Bool × D) := match op with
  | .add => some (decide (x.size + y.size ≤ 9223372036854775807), .v (.string (x ++ y)))
  | .eql => some (true, .v (.bool (strEq x y)))
  | .neq => some (true, .v (.bool (!strEq x y)))
  | .lss => some (true, .v (.bool (strLt x y)))
  | .leq => some (true, .v (.bool (strLt x y || strEq x y)))
  | .gtr => some (true, .v (.bool (!(strLt x y || strEq x y))))
  | .geq => some (true, .v (.bool (!strLt x y)))
  | _ => none

section
variable (P : Program)
mutual
/-- Whether two values of a type are one. -/
def eqD : Nat → TypeId → D → D → Option Bool
  | 0, _, _, _ => none
  | n + 1, t, x, y => match P.underlying t with
    | some .bool => match x, y with
      | .v (.bool a), .v (.bool b) => some (a == b)
      | _, _ => none
    | some (.int _) => match x, y with
      | .v (.int k a), .v (.int k' b) => if k = k' then some (a == b) else none
      | _, _ => none
    | some .string => match x, y with
      | .v (.string a), .v (.string b) => some (strEq a b)
      | _, _ => none
    | some (.struct fs) => match x, y with
      | .agg xs, .agg ys => if P.stoodInHeld t then none else eqFieldsD n xs ys fs.toList
      | _, _ => none
    | some (.interface _) => match x, y with
      | .v .nilIface, .v .nilIface => some true
      | .v .nilIface, .iface _ _ => some false
      | .iface _ _, .v .nilIface => some false
      | .iface tx a, .iface ty b => if tx = ty then (if ((P.info? tx).map (·.comparable)).getD false then eqD n tx a b else none) else some false
      | _, _ => none
    | some (.pointer _) => match x, y with
      | .v (.pointer none), .v (.pointer none) => some true
      | .v (.pointer none), .box _ _ => some false
      | .box _ _, .v (.pointer none) => some false
      | _, _ => none
    | some (.slice _) => match x, y with
      | _, _ => none
    | _ => none
def eqFieldsD : Nat → List D → List D → List Field → Option Bool
  | _, _, _, [] => some true
  | 0, _, _, _ :: _ => none
  | n + 1, xs, ys, f :: fs => if f.name = "_" then eqFieldsD n xs ys fs else
    match partD P f.type xs f.offset, partD P f.type ys f.offset with
    | some a, some b => match eqD n f.type a b, eqFieldsD n xs ys fs with
      | some r, some q => some (r && q)
      | _, _ => none
    | _, _ => none
end

def isConstB : Operand → Bool
  | .const _ => true
  | _ => false
def isNilB : D → Bool
  | .v .nilIface => true
  | _ => false
def isAggD : D → Bool
  | .agg _ => true
  | _ => false

def binL (o : Oper) (op : BinOp) (t : TypeId) (x y : Operand) (ty : TypeId) : Look (List (Nat × D)) :=
  (rdV P t x).bind fun dx => (rdV P ty y).bind fun dy => match dx, dy with
    | .v (.int k a), .v (.int k' b) => match intBin op k a k' b with
      | some (c, d) => .chk c (putW o d [])
      | none => .fail
    | .v (.string a), .v (.string b) => match strBin op a b with
      | some (c, d) => .chk c (putW o d [])
      | none => .fail
    | dx, dy => .chk ((!isNilB dx || !isNilB dy || isConstB x || isConstB y) && (!isAggD dx || !P.eqGuardType P.depth t)) (match eqD P 40 t dx dy with
      | some b => match op with
        | .eql => putW o (.v (.bool b)) []
        | .neq => putW o (.v (.bool (!b))) []
        | _ => .fail
      | none => .fail)

def convL (o : Oper) (src dst : TypeId) (x : Operand) : Look (List (Nat × D)) := (rdV P src x).bind fun d => match P.underlying src, P.underlying dst, d with
  | some _, some (.int k), .v (.int _ n) => putW o (.v (.int k (k.wrap n))) []
  | some (.int _), some .string, _ => .fail
  | some .string, some .string, .v (.string s) => putW o (.v (.string s)) []
  | _, _, _ => .fail
end

section
variable {P : Program} {orc : Orc} {E : Env} {A : List Nat} {role : Nat → Role} {a : Act} {w : World} {s : List D} {l : List Nat}
variable {K : List (Nat × D) → List Nat → Prop} {Q : Exit → Act → World → Prop}

theorem intBin_run {op : BinOp} {k k' : IntKind} {x y : Int} {c : Bool} {d : D} {t : TypeId} (h : intBin op k x k' y = some (c, d)) (hc : c = true) (hx : inKind k x = true) :
    ∃ v, d = .v v ∧ leafV v = true ∧ (binOp op t (.int k x) (.int k' y)).run P w = .ok v w := by
  subst hc
  cases op <;> simp only [intBin, Option.some.injEq, Prod.mk.injEq] at h
  case shl =>
    obtain ⟨h1, rfl⟩ := h
    have : ¬ y < 0 := by simpa using h1
    exact ⟨_, rfl, inKind_wrap _ _, by simp [binOp, Op.shift, this]⟩
  case shr =>
    obtain ⟨h1, rfl⟩ := h
    have : ¬ y < 0 := by simpa using h1
    exact ⟨_, rfl, inKind_div _ hx, by simp [binOp, Op.shift, this]⟩
  all_goals
    split at h
    · rename_i hk
      subst hk
      simp only [Option.some.injEq, Prod.mk.injEq, reduceCtorEq] at h
      try
        obtain ⟨h1, rfl⟩ := h
        refine ⟨_, rfl, (by first | rfl | exact inKind_wrap _ _ | exact inKind_mod hx), ?_⟩
        first
        | (simp [binOp, Op.intArith]; done)
        | (simp only [binOp, ne_eq, not_true_eq_false, if_false, Op.intBits]; rfl)
        | (simp [binOp, Op.intCmp]; done)
        | (have h2 : ¬ y = 0 := by simpa using h1
           simp [binOp, Op.intDiv, h2]; done)
    · cases h

theorem strBin_run {op : BinOp} {x y : ByteArray} {c : Bool} {d : D} {t : TypeId} (h : strBin op x y = some (c, d)) (hc : c = true) :
    ∃ v, d = .v v ∧ leafV v = true ∧ (binOp op t (.string x) (.string y)).run P w = .ok v w := by
  subst hc
  cases op <;> simp only [strBin, Option.some.injEq, Prod.mk.injEq, reduceCtorEq] at h
  case add =>
    obtain ⟨h1, rfl⟩ := h
    have h2 : ¬ ((x.size + y.size : Nat) : Int) > IntKind.i64.max := by
      simp [IntKind.max, IntKind.signed, IntKind.bits] at h1 ⊢; omega
    refine ⟨_, rfl, rfl, ?_⟩
    simp only [binOp, Op.stringOp]
    rw [if_neg h2]; rfl
  all_goals
    obtain ⟨h1, rfl⟩ := h
    exact ⟨_, rfl, rfl, by simp [binOp, Op.stringOp, strEq, strLt, ByteArray.toList_eq]⟩

theorem fieldsOf_prog {t : TypeId} {fs : Array Field} (h : P.underlying t = some (.struct fs)) : P.fieldsOf t = fs := by simp [Program.fieldsOf, h]

mutual
theorem eqD_run : ∀ (n : Nat) (d : Nat) (t : TypeId) (x y : D) (vx vy : Value) (b : Bool), eqD P n t x y = some b → Rd P role w vx x → Rd P role w vy y → (Op.equalIn (d + n) t vx vy).run P w = .ok b w
  | 0, _, _, _, _, _, _, _, h, _, _ => by simp [eqD] at h
  | n + 1, d, t, x, y, vx, vy, b, h, hx, hy => by
    simp only [eqD] at h
    rw [show d + (n + 1) = (d + n) + 1 by omega]
    split at h
    · rename_i hu
      split at h
      · cases h; cases hx; cases hy; exact run_equalIn_bool w _ t _ _ hu
      · cases h
    · rename_i k hu
      split at h
      · split at h
        · rename_i hk; subst hk; cases h; cases hx; cases hy; exact run_equalIn_int w _ t _ _ _ _ hu
        · cases h
      · cases h
    · rename_i hu
      split at h
      · cases h; cases hx; cases hy
        rw [run_equalIn_string w _ t _ _ hu, ByteArray.toList_eq, ByteArray.toList_eq]; rfl
      · cases h
    · rename_i fs hu
      split at h
      · split at h
        · cases h
        · rename_i xs ys hp
          have hx' := hx
          have hy' := hy
          cases hx; cases hy
          rename_i vs1 _ _ _ vs2 _ _ _
          rw [run_equalIn_struct w _ t _ _ (by rw [fieldsOf_prog hu]; exact hu) (by simpa using hp), fieldsOf_prog hu]
          exact eqFieldsD_run n d fs.toList xs ys _ _ b h hx' hy'
      · cases h
    · rename_i ms hu
      split at h
      · cases h; cases hx; cases hy; simp [Op.equalIn, run_underlying hu]
      · cases h; cases hx; cases hy; simp [Op.equalIn, run_underlying hu]
      · cases h; cases hx; cases hy; simp [Op.equalIn, run_underlying hu]
      · rename_i tx a ty b'
        cases hx with
        | iface hx =>
          cases hy with
          | iface hy =>
            split at h
            · rename_i ht
              subst ht
              split at h
              · rename_i hcmp
                have ih := eqD_run n d tx a b' _ _ b h hx hy
                cases hi : P.info? tx with
                | none => simp [hi] at hcmp
                | some i =>
                  simp [hi] at hcmp
                  simp [Op.equalIn, run_underlying hu, typeInfo, hi, hcmp, ih]
              · cases h
            · rename_i ht
              cases h
              simp [Op.equalIn, run_underlying hu, ht]
      · cases h
    · rename_i e hu
      split at h
      · cases h; cases hx; cases hy; simp [Op.equalIn, run_underlying hu]
      · cases h; cases hx; cases hy; simp [Op.equalIn, run_underlying hu]
      · cases h; cases hx; cases hy; simp [Op.equalIn, run_underlying hu]
      · cases h
    · cases h
    · cases h
theorem eqFieldsD_run : ∀ (n : Nat) (d : Nat) (fs : List Field) (xs ys : List D) (vx vy : Array Value) (b : Bool), eqFieldsD P n xs ys fs = some b → Rd P role w (.agg vx) (.agg xs) → Rd P role w (.agg vy) (.agg ys) → (Op.eqFields (d + n) vx vy fs).run P w = .ok b w
  | n, d, [], xs, ys, vx, vy, b, h, hx, hy => by
    have : b = true := by cases n <;> simp [eqFieldsD] at h <;> exact h
    subst this
    simp [Op.eqFields]
  | 0, _, _ :: _, _, _, _, _, _, h, _, _ => by simp [eqFieldsD] at h
  | n + 1, d, f :: fs, xs, ys, vx, vy, b, h, hx, hy => by
    simp only [eqFieldsD] at h
    simp only [Op.eqFields]
    split at h
    · rename_i hf
      have ih := eqFieldsD_run n (d + 1) fs xs ys vx vy b h hx hy
      rw [if_neg (by simpa using hf)]
      rw [show d + (n + 1) = d + 1 + n by omega]; exact ih
    · rename_i hf
      rw [if_pos hf]
      split at h
      · rename_i pa pb ha hb
        split at h
        · rename_i r q hr hq
          cases h
          obtain ⟨va, ra, rda⟩ := run_part hx ha
          obtain ⟨vb, rb, rdb⟩ := run_part hy hb
          have h1 := eqD_run n (d + 1) f.type pa pb va vb r hr rda rdb
          have h2 := eqFieldsD_run n (d + 1) fs xs ys vx vy q hq hx hy
          rw [show d + 1 + n = d + (n + 1) by omega] at h1 h2
          simp only [Sem.run_bind, ra, rb, h1, Result.andThen_ok]
          cases r
          · simp
          · simp [h2]
        · cases h
      · cases h
end

theorem eqGuard_run {op : BinOp} {t : TypeId} {x y : Operand} {dx dy : D} {vx vy : Value} (hx : Rd P role w vx dx) (hy : Rd P role w vy dy)
    (h : ((!isNilB dx || !isNilB dy || isConstB x || isConstB y) && (!isAggD dx || !P.eqGuardType P.depth t)) = true) : (eqGuard op t x y vx vy).run P w = .ok () w := by
  simp only [Bool.and_eq_true, Bool.or_eq_true, Bool.not_eq_true'] at h
  by_cases hop : (op matches .eql | .neq) = true
  · by_cases h1 : vx = .nilIface ∧ vy = .nilIface
    · obtain ⟨rfl, rfl⟩ := h1
      cases hx; cases hy
      have hc : (isConstB x || isConstB y) = true := by
        rcases h.1 with ((h | h) | h) | h
        · simp [isNilB] at h
        · simp [isNilB] at h
        · simp [h]
        · simp [h]
      cases x <;> cases y <;> simp [isConstB] at hc <;> cases op <;> simp [eqGuard] at hop ⊢
    · by_cases h2 : ∃ cs ds, vx = .agg cs ∧ vy = .agg ds
      · obtain ⟨cs, ds, rfl, rfl⟩ := h2
        have hg : P.eqGuardType P.depth t = false := by
          rcases h.2 with h | h
          · cases hx with
            | agg => simp [isAggD] at h
            | v hv => simp [leafV] at hv
          · exact h
        exact run_eqGuard_agg w op t x y cs ds hg
      · cases op <;> simp [eqGuard] at hop ⊢ <;> (split <;> first | (exact absurd ⟨rfl, rfl⟩ h1) | (exact absurd ⟨_, _, rfl, rfl⟩ h2) | simp)
  · cases op <;> simp [eqGuard] at hop ⊢

theorem bin_sim (hS : Sim P E A role a w s) {o : Oper} {op : BinOp} {t ty : TypeId} {x y : Operand} (ho : o.op = .binOp op t x y ty) (h : (binL P o op t x y ty).run orc s l K) : Oper.wp P o a w (After P E A s K) Q := by
  unfold binL at h
  rw [run_bind] at h
  obtain ⟨dx, l1, h, hx2, hx3, hx4⟩ := rdV_sim hS h
  rw [run_bind] at h
  obtain ⟨dy, l2, h, hy2, hy3, hy4⟩ := rdV_sim hS h
  split at h
  · split at h
    · rename_i c d hb
      obtain ⟨hc, h⟩ := h
      obtain ⟨z, rfl, hz, hr⟩ := intBin_run (P := P) (w := w) (t := t) hb hc hx4.inKind
      refine pure_sim hS h (x := z) ?_ (.v hz) rfl
      have hg : ∀ k u k' v, (eqGuard op t x y (.int k u) (.int k' v)).run P w = .ok () w := by intros; cases op <;> simp [eqGuard]
      simp [execOp, ho, hx4.int, hy4.int, hg, hr]
    · exact h.elim
  · split at h
    · rename_i c d hb
      obtain ⟨hc, h⟩ := h
      obtain ⟨z, rfl, hz, hr⟩ := strBin_run (P := P) (w := w) (t := t) hb hc
      refine pure_sim hS h (x := z) ?_ (.v hz) rfl
      have hg : ∀ u v, (eqGuard op t x y (.string u) (.string v)).run P w = .ok () w := by intros; cases op <;> simp [eqGuard]
      simp [execOp, ho, hx4.string, hy4.string, hg, hr]
    · exact h.elim
  · rename_i n1 n2
    obtain ⟨hc, h⟩ := h
    split at h
    · rename_i b hb
      have hg := eqGuard_run (op := op) hx4 hy4 hc
      have he := eqD_run 40 9960 t dx dy _ _ b hb hx4 hy4
      have key : ∀ q, (op = .eql ∧ q = b ∨ op = .neq ∧ q = !b) → (execOp a.eval o).run P w = .ok (.value (.bool q)) w := by
        intro q hq
        have hbin : (binOp op t (a.eval x) (a.eval y)).run P w = .ok (.bool q) w := by
          generalize a.eval x = vx at *
          generalize a.eval y = vy at *
          have ni : ∀ k u k' v, ¬ (vx = .int k u ∧ vy = .int k' v) := by
            rintro k u k' v ⟨rfl, rfl⟩; cases hx4; cases hy4; exact n1 _ _ _ _ rfl rfl
          have ns : ∀ u v, ¬ (vx = .string u ∧ vy = .string v) := by
            rintro u v ⟨rfl, rfl⟩; cases hx4; cases hy4; exact n2 _ _ rfl rfl
          have nf : ∀ k u k' v, ¬ (vx = .float k u ∧ vy = .float k' v) := by
            rintro k u k' v ⟨rfl, rfl⟩; cases hx4; cases hy4; simp only [eqD] at hb; repeat' split at hb
            all_goals cases hb
          have nc : ∀ k u u' k' v v', ¬ (vx = .complex k u u' ∧ vy = .complex k' v v') := by
            rintro k u u' k' v v' ⟨rfl, rfl⟩; cases hx4; cases hy4; simp only [eqD] at hb; repeat' split at hb
            all_goals cases hb
          rcases hq with ⟨rfl, rfl⟩ | ⟨rfl, rfl⟩
          · unfold binOp
            split <;> first | (simp [Op.equal, Op.maxDepth, he]; done) | (exfalso; first | exact ni _ _ _ _ ⟨rfl, rfl⟩ | exact ns _ _ ⟨rfl, rfl⟩ | exact nf _ _ _ _ ⟨rfl, rfl⟩ | exact nc _ _ _ _ _ _ ⟨rfl, rfl⟩ | (simp_all; done))
          · unfold binOp
            split <;> first | (simp [Op.equal, Op.maxDepth, he]; done) | (exfalso; first | exact ni _ _ _ _ ⟨rfl, rfl⟩ | exact ns _ _ ⟨rfl, rfl⟩ | exact nf _ _ _ _ ⟨rfl, rfl⟩ | exact nc _ _ _ _ _ _ ⟨rfl, rfl⟩ | (simp_all; done))
        simp [execOp, ho, hg, hbin]
      split at h
      · exact pure_sim hS h (key b (.inl ⟨rfl, rfl⟩)) (.v rfl) rfl
      · exact pure_sim hS h (key (!b) (.inr ⟨rfl, rfl⟩)) (.v rfl) rfl
      · exact h.elim
    · exact h.elim

theorem conv_sim (hS : Sim P E A role a w s) {o : Oper} {src dst : TypeId} {x : Operand} (ho : o.op = .convert src dst x) (h : (convL P o src dst x).run orc s l K) : Oper.wp P o a w (After P E A s K) Q := by
  unfold convL at h
  rw [run_bind] at h
  obtain ⟨d, l1, h, h2, h3, h4⟩ := rdV_sim hS h
  split at h
  · rename_i _ k _ n hs hd
    refine pure_sim hS h (x := .int k (k.wrap n)) ?_ (.v (inKind_wrap _ _)) rfl
    simp [execOp, ho, h4.int, convert, run_underlying hs, run_underlying hd, Conv.intToInt]
  · exact h.elim
  · rename_i s' hs hd
    refine pure_sim hS h (x := .string s') ?_ (.v rfl) rfl
    simp [execOp, ho, h4.string, convert, run_underlying hs, run_underlying hd]
  · exact h.elim
end
end Go.Proofs.Ytnjhmlnmdnocmaa
