/-
  Contexts of runs: contracts by the functions' numbers.
-/
import Derived.Test.YtnjhmlnmdnocmaaNumC
namespace Go.Proofs.Ytnjhmlnmdnocmaa
set_option linter.unusedSimpArgs false
set_option linter.unusedVariables false
open Go.RowKit

def lookO : List (Nat × Orc) → Nat → Option Orc
  | [], _ => none
  | (f, o) :: l, g => bif f == g then some o else lookO l g
theorem lookO_mem : ∀ {l : List (Nat × Orc)} {g : Nat} {o : Orc}, lookO l g = some o → (g, o) ∈ l
  | (f, o') :: l, g, o, h => by
    unfold lookO at h
    by_cases hf : f = g
    · subst hf; simp at h; subst h; simp
    · have : (f == g) = false := by simpa using hf
      rw [this, cond_false] at h
      exact List.mem_cons_of_mem _ (lookO_mem h)
/-- The context of some contracts, without any of loops. -/
def ctxOf (l : List (Nat × Orc)) (fuel : Nat) : Ctx where
  has f := (lookO l f).isSome
  orc f ds K := match lookO l f with
    | some o => o f ds K
    | none => False
  hasL _ _ := false
  lorc _ _ _ _ := False
  fuel := fuel
theorem prog_names : (Try.prog.funcs.toList.all fun fn => !(fn.name == "runtime.NumGoroutine")) = true := by kernel_rfl
theorem prog_mixed : Try.prog.follows .mixedOrders = true := by kernel_rfl
theorem ctxOf_ok {l : List (Nat × Orc)} {fuel : Nat} (h : ∀ x ∈ l, Sound x.1 x.2) : CtxOK Try.prog (ctxOf l fuel) where
  mixed := prog_mixed
  names f fn hf := by
    have := List.all_eq_true.1 prog_names fn (by simpa using Array.mem_of_getElem? hf)
    simpa using this
  orc f ds K hh hK := by
    have hK' : (match lookO l f with | some o => o f ds K | none => False) := hK
    cases ho : lookO l f with
    | none => rw [ho] at hK'; exact hK'.elim
    | some o =>
      rw [ho] at hK'
      obtain ⟨d, h1, h2, h3⟩ := h _ (lookO_mem ho) ds K hK'
      refine ⟨d, h1, fun K' hK'' => ?_, h3⟩
      show (match lookO l f with | some o => o f ds K' | none => False)
      rw [ho]; exact h2 K' hK''
  loop f fn c _ _ x _ hx := by cases hx

theorem ops_neg (z : Int) : opsR.neg z = -z := rfl
theorem ops_add (z z' : Int) : opsR.add z z' = z + z' := rfl
theorem ops_sub (z z' : Int) : opsR.sub z z' = z - z' := rfl
theorem ops_mul (z z' : Int) : opsR.mul z z' = (z * z').tdiv 1000000 := rfl
theorem ops_fitn (z : Int) : opsR.fit (-z) = opsR.fit z := by
  show fitB (-z) = fitB z
  unfold fitB; rw [Int.natAbs_neg]
theorem ops_fit0 : opsR.fit 0 = true := by decide

/-- A walk, out of a contract whose arguments hold no address. -/
theorem calls_of_ps {P : Program} {f : Nat} {fn : Func} {c : Code} (hf : P.funcs[f]? = some fn) (hname : (fn.name == "runtime.NumGoroutine") = false) (hb : fn.body = some c) {ds : List D} {x : Value} (h : PS P f ds (.v x))
    {args : Array Value} (hsz : args.size = ds.length) (hargs : ∀ role w (i : Nat) (y : Value) (e : D), args[i]? = some y → ds[i]? = some e → Rd P role w y e) (w : World) : Calls P f args w fun e w' => e = .returned x ∧ Ext w w' := by
  have := h (fun _ => .none) w args (fun k hk => absurd rfl hk) (fun k => ⟨fun t ht => (by cases ht), fun lim p hp => (by cases hp)⟩) hsz (hargs _ _)
  unfold CallsV at this
  rw [MuLone.run_callFunc_enter hf hname hb] at this
  refine this.mono ?_
  rintro e w' ⟨v, role', rfl, hx, _, _, hr⟩
  obtain ⟨rfl, _⟩ := rd_v hr
  exact ⟨rfl, hx⟩
theorem args_of_one {P : Program} {role : Nat → Role} {w : World} {a : Value} {d : D} (h : Rd P role w a d) (i : Nat) (y : Value) (e : D) (hy : #[a][i]? = some y) (he : [d][i]? = some e) : Rd P role w y e := by
  match i with
  | 0 => simp at hy he; subst hy; subst he; exact h
  | i + 1 => simp at he
theorem args_of_two {P : Program} {role : Nat → Role} {w : World} {a b : Value} {d d' : D} (h : Rd P role w a d) (k : Rd P role w b d') (i : Nat) (y : Value) (e : D) (hy : #[a, b][i]? = some y) (he : [d, d'][i]? = some e) : Rd P role w y e := by
  match i with
  | 0 => simp at hy he; subst hy; subst he; exact h
  | 1 => simp at hy he; subst hy; subst he; exact k
  | i + 2 => simp at he
/-- A number's cells, any. -/
def decA (s : Bool) (m : Nat) : D := .agg [.v (.bool s), .v (.int .u64 ((hiN m : Nat) : Int)), .v (.int .u64 ((loN m : Nat) : Int))]
theorem rd_decA (P : Program) (role : Nat → Role) (w : World) (s : Bool) {m : Nat} (h : m < 340282366920938463463374607431768211456) : Rd P role w (.agg #[.bool (s), .int .u64 ((hiN (m) : Nat) : Int), .int .u64 ((loN (m) : Nat) : Int)]) (decA s m) := rd_three (u64_nat (hiN_lt h)) (u64_nat (loN_lt _))
theorem ops_good_of (s : Bool) (m : Nat) : opsR.good s ((hiN m : Nat) : Int) ((loN m : Nat) : Int) = goodB s m := by
  show goodI s _ _ = _
  unfold goodI; rw [magI_halves]
theorem decA_good {s : Bool} {m : Nat} (h : goodB s m = true) : ∃ z : Int, decA s m = decM opsR z ∧ opsR.fit z = true ∧ z = val s m := by
  obtain ⟨z, h1, h2, h3, h4⟩ := dec_good h
  refine ⟨z, ?_, h3, h4⟩
  subst h1; subst h2; rfl
end Go.Proofs.Ytnjhmlnmdnocmaa
