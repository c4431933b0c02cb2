/-
  The same runs, in the form in which they are reckoned: what is asked and is so leaves no trace. No program in sight.
-/
import Derived.Test.YtnjhmlnmdnocmaaAbsU
namespace Go.Proofs.Ytnjhmlnmdnocmaa
set_option linter.unusedSimpArgs false
set_option linter.unusedVariables false
open Go.RowKit
open Look (ret rd chk)

theorem cond_and (b : Bool) (p : Prop) : (bif b then p else False) = (b = true ∧ p) := by cases b <;> simp

def Look.runB {α : Type} (orc : Orc) : Look α → List D → List Nat → (α → List Nat → Prop) → Prop
  | .ret a, _, l, K => K a l
  | .rd t k, s, l, K => (k (get s t)).runB orc s (t :: l) K
  | .chk b k, s, l, K => bif b then k.runB orc s l K else False
  | .call f ds k, s, l, K => orc f ds fun d => (k d).runB orc s l K
  | .fail, _, _, _ => False
theorem runB_eq {α : Type} {orc : Orc} (m : Look α) : ∀ (s : List D) (l : List Nat) (K : α → List Nat → Prop), m.runB orc s l K = m.run orc s l K := by
  induction m with
  | ret a => intros; rfl
  | rd t k ih => intros; exact ih _ _ _ _
  | chk b k ih => intro s l K; simp only [Look.runB, Look.run]; rw [cond_and, ih]
  | call f ds k ih => intro s l K; simp only [Look.runB, Look.run]; congr; funext d; exact ih _ _ _ _
  | fail => intros; rfl

section
variable (P : Program) (orc : Orc) (lorc : LOrc)
def runOpsB (all : List Oper) : List Oper → List D → List (List Nat × List Nat) → (List D → List (List Nat × List Nat) → Prop) → Prop
  | [], s, lg, K => K s lg
  | o :: rest, s, lg, K => match o.guard with
    | none => (absOp P (takesL all o) o).runB orc s [] fun ws rs => runOpsB all rest (apply ws s) (lg ++ [(ws.map (·.1), rs)]) K
    | some (j, b) => match (all[j]?).bind (·.dst) with
      | none => False
      | some u => match get s u with
        | .v (.bool c) => bif c
          then (bif b then (absOp P (takesL all o) o).runB orc (s.set u (.v (.bool true))) [u] fun ws rs => runOpsB all rest (apply ws (s.set u (.v (.bool true)))) (lg ++ [(ws.map (·.1), rs)]) K
            else (skipW o).runB orc (s.set u (.v (.bool true))) [u] fun ws rs => runOpsB all rest (apply ws (s.set u (.v (.bool true)))) (lg ++ [(ws.map (·.1), rs)]) K)
          else (bif b then (skipW o).runB orc (s.set u (.v (.bool false))) [u] fun ws rs => runOpsB all rest (apply ws (s.set u (.v (.bool false)))) (lg ++ [(ws.map (·.1), rs)]) K
            else (absOp P (takesL all o) o).runB orc (s.set u (.v (.bool false))) [u] fun ws rs => runOpsB all rest (apply ws (s.set u (.v (.bool false)))) (lg ++ [(ws.map (·.1), rs)]) K)
        | .tup [] => (skipW o).runB orc s [u] fun ws rs => runOpsB all rest (apply ws s) (lg ++ [(ws.map (·.1), rs)]) K
        | _ => False
def runRegionB (ops : Array Oper) (draw : Bool) (s : List D) (K : List D → Prop) : Prop :=
  runOpsB P orc ops.toList ops.toList s [] fun s' lg => bif draw then (bif okFast ops.toList lg then K (kill (addrDsts ops.toList) s') else False) else K (kill (addrDsts ops.toList) s')
def runCodeB : Code → List D → (AExit → List D → Prop) → Prop
  | .skip, s, K => K .normal s
  | .region _ ops draw, s, K => runRegionB P orc ops draw s (K .normal)
  | .seq a b, s, K => runCodeB a s fun e s' => match e with
    | .normal => runCodeB b s' K
    | e => K e s'
  | .cond c x y, s, K => match c with
    | .tmp u => match get s u with
      | .v (.bool b) => bif b then runCodeB x (s.set u (.v (.bool true))) K else runCodeB y (s.set u (.v (.bool false))) K
      | _ => False
    | _ => False
  | .block id c, s, K => runCodeB c s fun e s' => match e with
    | .exit i => bif i == id then K .normal s' else K (.exit i) s'
    | e => K e s'
  | .loop c, s, K => lorc (regionOf c) s K
  | .exit id, s, K => K (.exit id) s
  | .scope c, s, K => runCodeB c s K
  | .ret, s, K => K .ret s
  | _, _, _ => False
def runFnB (fn : Func) (c : Code) (ds : List D) (K : D → Prop) : Prop := runCodeB P orc lorc c (ds.map D.strip ++ List.replicate (fn.ntmps - ds.length) .undef) fun e s => match e with
  | .exit _ => False
  | _ => match resD P fn s with
    | some d => K d
    | none => False
/-- A loop's round, with what is junk behind it forgotten. -/
def roundB (c : Code) (s : List D) (K : AExit → List D → Prop) : Prop := runCodeB P orc lorc c s fun e s' => K e (kill (junk c) s')
end

section
variable {P : Program} {orc : Orc} {lorc : LOrc}
theorem runOpsB_eq {all : List Oper} : ∀ (rest : List Oper) (s : List D) (lg : List (List Nat × List Nat)) (K : List D → List (List Nat × List Nat) → Prop), runOpsB P orc all rest s lg K = runOps P orc all rest s lg K
  | [], _, _, _ => rfl
  | o :: rest, s, lg, K => by
    simp only [runOpsB, runOps, runB_eq, runOpsB_eq rest]
    rfl
theorem runRegionB_eq {ops : Array Oper} {draw : Bool} {s : List D} {K : List D → Prop} : runRegionB P orc ops draw s K = runRegion P orc ops draw s K := by
  unfold runRegionB runRegion
  rw [runOpsB_eq]
  simp only [cond_and, okFast_eq]
theorem runCodeB_eq : ∀ (c : Code) (s : List D) (K : AExit → List D → Prop), runCodeB P orc lorc c s K = runCode P orc lorc c s K
  | .skip, _, _ => rfl
  | .region .., _, _ => runRegionB_eq
  | .seq a b, s, K => by
    simp only [runCodeB, runCode]
    rw [runCodeB_eq a]
    congr; funext e s'
    cases e <;> simp only [runCodeB_eq b]
  | .cond c x y, s, K => by
    cases c <;> simp only [runCodeB, runCode]
    simp only [runCodeB_eq x, runCodeB_eq y]
    rfl
  | .block id c, s, K => by simp only [runCodeB, runCode]; rw [runCodeB_eq c]; rfl
  | .loop _, _, _ => rfl
  | .exit _, _, _ => rfl
  | .scope c, s, K => runCodeB_eq c s K
  | .ret, _, _ => rfl
  | .rangeFunc .., _, _ => rfl
  | .label _, _, _ => rfl
  | .goto _, _, _ => rfl
  | .refuse _, _, _ => rfl
theorem runFnB_eq {fn : Func} {c : Code} {ds : List D} {K : D → Prop} : runFnB P orc lorc fn c ds K = runFn P orc lorc fn c ds K := runCodeB_eq _ _ _

/-- A contract, out of a run that is reckoned. -/
theorem fn_okB (hO : OrcOK P orc) (hm : P.follows .mixedOrders = true) {f : Nat} {fn : Func} {c : Code} (hf : P.funcs[f]? = some fn) (hname : (fn.name == "runtime.NumGoroutine") = false) (hb : fn.body = some c) (hL : ∀ x ∈ loopsOf c, LoopOK P x (lorc (regionOf x))) {ds : List D} {K : D → Prop}
    (h : runFnB P orc lorc fn c ds K) (hle : ds.length ≤ fn.ntmps) : ∃ d, K d ∧ PS P f ds d := by
  rw [runFnB_eq] at h
  obtain ⟨d, h1, _, h2⟩ := fn_ok hO hm hf hname hb hL h hle
  exact ⟨d, h1, h2⟩

/-- A round of a loop, reckoned. -/
theorem Rounds.next {c : Code} {n : Nat} {s : List D} {e : AExit} {s' : List D} (h : roundB P orc lorc c s fun e1 s1 => match e1 with
    | .normal => Rounds P orc lorc c n s1 e s'
    | e1 => e1 = e ∧ s1 = s') : Rounds P orc lorc c (n + 1) s e s' := by
  unfold roundB at h
  rw [runCodeB_eq] at h
  exact h
end
end Go.Proofs.Ytnjhmlnmdnocmaa
