/-
  Loops whose rounds forget more than what is junk; contexts with contracts of loops. No program in sight.
-/
import Derived.Test.YtnjhmlnmdnocmaaAbsT
namespace Go.Proofs.Ytnjhmlnmdnocmaa
set_option linter.unusedSimpArgs false
set_option linter.unusedVariables false
open Go.RowKit
open Look (ret rd chk)

/-- The n-th loop of a function. -/
def loopN (f : Func) (n : Nat) : Code := (allLoops (f.body.getD .skip)).getD n .skip
section
variable (P : Program) (orc : Orc) (lorc : LOrc) (j : List Nat)
/-- A round, behind which some temporaries are forgotten. -/
def roundJ (c : Code) (s : List D) (K : AExit → List D → Prop) : Prop := runCodeB P orc lorc c s fun e s' => K e (kill j s')
def RoundsJ (c : Code) : Nat → List D → AExit → List D → Prop
  | 0, _, _, _ => False
  | n + 1, s, e, s' => roundJ P orc lorc j c s fun e1 s1 => match e1 with
    | .normal => RoundsJ c n s1 e s'
    | e1 => e1 = e ∧ s1 = s'
end
section
variable {P : Program} {orc : Orc} {lorc : LOrc} {j : List Nat}
theorem roundsJ_sim (hO : OrcOK P orc) (hm : P.follows .mixedOrders = true) {c : Code} (hL : ∀ x ∈ loopsOf c, LoopOK P x (lorc (regionOf x))) {E : Env} {e : AExit} {s' : List D} :
    ∀ (n : Nat) (role : Nat → Role) (a : Act) (w : World) (s : List D), RoundsJ P orc lorc j c n s e s' → Sim P E [] role a w s → Code.rounds P c (fun e1 a' w' => ∃ role', e1 = e.conc ∧ Sim P E [] role' a' w' s') n a w
  | 0, _, _, _, _, h, _ => h.elim
  | n + 1, role, a, w, s, h, hS => by
    rw [rounds_succ]
    unfold RoundsJ roundJ at h
    rw [runCodeB_eq] at h
    refine wp_mono (code_sim hO hm c role a w s _ hL h hS) ?_
    rintro e1 a' w' ⟨ae, s1, role', rfl, hK, hS'⟩
    have hS2 := kill_sim hS' (ts := j) (by simp)
    cases ae with
    | normal => exact roundsJ_sim hO hm hL n role' a' w' _ hK hS2
    | exit id => obtain ⟨rfl, rfl⟩ := hK; exact ⟨role', rfl, hS2⟩
    | ret => obtain ⟨rfl, rfl⟩ := hK; exact ⟨role', rfl, hS2⟩
theorem loopJ_ok (hO : OrcOK P orc) (hm : P.follows .mixedOrders = true) (j0 j : List Nat) {c : Code} (hL : ∀ x ∈ loopsOf c, LoopOK P x (lorc (regionOf x))) {m : List D → (AExit → List D → Prop) → Prop}
    (h : ∀ s K, m s K → ∃ e s', K e s' ∧ (∀ K' : AExit → List D → Prop, K' e s' → m s K') ∧ ∃ n, RoundsJ P orc lorc j c n (kill j0 s) e s') : LoopOK P c m := by
  intro s K hK
  obtain ⟨e, s', h1, h2, n, h3⟩ := h s K hK
  exact ⟨e, s', h1, h2, fun E role a w hS => wp_loop_rounds n (roundsJ_sim hO hm hL n role a w _ h3 (kill_sim hS (by simp)))⟩
end

/-- A loop's contract: of which function's, of which first region's. -/
def lookL : List (Nat × Nat × (List D → (AExit → List D → Prop) → Prop)) → Nat → Nat → Option (List D → (AExit → List D → Prop) → Prop)
  | [], _, _ => none
  | (f, r, m) :: l, g, q => bif f == g && r == q then some m else lookL l g q
theorem lookL_mem : ∀ {l : List (Nat × Nat × (List D → (AExit → List D → Prop) → Prop))} {g q : Nat} {m : List D → (AExit → List D → Prop) → Prop}, lookL l g q = some m → (g, q, m) ∈ l
  | (f, r, m') :: l, g, q, m, h => by
    unfold lookL at h
    cases hf : (f == g && r == q) with
    | true =>
      rw [hf, cond_true] at h
      simp only [Bool.and_eq_true, beq_iff_eq] at hf
      obtain ⟨rfl, rfl⟩ := hf
      cases h
      simp
    | false =>
      rw [hf, cond_false] at h
      exact List.mem_cons_of_mem _ (lookL_mem h)
/-- What is said of a function's loop is so. -/
def LoopSound (P : Program) (f r : Nat) (m : List D → (AExit → List D → Prop) → Prop) : Prop :=
  ∀ (fn : Func) (c : Code), P.funcs[f]? = some fn → fn.body = some c → ∀ x ∈ allLoops c, regionOf x = r → LoopOK P x m
theorem LoopSound.mk {P : Program} {f r n : Nat} {m : List D → (AExit → List D → Prop) → Prop} {fn : Func} {l : List Code} (hf : P.funcs[f]? = some fn) (hl : allLoops (fn.body.getD .skip) = l)
    (hr : (l.map regionOf).getD n 0 = r) (hu : (List.range l.length).all (fun k => k == n || !((l.map regionOf).getD k 0 == r)) = true) (h : LoopOK P (loopN fn n) m) : LoopSound P f r m := by
  intro fn' c hf' hb x hx hxr
  rw [hf] at hf'
  obtain rfl := Option.some.inj hf'
  rw [hb] at hl
  have hl' : allLoops c = l := hl
  rw [hl'] at hx
  obtain ⟨k, hk, rfl⟩ := List.getElem_of_mem hx
  have hk2 := List.all_eq_true.1 hu k (by simpa using hk)
  have e1 : (l.map regionOf).getD k 0 = r := by
    rw [List.getD_eq_getElem?_getD, List.getElem?_map, List.getElem?_eq_getElem hk]; exact hxr
  rw [e1] at hk2
  simp at hk2
  subst hk2
  have : loopN fn k = l[k] := by
    unfold loopN
    rw [hb]
    show (allLoops c).getD k .skip = _
    rw [hl', List.getD_eq_getElem?_getD, List.getElem?_eq_getElem hk]; rfl
  rw [← this]; exact h
end Go.Proofs.Ytnjhmlnmdnocmaa
