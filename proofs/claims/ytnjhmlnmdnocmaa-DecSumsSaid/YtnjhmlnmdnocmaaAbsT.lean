/-
  Runs that walk into the functions that are called, and go round loops, unless a contract is given. No program in sight.
-/
import Derived.Test.YtnjhmlnmdnocmaaAbsS
namespace Go.Proofs.Ytnjhmlnmdnocmaa
set_option linter.unusedSimpArgs false
set_option linter.unusedVariables false
open Go.RowKit
open Look (ret rd chk)

/-- The loops of code, those within them too. -/
def allLoops : Code → List Code
  | .seq a b => allLoops a ++ allLoops b
  | .cond _ a b => allLoops a ++ allLoops b
  | .block _ c => allLoops c
  | .loop c => c :: allLoops c
  | .scope c => allLoops c
  | _ => []
/-- Rounds, one behind the other. -/
def iter (f : List D → (AExit → List D → Prop) → Prop) (j : List Nat) : Nat → List D → (AExit → List D → Prop) → Prop
  | 0, _, _ => False
  | n + 1, s, K => f s fun e s1 => match e with
    | .normal => iter f j n (kill j s1) K
    | e => K e (kill j s1)

section
variable (P : Program) (orc : Orc) (hasL : Nat → Bool) (lorc : LOrc) (fuel : Nat)
def runCodeX : Code → List D → (AExit → List D → Prop) → Prop
  | .skip, s, K => K .normal s
  | .region _ ops draw, s, K => runRegionB P orc ops draw s (K .normal)
  | .seq a b, s, K => runCodeX a s fun e s' => match e with
    | .normal => runCodeX b s' K
    | e => K e s'
  | .cond c x y, s, K => match c with
    | .tmp u => match get s u with
      | .v (.bool b) => bif b then runCodeX x (s.set u (.v (.bool true))) K else runCodeX y (s.set u (.v (.bool false))) K
      | _ => False
    | _ => False
  | .block id c, s, K => runCodeX c s fun e s' => match e with
    | .exit i => bif i == id then K .normal s' else K (.exit i) s'
    | e => K e s'
  | .loop c, s, K => bif hasL (regionOf c) then lorc (regionOf c) s K else iter (runCodeX c) (junk c) fuel s K
  | .exit id, s, K => K (.exit id) s
  | .scope c, s, K => runCodeX c s K
  | .ret, s, K => K .ret s
  | _, _, _ => False
def runFnX (fn : Func) (c : Code) (ds : List D) (K : D → Prop) : Prop := runCodeX P orc hasL lorc fuel c (ds.map D.strip ++ List.replicate (fn.ntmps - ds.length) .undef) fun e s => match e with
  | .exit _ => False
  | _ => match resD P fn s with
    | some d => K d
    | none => False
end

/-- Code from one frame leads to another. -/
def Leads1 (P : Program) (c : Code) (s : List D) (e : AExit) (s' : List D) : Prop :=
  ∀ E role a w, Sim P E [] role a w s → c.wp P (fun e1 a' w' => ∃ role', e1 = e.conc ∧ Sim P E [] role' a' w' s') a w
def OneOf (m : (AExit → List D → Prop) → Prop) (G : AExit → List D → Prop) (K : AExit → List D → Prop) : Prop := ∃ e s', K e s' ∧ (∀ K' : AExit → List D → Prop, K' e s' → m K') ∧ G e s'

section
variable {P : Program} {orc : Orc} {hasL : Nat → Bool} {lorc : LOrc} {fuel : Nat}

theorem iter_sim {c : Code} {f : List D → (AExit → List D → Prop) → Prop} (hf : ∀ s K, f s K → OneOf (f s) (Leads1 P c s) K) : ∀ (n : Nat) (s : List D) (K : AExit → List D → Prop), iter f (junk c) n s K →
    ∃ e s', K e s' ∧ (∀ K' : AExit → List D → Prop, K' e s' → iter f (junk c) n s K') ∧ ∀ E role a w, Sim P E [] role a w s → Code.rounds P c (fun e1 a' w' => ∃ role', e1 = e.conc ∧ Sim P E [] role' a' w' s') n a w
  | 0, _, _, h => h.elim
  | n + 1, s, K, h => by
    obtain ⟨e, s1, h1, h2, h3⟩ := hf s _ h
    cases e with
    | normal =>
      obtain ⟨e', s', k1, k2, k3⟩ := iter_sim hf n _ K h1
      refine ⟨e', s', k1, fun K' hK => h2 _ (k2 K' hK), fun E role a w hS => ?_⟩
      rw [rounds_succ]
      refine wp_mono (h3 E role a w hS) ?_
      rintro e1 a' w' ⟨role', rfl, hS'⟩
      exact k3 E role' a' w' (kill_sim hS' (by simp))
    | exit id =>
      refine ⟨.exit id, _, h1, fun K' hK => h2 _ hK, fun E role a w hS => ?_⟩
      rw [rounds_succ]
      refine wp_mono (h3 E role a w hS) ?_
      rintro e1 a' w' ⟨role', rfl, hS'⟩
      exact ⟨role', rfl, kill_sim hS' (by simp)⟩
    | ret =>
      refine ⟨.ret, _, h1, fun K' hK => h2 _ hK, fun E role a w hS => ?_⟩
      rw [rounds_succ]
      refine wp_mono (h3 E role a w hS) ?_
      rintro e1 a' w' ⟨role', rfl, hS'⟩
      exact ⟨role', rfl, kill_sim hS' (by simp)⟩

theorem codeX (hO : OrcOK P orc) (hm : P.follows .mixedOrders = true) : ∀ (c : Code), (∀ x ∈ allLoops c, hasL (regionOf x) = true → LoopOK P x (lorc (regionOf x))) → ∀ (s : List D) (K : AExit → List D → Prop), runCodeX P orc hasL lorc fuel c s K →
    OneOf (runCodeX P orc hasL lorc fuel c s) (Leads1 P c s) K
  | .skip, _, s, K, h => ⟨.normal, s, h, fun K' hK => hK, fun E role a w hS => wp_skip ⟨role, rfl, hS⟩⟩
  | .region id ops draw, _, s, K, h => by
    simp only [runCodeX] at h
    rw [runRegionB_eq] at h
    have h' := h
    unfold runRegion at h'
    obtain ⟨s', lg', h1, h2⟩ := runOps_det hO _ _ _ _ h'
    have fin : ∀ K' : List D → Prop, (bif draw then (okRegion ops.toList lg' = true ∧ K' (kill (addrDsts ops.toList) s')) else K' (kill (addrDsts ops.toList) s')) → runRegion P orc ops draw s K' := fun K' hK => h2 _ hK
    have hk : ∀ K' : List D → Prop, K' (kill (addrDsts ops.toList) s') → runRegion P orc ops draw s K' := fun K' hK => fin K' (by
      cases draw with
      | false => exact hK
      | true => exact ⟨h1.1, hK⟩)
    refine ⟨.normal, kill (addrDsts ops.toList) s', ?_, fun K' hK => ?_, fun E role a w hS => ?_⟩
    · cases draw with
      | false => exact h1
      | true => exact h1.2
    · simp only [runCodeX]; rw [runRegionB_eq]; exact hk _ hK
    · exact region_sim hO hm (hk (fun x => x = kill (addrDsts ops.toList) s') rfl) hS fun a' w' s'' role' hK hS' => by subst hK; exact ⟨role', rfl, hS'⟩
  | .seq x y, hL, s, K, h => by
    simp only [runCodeX] at h
    obtain ⟨e, s1, h1, h2, h3⟩ := codeX hO hm x (fun z hz => hL z (by simp [allLoops, hz])) s _ h
    cases e with
    | normal =>
      obtain ⟨e', s', k1, k2, k3⟩ := codeX hO hm y (fun z hz => hL z (by simp [allLoops, hz])) s1 K h1
      refine ⟨e', s', k1, fun K' hK => h2 _ (k2 K' hK), fun E role a w hS => ?_⟩
      refine wp_seq (wp_mono (h3 E role a w hS) ?_)
      rintro e1 a' w' ⟨role', rfl, hS'⟩
      exact k3 E role' a' w' hS'
    | exit id =>
      refine ⟨.exit id, s1, h1, fun K' hK => h2 _ hK, fun E role a w hS => ?_⟩
      refine wp_seq (wp_mono (h3 E role a w hS) ?_)
      rintro e1 a' w' ⟨role', rfl, hS'⟩
      exact ⟨role', rfl, hS'⟩
    | ret =>
      refine ⟨.ret, s1, h1, fun K' hK => h2 _ hK, fun E role a w hS => ?_⟩
      refine wp_seq (wp_mono (h3 E role a w hS) ?_)
      rintro e1 a' w' ⟨role', rfl, hS'⟩
      exact ⟨role', rfl, hS'⟩
  | .cond c x y, hL, s, K, h => by
    cases c <;> simp only [runCodeX] at h <;> try exact h.elim
    rename_i u
    split at h
    · rename_i b hb
      have he : ∀ E role a w, Sim P E [] role a w s → a.eval (.tmp u) = .bool b := fun E role a w hS => by
        have := hS.tm u
        rw [hb] at this
        exact this.1.bool
      cases b with
      | true =>
        simp only [cond_true] at h
        obtain ⟨e', s', k1, k2, k3⟩ := codeX hO hm x (fun z hz => hL z (by simp [allLoops, hz])) _ K h
        refine ⟨e', s', k1, fun K' hK => ?_, fun E role a w hS => wp_cond (he E role a w hS) ?_⟩
        · simp only [runCodeX, hb, cond_true]; exact k2 K' hK
        · rw [set_get hb (by simp)] at k3; exact k3 E role a w hS
      | false =>
        simp only [cond_false] at h
        obtain ⟨e', s', k1, k2, k3⟩ := codeX hO hm y (fun z hz => hL z (by simp [allLoops, hz])) _ K h
        refine ⟨e', s', k1, fun K' hK => ?_, fun E role a w hS => wp_cond (he E role a w hS) ?_⟩
        · simp only [runCodeX, hb, cond_false]; exact k2 K' hK
        · rw [set_get hb (by simp)] at k3; exact k3 E role a w hS
    · exact h.elim
  | .block id c, hL, s, K, h => by
    simp only [runCodeX] at h
    obtain ⟨e, s1, h1, h2, h3⟩ := codeX hO hm c hL s _ h
    cases e with
    | normal =>
      refine ⟨.normal, s1, h1, fun K' hK => h2 _ hK, fun E role a w hS => wp_block (wp_mono (h3 E role a w hS) ?_)⟩
      rintro e1 a' w' ⟨role', rfl, hS'⟩
      exact ⟨role', rfl, hS'⟩
    | ret =>
      refine ⟨.ret, s1, h1, fun K' hK => h2 _ hK, fun E role a w hS => wp_block (wp_mono (h3 E role a w hS) ?_)⟩
      rintro e1 a' w' ⟨role', rfl, hS'⟩
      exact ⟨role', rfl, hS'⟩
    | exit i =>
      by_cases hi : i = id
      · subst hi
        simp only [beq_self_eq_true, cond_true] at h1
        refine ⟨.normal, s1, h1, fun K' hK => h2 _ (by simp only [beq_self_eq_true, cond_true]; exact hK), fun E role a w hS => wp_block (wp_mono (h3 E role a w hS) ?_)⟩
        rintro e1 a' w' ⟨role', rfl, hS'⟩
        show (if i = i then ∃ role', Exit.normal = AExit.conc .normal ∧ Sim P E [] role' a' w' s1 else _)
        rw [if_pos rfl]
        exact ⟨role', rfl, hS'⟩
      · have hb : (i == id) = false := by simpa using hi
        simp only [hb, cond_false] at h1
        refine ⟨.exit i, s1, h1, fun K' hK => h2 _ (by simp only [hb, cond_false]; exact hK), fun E role a w hS => wp_block (wp_mono (h3 E role a w hS) ?_)⟩
        rintro e1 a' w' ⟨role', rfl, hS'⟩
        show (if i = id then _ else ∃ role', Exit.exit i = AExit.conc (.exit i) ∧ Sim P E [] role' a' w' s1)
        rw [if_neg hi]
        exact ⟨role', rfl, hS'⟩
  | .loop c, hL, s, K, h => by
    simp only [runCodeX] at h
    by_cases hh : hasL (regionOf c) = true
    · simp only [hh, cond_true] at h
      obtain ⟨e, s', h1, h2, h3⟩ := hL c (by simp [allLoops]) hh s K h
      exact ⟨e, s', h1, fun K' hK => by simp only [runCodeX, hh, cond_true]; exact h2 K' hK, h3⟩
    · simp only [hh, cond_false] at h
      obtain ⟨e, s', h1, h2, h3⟩ := iter_sim (P := P) (c := c) (fun s K hs => codeX hO hm c (fun z hz => hL z (by simp [allLoops, hz])) s K hs) fuel s K h
      exact ⟨e, s', h1, fun K' hK => by simp only [runCodeX, hh, cond_false]; exact h2 K' hK, fun E role a w hS => wp_loop_rounds fuel (h3 E role a w hS)⟩
  | .exit id, _, s, K, h => ⟨.exit id, s, h, fun K' hK => hK, fun E role a w hS => wp_exit ⟨role, rfl, hS⟩⟩
  | .scope c, hL, s, K, h => by
    obtain ⟨e, s', h1, h2, h3⟩ := codeX hO hm c hL s K h
    refine ⟨e, s', h1, h2, fun E role a w hS => wp_scope_straight (wp_mono (h3 E role a w hS) ?_)⟩
    rintro e1 a' w' ⟨role', rfl, hS'⟩
    cases e <;> exact ⟨role', rfl, hS'⟩
  | .ret, _, s, K, h => ⟨.ret, s, h, fun K' hK => hK, fun E role a w hS => wp_ret ⟨role, rfl, hS⟩⟩
  | .rangeFunc .., _, _, _, h => h.elim
  | .label _, _, _, _, h => h.elim
  | .goto _, _, _, _, h => h.elim
  | .refuse _, _, _, _, h => h.elim

/-- A frame at a call's beginning. -/
theorem enter_sim {role : Nat → Role} {w : World} {args : Array Value} {ds : List D} {n : Nat} (hlow : ∀ k, role k ≠ .none → k < w.heap.size) (hmask : ∀ k, (∀ t, role k ≠ .loc t) ∧ ∀ lim p, role k ≠ .row lim (some p))
    (hsz : args.size = ds.length) (hargs : ∀ (i : Nat) (x : Value) (e : D), args[i]? = some x → ds[i]? = some e → Rd P role w x e) :
    Sim P ⟨w, role⟩ [] role { tmps := args ++ Array.replicate (n - args.size) undef, defers := [] } w (ds.map D.strip ++ List.replicate (n - ds.length) .undef) := by
  refine { ext := Exd.refl w, old := fun k hk => ⟨rfl, (hmask k).1, (hmask k).2⟩, low := hlow, defers := rfl, size := by simp [hsz], tm := fun t => ?_, inj := fun b b' t hb _ => absurd hb ((hmask b).1 t), live := fun x u off hx => ?_ }
  · by_cases ht : t < ds.length
    · have e1 : get (ds.map D.strip ++ List.replicate (n - ds.length) .undef) t = ds[t].strip := by
        simp [get, List.getD_eq_getElem?_getD, List.getElem?_append_left, ht]
      have e2 : (args ++ Array.replicate (n - args.size) undef).getD t undef = args[t]'(by omega) := by
        rw [Array.getD_eq_getD_getElem?, Array.getElem?_append_left (by omega)]
        simp [show t < args.size by omega]
      rw [e1]
      show RT _ _ _ _ t ((args ++ Array.replicate (n - args.size) undef).getD t undef) _
      rw [e2]
      have := hargs t (args[t]'(by omega)) ds[t] (by simp [show t < args.size by omega]) (by simp [ht])
      exact RO.rt (this.strip.ro (strip_strip _))
    · have e1 : get (ds.map D.strip ++ List.replicate (n - ds.length) .undef) t = .undef := by
        simp only [get, List.getD_eq_getElem?_getD]
        rw [List.getElem?_append_right (by simp; omega)]
        rw [List.getElem?_replicate]
        split <;> rfl
      rw [e1]; trivial
  · exfalso
    by_cases ht : x < ds.length
    · have e1 : get (ds.map D.strip ++ List.replicate (n - ds.length) .undef) x = ds[x].strip := by
        simp [get, List.getD_eq_getElem?_getD, List.getElem?_append_left, ht]
      rw [e1] at hx
      have := hargs x (args[x]'(by omega)) ds[x] (by simp [show x < args.size by omega]) (by simp [ht])
      have hv := this.strip.isVal
      rw [hx] at hv; simp [D.isVal] at hv
    · have e1 : get (ds.map D.strip ++ List.replicate (n - ds.length) .undef) x = .undef := by
        simp only [get, List.getD_eq_getElem?_getD]
        rw [List.getElem?_append_right (by simp; omega)]
        rw [List.getElem?_replicate]
        split <;> rfl
      rw [e1] at hx; cases hx

theorem fnX (hO : OrcOK P orc) (hm : P.follows .mixedOrders = true) {f : Nat} {fn : Func} {c : Code} (hf : P.funcs[f]? = some fn) (hname : (fn.name == "runtime.NumGoroutine") = false) (hb : fn.body = some c)
    (hL : ∀ x ∈ allLoops c, hasL (regionOf x) = true → LoopOK P x (lorc (regionOf x))) {ds : List D} {K : D → Prop} (h : runFnX P orc hasL lorc fuel fn c ds K) :
    ∃ d, K d ∧ (∀ K' : D → Prop, K' d → runFnX P orc hasL lorc fuel fn c ds K') ∧ PS P f ds d := by
  unfold runFnX at h ⊢
  obtain ⟨e, s', h1, h2, h3⟩ := codeX hO hm c hL _ _ h
  have hres : ∃ d, resD P fn s' = some d ∧ K d ∧ (∀ i, e ≠ .exit i) := by
    cases e with
    | exit i => exact h1.elim
    | normal =>
      simp only at h1
      split at h1
      · exact ⟨_, by assumption, h1, by simp⟩
      · exact h1.elim
    | ret =>
      simp only at h1
      split at h1
      · exact ⟨_, by assumption, h1, by simp⟩
      · exact h1.elim
  obtain ⟨d, hd, hK, hne⟩ := hres
  refine ⟨d, hK, fun K' hK' => h2 _ (by cases e with | exit i => exact absurd rfl (hne i) | normal => simp only [hd]; exact hK' | ret => simp only [hd]; exact hK'), ?_⟩
  intro role w args hlow hmask hsz hargs
  unfold CallsV
  rw [MuLone.run_callFunc_enter hf hname hb]
  refine calls_of_wp hf hb ?_
  refine wp_mono (h3 ⟨w, role⟩ role _ w (enter_sim hlow hmask hsz hargs)) ?_
  rintro e1 a' w' ⟨role', rfl, hS'⟩
  obtain ⟨v, hv, hrd⟩ := resD_sim hS' hd
  have fin : ∃ v, (results fn a'.tmps).run P w' = .ok v w' ∧ ∃ v1 role', Ending.returned v = .returned v1 ∧ Exd w w' ∧ (∀ k, k < w.heap.size → role' k = role k) ∧ (∀ k, role' k ≠ .none → k < w'.heap.size) ∧ Rd P role' w' v1 d :=
    ⟨v, hv, v, role', rfl, hS'.ext, fun k hk => (hS'.old k hk).1, hS'.low, hrd⟩
  cases e with
  | exit i => exact absurd rfl (hne i)
  | normal => exact ⟨hS'.defers, fin⟩
  | ret => exact ⟨hS'.defers, fin⟩
end

/-- What is given to a run: contracts of functions and of loops; how many rounds of the other loops. -/
structure Ctx where
  has : Nat → Bool
  orc : Orc
  hasL : Nat → Nat → Bool
  lorc : Nat → LOrc
  fuel : Nat

/-- A call: by its contract, or walked into. -/
def callX (P : Program) (C : Ctx) : Nat → Orc
  | 0 => fun _ _ _ => False
  | n + 1 => fun f ds K => bif C.has f then C.orc f ds K else match P.funcs[f]? with
    | some fn => match fn.body with
      | some c => runFnX P (callX P C n) (C.hasL f) (C.lorc f) C.fuel fn c ds K
      | none => False
    | none => False

structure CtxOK (P : Program) (C : Ctx) : Prop where
  mixed : P.follows .mixedOrders = true
  names : ∀ (f : Nat) (fn : Func), P.funcs[f]? = some fn → (fn.name == "runtime.NumGoroutine") = false
  orc : ∀ f ds K, C.has f = true → C.orc f ds K → ∃ d, K d ∧ (∀ K' : D → Prop, K' d → C.orc f ds K') ∧ PS P f ds d
  loop : ∀ (f : Nat) (fn : Func) (c : Code), P.funcs[f]? = some fn → fn.body = some c → ∀ x ∈ allLoops c, C.hasL f (regionOf x) = true → LoopOK P x (C.lorc f (regionOf x))

theorem callX_ok {P : Program} {C : Ctx} (hC : CtxOK P C) : ∀ n, OrcOK P (callX P C n)
  | 0 => fun _ _ _ h => h.elim
  | n + 1 => fun f ds K h => by
    simp only [callX] at h ⊢
    by_cases hh : C.has f = true
    · simp only [hh, cond_true] at h ⊢
      exact hC.orc f ds K hh h
    · simp only [hh, cond_false] at h ⊢
      split at h
      · rename_i fn hf
        split at h
        · rename_i c hc
          obtain ⟨d, h1, h2, h3⟩ := fnX (callX_ok hC n) hC.mixed hf (hC.names f fn hf) hc (hC.loop f fn c hf hc) h
          exact ⟨d, h1, fun K' hK => h2 K' hK, h3⟩
        · exact h.elim
      · exact h.elim

/-- A contract, out of a run. -/
theorem callX_ps {P : Program} {C : Ctx} (hC : CtxOK P C) {n f : Nat} {ds : List D} {K : D → Prop} (h : callX P C n f ds K) : ∃ d, K d ∧ PS P f ds d := by
  obtain ⟨d, h1, _, h2⟩ := callX_ok hC n f ds K h
  exact ⟨d, h1, h2⟩
theorem callX_eq {P : Program} {C : Ctx} (hC : CtxOK P C) {n f : Nat} {ds : List D} {d : D} (h : callX P C n f ds fun x => x = d) : PS P f ds d := by
  obtain ⟨d', rfl, h2⟩ := callX_ps hC h
  exact h2
end Go.Proofs.Ytnjhmlnmdnocmaa
