/-
  Functions by what a walk knows of them: a run of what is known hands back a contract. No program in sight.
-/
import Derived.Test.YtnjhmlnmdnocmaaAbsQ
namespace Go.Proofs.Ytnjhmlnmdnocmaa
set_option linter.unusedSimpArgs false
set_option linter.unusedVariables false
open Go.RowKit
open Look (ret rd chk)

inductive AExit where
  | normal
  | exit (id : Nat)
  | ret
def AExit.conc : AExit → Exit
  | .normal => .normal
  | .exit id => .exit id
  | .ret => .ret

/-- The number of the first region of code: a loop's name. -/
def regionOf : Code → Nat
  | .region id _ _ => id
  | .seq a _ => regionOf a
  | .block _ c => regionOf c
  | .scope c => regionOf c
  | .loop c => regionOf c
  | .cond _ a _ => regionOf a
  | _ => 0
/-- The temporaries of operations that assign no variable. -/
def junk : Code → List Nat
  | .region _ ops _ => ops.toList.flatMap fun o => match o.op with
    | .assign _ => []
    | _ => o.dst.toList
  | .seq a b => junk a ++ junk b
  | .cond _ a b => junk a ++ junk b
  | .block _ c => junk c
  | .loop c => junk c
  | .scope c => junk c
  | _ => []
/-- The loops of code, not those within them. -/
def loopsOf : Code → List Code
  | .seq a b => loopsOf a ++ loopsOf b
  | .cond _ a b => loopsOf a ++ loopsOf b
  | .block _ c => loopsOf c
  | .loop c => [c]
  | .scope c => loopsOf c
  | _ => []

abbrev LOrc := Nat → List D → (AExit → List D → Prop) → Prop
section
variable (P : Program) (orc : Orc) (lorc : LOrc)
def runCode : Code → List D → (AExit → List D → Prop) → Prop
  | .skip, s, K => K .normal s
  | .region _ ops draw, s, K => runRegion P orc ops draw s (K .normal)
  | .seq a b, s, K => runCode a s fun e s' => match e with
    | .normal => runCode b s' K
    | e => K e s'
  | .cond c x y, s, K => match c with
    | .tmp u => match get s u with
      | .v (.bool b) => bif b then runCode x (s.set u (.v (.bool true))) K else runCode y (s.set u (.v (.bool false))) K
      | _ => False
    | _ => False
  | .block id c, s, K => runCode c s fun e s' => match e with
    | .exit i => bif i == id then K .normal s' else K (.exit i) s'
    | e => K e s'
  | .loop c, s, K => lorc (regionOf c) s K
  | .exit id, s, K => K (.exit id) s
  | .scope c, s, K => runCode c s K
  | .ret, s, K => K .ret s
  | _, _, _ => False

/-- Rounds of a loop: at most n. -/
def Rounds (c : Code) : Nat → List D → AExit → List D → Prop
  | 0, _, _, _ => False
  | n + 1, s, e, s' => runCode P orc lorc c s fun e1 s1 => match e1 with
    | .normal => Rounds c n (kill (junk c) s1) e s'
    | e1 => e1 = e ∧ kill (junk c) s1 = s'
/-- What is said of a loop is so. -/
def LoopOK (c : Code) (m : List D → (AExit → List D → Prop) → Prop) : Prop :=
  ∀ s K, m s K → ∃ e s', K e s' ∧ (∀ K' : AExit → List D → Prop, K' e s' → m s K') ∧ ∀ E role a w, Sim P E [] role a w s → (Code.loop c).wp P (fun e1 a' w' => ∃ role', e1 = e.conc ∧ Sim P E [] role' a' w' s') a w

def resOf (s : List D) : List ResultVar → Option (List D)
  | [] => some []
  | .tmp t :: rs => match resOf s rs with
    | some ds => if (get s t).isVal then some ((get s t).strip :: ds) else none
    | none => none
  | .cell u t :: rs => match resOf s rs, get s u with
    | some ds, .obj _ cs => match partD P t cs 0 with
      | some d => some (d.strip :: ds)
      | none => none
    | _, _ => none
def resD (fn : Func) (s : List D) : Option D := match resOf P s fn.results.toList with
  | some [d] => some d
  | some ds => some (.tup ds)
  | none => none
/-- A function's run: arguments, outcome. -/
def runFn (fn : Func) (c : Code) (ds : List D) (K : D → Prop) : Prop := runCode P orc lorc c (ds.map D.strip ++ List.replicate (fn.ntmps - ds.length) .undef) fun e s => match e with
  | .exit _ => False
  | _ => match resD P fn s with
    | some d => K d
    | none => False
end

section
variable {P : Program} {orc : Orc} {lorc : LOrc}

theorem code_out (hO : OrcOK P orc) : ∀ (c : Code) (s : List D) (K : AExit → List D → Prop), (∀ x ∈ loopsOf c, LoopOK P x (lorc (regionOf x))) → runCode P orc lorc c s K →
    ∃ e s', K e s' ∧ ∀ K' : AExit → List D → Prop, K' e s' → runCode P orc lorc c s K'
  | .skip, s, K, _, h => ⟨.normal, s, h, fun K' hK => hK⟩
  | .region id ops draw, s, K, _, h => by
    simp only [runCode, runRegion] at h ⊢
    obtain ⟨s', lg', h1, h2⟩ := runOps_det hO _ _ _ _ h
    cases draw with
    | false => exact ⟨.normal, _, h1, fun K' hK => h2 _ hK⟩
    | true => exact ⟨.normal, _, h1.2, fun K' hK => h2 _ ⟨h1.1, hK⟩⟩
  | .seq a b, s, K, hL, h => by
    simp only [runCode] at h ⊢
    obtain ⟨e, s1, h1, h2⟩ := code_out hO a s _ (fun x hx => hL x (by simp [loopsOf, hx])) h
    cases e with
    | normal =>
      obtain ⟨e', s', h3, h4⟩ := code_out hO b s1 K (fun x hx => hL x (by simp [loopsOf, hx])) h1
      exact ⟨e', s', h3, fun K' hK => h2 _ (h4 K' hK)⟩
    | exit id => exact ⟨_, _, h1, fun K' hK => h2 _ hK⟩
    | ret => exact ⟨_, _, h1, fun K' hK => h2 _ hK⟩
  | .cond c x y, s, K, hL, h => by
    cases c <;> simp only [runCode] at h ⊢ <;> try exact h.elim
    split at h
    · rename_i b hb
      cases b with
      | true =>
        obtain ⟨e', s', h3, h4⟩ := code_out hO x _ K (fun z hz => hL z (by simp [loopsOf, hz])) h
        exact ⟨e', s', h3, fun K' hK => h4 K' hK⟩
      | false =>
        obtain ⟨e', s', h3, h4⟩ := code_out hO y _ K (fun z hz => hL z (by simp [loopsOf, hz])) h
        exact ⟨e', s', h3, fun K' hK => h4 K' hK⟩
    · exact h.elim
  | .block id c, s, K, hL, h => by
    simp only [runCode] at h ⊢
    obtain ⟨e, s1, h1, h2⟩ := code_out hO c s _ hL h
    cases e with
    | normal => exact ⟨_, _, h1, fun K' hK => h2 _ hK⟩
    | exit i =>
      by_cases hi : (i == id) = true
      · simp only [hi, cond_true] at h1
        exact ⟨_, _, h1, fun K' hK => h2 _ (by simp only [hi, cond_true]; exact hK)⟩
      · simp only [hi, cond_false] at h1
        exact ⟨_, _, h1, fun K' hK => h2 _ (by simp only [hi, cond_false]; exact hK)⟩
    | ret => exact ⟨_, _, h1, fun K' hK => h2 _ hK⟩
  | .loop c, s, K, hL, h => by
    obtain ⟨e, s', h1, h2, _⟩ := hL c (by simp [loopsOf]) s K h
    exact ⟨e, s', h1, h2⟩
  | .exit id, s, K, _, h => ⟨_, s, h, fun K' hK => hK⟩
  | .scope c, s, K, hL, h => code_out hO c s K hL h
  | .ret, s, K, _, h => ⟨_, s, h, fun K' hK => hK⟩
  | .rangeFunc .., _, _, _, h => h.elim
  | .label _, _, _, _, h => h.elim
  | .goto _, _, _, _, h => h.elim
  | .refuse _, _, _, _, h => h.elim

abbrev Post (P : Program) (E : Env) (K : AExit → List D → Prop) (e : Exit) (a' : Act) (w' : World) : Prop := ∃ ae s' role', e = AExit.conc ae ∧ K ae s' ∧ Sim P E [] role' a' w' s'

theorem code_sim (hO : OrcOK P orc) (hm : P.follows .mixedOrders = true) {E : Env} : ∀ (c : Code) (role : Nat → Role) (a : Act) (w : World) (s : List D) (K : AExit → List D → Prop), (∀ x ∈ loopsOf c, LoopOK P x (lorc (regionOf x))) → runCode P orc lorc c s K →
    Sim P E [] role a w s → c.wp P (Post P E K) a w
  | .skip, role, a, w, s, K, _, h, hS => wp_skip ⟨.normal, s, role, rfl, h, hS⟩
  | .region id ops draw, role, a, w, s, K, _, h, hS => region_sim hO hm h hS fun a' w' s' role' hK hS' => ⟨.normal, s', role', rfl, hK, hS'⟩
  | .seq x y, role, a, w, s, K, hL, h, hS => by
    refine wp_seq (wp_mono (code_sim hO hm x role a w s _ (fun z hz => hL z (by simp [loopsOf, hz])) h hS) ?_)
    rintro e a' w' ⟨ae, s', role', rfl, hK, hS'⟩
    cases ae with
    | normal => exact code_sim hO hm y role' a' w' s' K (fun z hz => hL z (by simp [loopsOf, hz])) hK hS'
    | exit id => exact ⟨.exit id, s', role', rfl, hK, hS'⟩
    | ret => exact ⟨.ret, s', role', rfl, hK, hS'⟩
  | .cond c x y, role, a, w, s, K, hL, h, hS => by
    cases c <;> simp only [runCode] at h <;> try exact h.elim
    rename_i u
    split at h
    · rename_i b hb
      have he : a.eval (.tmp u) = .bool b := by
        have := hS.tm u
        rw [hb] at this
        exact this.1.bool
      refine wp_cond he ?_
      cases b with
      | true =>
        simp only [cond_true] at h
        rw [set_get hb (by simp)] at h
        exact code_sim hO hm x role a w s K (fun z hz => hL z (by simp [loopsOf, hz])) h hS
      | false =>
        simp only [cond_false] at h
        rw [set_get hb (by simp)] at h
        exact code_sim hO hm y role a w s K (fun z hz => hL z (by simp [loopsOf, hz])) h hS
    · exact h.elim
  | .block id c, role, a, w, s, K, hL, h, hS => by
    refine wp_block (wp_mono (code_sim hO hm c role a w s _ hL h hS) ?_)
    rintro e a' w' ⟨ae, s', role', rfl, hK, hS'⟩
    cases ae with
    | normal => exact ⟨.normal, s', role', rfl, hK, hS'⟩
    | exit i =>
      show (if i = id then Post P E K .normal a' w' else Post P E K (.exit i) a' w')
      by_cases hi : i = id
      · rw [if_pos hi]; simp only [hi, beq_self_eq_true, cond_true] at hK; exact ⟨.normal, s', role', rfl, hK, hS'⟩
      · rw [if_neg hi]
        have : (i == id) = false := by simpa using hi
        simp only [this, cond_false] at hK
        exact ⟨.exit i, s', role', rfl, hK, hS'⟩
    | ret => exact ⟨.ret, s', role', rfl, hK, hS'⟩
  | .loop c, role, a, w, s, K, hL, h, hS => by
    obtain ⟨e, s', h1, _, h3⟩ := hL c (by simp [loopsOf]) s K h
    refine wp_mono (h3 E role a w hS) ?_
    rintro e1 a' w' ⟨role', rfl, hS'⟩
    exact ⟨e, s', role', rfl, h1, hS'⟩
  | .exit id, role, a, w, s, K, _, h, hS => wp_exit ⟨.exit id, s, role, rfl, h, hS⟩
  | .scope c, role, a, w, s, K, hL, h, hS => by
    refine wp_scope_straight (wp_mono (code_sim hO hm c role a w s K hL h hS) ?_)
    rintro e a' w' ⟨ae, s', role', rfl, hK, hS'⟩
    cases ae <;> exact ⟨_, s', role', rfl, hK, hS'⟩
  | .ret, role, a, w, s, K, _, h, hS => wp_ret ⟨.ret, s, role, rfl, h, hS⟩
  | .rangeFunc .., _, _, _, _, _, _, h, _ => h.elim
  | .label _, _, _, _, _, _, _, h, _ => h.elim
  | .goto _, _, _, _, _, _, _, h, _ => h.elim
  | .refuse _, _, _, _, _, _, _, h, _ => h.elim

/-- Rounds of a loop are the loop. -/
theorem rounds_sim (hO : OrcOK P orc) (hm : P.follows .mixedOrders = true) {c : Code} (hL : ∀ x ∈ loopsOf c, LoopOK P x (lorc (regionOf x))) {E : Env} {e : AExit} {s' : List D} :
    ∀ (n : Nat) (role : Nat → Role) (a : Act) (w : World) (s : List D), Rounds P orc lorc c n s e s' → Sim P E [] role a w s → Code.rounds P c (fun e1 a' w' => ∃ role', e1 = e.conc ∧ Sim P E [] role' a' w' s') n a w
  | 0, _, _, _, _, h, _ => h.elim
  | n + 1, role, a, w, s, h, hS => by
    rw [rounds_succ]
    refine wp_mono (code_sim hO hm c role a w s _ hL h hS) ?_
    rintro e1 a' w' ⟨ae, s1, role', rfl, hK, hS'⟩
    have hS2 := kill_sim hS' (ts := junk c) (by simp)
    cases ae with
    | normal => exact rounds_sim hO hm hL n role' a' w' _ hK hS2
    | exit id => obtain ⟨rfl, rfl⟩ := hK; exact ⟨role', rfl, hS2⟩
    | ret => obtain ⟨rfl, rfl⟩ := hK; exact ⟨role', rfl, hS2⟩

theorem loop_ok (hO : OrcOK P orc) (hm : P.follows .mixedOrders = true) {c : Code} (hL : ∀ x ∈ loopsOf c, LoopOK P x (lorc (regionOf x))) {m : List D → (AExit → List D → Prop) → Prop}
    (h : ∀ s K, m s K → ∃ e s', K e s' ∧ (∀ K' : AExit → List D → Prop, K' e s' → m s K') ∧ ∃ n, Rounds P orc lorc c n s e s') : LoopOK P c m := by
  intro s K hK
  obtain ⟨e, s', h1, h2, n, h3⟩ := h s K hK
  exact ⟨e, s', h1, h2, fun E role a w hS => wp_loop_rounds n (rounds_sim hO hm hL n role a w s h3 hS)⟩

def resOp (tmps : Array Value) : ResultVar → Sem Value
  | .tmp t => pure (tmps.getD t undef)
  | .cell a t => do loadVar t (← asAddr (tmps.getD a undef))

theorem results_sim {E : Env} {role : Nat → Role} {a : Act} {w : World} {s : List D} (hS : Sim P E [] role a w s) : ∀ (rs : List ResultVar) (ds : List D), resOf P s rs = some ds →
    ∃ vs : List Value, (rs.mapM (resOp a.tmps)).run P w = .ok vs w ∧ vs.length = ds.length ∧ ∀ (i : Nat) (v : Value) (d : D), vs[i]? = some v → ds[i]? = some d → Rd P role w v d
  | [], ds, h => by simp only [resOf] at h; cases h; exact ⟨[], by simp, rfl, fun i v d hv => by simp at hv⟩
  | .tmp t :: rs, ds, h => by
    simp only [resOf] at h
    split at h
    · rename_i ds' hd
      split at h
      · rename_i hv
        cases h
        obtain ⟨vs, h1, h2, h3⟩ := results_sim hS rs ds' hd
        refine ⟨a.tmps.getD t undef :: vs, ?_, by simp [h2], fun i v d hi hd' => ?_⟩
        · rw [List.mapM_cons, Sem.run_bind]
          have e9 : (resOp a.tmps (.tmp t)).run P w = .ok (a.tmps.getD t undef) w := rfl
          rw [e9, Result.andThen_ok, Sem.run_bind, h1]; rfl
        · cases i with
          | zero => simp at hi hd'; subst hi; subst hd'; have := (RT.ro (hS.tm t) hv).1.strip; simpa using this
          | succ i => simp at hi hd'; exact h3 i v d hi hd'
      · cases h
    · cases h
  | .cell u t :: rs, ds, h => by
    simp only [resOf] at h
    split at h
    · rename_i ds' T cs hd hu
      split at h
      · rename_i d hp
        cases h
        obtain ⟨vs, h1, h2, h3⟩ := results_sim hS rs ds' hd
        have ht := hS.tm u
        rw [hu] at ht
        obtain ⟨b, vs', e1, e2, e3, hb, hsz, hcells⟩ := ht
        have hc : ∀ (k : Nat) (e : D), cs[k]? = some e → vs'[k]? = some (vs'.getD k undef) := fun k e hk => by
          have := (List.getElem?_eq_some_iff.1 hk).1
          have hlt : k < vs'.size := by omega
          simp [hlt]
        obtain ⟨y, hy1, hy2, _⟩ := run_loadVar_known (P := P) (role := role) (w := w) (b := b) (fun k => vs'.getD k undef) hp 0
          (fun k e hk => by rw [Nat.zero_add]; simp only [World.cell?, hb]; simpa using hc k e hk) (fun k e hk => (hcells k _ e (hc k e hk) hk).1) (fun k e hk => (hcells k _ e (hc k e hk) hk).2.1)
        refine ⟨y :: vs, ?_, by simp [h2], fun i v d hi hd' => ?_⟩
        · rw [List.mapM_cons, Sem.run_bind]
          have e9 : (resOp a.tmps (.cell u t)).run P w = .ok y w := by
            simp only [resOp, e1, asAddr, Sem.run_bind, Sem.run_pure, Result.andThen_ok]
            exact hy1
          rw [e9, Result.andThen_ok, Sem.run_bind, h1]; rfl
        · cases i with
          | zero => simp at hi hd'; subst hi; subst hd'; exact hy2.strip
          | succ i => simp at hi hd'; exact h3 i v d hi hd'
      · cases h
    · cases h

theorem resD_sim {E : Env} {role : Nat → Role} {a : Act} {w : World} {s : List D} (hS : Sim P E [] role a w s) {fn : Func} {d : D} (h : resD P fn s = some d) : ∃ v, (results fn a.tmps).run P w = .ok v w ∧ Rd P role w v d := by
  unfold resD at h
  have key : ∀ ds, resOf P s fn.results.toList = some ds → ∃ vs : List Value, vs.length = ds.length ∧ (results fn a.tmps).run P w = .ok (if h : vs.toArray.size = 1 then vs.toArray[0] else .tuple vs.toArray) w ∧ ∀ (i : Nat) (v : Value) (d : D), vs[i]? = some v → ds[i]? = some d → Rd P role w v d := by
    intro ds hds
    obtain ⟨vs, h1, h2, h3⟩ := results_sim hS _ _ hds
    refine ⟨vs, h2, ?_, h3⟩
    have e9 : results fn a.tmps = (do let vs ← fn.results.mapM (resOp a.tmps); pure (if h : vs.size = 1 then vs[0] else .tuple vs)) := rfl
    rw [e9, Sem.run_bind, Array.mapM_eq_mapM_toList, Sem.run_map, h1]
    rfl
  split at h
  · rename_i d' hd
    cases h
    obtain ⟨vs, h2, h1, h3⟩ := key _ hd
    obtain ⟨v, rfl⟩ := List.length_eq_one_iff.1 h2
    exact ⟨v, by simpa using h1, h3 0 v d rfl rfl⟩
  · rename_i ds hne hd
    cases h
    obtain ⟨vs, h2, h1, h3⟩ := key _ hd
    have hn1 : vs.toArray.size ≠ 1 := by
      intro h; simp at h
      rw [h2] at h
      obtain ⟨d, rfl⟩ := List.length_eq_one_iff.1 h
      exact hne d rfl
    rw [dif_neg hn1] at h1
    exact ⟨_, h1, .tup (by simp [h2]) (fun i v d hi hd => h3 i v d (by simpa using hi) hd)⟩
  · cases h

/-- A run of what is known hands back a contract. -/
theorem fn_ok (hO : OrcOK P orc) (hm : P.follows .mixedOrders = true) {f : Nat} {fn : Func} {c : Code} (hf : P.funcs[f]? = some fn) (hname : (fn.name == "runtime.NumGoroutine") = false) (hb : fn.body = some c) (hL : ∀ x ∈ loopsOf c, LoopOK P x (lorc (regionOf x))) {ds : List D} {K : D → Prop}
    (h : runFn P orc lorc fn c ds K) (hle : ds.length ≤ fn.ntmps) : ∃ d, K d ∧ (∀ K' : D → Prop, K' d → runFn P orc lorc fn c ds K') ∧ PS P f ds d := by
  unfold runFn at h ⊢
  obtain ⟨e, s', h1, h2⟩ := code_out hO c _ _ hL h
  have h3 : ∃ d, resD P fn s' = some d ∧ K d ∧ (∀ i, e ≠ .exit i) := by
    cases e with
    | exit i => exact h1.elim
    | normal =>
      simp only at h1
      split at h1
      · exact ⟨_, by assumption, h1, by simp⟩
      · exact h1.elim
    | ret =>
      simp only at h1
      split at h1
      · exact ⟨_, by assumption, h1, by simp⟩
      · exact h1.elim
  obtain ⟨d, hd, hK, hne⟩ := h3
  refine ⟨d, hK, fun K' hK' => h2 _ (by cases e with | exit i => exact absurd rfl (hne i) | normal => simp only [hd]; exact hK' | ret => simp only [hd]; exact hK'), ?_⟩
  intro role w args hlow hmask hsz hargs
  unfold CallsV
  rw [MuLone.run_callFunc_enter hf hname hb]
  refine calls_of_wp hf hb ?_
  have hS : Sim P ⟨w, role⟩ [] role { tmps := args ++ Array.replicate (fn.ntmps - args.size) undef, defers := [] } w (ds.map D.strip ++ List.replicate (fn.ntmps - ds.length) .undef) := by
    refine { ext := Exd.refl w, old := fun k hk => ⟨rfl, (hmask k).1, (hmask k).2⟩, low := hlow, defers := rfl, size := by simp [hsz], tm := fun t => ?_, inj := fun b b' t hb _ => absurd hb ((hmask b).1 t), live := fun x u off hx => ?_ }
    · by_cases ht : t < ds.length
      · have e1 : get (ds.map D.strip ++ List.replicate (fn.ntmps - ds.length) .undef) t = ds[t].strip := by
          simp [get, List.getD_eq_getElem?_getD, List.getElem?_append_left, ht]
        have e2 : (args ++ Array.replicate (fn.ntmps - args.size) undef).getD t undef = args[t]'(by omega) := by
          rw [Array.getD_eq_getD_getElem?, Array.getElem?_append_left (by omega)]
          simp [show t < args.size by omega]
        rw [e1]
        show RT _ _ _ _ t ((args ++ Array.replicate (fn.ntmps - args.size) undef).getD t undef) _
        rw [e2]
        have := hargs t (args[t]'(by omega)) ds[t] (by simp [show t < args.size by omega]) (by simp [ht])
        exact RO.rt (this.strip.ro (strip_strip _))
      · have e1 : get (ds.map D.strip ++ List.replicate (fn.ntmps - ds.length) .undef) t = .undef := by
          simp only [get, List.getD_eq_getElem?_getD]
          rw [List.getElem?_append_right (by simp; omega)]
          rw [List.getElem?_replicate]
          split <;> rfl
        rw [e1]; trivial
    · exfalso
      by_cases ht : x < ds.length
      · have e1 : get (ds.map D.strip ++ List.replicate (fn.ntmps - ds.length) .undef) x = ds[x].strip := by
          simp [get, List.getD_eq_getElem?_getD, List.getElem?_append_left, ht]
        rw [e1] at hx
        have := hargs x (args[x]'(by omega)) ds[x] (by simp [show x < args.size by omega]) (by simp [ht])
        have hv := this.strip.isVal
        rw [hx] at hv; simp [D.isVal] at hv
      · have e1 : get (ds.map D.strip ++ List.replicate (fn.ntmps - ds.length) .undef) x = .undef := by
          simp only [get, List.getD_eq_getElem?_getD]
          rw [List.getElem?_append_right (by simp; omega)]
          rw [List.getElem?_replicate]
          split <;> rfl
        rw [e1] at hx; cases hx
  have hrun := code_sim hO hm (E := ⟨w, role⟩) c role _ w _ (fun e1 s1 => e1 = e ∧ s1 = s') hL (h2 _ ⟨rfl, rfl⟩) hS
  refine wp_mono hrun ?_
  rintro e1 a' w' ⟨ae, s1, role', rfl, ⟨rfl, rfl⟩, hS'⟩
  obtain ⟨v, hv, hrd⟩ := resD_sim hS' hd
  have fin : ∃ v, (results fn a'.tmps).run P w' = .ok v w' ∧ ∃ v1 role', Ending.returned v = .returned v1 ∧ Exd w w' ∧ (∀ k, k < w.heap.size → role' k = role k) ∧ (∀ k, role' k ≠ .none → k < w'.heap.size) ∧ Rd P role' w' v1 d :=
    ⟨v, hv, v, role', rfl, hS'.ext, fun k hk => (hS'.old k hk).1, hS'.low, hrd⟩
  cases ae with
  | exit i => exact absurd rfl (hne i)
  | normal => exact ⟨hS'.defers, fin⟩
  | ret => exact ⟨hS'.defers, fin⟩
end
end Go.Proofs.Ytnjhmlnmdnocmaa
