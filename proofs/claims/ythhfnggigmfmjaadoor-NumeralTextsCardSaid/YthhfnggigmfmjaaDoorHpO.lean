/-
  Contexts of the program: contracts of calls and of loops, in lists, where values may hold addresses.
-/
import Derived.Test.YthhfnggigmfmjaaDoorHpJ
import Derived.Test.YthhfnggigmfmjaaDoorNumD
set_option linter.unusedSimpArgs false
set_option linter.unusedVariables false
namespace Go.Proofs.YthhfnggigmfmjaaDoor.Hp
set_option linter.unusedSimpArgs false
set_option linter.unusedVariables false
open Go.RowKit

def SoundM (f : Nat) (o : OrcM) : Prop := ∀ xs hs K, o f xs hs K → ∃ m hs', K m hs' ∧ (∀ K' : M → List M → Prop, K' m hs' → o f xs hs K') ∧ PSM Tryd.prog f xs hs m hs'
def lookM : List (Nat × OrcM) → Nat → Option OrcM
  | [], _ => none
  | (f, o) :: l, g => bif f == g then some o else lookM l g
theorem lookM_mem : ∀ {l : List (Nat × OrcM)} {g : Nat} {o : OrcM}, lookM l g = some o → (g, o) ∈ l
  | (f, o') :: l, g, o, h => by
    unfold lookM at h
    by_cases hf : f = g
    · subst hf; simp at h; subst h; simp
    · have : (f == g) = false := by simpa using hf
      rw [this, cond_false] at h
      exact List.mem_cons_of_mem _ (lookM_mem h)
/-- What is said of a loop, by how many slots the call was given. -/
abbrev LOM := Nat → List M → (AExit → List M → Prop) → Prop
def lookK : List (Nat × Nat × LOM) → Nat → Nat → Option LOM
  | [], _, _ => none
  | (f, r, m) :: l, g, q => bif f == g && r == q then some m else lookK l g q
theorem lookK_mem : ∀ {l : List (Nat × Nat × LOM)} {g q : Nat} {m : LOM}, lookK l g q = some m → (g, q, m) ∈ l
  | (f, r, m') :: l, g, q, m, h => by
    unfold lookK at h
    cases hf : (f == g && r == q) with
    | true =>
      rw [hf, cond_true] at h
      simp only [Bool.and_eq_true, beq_iff_eq] at hf
      obtain ⟨rfl, rfl⟩ := hf
      cases h
      simp
    | false =>
      rw [hf, cond_false] at h
      exact List.mem_cons_of_mem _ (lookK_mem h)
def LoopSoundM (H f r : Nat) (m : LOM) : Prop :=
  ∀ (fn : Func) (c : Code), Tryd.prog.funcs[f]? = some fn → fn.body = some c → ∀ x ∈ allLoops c, regionOf x = r → ∀ n, LoopOK Tryd.prog n fn.ntmps H x (m n)
def ctxH (ol : List (Nat × Orc)) (nl : List (Nat × OrcM)) (ll : List (Nat × Nat × LOM)) (fuel H : Nat) : Ctx where
  oldHas f := (lookO ol f).isSome
  oorc f ds K := match lookO ol f with
    | some o => o f ds K
    | none => False
  has f := (lookM nl f).isSome
  orc f xs hs K := match lookM nl f with
    | some o => o f xs hs K
    | none => False
  hasL f r := (lookK ll f r).isSome
  lorc f n r s K := match lookK ll f r with
    | some m => m n s K
    | none => False
  fuel := fuel
  H := H
theorem ctxH_ok {ol : List (Nat × Orc)} {nl : List (Nat × OrcM)} {ll : List (Nat × Nat × LOM)} {fuel H : Nat} (ho : ∀ x ∈ ol, Sound x.1 x.2) (hn : ∀ x ∈ nl, SoundM x.1 x.2) (hl : ∀ x ∈ ll, LoopSoundM H x.1 x.2.1 x.2.2) : CtxOK Tryd.prog (ctxH ol nl ll fuel H) where
  mixed := prog_mixed
  names := (ctxOf_ok (fuel := 0) ho).names
  oorc := (ctxOf_ok (fuel := 0) ho).orc
  orc f xs hs K hh hK := by
    have hK' : (match lookM nl f with | some o => o f xs hs K | none => False) := hK
    cases hf : lookM nl f with
    | none => rw [hf] at hK'; exact hK'.elim
    | some o =>
      rw [hf] at hK'
      obtain ⟨m, hs', h1, h2, h3⟩ := hn _ (lookM_mem hf) xs hs K hK'
      refine ⟨m, hs', h1, fun K' hK'' => ?_, h3⟩
      show (match lookM nl f with | some o => o f xs hs K' | none => False)
      rw [hf]; exact h2 K' hK''
  loop f fn c n hf hb x hx hh := by
    have hh' : (lookK ll f (regionOf x)).isSome = true := hh
    obtain ⟨m, hm⟩ := Option.isSome_iff_exists.1 hh'
    have e : (ctxH ol nl ll fuel H).lorc f n (regionOf x) = m n := by
      funext s K
      show (match lookK ll f (regionOf x) with | some m => m n s K | none => False) = _
      rw [hm]
    rw [e]
    exact hl _ (lookK_mem hm) fn c hf hb x hx rfl n

/-- A loop that leads from one frame to another, but for some temporaries. -/
def onceM (n0 N H : Nat) (j : List Nat) (s0 s1 : List M) (e : AExit) : LOM := fun n s K => bif n == n0 then canon n0 N H (kill N j s) (fun s' => s' = s0 ∧ K e s1) else False
/-- A round, behind which some temporaries are forgotten and slots have their canonical names. -/
def roundM (C : Ctx) (d f n N : Nat) (c : Code) (j : List Nat) (s : List M) (K : AExit → List M → Prop) : Prop :=
  runCode Tryd.prog n N C.H C.oldHas (callX Tryd.prog C d) (C.hasL f) (C.lorc f n) C.fuel c s fun e s' => match e with
    | .normal => canon n N C.H (kill N j s') (K .normal)
    | e => K e (kill N j s')
structure Goes (C : Ctx) (d f n : Nat) (fn : Func) (i : Nat) (j : List Nat) (s : List M) (e : AExit) (s' : List M) : Prop where
  out : ∀ K : AExit → List M → Prop, K e s' → roundM C d f n fn.ntmps (loopN fn i) j s K
def RoundsM (C : Ctx) (d f n : Nat) (fn : Func) (i : Nat) (j : List Nat) : Nat → List M → AExit → List M → Prop
  | 0, _, _, _ => False
  | k + 1, s, e, s' => (∃ s1, Goes C d f n fn i j s .normal s1 ∧ RoundsM C d f n fn i j k s1 e s') ∨ (e ≠ .normal ∧ Goes C d f n fn i j s e s')
structure Runs (C : Ctx) (d f n : Nat) (fn : Func) (i : Nat) (j : List Nat) (k : Nat) (s : List M) (e : AExit) (s' : List M) : Prop where
  out : RoundsM C d f n fn i j k s e s'
theorem Runs.go {C : Ctx} {d f n : Nat} {fn : Func} {i : Nat} {j : List Nat} {k : Nat} {s s1 s' : List M} {e : AExit} (h : Goes C d f n fn i j s .normal s1) (h2 : Runs C d f n fn i j k s1 e s') : Runs C d f n fn i j (k + 1) s e s' := ⟨.inl ⟨s1, h, h2.out⟩⟩
theorem Runs.stop {C : Ctx} {d f n : Nat} {fn : Func} {i : Nat} {j : List Nat} {k : Nat} {s s' : List M} {e : AExit} (hne : e ≠ .normal) (h : Goes C d f n fn i j s e s') : Runs C d f n fn i j (k + 1) s e s' := ⟨.inr ⟨hne, h⟩⟩

theorem roundM_sim {C : Ctx} (hC : CtxOK Tryd.prog C) {d f n : Nat} {fn : Func} {i : Nat} {j : List Nat} (hL : ∀ x ∈ allLoops (loopN fn i), C.hasL f (regionOf x) = true → LoopOK Tryd.prog n fn.ntmps C.H x (C.lorc f n (regionOf x))) {s s' : List M} {e : AExit} (h : Goes C d f n fn i j s e s') :
    Leads1 Tryd.prog n fn.ntmps C.H (loopN fn i) s e s' ∨ ∃ s1, Leads1 Tryd.prog n fn.ntmps C.H (loopN fn i) s e s1 ∧ ∀ E role β a w, E.n = n → (∀ k l, E.β0 k = some l → k < n) → Sim Tryd.prog E fn.ntmps C.H role β a w s1 → ∃ β', Sim Tryd.prog E fn.ntmps C.H role β' a w s' := by
  have hr := h.out (fun e1 s1 => e1 = e ∧ s1 = s') ⟨rfl, rfl⟩
  unfold roundM at hr
  obtain ⟨e1, s1, h1, _, h3⟩ := code_sim (callX_ok hC d) hC.mixed (loopN fn i) hL s _ hr
  refine .inr ⟨s1, ?_⟩
  cases e1 with
  | normal =>
    obtain ⟨s2, ⟨rfl, rfl⟩, _, k3⟩ := canon_out (P := Tryd.prog) h1
    exact ⟨h3, fun E role β a w hn hE hS => k3 E role β a w hn hE (kill_sim hS j)⟩
  | exit id =>
    obtain ⟨rfl, rfl⟩ := h1
    exact ⟨h3, fun E role β a w hn hE hS => ⟨β, kill_sim hS j⟩⟩
  | ret =>
    obtain ⟨rfl, rfl⟩ := h1
    exact ⟨h3, fun E role β a w hn hE hS => ⟨β, kill_sim hS j⟩⟩
theorem roundsM_sim {C : Ctx} (hC : CtxOK Tryd.prog C) {d f n : Nat} {fn : Func} {i : Nat} {j : List Nat} (hL : ∀ x ∈ allLoops (loopN fn i), C.hasL f (regionOf x) = true → LoopOK Tryd.prog n fn.ntmps C.H x (C.lorc f n (regionOf x))) {e : AExit} {s' : List M} :
    ∀ (k : Nat) (s : List M), RoundsM C d f n fn i j k s e s' → ∀ E role β a w, E.n = n → (∀ k l, E.β0 k = some l → k < n) → Sim Tryd.prog E fn.ntmps C.H role β a w s → Code.rounds Tryd.prog (loopN fn i) (fun e1 a' w' => ∃ role' β', e1 = e.conc ∧ Sim Tryd.prog E fn.ntmps C.H role' β' a' w' s') k a w
  | 0, _, h => h.elim
  | k + 1, s, h => by
    intro E role β a w hn hE hS
    rw [rounds_succ]
    rcases h with ⟨s1, hg, hr⟩ | ⟨hne, hg⟩
    · rcases roundM_sim hC hL hg with hl | ⟨s2, hl, hs⟩
      · refine wp_mono (hl E role β a w hn hE hS) ?_
        rintro e1 a' w' ⟨role', β', rfl, hS'⟩
        exact roundsM_sim hC hL k s1 hr E role' β' a' w' hn hE hS'
      · refine wp_mono (hl E role β a w hn hE hS) ?_
        rintro e1 a' w' ⟨role', β', rfl, hS'⟩
        obtain ⟨β2, hS2⟩ := hs E role' β' a' w' hn hE hS'
        exact roundsM_sim hC hL k s1 hr E role' β2 a' w' hn hE hS2
    · rcases roundM_sim hC hL hg with hl | ⟨s2, hl, hs⟩
      · refine wp_mono (hl E role β a w hn hE hS) ?_
        rintro e1 a' w' ⟨role', β', rfl, hS'⟩
        cases e <;> first | exact absurd rfl hne | exact ⟨role', β', rfl, hS'⟩
      · refine wp_mono (hl E role β a w hn hE hS) ?_
        rintro e1 a' w' ⟨role', β', rfl, hS'⟩
        obtain ⟨β2, hS2⟩ := hs E role' β' a' w' hn hE hS'
        cases e <;> first | exact absurd rfl hne | exact ⟨role', β2, rfl, hS2⟩
theorem Runs.once {C : Ctx} (hC : CtxOK Tryd.prog C) {d f n : Nat} {fn : Func} {i : Nat} {j0 j : List Nat} (hL : ∀ x ∈ allLoops (loopN fn i), C.hasL f (regionOf x) = true → LoopOK Tryd.prog n fn.ntmps C.H x (C.lorc f n (regionOf x))) {k : Nat} {s0 s1 : List M} {e : AExit} (h : Runs C d f n fn i j k s0 e s1) :
    ∀ n', LoopOK Tryd.prog n' fn.ntmps C.H (loopN fn i) (onceM n fn.ntmps C.H j0 s0 s1 e n') := by
  intro n' s K hK
  unfold onceM at hK
  rw [cond_and, beq_iff_eq] at hK
  obtain ⟨rfl, hK⟩ := hK
  obtain ⟨s2, ⟨rfl, hK2⟩, h2, h3⟩ := canon_out (P := Tryd.prog) hK
  refine ⟨e, s1, hK2, fun K' hK' => ?_, fun E role β a w hn hE hS => ?_⟩
  · unfold onceM; rw [cond_and, beq_iff_eq]; exact ⟨rfl, h2 _ ⟨rfl, hK'⟩⟩
  · obtain ⟨β2, hS2⟩ := h3 E role β a w hn hE (kill_sim hS j0)
    exact wp_loop_rounds k (roundsM_sim hC hL k _ h.out E role β2 a w hn hE hS2)
theorem LoopSoundM.mk {H f r i : Nat} {m : LOM} {fn : Func} {l : List Code} (hf : Tryd.prog.funcs[f]? = some fn) (hl : allLoops (fn.body.getD .skip) = l)
    (hr : (l.map regionOf).getD i 0 = r) (hu : (List.range l.length).all (fun k => k == i || !((l.map regionOf).getD k 0 == r)) = true) (h : ∀ n, LoopOK Tryd.prog n fn.ntmps H (loopN fn i) (m n)) : LoopSoundM H f r m := by
  intro fn' c hf' hb x hx hxr n
  rw [hf] at hf'
  obtain rfl := Option.some.inj hf'
  rw [hb] at hl
  have hl' : allLoops c = l := hl
  rw [hl'] at hx
  obtain ⟨k, hk, rfl⟩ := List.getElem_of_mem hx
  have hk2 := List.all_eq_true.1 hu k (by simpa using hk)
  have e1 : (l.map regionOf).getD k 0 = r := by
    rw [List.getD_eq_getElem?_getD, List.getElem?_map, List.getElem?_eq_getElem hk]; exact hxr
  rw [e1] at hk2
  simp at hk2
  subst hk2
  have : loopN fn k = l[k] := by
    unfold loopN
    rw [hb]
    show (allLoops c).getD k .skip = _
    rw [hl', List.getD_eq_getElem?_getD, List.getElem?_eq_getElem hk]; rfl
  rw [← this]; exact h n
/-- A contract without slots, back among those that speak of values alone. -/
theorem ps_of_psm {f : Nat} {ds : List D} {x : D} (h : PSM Tryd.prog f (ds.map M.d) [] (.d x) []) (hs : ∀ d ∈ ds, d.strip = d) : PS Tryd.prog f ds x := by
  intro role w args hlow hmask hsz hargs
  have heap : HeapS Tryd.prog ⟨w, role, ([] : List M).length, fun _ => none⟩ role (fun _ => none) w (get []) :=
    { ext := Below.refl _ _, frame := fun _ _ _ => rfl, keep := fun _ _ _ _ _ => rfl, pub0 := fun _ _ hp => hp, mask := hmask, roleF := fun _ _ _ => rfl, low := hlow, lowB := fun k l hl => (by cases hl), bet0 := fun _ _ hk => hk, new := fun k l hl => (by cases hl), inj := fun k k' l1 l2 hk => (by simp [get, M.alive] at hk), so := fun k => rfl }
  have hc := h role (fun _ => none) w args heap (by simpa using hsz) fun i v m hx hm => by
    simp only [List.getElem?_map, Option.map_eq_some_iff] at hm
    obtain ⟨d, hd, rfl⟩ := hm
    exact .d (hargs i v d hx hd) (hs d (List.mem_of_getElem? hd))
  have fin : ∀ e w', (∃ v role' β', e = Ending.returned v ∧ HeapS Tryd.prog ⟨w, role, ([] : List M).length, fun _ => none⟩ role' β' w' (get []) ∧ Rm Tryd.prog role' β' w' v (.d x)) → ∃ v role', e = Ending.returned v ∧ Exd w w' ∧ (∀ k, k < w.heap.size → role' k = role k) ∧ (∀ k, role' k ≠ .none → k < w'.heap.size) ∧ Rd Tryd.prog role' w' v x := by
    rintro e w' ⟨v, role', β', rfl, hp, hv⟩
    have hnl : ∀ b, ¬ (⟨w, role, ([] : List M).length, fun _ => none⟩ : Env).lent b := fun b ⟨j, l, hj, _⟩ => by simp at hj
    refine ⟨v, role', rfl, ⟨hp.ext.os, hp.ext.tape, hp.ext.output, hp.ext.size, fun k hk => hp.frame k hk (hnl k)⟩, fun k hk => hp.roleF k hk (hnl k), hp.low, ?_⟩
    cases hv with | d h _ => exact h
  unfold CallsV at hc ⊢
  generalize (callFunc f args).run Tryd.prog w = r at hc ⊢
  match r, hc with
  | .ok (.enter g xs) w1, hc => exact Calls.mono hc fin
  | .ok (.value v) w1, hc => exact fin _ _ hc
end Go.Proofs.YthhfnggigmfmjaaDoor.Hp
