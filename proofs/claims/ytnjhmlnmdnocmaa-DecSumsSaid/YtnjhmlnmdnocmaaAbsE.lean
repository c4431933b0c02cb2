/-
  Variables, loads, stores, addresses: what a walk knows against the operations. No program in sight.
-/
import Derived.Test.YtnjhmlnmdnocmaaAbsD
namespace Go.Proofs.Ytnjhmlnmdnocmaa
set_option linter.unusedSimpArgs false
set_option linter.unusedVariables false
open Go.RowKit
open Look (ret rd chk)

section
variable {P : Program} {orc : Orc} {E : Env} {A : List Nat} {role : Nat → Role} {a : Act} {w : World} {s : List D} {l : List Nat}

/-- The outcome of an operation: some writes, and a frame and a world that they tell. -/
abbrev After (P : Program) (E : Env) (A : List Nat) (s : List D) (K : List (Nat × D) → List Nat → Prop) (a' : Act) (w' : World) : Prop :=
  ∃ ws l' role', K ws l' ∧ Sim P E A role' a' w' (apply ws s)

/-- What a pointer leads to. -/
def Leads (P : Program) (E : Env) (role : Nat → Role) (w : World) (s : List D) (x : Value) : Option (Nat × TypeId) → List D → Nat → Prop
  | some (u, T), cs, off => get s u = .obj T cs ∧ ∃ b vs, x = .pointer (some ⟨b, off, none⟩) ∧ role b = .loc u ∧ E.w0.heap.size ≤ b ∧ w.heap[b]? = some (.cells vs T (0, 0)) ∧ vs.size = cs.length ∧
      ∀ (i : Nat) (y : Value) (d : D), vs[i]? = some y → cs[i]? = some d → y.oneCell' = true ∧ RO P E role w (u, some i) y d
  | none, cs, off => Rd P role w x (.box cs off)

theorem rdPtr_sim (hS : Sim P E A role a w s) {x : Operand} {K : Option (Nat × TypeId) × List D × Nat → List Nat → Prop} (h : (rdPtr x).run orc s l K) :
    ∃ who cs off l', K (who, cs, off) l' ∧ Leads P E role w s (a.eval x) who cs off := by
  cases x with
  | tmp u =>
    simp only [rdPtr, Look.run] at h
    have ht := hS.tm u
    generalize hd : get s u = d at h ht
    cases d <;> simp only [deref, Look.run] at h <;> try exact h.elim
    case obj T cs =>
      obtain ⟨b, vs, h1, h2⟩ := ht
      exact ⟨_, _, _, _, h, hd, b, vs, h1, h2⟩
    case addr y off =>
      obtain ⟨b, h1, h2⟩ := ht
      have hy := hS.tm y
      generalize hd' : get s y = d' at h hy
      cases d' <;> simp only [Look.run] at h <;> try exact h.elim
      case obj T cs =>
        obtain ⟨b', vs, h3, h4, h5⟩ := hy
        have e := hS.inj _ _ _ h2 h4
        subst e
        exact ⟨_, _, _, _, h, hd', b, vs, h1, h4, h5⟩
    case box cs off => exact ⟨_, _, _, _, h, ht.1⟩
  | _ => exact h.elim

/-- A temporary's slice is ours no more. -/
theorem Sim.stripTmp (hS : Sim P E A role a w s) (u : Nat) : Sim P E A role a w (s.set u (get s u).strip) := by
  have hg : ∀ t, get (s.set u (get s u).strip) t = get s t ∨ (t = u ∧ get (s.set u (get s u).strip) t = (get s u).strip ∧ (get s u).isVal = true) := fun t => by
    rw [get_set]
    split
    · rename_i e; obtain ⟨rfl, _⟩ := e
      cases get s u <;> first | exact .inl rfl | exact .inr ⟨rfl, rfl, rfl⟩
    · exact .inl rfl
  exact {
    ext := hS.ext, old := hS.old, low := hS.low, defers := hS.defers, size := by simp [hS.size], inj := hS.inj
    tm := fun t => by
      rcases hg t with e | ⟨rfl, e, hv⟩
      · rw [e]; exact hS.tm t
      · rw [e]; exact RO.rt (((hS.tm t).ro hv).strip)
    live := fun x y off hx => by
      have hx' : get s x = .addr y off := by
        rcases hg x with e | ⟨rfl, e, hv⟩
        · rw [← e]; exact hx
        · rw [e] at hx; cases hd : get s x <;> rw [hd] at hx <;> simp [D.strip] at hx; rw [hx.1, hx.2]
      obtain ⟨h1, T, cs, h2⟩ := hS.live x y off hx'
      refine ⟨h1, T, cs, ?_⟩
      rcases hg y with e | ⟨rfl, e, hv⟩
      · rw [e]; exact h2
      · rw [h2] at hv; simp [D.isVal] at hv }

/-- A variable's cells are known otherwise. -/
theorem Sim.setObj (hS : Sim P E A role a w s) {u : Nat} {T : TypeId} {cs cs' : List D} (hg : get s u = .obj T cs) (hr : RT P E role w u (a.tmps.getD u undef) (.obj T cs')) : Sim P E A role a w (s.set u (.obj T cs')) where
  ext := hS.ext
  old := hS.old
  low := hS.low
  defers := hS.defers
  size := by simp [hS.size]
  inj := hS.inj
  tm t := by
    rw [get_set]
    split
    · rename_i e; obtain ⟨rfl, _⟩ := e; exact hr
    · exact hS.tm t
  live x y off hx := by
    have hx' : get s x = .addr y off := by
      rw [get_set] at hx; split at hx
      · cases hx
      · exact hx
    obtain ⟨h1, T', cs1, h2⟩ := hS.live x y off hx'
    refine ⟨h1, ?_⟩
    rw [get_set]
    split
    · exact ⟨_, _, rfl⟩
    · exact ⟨_, _, h2⟩

def own (role : Nat → Role) (g : Nat) (lim : Nat) (p : Option (Nat × Option Nat)) : Nat → Role := fun k => if k = g then .row lim p else role k
theorem pub_own {g lim lim' : Nat} {p q : Option (Nat × Option Nat)} (h : role g = .row lim p) (hl : lim ≤ lim') {b n : Nat} (hp : pubAt role b n) : pubAt (own role g lim' q) b n := by
  obtain ⟨m, ow, h1, h2⟩ := hp
  unfold own
  by_cases hb : b = g
  · subst hb; rw [h] at h1; cases h1; exact ⟨lim', q, by simp, by omega⟩
  · exact ⟨m, ow, by simp [hb, h1], h2⟩

/-- Nothing that is known at a place says that its slice is ours. -/
def Free (s : List D) (p : Nat × Option Nat) : Prop := match p with
  | (t, none) => isList (get s t) = false
  | (t, some i) => ∀ T cs d, get s t = .obj T cs → cs[i]? = some d → isList d = false

theorem isList_iff {d : D} : isList d = true ↔ ∃ T es, d = .list true T es := by
  cases d <;> simp [isList]
  rename_i o T es
  cases o <;> simp

/-- A row gets another owner. -/
theorem Sim.reown (hS : Sim P E A role a w s) {g lim : Nat} {p q : Nat × Option Nat} (h : role g = .row lim (some p)) (hf : Free s p) : Sim P E A (own role g lim (some q)) a w s := by
  have hgE : E.w0.heap.size ≤ g := by
    rcases Nat.lt_or_ge g E.w0.heap.size with hlt | hge
    · obtain ⟨h1, _, h3⟩ := hS.old g hlt
      exact absurd (h1.symm.trans h) (h3 _ _)
    · exact hge
  have evo : Evo role w (own role g lim (some q)) w := ⟨fun b n hp => pub_own h (Nat.le_refl _) hp, fun _ _ _ _ _ => rfl⟩
  have hRd : ∀ {x d}, Rd P role w x d → Rd P (own role g lim (some q)) w x d := fun hx => hx.evo evo
  have hOw : ∀ {p' x T n}, p' ≠ p → Owned P E role w p' x T n → Owned P E (own role g lim (some q)) w p' x T n := by
    intro p' x T n hp ho
    rcases ho with ho | ⟨g', cap, cur, h1, h2, h3⟩
    · exact .inl ho
    · refine .inr ⟨g', cap, cur, h1, ?_, h3⟩
      have : g' ≠ g := fun e => by subst e; rw [h] at h2; cases h2; exact hp rfl
      simp [own, this, h2]
  have hloc : ∀ {b t}, role b = .loc t → own role g lim (some q) b = .loc t := by
    intro b t hb
    have : b ≠ g := fun e => by subst e; rw [h] at hb; cases hb
    simp [own, this, hb]
  refine hS.turn hS.ext (fun k hk => by simp [own]; omega) (fun k hk => ?_) (fun b b' t hb hb' => ?_) (fun t => ?_)
  · unfold own at hk
    split at hk
    · rename_i e; subst e; exact hS.low k (by rw [h]; simp)
    · exact hS.low k hk
  · have f : ∀ b, own role g lim (some q) b = .loc t → role b = .loc t := by
      intro b hb; unfold own at hb; split at hb
      · cases hb
      · exact hb
    exact hS.inj b b' t (f b hb) (f b' hb')
  · have ht := hS.tm t
    have fr := hf
    generalize hd : get s t = d at ht
    cases d
    case undef => trivial
    case obj T cs =>
      obtain ⟨b, vs, h1, h2, h3, h4, h5, h6⟩ := ht
      refine ⟨b, vs, h1, hloc h2, h3, h4, h5, fun i y d hy hdd => ⟨(h6 i y d hy hdd).1, hRd (h6 i y d hy hdd).2.1, fun T' es he => ?_⟩⟩
      refine hOw (fun e => ?_) ((h6 i y d hy hdd).2.2 T' es he)
      subst e
      have := hf T cs d hd hdd
      rw [he] at this; simp [isList] at this
    case addr u off =>
      obtain ⟨b, h1, h2⟩ := ht
      exact ⟨b, h1, hloc h2⟩
    all_goals
      refine ⟨hRd ht.1, fun T' es he => ?_⟩
      refine hOw (fun e => ?_) (ht.2 T' es he)
      subst e
      have := hf
      simp only [Free, hd, he] at this
      simp [isList] at this

/-- A variable that is no more: its block is nobody's. -/
def dead (role : Nat → Role) (t : Nat) : Nat → Role := fun k => match role k with
  | .loc u => if u = t then .none else .loc u
  | r => r
theorem dead_ne {role : Nat → Role} {t b : Nat} : dead role t b ≠ .loc t := by
  unfold dead; split
  · split
    · simp
    · rename_i h; intro e; cases e; exact h rfl
  · rename_i h; exact h t
theorem dead_loc {role : Nat → Role} {t b u : Nat} : dead role t b = .loc u ↔ role b = .loc u ∧ u ≠ t := by
  unfold dead
  cases hr : role b with
  | none => simp
  | row => simp
  | loc v =>
    simp only
    split
    · rename_i e; subst e; simp; exact Eq.symm
    · rename_i e; simp; intro e'; subst e'; exact e
theorem dead_row {role : Nat → Role} {t b lim : Nat} {p : Option (Nat × Option Nat)} : dead role t b = .row lim p ↔ role b = .row lim p := by
  unfold dead
  cases hr : role b with
  | none => simp
  | row => simp
  | loc v => simp only; split <;> simp
theorem pub_dead {role : Nat → Role} {t b n : Nat} : pubAt (dead role t) b n ↔ pubAt role b n := by
  unfold pubAt; simp only [dead_row]

theorem Sim.dead (hS : Sim P E A role a w s) {t : Nat} (ht : (get s t).isObj = false) : Sim P E A (dead role t) a w s := by
  have evo : Evo role w (Proofs.Ytnjhmlnmdnocmaa.dead role t) w := ⟨fun b n hp => pub_dead.2 hp, fun _ _ _ _ _ => rfl⟩
  refine hS.turn hS.ext (fun k hk => ?_) (fun k hk => ?_) (fun b b' u hb hb' => hS.inj b b' u (dead_loc.1 hb).1 (dead_loc.1 hb').1) (fun u => ?_)
  · obtain ⟨h1, h2, _⟩ := hS.old k hk
    unfold Proofs.Ytnjhmlnmdnocmaa.dead
    cases hr : role k with
    | loc v => rw [h1] at hr; exact absurd hr (h2 v)
    | _ => rfl
  · refine hS.low k fun e => hk ?_
    unfold Proofs.Ytnjhmlnmdnocmaa.dead; rw [e]
  · have hO : ∀ {p x d}, RO P E role w p x d → RO P E (Proofs.Ytnjhmlnmdnocmaa.dead role t) w p x d := by
      intro p x d h
      refine ⟨h.1.evo evo, fun T es he => ?_⟩
      rcases h.2 T es he with ho | ⟨g', cap, cur, h1, h2, h3⟩
      · exact .inl ho
      · exact .inr ⟨g', cap, cur, h1, dead_row.2 h2, h3⟩
    have hu := hS.tm u
    generalize hd : get s u = d at hu
    cases d
    case undef => trivial
    case obj T cs =>
      obtain ⟨b, vs, h1, h2, h3, h4, h5, h6⟩ := hu
      refine ⟨b, vs, h1, dead_loc.2 ⟨h2, fun e => ?_⟩, h3, h4, h5, fun i y d hy hdd => ⟨(h6 i y d hy hdd).1, hO (h6 i y d hy hdd).2⟩⟩
      subst e; rw [hd] at ht; simp [D.isObj] at ht
    case addr v off =>
      obtain ⟨b, h1, h2⟩ := hu
      refine ⟨b, h1, dead_loc.2 ⟨h2, fun e => ?_⟩⟩
      subst e
      obtain ⟨_, T, cs, h3⟩ := hS.live u v off hd
      rw [h3] at ht; simp [D.isObj] at ht
    all_goals exact hO hu
end
end Go.Proofs.Ytnjhmlnmdnocmaa
