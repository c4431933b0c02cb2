/-
  Code and functions by what a walk knows of them. No program in sight.
-/
import Derived.Test.YtnjhmlnmdnocmaaAbsP
import Derived.Scope
namespace Go.Proofs.Ytnjhmlnmdnocmaa
set_option linter.unusedSimpArgs false
set_option linter.unusedVariables false
open Go.RowKit
open Look (ret rd chk)

section
variable {P : Program} {orc : Orc} {E : Env} {A : List Nat} {role : Nat → Role} {a : Act} {w : World} {s : List D}
variable {Q : Exit → Act → World → Prop}

theorem step1_out (hO : OrcOK P orc) {all : List Oper} {o : Oper} {K : List (Nat × D) → List Nat → Prop} (h : Step1 P orc all o s K) :
    ∃ ws rs, K ws rs ∧ ∀ s', (∀ t, t ∈ rs → get s' t = get s t) → ∀ K' : List (Nat × D) → List Nat → Prop, K' ws rs → Step1 P orc all o s' K' := by
  unfold Step1 at h ⊢
  split at h
  · obtain ⟨ws, rs, h1, r, hr, h2⟩ := run_out (fun f ds => hO.det f ds) _ _ _ h
    exact ⟨ws, rs, h1, fun s' hs K' hK => h2 s' (fun t ht => hs t (by rw [hr]; simp [ht])) K' hK⟩
  · obtain ⟨u, hu, h⟩ := h
    rcases h with ⟨hc, h⟩ | ⟨hc, h⟩
    · obtain ⟨ws, rs, h1, r, hr, h2⟩ := run_out (fun f ds => hO.det f ds) _ _ _ h
      refine ⟨ws, rs, h1, fun s' hs K' hK => ⟨u, hu, .inl ⟨?_, h2 s' (fun t ht => hs t (by rw [hr]; simp [ht])) K' hK⟩⟩⟩
      rw [hs u (by rw [hr]; simp)]; exact hc
    · obtain ⟨ws, rs, h1, r, hr, h2⟩ := run_out (fun f ds => hO.det f ds) _ _ _ h
      refine ⟨ws, rs, h1, fun s' hs K' hK => ⟨u, hu, .inr ⟨?_, h2 s' (fun t ht => hs t (by rw [hr]; simp [ht])) K' hK⟩⟩⟩
      rw [hs u (by rw [hr]; simp)]; exact hc

/-- What the operations did, one by one. -/
theorem runOps_trace (hO : OrcOK P orc) {all : List Oper} : ∀ (rest : List Oper) (s : List D) (lg : List (List Nat × List Nat)) (K : List D → List (List Nat × List Nat) → Prop), runOps P orc all rest s lg K →
    ∃ trl : List (List (Nat × D) × List Nat), trl.length = rest.length ∧ K (trl.foldl (fun s r => apply r.1 s) s) (lg ++ trl.map fun r => (r.1.map (·.1), r.2)) ∧
      ∀ (i : Nat) (o : Oper) (r : List (Nat × D) × List Nat), rest[i]? = some o → trl[i]? = some r → ∀ s', (∀ t, t ∈ r.2 → get s' t = get ((trl.take i).foldl (fun s r => apply r.1 s) s) t) →
        ∀ K' : List (Nat × D) → List Nat → Prop, K' r.1 r.2 → Step1 P orc all o s' K'
  | [], s, lg, K, h => ⟨[], rfl, by simpa [runOps] using h, fun i o r hi => by simp at hi⟩
  | o :: rest, s, lg, K, h => by
    obtain ⟨ws, rs, h1, h2⟩ := step1_out hO (runOps_step h)
    obtain ⟨trl, hl, hK, ht⟩ := runOps_trace hO rest _ _ _ h1
    refine ⟨(ws, rs) :: trl, by simp [hl], by simpa using hK, fun i o' r hi hr s' hs K' hK' => ?_⟩
    cases i with
    | zero =>
      simp at hi hr; subst hi; subst hr
      exact h2 s' (by simpa using hs) K' hK'
    | succ i =>
      simp at hi hr
      exact ht i o' r hi hr s' (by simpa using hs) K' hK'

/-- Operations in the text's order have one outcome. -/
theorem runOps_det (hO : OrcOK P orc) {all : List Oper} : ∀ (rest : List Oper) (s : List D) (lg : List (List Nat × List Nat)) (K : List D → List (List Nat × List Nat) → Prop), runOps P orc all rest s lg K →
    ∃ s' lg', K s' lg' ∧ ∀ K' : List D → List (List Nat × List Nat) → Prop, K' s' lg' → runOps P orc all rest s lg K'
  | [], s, lg, K, h => ⟨s, lg, h, fun K' hK => hK⟩
  | o :: rest, s, lg, K, h => by
    simp only [runOps] at h ⊢
    split at h
    · obtain ⟨ws, rs, h1, r, hr, h2⟩ := run_out (fun f ds => hO.det f ds) _ _ _ h
      obtain ⟨s', lg', h3, h4⟩ := runOps_det hO rest _ _ _ h1
      exact ⟨s', lg', h3, fun K' hK => h2 s (fun _ _ => rfl) _ (h4 K' hK)⟩
    · rename_i j b hg
      split at h
      · exact h.elim
      · split at h
        · rename_i c hc
          cases c <;> cases b <;> simp only [cond_true, cond_false] at h ⊢
          all_goals
            obtain ⟨ws, rs, h1, r, hr, h2⟩ := run_out (fun f ds => hO.det f ds) _ _ _ h
            obtain ⟨s', lg', h3, h4⟩ := runOps_det hO rest _ _ _ h1
            exact ⟨s', lg', h3, fun K' hK => h2 _ (fun _ _ => rfl) _ (h4 K' hK)⟩
        · obtain ⟨ws, rs, h1, r, hr, h2⟩ := run_out (fun f ds => hO.det f ds) _ _ _ h
          obtain ⟨s', lg', h3, h4⟩ := runOps_det hO rest _ _ _ h1
          exact ⟨s', lg', h3, fun K' hK => h2 s (fun _ _ => rfl) _ (h4 K' hK)⟩
        · exact h.elim

theorem stS_fold {trl : List (List (Nat × D) × List Nat)} {s0 : List D} : ∀ i, i ≤ trl.length → stS (fun i => (trl.getD i ([], [])).1) s0 (fun _ => true) i = (trl.take i).foldl (fun s r => apply r.1 s) s0
  | 0, _ => rfl
  | i + 1, h => by
    have hlt : i < trl.length := by omega
    simp only [stS, if_true]
    rw [stS_fold i (by omega), List.take_succ_eq_append_getElem hlt, List.foldl_append]
    simp [List.getD_eq_getElem?_getD, hlt]

theorem disj_spec {a b : List Nat} (h : disj a b = true) {t : Nat} (ha : t ∈ a) : t ∉ b := by
  have := List.all_eq_true.1 h t ha
  simpa using this

/-- A region in whatever order. -/
theorem any_sim (hO : OrcOK P orc) {ops : Array Oper} (hA : ∀ t, t ∈ addrDsts ops.toList → t ∈ A) {s0 : List D} {trl : List (List (Nat × D) × List Nat)} (hl : trl.length = ops.size)
    (hok : okRegion ops.toList (trl.map fun r => (r.1.map (·.1), r.2)) = true)
    (hstep : ∀ (i : Nat) (o : Oper) (r : List (Nat × D) × List Nat), ops[i]? = some o → trl[i]? = some r → ∀ s', (∀ t, t ∈ r.2 → get s' t = get ((trl.take i).foldl (fun s r => apply r.1 s) s0) t) →
        ∀ K' : List (Nat × D) → List Nat → Prop, K' r.1 r.2 → Step1 P orc ops.toList o s' K')
    (hQ : ∀ a' w' role', Sim P E A role' a' w' (trl.foldl (fun s r => apply r.1 s) s0) → Q .normal a' w') :
    ∀ (fuel : Nat) (listed : Array Bool) (role : Nat → Role) (a : Act) (w : World) (todo : List Nat), listed.size = ops.size → todo.length ≤ fuel → (∀ i, i < ops.size → listed.getD i false = false → i ∈ todo) →
      (∀ (i : Nat) (o : Oper), ops.toList[i]? = some o → listed.getD i false = true → ∀ e ∈ o.after, Region.binds .any e = true → listed.getD e.on false = true) →
      Sim P E A role a w (stS (fun i => (trl.getD i ([], [])).1) s0 (fun i => listed.getD i false) ops.size) → wpAny P .any ops Q fuel listed a w := by
  simp only [okRegion, Bool.and_eq_true] at hok
  obtain ⟨hE, hP⟩ := hok
  have hpair : ∀ i j, i < j → j < ops.size → i ∉ (ancs ops.toList []).getD j [] → ∀ t, (t ∈ (trl.getD i ([], [])).1.map (·.1) → t ∉ (trl.getD j ([], [])).2 ∧ t ∉ (trl.getD j ([], [])).1.map (·.1)) ∧ (t ∈ (trl.getD i ([], [])).2 → t ∉ (trl.getD j ([], [])).1.map (·.1)) := by
    intro i j hij hj hna t
    have h1 := List.all_eq_true.1 hP j (by simp; omega)
    have h2 := List.all_eq_true.1 h1 i (by simp; omega)
    simp only [Bool.or_eq_true, Bool.and_eq_true] at h2
    have hgi : (trl.map fun r => (r.1.map (·.1), r.2)).getD i ([], []) = ((trl.getD i ([], [])).1.map (·.1), (trl.getD i ([], [])).2) := by
      simp [List.getD_eq_getElem?_getD, show i < trl.length by omega]
    have hgj : (trl.map fun r => (r.1.map (·.1), r.2)).getD j ([], []) = ((trl.getD j ([], [])).1.map (·.1), (trl.getD j ([], [])).2) := by
      simp [List.getD_eq_getElem?_getD, show j < trl.length by omega]
    rw [hgi, hgj] at h2
    rcases h2 with h2 | ⟨h2, h3⟩
    · exact absurd (by simpa using h2) hna
    · refine ⟨fun ht => ?_, fun ht => disj_spec h3 ht⟩
      have := disj_spec h2 ht
      simp only [List.mem_append, not_or] at this
      exact this
  have done : ∀ (listed : Array Bool) (role : Nat → Role) (a : Act) (w : World), (∀ i, i < ops.size → listed.getD i false = true) → Sim P E A role a w (stS (fun i => (trl.getD i ([], [])).1) s0 (fun i => listed.getD i false) ops.size) → Q .normal a w := by
    intro listed role a w hall hS
    rw [stS_congr (S' := fun _ => true) ops.size hall, ← hl, stS_fold _ (Nat.le_refl _), List.take_length] at hS
    exact hQ a w role hS
  intro fuel
  induction fuel with
  | zero =>
    intro listed role a w todo hsz htd hun hcl hS
    have htd' : todo = [] := List.eq_nil_of_length_eq_zero (by omega)
    have hall : ∀ i, i < ops.size → listed.getD i false = true := fun i hi => by
      cases h : listed.getD i false with
      | true => rfl
      | false => have := hun i hi h; rw [htd'] at this; simp at this
    refine ⟨?_, done listed role a w hall hS⟩
    rw [List.eq_nil_iff_forall_not_mem]
    intro i hi
    obtain ⟨h1, o, ho, _⟩ := mem_ready.1 hi
    have hlt := (Array.getElem?_eq_some_iff.1 ho).1
    have h2 := hall i hlt
    rw [Array.getD_eq_getD_getElem?] at h1 h2
    simp [show i < listed.size by omega] at h1 h2
    rw [h1] at h2; cases h2
  | succ fuel ih =>
    intro listed role a w todo hsz htd hun hcl hS
    have hgd : ∀ i, i < ops.size → listed.getD i true = listed.getD i false := fun i hi => by
      rw [Array.getD_eq_getD_getElem?, Array.getD_eq_getD_getElem?]; simp [show i < listed.size by omega]
    refine ⟨fun hr => ?_, fun i hi => ?_⟩
    · refine done listed role a w (fun i hi => ?_) hS
      induction i using Nat.strongRecOn with
      | _ i ihi =>
        cases h : listed.getD i false with
        | true => rfl
        | false =>
          exfalso
          have ho : ops[i]? = some ops[i] := Array.getElem?_eq_getElem hi
          have hmem : i ∈ Region.ready .any ops listed := mem_ready.2 ⟨(hgd i hi).trans h, _, ho, fun e he hb => by
            have hlt := early_spec ops.toList 0 i ops[i] hE (by simp [hi]) e he hb
            exact ihi e.on (by omega) (by omega)⟩
          rw [hr] at hmem; simp at hmem
    · obtain ⟨h1, o, ho, hdeps⟩ := mem_ready.1 hi
      have hilt := (Array.getElem?_eq_some_iff.1 ho).1
      have hSi : listed.getD i false = false := (hgd i hilt).symm.trans h1
      have hol : ops.toList[i]? = some o := by simpa using ho
      have hri : trl[i]? = some (trl.getD i ([], [])) := by simp [List.getD_eq_getElem?_getD, show i < trl.length by omega]
      have hanc := closed_anc (S := fun x => listed.getD x false = true) hcl hE i o hol hdeps
      have ancS : ∀ k, k < ops.size → listed.getD k false = true → ∀ x ∈ (ancs ops.toList []).getD k [], listed.getD x false = true := fun k hk hSk => by
        have hok' : ops.toList[k]? = some ops[k] := by simp [hk]
        exact closed_anc (S := fun x => listed.getD x false = true) hcl hE k _ hok' (hcl k _ hok' hSk)
      have hread : ∀ t, t ∈ (trl.getD i ([], [])).2 → get (stS (fun i => (trl.getD i ([], [])).1) s0 (fun i => listed.getD i false) ops.size) t = get ((trl.take i).foldl (fun s r => apply r.1 s) s0) t := by
        intro t ht
        rw [← stS_fold i (by omega), ← stS_congr (S := fun k => decide (k < i)) i (fun k hk => by simp [hk]), ← stS_cut (S := fun k => decide (k < i)) ops.size (by omega) (fun k hk _ => by simp; omega)]
        refine stS_same ops.size fun k hk hkt => ?_
        rcases Nat.lt_trichotomy k i with hlt | heq | hgt
        · simp only [hlt, decide_true]
          by_cases hm : k ∈ (ancs ops.toList []).getD i []
          · exact hanc k hm
          · exact absurd ht ((hpair k i hlt hilt hm t).1 hkt).1
        · subst heq; simp [hSi]
        · have : ¬ k < i := by omega
          simp only [this, decide_false]
          cases hSk : listed.getD k false with
          | false => rfl
          | true =>
            exfalso
            by_cases hm : i ∈ (ancs ops.toList []).getD k []
            · have := ancS k hk hSk i hm; rw [hSi] at this; cases this
            · exact absurd hkt ((hpair i k hgt hk hm t).2 ht)
      have hst := hstep i o _ ho hri _ hread (fun ws rs => ws = (trl.getD i ([], [])).1 ∧ rs = (trl.getD i ([], [])).2) ⟨rfl, rfl⟩
      refine step1_sim hO ho hA hS hst ?_
      rintro a' w' ⟨ws, rs, role', ⟨rfl, rfl⟩, hS'⟩
      have hset : ∀ k, (listed.setIfInBounds i true).getD k false = (listed.getD k false || k == i) := by
        intro k
        by_cases e : i = k
        · subst e
          rw [Array.getD_eq_getD_getElem?]
          simp [show i < listed.size by omega]
        · rw [getD_set_ne false e]
          have : (k == i) = false := by simp; omega
          rw [this, Bool.or_false]
      refine ih (listed.setIfInBounds i true) role' a' w' (todo.erase i) (by simp [hsz]) ?_ ?_ ?_ ?_
      · rw [List.length_erase_of_mem (hun i hilt hSi)]; omega
      · intro k hk hk'
        rw [hset] at hk'
        simp only [Bool.or_eq_false_iff, beq_eq_false_iff_ne] at hk'
        exact (List.mem_erase_of_ne hk'.2).2 (hun k hk hk'.1)
      · intro k o' ho' hk e he hb
        rw [hset] at hk ⊢
        simp only [Bool.or_eq_true, beq_iff_eq] at hk ⊢
        rcases hk with hk | rfl
        · exact .inl (hcl k o' ho' hk e he hb)
        · rw [hol] at ho'; cases ho'; exact .inl (hdeps e he hb)
      · rw [stS_add (j := i) hilt hSi hset]
        · exact hS'
        · intro k t hik hk hSk hti htk
          by_cases hm : i ∈ (ancs ops.toList []).getD k []
          · have := ancS k hk hSk i hm; rw [hSi] at this; cases this
          · exact absurd htk ((hpair i k hik hk hm t).1 hti).2

/-- No address is known any more. -/
def kill : List Nat → List D → List D
  | [], s => s
  | t :: ts, s => kill ts (s.set t .undef)
theorem kill_length : ∀ (ts : List Nat) (s : List D), (kill ts s).length = s.length
  | [], _ => rfl
  | t :: ts, s => by rw [kill, kill_length ts]; simp
theorem kill_get : ∀ (ts : List Nat) (s : List D) (t : Nat), get (kill ts s) t = get s t ∧ t ∉ ts ∨ get (kill ts s) t = .undef
  | [], s, t => .inl ⟨rfl, by simp⟩
  | u :: ts, s, t => by
    rcases kill_get ts (s.set u .undef) t with ⟨h, hn⟩ | h
    · simp only [kill]
      rw [h, get_set]
      split
      · exact .inr rfl
      · rename_i hne
        by_cases htu : u = t
        · subst htu
          exact .inr (get_ge (by
            rcases Nat.lt_or_ge u s.length with h0 | h0
            · exact absurd ⟨rfl, h0⟩ hne
            · exact h0))
        · exact .inl ⟨rfl, by simp [hn, Ne.symm htu]⟩
    · exact .inr h
theorem kill_sim (hS : Sim P E A role a w s) {ts : List Nat} (h : ∀ t, t ∈ A → t ∈ ts) : Sim P E [] role a w (kill ts s) where
  ext := hS.ext
  old := hS.old
  low := hS.low
  defers := hS.defers
  size := by rw [kill_length]; exact hS.size
  inj := hS.inj
  tm t := by
    rcases kill_get ts s t with ⟨h1, _⟩ | h1
    · rw [h1]; exact hS.tm t
    · rw [h1]; trivial
  live x u off hx := by
    rcases kill_get ts s x with ⟨h1, h2⟩ | h1
    · rw [h1] at hx; exact absurd (h x (hS.live x u off hx).1) h2
    · rw [h1] at hx; cases hx
theorem Sim.widen (hS : Sim P E [] role a w s) : Sim P E A role a w s where
  ext := hS.ext
  old := hS.old
  low := hS.low
  defers := hS.defers
  size := hS.size
  inj := hS.inj
  tm := hS.tm
  live x u off hx := absurd (hS.live x u off hx).1 (by simp)

/-- A region, in the text's order or drawn. -/
def runRegion (P : Program) (orc : Orc) (ops : Array Oper) (draw : Bool) (s : List D) (K : List D → Prop) : Prop :=
  runOps P orc ops.toList ops.toList s [] fun s' lg => bif draw then (okRegion ops.toList lg = true ∧ K (kill (addrDsts ops.toList) s')) else K (kill (addrDsts ops.toList) s')

theorem region_sim (hO : OrcOK P orc) (hm : P.follows .mixedOrders = true) {id : Nat} {ops : Array Oper} {draw : Bool} {K : List D → Prop} (h : runRegion P orc ops draw s K) (hS : Sim P E [] role a w s)
    (hQ : ∀ a' w' s' role', K s' → Sim P E [] role' a' w' s' → Q .normal a' w') : (Code.region id ops draw).wp P Q a w := by
  unfold runRegion at h
  cases draw with
  | false =>
    simp only [cond_false] at h
    refine wp_region ?_
    have := ops_sim (P := P) (Q := Q) (A := addrDsts ops.toList) hO (ops := ops) (fun t ht => ht) ops.toList 0 role a w s [] _ rfl hS.widen h (fun a' w' s' lg' role' hK hS' => hQ a' w' _ role' hK (kill_sim hS' fun t ht => ht))
    simpa using this
  | true =>
    simp only [cond_true] at h
    refine wp_region_any hm ?_
    obtain ⟨trl, hl, ⟨hok, hK⟩, hst⟩ := runOps_trace hO _ _ _ _ h
    have hS1 : Sim P E (addrDsts ops.toList) role a w.drew s := by
      have := hS.widen (A := addrDsts ops.toList)
      have hkp : Kept role w role w.drew none := ⟨⟨fun _ _ h => h, fun _ _ _ _ _ => rfl⟩, fun _ _ h => h, fun _ _ _ _ => rfl, fun _ _ _ h _ => ⟨h, rfl⟩⟩
      exact this.turn (Exd.dr this.ext) (fun _ _ => rfl) this.low this.inj fun t => (this.tm t).keep hkp (by simp) (by simp)
    refine any_sim hO (A := addrDsts ops.toList) (fun t ht => ht) (by simpa using hl) (by simpa using hok) (fun i o r ho hr => hst i o r (by simpa using ho) hr) (fun a' w' role' hS' => hQ a' w' _ role' hK (kill_sim hS' fun t ht => ht)) ops.size _ role a _ (List.range ops.size) (by simp) (by simp) (fun i hi _ => by simpa using hi) (fun i o hi h => ?_) ?_
    · rw [Array.getD_eq_getD_getElem?] at h
      by_cases hlt : i < ops.size <;> simp [hlt] at h
    · rw [stS_cut (k := 0) ops.size (Nat.zero_le _) (fun i _ hi => by rw [Array.getD_eq_getD_getElem?]; simp [hi])]
      exact hS1
end
end Go.Proofs.Ytnjhmlnmdnocmaa
