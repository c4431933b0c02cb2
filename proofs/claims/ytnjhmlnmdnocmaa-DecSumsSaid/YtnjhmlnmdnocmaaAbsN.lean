/-
  append onto a row of ours. No program in sight.
-/
import Derived.Test.YtnjhmlnmdnocmaaAbsM
namespace Go.Proofs.Ytnjhmlnmdnocmaa
set_option linter.unusedSimpArgs false
set_option linter.unusedVariables false
open Go.RowKit
open Look (ret rd chk)

section
variable {P : Program} {orc : Orc} {E : Env} {A : List Nat} {role : Nat → Role} {a : Act} {w : World} {s : List D} {l : List Nat}
variable {K : List (Nat × D) → List Nat → Prop} {Q : Exit → Act → World → Prop}

/-- What a list's cells hold, in a row. -/
theorem list_news {v : Value} {ow : Bool} {T : TypeId} {es : List (List D)} (h : Rd P role w v (.list ow T es)) (hpos : 0 < P.cellsOf T) (hm : es ≠ []) :
    ∃ (ad : Addr) (c : Nat) (news : List Value), v = .slice (some ad) es.length c ∧ news.length = es.length * P.cellsOf T ∧ (∀ (j : Nat) (u : Value), news[j]? = some u → w.cell? (ad.add j) = some u) ∧ (∀ u : Value, u ∈ news → u.oneCell' = true) ∧
      ∀ (i : Nat) (e : List D) (k : Nat) (d : D), es[i]? = some e → e[k]? = some d → ∃ y, news[i * P.cellsOf T + k]? = some y ∧ Rd P role w y d := by
  cases h with
  | nil => exact absurd rfl hm
  | list f hl hcap hp hs h1 hcell hr =>
    rename_i b off len cap
    subst hl
    have hidx : ∀ j, j < es.length * P.cellsOf T → j / P.cellsOf T < es.length ∧ j % P.cellsOf T < P.cellsOf T ∧ j / P.cellsOf T * P.cellsOf T + j % P.cellsOf T = j := fun j hj =>
      ⟨(Nat.div_lt_iff_lt_mul hpos).2 hj, Nat.mod_lt _ hpos, by rw [Nat.mul_comm]; exact Nat.div_add_mod _ _⟩
    have hel : ∀ j, j < es.length * P.cellsOf T → ∃ e d, es[j / P.cellsOf T]? = some e ∧ e[j % P.cellsOf T]? = some d := fun j hj => by
      obtain ⟨h2, h3, _⟩ := hidx j hj
      have he : es[j / P.cellsOf T]? = some es[j / P.cellsOf T] := List.getElem?_eq_getElem h2
      have := hs _ _ he
      exact ⟨_, _, he, List.getElem?_eq_getElem (by omega)⟩
    refine ⟨⟨b, off, none⟩, cap, (List.range (es.length * P.cellsOf T)).map fun j => f (j / P.cellsOf T) (j % P.cellsOf T), rfl, by simp, fun j u hu => ?_, fun u hu => ?_, fun i e k d he hk => ?_⟩
    · simp only [List.getElem?_map, Option.map_eq_some_iff] at hu
      obtain ⟨j', hj, rfl⟩ := hu
      obtain ⟨hlt, e⟩ := List.getElem?_eq_some_iff.1 hj
      simp at hlt e; subst e
      obtain ⟨e, d, he, hd⟩ := hel j hlt
      have := hcell _ e _ d he hd
      obtain ⟨_, _, h4⟩ := hidx j hlt
      rw [Addr.add_lit', ← this]
      congr 2
      omega
    · simp only [List.mem_map, List.mem_range] at hu
      obtain ⟨j, hj, rfl⟩ := hu
      obtain ⟨e, d, he, hd⟩ := hel j hj
      exact h1 _ e _ d he hd
    · have hi := (List.getElem?_eq_some_iff.1 he).1
      have hk' := (List.getElem?_eq_some_iff.1 hk).1
      rw [hs i e he] at hk'
      have hlt := seg_lt (c := P.cellsOf T) hi hk'
      refine ⟨f i k, ?_, hr i e k d he hk⟩
      have h2 : (i * P.cellsOf T + k) / P.cellsOf T = i := by rw [Nat.mul_comm, Nat.mul_add_div hpos, Nat.div_eq_of_lt hk']; rfl
      have h3 : (i * P.cellsOf T + k) % P.cellsOf T = k := by rw [Nat.mul_comm, Nat.mul_add_mod, Nat.mod_eq_of_lt hk']
      simp [hlt, h2, h3]

theorem list_sizes {v : Value} {ow : Bool} {T : TypeId} {es : List (List D)} (h : Rd P role w v (.list ow T es)) : ∀ (i : Nat) (e : List D), es[i]? = some e → e.length = P.cellsOf T := by
  cases h with
  | nil => intro i e h; simp at h
  | list f hl hcap hp hs => exact hs

theorem append_none {t1 t2 e : TypeId} {i : TypeInfo} {base : Option Addr} {n cap c2 : Nat} {b2 : Option Addr} {ty : TypeId} (hu : P.underlying t1 = some (.slice e)) (hu2 : P.underlying t2 = some (.slice e)) (hi : P.info? e = some i) (hcap : n ≤ cap) :
    (Builtin.append_ #[t1, t2] ty #[.slice base n cap, .slice b2 0 c2]).run P w = .ok (.slice base n cap) w := by
  cases base <;> cases b2 <;> simp [Builtin.append_, run_underlying hu, run_underlying hu2, sizeOf, typeInfo, hi, Builtin.lenOf, Builtin.firstCells, loadCells, loadCellsFrom, storeCells, hcap]

/-- append, behind the reading of its operands. -/
theorem append_core {a0 : Act} (ha0 : a0 = a) (hS : Sim P E A role a w s) {o : Oper} {x y : Operand} {t1 T : TypeId} {es es2 : List (List D)} {t : Nat} {p : Nat × Option Nat} {types : Array TypeId} {ow2 : Bool} (hty : types = #[t1, t1])
    (ho : o.op = .call { callee := .builtin .append, args := #[x, y], argTypes := types }) (hdst : o.dst = some t) (hu : P.underlying t1 = some (.slice T)) (hz : (zeroCellsD P T).isSome = true) (hpos : 0 < P.cellsOf T)
    (hzl : P.cellsOf T = ((zeroCellsD P T).getD []).length)
    (hx : RO P E role w p (a0.eval x) (.list true T es)) (hf : Free s p) (hy : Rd P role w (a0.eval y) (.list ow2 T es2)) (hsz : (es.length + es2.length) * (P.bytesOf T + 1) ≤ 70368744177664)
    (hno : (get s t).isObj = false) : ∃ v w' role', (execOp a.eval o).run P w = .ok (.value v) w' ∧ Sim P E A role' (a.put (some t) v) w' (s.set t (.list true T (es ++ es2))) := by
  subst ha0
  subst hty
  obtain ⟨z, hz⟩ := Option.isSome_iff_exists.1 hz
  obtain ⟨it, zv, hi, hzv, hcr⟩ := zeroCells_sim (role := role) (w := w) hz
  have hcell := cellsOf_info hi
  have hby : P.bytesOf T = it.bytes := by simp [Program.bytesOf, hi]
  have hzs : zv.cells.size = it.size := by rw [← hcell, hzl, hz]; have := hcr.1; simpa using this
  rw [Nat.mul_add] at hsz
  have hown := hx.2 T es rfl
  have hrx := hx.1
  have exec : ∀ {v w'}, (Builtin.append_ #[t1, t1] o.type #[a0.eval x, a0.eval y]).run P w = .ok v w' → (execOp a0.eval o).run P w = .ok (.value v) w' := by
    intro v w' h
    simp [execOp, ho, resolve, invoke, builtin, h]
  have hs1 := list_sizes hrx
  have hs2 := list_sizes hy
  have hs12 : ∀ (i : Nat) (e : List D), (es ++ es2)[i]? = some e → e.length = P.cellsOf T := by
    intro i e h
    rw [List.getElem?_append] at h
    split at h
    · exact hs1 _ _ h
    · exact hs2 _ _ h
  by_cases hm : es2 = []
  · -- nothing is appended
    subst hm
    have hb2 : ∃ b2 c2, a0.eval y = .slice b2 0 c2 := by
      generalize a0.eval y = v at hy
      cases hy with
      | nil => exact ⟨_, _, rfl⟩
      | list f hl => simp at hl; subst hl; exact ⟨_, _, rfl⟩
    obtain ⟨b2, c2, hb2⟩ := hb2
    have hb1 : ∃ b n c, a0.eval x = .slice b n c ∧ n ≤ c := by
      generalize a0.eval x = v at hrx
      cases hrx with
      | nil => exact ⟨_, _, _, rfl, Nat.le_refl _⟩
      | list f hl hcap => exact ⟨_, _, _, rfl, hcap⟩
    obtain ⟨b, n, c, hb1, hnc⟩ := hb1
    have hrun := append_none (P := P) (w := w) (base := b) (b2 := b2) (c2 := c2) (ty := o.type) hu hu hi hnc
    rw [← hb1, ← hb2] at hrun
    rw [List.append_nil]
    have := take_sim (o := o) hS hx rfl hf (fun t' ht' => by rw [hdst] at ht'; cases ht'; exact hno)
    rw [hdst] at this
    obtain ⟨role', h⟩ := this
    exact ⟨_, w, role', exec hrun, h⟩
  · obtain ⟨ad, c2, news, hy2, hnl, hnc, hn1, hnr⟩ := list_news hy hpos hm
    have hm0 : 0 < es2.length := by cases es2 with | nil => exact absurd rfl hm | cons => simp
    rw [hcell] at hnl
    -- the elements behind, in cells of which these are the first
    have elems : ∀ (olds : List Value) (rest : List Value), olds.length = es.length * P.cellsOf T → (∀ (i : Nat) (e : List D) (k : Nat) (d : D), es[i]? = some e → e[k]? = some d → ∃ y, olds[i * P.cellsOf T + k]? = some y ∧ y.oneCell' = true ∧ Rd P role w y d) →
        ∀ (i : Nat) (e : List D) (k : Nat) (d : D), (es ++ es2)[i]? = some e → e[k]? = some d → ∃ y, (olds ++ news ++ rest)[i * P.cellsOf T + k]? = some y ∧ y.oneCell' = true ∧ Rd P role w y d := by
      intro olds rest hol hor i e k d he hk
      rw [List.getElem?_append] at he
      split at he
      · obtain ⟨y, h1, h2, h3⟩ := hor i e k d he hk
        have hlt := (List.getElem?_eq_some_iff.1 h1).1
        refine ⟨y, ?_, h2, h3⟩
        rw [List.append_assoc, List.getElem?_append_left hlt]; exact h1
      · rename_i hge
        obtain ⟨y, h1, h2⟩ := hnr _ e k d he hk
        have hlt := (List.getElem?_eq_some_iff.1 h1).1
        refine ⟨y, ?_, hn1 y (List.mem_of_getElem? h1), h2⟩
        have e2 : i * P.cellsOf T + k = es.length * P.cellsOf T + ((i - es.length) * P.cellsOf T + k) := by
          have : i = es.length + (i - es.length) := by omega
          conv => lhs; rw [this, Nat.add_mul]
          omega
        rw [e2, List.append_assoc, List.getElem?_append_right (by omega), hol, show es.length * P.cellsOf T + ((i - es.length) * P.cellsOf T + k) - es.length * P.cellsOf T = (i - es.length) * P.cellsOf T + k by omega, List.getElem?_append_left hlt]
        exact h1
    rcases hown with hnil | ⟨g, cap, cur, hv, hrole, hgE, hg, hncap, hcm, hcs⟩
    · -- onto nothing
      have hes : es = [] := by
        rw [hnil] at hrx; cases hrx; rfl
      subst hes
      simp only [List.length_nil, Nat.zero_add] at hsz
      have hrun := run_append_nil (P := P) w t1 o.type T it zv hu hi hzv ad es2.length c2 news hnl hnc hm0 (by omega) (by rw [← hby]; omega)
      rw [← hnil, ← hy2] at hrun
      have hcapm : grownCap w es2.length 0 T ≤ maxLen := grownCap_le_maxLen w _ _ T (by simp only [maxLen]; omega)
      have hge := grownCap_ge w es2.length 0 T
      obtain ⟨role', h⟩ := newRow_sim (t := t) (n := es2.length) (cap := grownCap w es2.length 0 T) (T := T) (es := es2) hS (w' := w.drew.alloc (.cells (news.toArray ++ Builtin.zeroCells zv.cells (grownCap w es2.length 0 T - es2.length)) T)) rfl ((Exd.refl w).dr.al) rfl hge hcapm
        (by simp only [Array.size_append, List.size_toArray, size_zeroCells, hzs, hnl, hcell, ← Nat.add_mul]; congr 1; omega) hs2
        (fun i e k d he hk => by
          obtain ⟨y, h1, h2, h3⟩ := elems [] (Builtin.zeroCells zv.cells (grownCap w es2.length 0 T - es2.length)).toList (by simp) (fun i e k d he => by simp at he) i e k d (by simpa using he) hk
          refine ⟨y, ?_, h2, h3⟩
          rw [← h1, ← Array.getElem?_toList]; simp) hno
      exact ⟨_, _, role', exec hrun, by simpa using h⟩
    · have hcells : ∀ (i : Nat) (e : List D) (k : Nat) (d : D), es[i]? = some e → e[k]? = some d → ∃ y, (cur.toList.take (es.length * P.cellsOf T))[i * P.cellsOf T + k]? = some y ∧ y.oneCell' = true ∧ Rd P role w y d := by
        intro i e k d he hk
        rw [hv] at hrx
        cases hrx with
        | list f hl hcap hp hs h1 hcell' hr =>
          have hk' := (List.getElem?_eq_some_iff.1 hk).1
          have hi' := (List.getElem?_eq_some_iff.1 he).1
          rw [hs i e he] at hk'
          have hlt := seg_lt (c := P.cellsOf T) hi' hk'
          have h2 := hcell' i e k d he hk
          simp only [World.cell?, hg] at h2
          refine ⟨f i k, ?_, h1 i e k d he hk, hr i e k d he hk⟩
          rw [List.getElem?_take, if_pos hlt]
          simpa using h2
      have hol : (cur.toList.take (es.length * P.cellsOf T)).length = es.length * P.cellsOf T := by
        have := Nat.mul_le_mul_right (P.cellsOf T) hncap
        simp; omega
      by_cases hroom : es.length + es2.length ≤ cap
      · -- there is room
        have hfit : es.length * it.size + news.length ≤ cur.size := by rw [hnl, hcs, hcell, ← Nat.add_mul]; exact Nat.mul_le_mul_right _ hroom
        have hrun := run_append_room (P := P) w t1 o.type T it hu hi g es.length cap cur hg ad es2.length c2 news hnl hnc hn1 hroom hfit
        rw [← hv, ← hy2] at hrun
        rw [← hcell] at hrun hfit
        have hoth : ∀ k c, k ≠ g → (w.setRow g c).heap[k]? = w.heap[k]? := fun k c hk => setRow_other w g k c hk
        have hset := setRow_heap w g cur (cur.toList.take (es.length * P.cellsOf T) ++ news ++ cur.toList.drop (es.length * P.cellsOf T + news.length)).toArray T (0, 0) hg
        have hext : Exd E.w0 (w.setRow g (cur.toList.take (es.length * P.cellsOf T) ++ news ++ cur.toList.drop (es.length * P.cellsOf T + news.length)).toArray) :=
          hS.ext.trans' ⟨rfl, rfl, rfl, by simp, fun k hk' => hoth k _ (by omega)⟩
        have hS1 := hS.reown hrole hf (q := (t, none))
        have hself : own role g (es.length * P.cellsOf T) (some (t, none)) g = .row (es.length * P.cellsOf T) (some (t, none)) := by simp [own]
        have evo : Evo role w (own role g ((es ++ es2).length * P.cellsOf T) (some (t, none))) (w.setRow g (cur.toList.take (es.length * P.cellsOf T) ++ news ++ cur.toList.drop (es.length * P.cellsOf T + news.length)).toArray) := by
          refine ⟨fun b n hp => pub_own hrole (Nat.mul_le_mul_right _ (by simp)) hp, fun b n o hp ho' => ?_⟩
          by_cases hb : b = g
          · subst hb
            obtain ⟨lim, ow, h1, h2⟩ := hp
            rw [hrole] at h1; cases h1
            simp only [World.cell?, hset, hg]
            have h3 : o < (cur.toList.take (es.length * P.cellsOf T)).length := by omega
            rw [← Array.getElem?_toList, List.append_assoc, List.getElem?_append_left h3, List.getElem?_take, if_pos (Nat.lt_of_lt_of_le ho' h2)]
            simp
          · exact World.cell?_of_block (w := w) (a := ⟨b, o, none⟩) (hoth b _ hb)
        have hne : ∀ {b n}, b ≠ g → own role g n (some (t, none)) b = role b := fun h => by simp [own, h]
        have hkp : Kept (own role g (es.length * P.cellsOf T) (some (t, none))) w (own role g ((es ++ es2).length * P.cellsOf T) (some (t, none))) (w.setRow g (cur.toList.take (es.length * P.cellsOf T) ++ news ++ cur.toList.drop (es.length * P.cellsOf T + news.length)).toArray) (some g) := by
          refine ⟨⟨fun b n hp => evo.pub b n ?_, fun b n o hp ho' => evo.cell b n o ?_ ho'⟩, fun b u h => ?_, fun b u h hne' => hoth b _ (by simpa using hne'), fun b lim p h hne' => ?_⟩
          · obtain ⟨lim, ow, h1, h2⟩ := hp
            by_cases hb : b = g
            · subst hb; rw [hself] at h1; cases h1; exact ⟨_, _, hrole, h2⟩
            · rw [hne hb] at h1; exact ⟨lim, ow, h1, h2⟩
          · obtain ⟨lim, ow, h1, h2⟩ := hp
            by_cases hb : b = g
            · subst hb; rw [hself] at h1; cases h1; exact ⟨_, _, hrole, h2⟩
            · rw [hne hb] at h1; exact ⟨lim, ow, h1, h2⟩
          · have hb : b ≠ g := fun e => by subst e; rw [hself] at h; cases h
            rw [hne hb] at h ⊢; exact h
          · have hb : b ≠ g := by simpa using hne'
            rw [hne hb] at h ⊢; exact ⟨h, hoth b _ hb⟩
        have hS2 : Sim P E A (own role g ((es ++ es2).length * P.cellsOf T) (some (t, none))) a0 (w.setRow g (cur.toList.take (es.length * P.cellsOf T) ++ news ++ cur.toList.drop (es.length * P.cellsOf T + news.length)).toArray) (s.set t .undef) := by
          have hS1' : Sim P E A (own role g (es.length * P.cellsOf T) (some (t, none))) a0 w (s.set t .undef) := by
            have := hS1.put (t := t) (x := a0.tmps.getD t undef) (d := .undef) trivial hno (fun u off e => by cases e) rfl
            have hid : a0.put (some t) (a0.tmps.getD t undef) = a0 := by
              show { a0 with tmps := a0.tmps.setIfInBounds t (a0.tmps.getD t undef) } = a0
              have : a0.tmps.setIfInBounds t (a0.tmps.getD t undef) = a0.tmps := by
                apply Array.ext_getElem?
                intro i
                by_cases hi : t = i
                · subst hi
                  by_cases hlt : t < a0.tmps.size <;> simp [hlt]
                · simp [hi]
              rw [this]
            rw [hid] at this; exact this
          refine hS1'.turn hext (fun k hk => ?_) (fun k hk => ?_) (fun b b' u hb hb' => ?_) fun u => ?_
          · have hb : k ≠ g := by omega
            rw [hne hb, hne hb]
          · rw [setRow_size]
            by_cases hb : k = g
            · subst hb; exact hS.low _ (by rw [hrole]; simp)
            · rw [hne hb] at hk; exact hS.low k hk
          · have f : ∀ b, own role g ((es ++ es2).length * P.cellsOf T) (some (t, none)) b = .loc u → role b = .loc u := by
              intro b hb
              by_cases h : b = g
              · subst h; simp [own] at hb
              · rw [hne h] at hb; exact hb
            exact hS.inj b b' u (f b hb) (f b' hb')
          · by_cases hut : u = t
            · subst hut
              rw [get_set]
              split
              · trivial
              · rename_i h
                have : get s u = .undef := get_ge (by
                  rcases Nat.lt_or_ge u s.length with h' | h'
                  · exact absurd ⟨rfl, h'⟩ h
                  · exact h')
                rw [this]; trivial
            · refine (hS1'.tm u).keep hkp (fun b e => by cases e; rw [hself]; simp) (fun b lim i e => ?_)
              cases e; rw [hself]; simp; intro _ e; exact absurd e.symm hut
        refine ⟨_, _, own role g ((es ++ es2).length * P.cellsOf T) (some (t, none)), exec hrun, ?_⟩
        have hfin := hS2.put (t := t) (x := .slice (some ⟨g, 0, none⟩) (es.length + es2.length) cap) (d := .list true T (es ++ es2)) (RO.rt ⟨?_, fun T' es' e => ?_⟩) (by rw [get_set]; split <;> first | rfl | exact hno) (fun u off e => by cases e) rfl
        · have : (s.set t D.undef).set t (.list true T (es ++ es2)) = s.set t (.list true T (es ++ es2)) := by simp
          rw [this] at hfin; exact hfin
        · refine .list (fun i k => (cur.toList.take (es.length * P.cellsOf T) ++ news ++ cur.toList.drop (es.length * P.cellsOf T + news.length)).getD (i * P.cellsOf T + k) undef) (by simp) hroom (fun _ => ⟨(es ++ es2).length * P.cellsOf T, some (t, none), by simp [own], by simp⟩) hs12 (fun i e k d he hk => ?_) (fun i e k d he hk => ?_) (fun i e k d he hk => ?_)
          all_goals obtain ⟨y, h1, h2, h3⟩ := elems _ (cur.toList.drop (es.length * P.cellsOf T + news.length)) hol hcells i e k d he hk
          · simp only [List.getD_eq_getElem?_getD, h1]; exact h2
          · simp only [World.cell?, hset, Nat.zero_add]
            rw [← Array.getElem?_toList, h1]; simp only [List.getD_eq_getElem?_getD, h1, Option.getD_some]; rfl
          · simp only [List.getD_eq_getElem?_getD, h1]; exact h3.evo evo
        · cases e
          refine .inr ⟨g, cap, _, by simp, by simp [own], hgE, hset, by simpa using hroom, hcm, ?_⟩
          simp only [List.size_toArray, List.length_append, List.length_drop, Array.length_toList, hol]; omega
      · -- it moves
        have holds : ∀ (j : Nat) (u : Value), (cur.toList.take (es.length * P.cellsOf T))[j]? = some u → w.cell? ((⟨g, 0, none⟩ : Addr).add j) = some u := by
          intro j u hu'
          rw [List.getElem?_take] at hu'
          split at hu'
          · rw [Addr.add_lit']; simp only [World.cell?, hg, Nat.zero_add]; simpa using hu'
          · cases hu'
        have hrun := run_append_grow (P := P) w t1 o.type T it zv hu hi hzv ⟨g, 0, none⟩ es.length cap (cur.toList.take (es.length * P.cellsOf T)) (by rw [hol, hcell]) holds ad es2.length c2 news hnl hnc (by omega) (by omega) (growslice_fits (by omega) (by rw [← hby]; omega))
        rw [← hv, ← hy2] at hrun
        have hcapm : grownCap w (es.length + es2.length) cap T ≤ maxLen := grownCap_le_maxLen w _ _ T (by simp only [maxLen]; omega)
        have hge := grownCap_ge w (es.length + es2.length) cap T
        obtain ⟨role', h⟩ := newRow_sim (t := t) (n := es.length + es2.length) (cap := grownCap w (es.length + es2.length) cap T) (T := T) (es := es ++ es2) hS
          (w' := w.drew.alloc (.cells ((cur.toList.take (es.length * P.cellsOf T)).toArray ++ news.toArray ++ Builtin.zeroCells zv.cells (grownCap w (es.length + es2.length) cap T - (es.length + es2.length))) T)) rfl ((Exd.refl w).dr.al) (by simp) hge hcapm
          (by simp only [Array.size_append, List.size_toArray, size_zeroCells, hzs, hnl, hol]; rw [hcell, ← Nat.add_mul, ← Nat.add_mul]; congr 1; omega) hs12
          (fun i e k d he hk => by
            obtain ⟨y, h1, h2, h3⟩ := elems _ (Builtin.zeroCells zv.cells (grownCap w (es.length + es2.length) cap T - (es.length + es2.length))).toList hol hcells i e k d he hk
            refine ⟨y, ?_, h2, h3⟩
            rw [← h1, ← Array.getElem?_toList]; simp) hno
        exact ⟨_, _, role', exec hrun, h⟩

theorem append_sim (hS : Sim P E A role a w s) {o : Oper} {x y : Operand} {t1 t2 : TypeId} (ho : o.op = .call { callee := .builtin .append, args := #[x, y], argTypes := #[t1, t2] })
    (h : (appendL P o t1 t2 x y).run orc s l K) : Oper.wp P o a w (After P E A s K) Q := by
  unfold appendL at h
  split at h
  · rename_i e t hu hdst
    have fin : ∀ {v : Value} {w' : World} {role' : Nat → Role} {es : List (List D)} {s1 : List D} {ws : List (Nat × D)} {l' : List Nat}, apply ws s = s1 → (execOp a.eval o).run P w = .ok (.value v) w' → Sim P E A role' (a.put (some t) v) w' (s1.set t (.list true e es)) →
        K (ws ++ (o.dst.toList.map fun t => (t, D.list true e es))) l' → Oper.wp P o a w (After P E A s K) Q := by
      intro v w' role' es s1 ws l' hap hr hs hK
      refine wp_value hr ⟨_, l', role', hK, ?_⟩
      rw [apply_dst, hdst, hap]; exact hs
    simp only at h
    cases x with
    | tmp u =>
      simp only [Look.run] at h
      split at h
      · rename_i T es hg
        obtain ⟨hc, h⟩ := h
        simp only [Bool.and_eq_true, beq_iff_eq, bne_iff_ne] at hc
        obtain ⟨rfl, hut⟩ := hc
        rw [run_bind] at h
        obtain ⟨d, l1, g, h2, h3, h4⟩ := rdV_sim hS h
        clear h
        split at g
        · rename_i ow2 T2 es2
          obtain ⟨hc1, hc2, g⟩ := g
          simp only [Bool.and_eq_true, beq_iff_eq, decide_eq_true_eq] at hc1 hc2
          obtain ⟨⟨⟨⟨rfl, rfl⟩, hz⟩, hpos⟩, hzl⟩ := hc1
          obtain ⟨l', hno, hK⟩ := putW_sim g
          have hulen : u < s.length := by
            rcases Nat.lt_or_ge u s.length with h0 | h0
            · exact h0
            · rw [get_ge h0] at hg; cases hg
          have hS1 := hS.stripTmp u
          rw [hg] at hS1
          have hro : RO P E role w (u, none) (a.eval (.tmp u)) (.list true T2 es) := by
            have := RT.ro (hS.tm u) (by rw [hg]; rfl); rw [hg] at this; exact this
          have hf : Free (s.set u (D.list true T2 es).strip) (u, none) := by simp only [Free]; rw [get_set_self hulen]; rfl
          obtain ⟨v, w', role', hr, hs⟩ := append_core (a0 := a) rfl hS1 (t := t) (o := o) rfl ho hdst hu hz hpos hzl hro hf h4 hc2 (by
            rw [get_set]; split
            · rename_i e; exact absurd e.1 hut
            · exact hno t hdst)
          exact fin rfl hr hs hK
        · exact g.elim
      · first | exact h.elim | (simp [Look.run] at h)
    | const c =>
      split at h
      · rename_i heq; cases heq
      · rename_i heq
        cases heq
        rw [run_bind] at h
        obtain ⟨d, l1, g, h2, h3, h4⟩ := rdV_sim hS h
        clear h
        split at g
        · rename_i ow2 T2 es2
          obtain ⟨hc1, hc2, g⟩ := g
          simp only [Bool.and_eq_true, beq_iff_eq, decide_eq_true_eq] at hc1 hc2
          obtain ⟨⟨⟨⟨rfl, rfl⟩, hz⟩, hpos⟩, hzl⟩ := hc1
          obtain ⟨l', hno, hK⟩ := putW_sim g
          obtain ⟨v, w', role', hr, hs⟩ := append_core (a0 := a) rfl hS (t := t) (o := o) (p := (t, some 0)) (es := []) rfl ho hdst hu hz hpos hzl ⟨.nil, fun _ _ _ => .inl rfl⟩ (fun T cs d h1 => by
            have := hno t hdst; rw [h1] at this; simp [D.isObj] at this) h4 hc2 (hno t hdst)
          exact fin rfl hr hs hK
        · exact g.elim
      · first | exact h.elim | (simp [Look.run] at h)
    | _ => exact h.elim
  · exact h.elim
end
end Go.Proofs.Ytnjhmlnmdnocmaa
