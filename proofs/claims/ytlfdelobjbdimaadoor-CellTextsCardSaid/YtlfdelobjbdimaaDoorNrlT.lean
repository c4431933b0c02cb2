/-
  fieldfareref02's Looks, by bytes.
-/
import Derived.Test.YtlfdelobjbdimaaDoorNrlS
set_option maxRecDepth 20000
namespace Go.Proofs.YtlfdelobjbdimaaDoor
set_option linter.unusedSimpArgs false
set_option linter.unusedVariables false
open Go.RowKit

/-! ### A text's bytes, back -/
def natsB (s : ByteArray) : List Nat := s.data.toList.map UInt8.toNat
theorem natsB_lt (s : ByteArray) : byteL (natsB s) := fun x hx => by
  obtain ⟨b, _, rfl⟩ := List.mem_map.1 hx
  exact b.toNat_lt
theorem strB_natsB (s : ByteArray) : strB (natsB s) = s := by
  apply ByteArray.ext
  show ((s.data.toList.map UInt8.toNat).map UInt8.ofNat).toArray = s.data
  rw [List.map_map, show UInt8.ofNat ∘ UInt8.toNat = id from funext fun b => UInt8.ofNat_toNat]
  simp
theorem natsB_strB {l : List Nat} (h : byteL l) : natsB (strB l) = l := by
  show (((l.map UInt8.ofNat).toArray).toList.map UInt8.toNat) = l
  rw [List.map_map]
  exact (List.map_congr_left (fun x hx => by have := h x hx; show (UInt8.ofNat x).toNat = id x; simp [UInt8.toNat_ofNat', Nat.mod_eq_of_lt this])).trans (List.map_id l)
theorem natsB_len (s : ByteArray) : (natsB s).length = s.size := by unfold natsB; rw [List.length_map]; rfl

/-! ### What ref02's Prefix answers, as a contract -/
structure Gots where
  ok : ByteArray → Prop
  ng : ByteArray → Bool
  es : ByteArray → List (List D)
  n : ByteArray → Int
  e : ByteArray → Int
  looks : ByteArray → Bool
def gotNg (l : List Nat) : Bool := !(scN l == 0) && (!bigN (scW l) && (scNeg l && !(numV (scW l) (scR l) == 0)))
def gotEs (l : List Nat) : List (List D) := bif scN l == 0 || bigN (scW l) then [] else dD (dig (numV (scW l) (scR l)))
def gotE (l : List Nat) : Int := bif !(scN l == 0) && bigN (scW l) then 2 else 0
theorem gotZ_eq (l : List Nat) : gotZ l = gotD (gotNg l) (gotEs l) ((scN l : Nat) : Int) (gotE l) := by
  unfold gotZ gotNg gotEs gotE
  cases h : scN l == 0 with
  | true =>
    rw [beq_iff_eq] at h
    rw [h]; rfl
  | false => cases bigN (scW l) <;> rfl
def gotsR : Gots where
  ok s := s.size < 100000
  ng s := gotNg (natsB s)
  es s := gotEs (natsB s)
  n s := ((scN (natsB s) : Nat) : Int)
  e s := gotE (natsB s)
  looks s := looksN (natsB s)
def gotC (G : Gots) : Orc := fun _ ds K => match ds with
  | [.v (.string s)] => G.ok s ∧ K (gotD (G.ng s) (G.es s) (G.n s) (G.e s))
  | _ => False
theorem gotC_ok : Sound 51 (gotC gotsR) := by
  intro ds K hK
  unfold gotC at hK
  split at hK
  · rename_i s
    obtain ⟨hs, hK⟩ := hK
    refine ⟨_, hK, fun K' h => ⟨hs, h⟩, ?_⟩
    have h := pf_ps (natsB s) (natsB_lt s) (by rw [natsB_len]; exact hs)
    rw [strB_natsB, gotZ_eq] at h
    exact h
  · exact hK.elim

/-! ### Looks -/
def rlL (G : Gots) (bl : Int → Bool) : List (Nat × Orc) := [(51, gotC G), (64, blankC bl)]
theorem rlL_ok : ∀ x ∈ rlL gotsR blankI, Sound x.1 x.2 := by
  intro x hx
  simp only [rlL, List.mem_cons, List.not_mem_nil, or_false] at hx
  rcases hx with rfl | rfl
  · exact gotC_ok
  · exact blankC_ok
def rlJ : List Nat := (List.range 18).map (· + 5)
def rlS (s : ByteArray) (ng : Bool) (es : List (List D)) (n e i : Int) (r : Bool) : List D := [.v (.string s), .undef, .v (.bool r), .obj 88 [.v (.bool ng), .list false 3 es, vI n, vI e], vI i] ++ List.replicate 18 .undef
set_option maxRecDepth 100000 in
theorem rl_round (G : Gots) (bl : Int → Bool) (s : ByteArray) (ng : Bool) (es : List (List D)) (n e i : Int) (K : AExit → List D → Prop) :
    roundJ Tryd.prog (orcOf (rlL G bl)) (fun _ _ _ => False) ([] ++ junk (loopN Tryd.f50 0)) (loopN Tryd.f50 0) (rlS s ng es n e i false) K = (
      bif decide (i < (s.size : Int)) then atS s i (bif !bl (byteAt s i.toNat) then K .ret (rlS s ng es n e i false) else K .normal (rlS s ng es n e (IntKind.i64.wrap (i + 1)) false)) else K (.exit 0) (rlS s ng es n e i false)) := by kernel_rfl
/-- What Looks comes to. -/
def rlE (G : Gots) (s : ByteArray) (X : D → Prop) (x : Bool) : Prop := bif G.n s == 0 then X (.v (.bool false)) else
  rlS s (G.ng s) (G.es s) (G.n s) (G.e s) (G.n s) false = rlS s (G.ng s) (G.es s) (G.n s) (G.e s) (G.n s) false ∧ X (.v (.bool x))
set_option maxRecDepth 100000 in
theorem rl_tree (G : Gots) (bl : Int → Bool) (s : ByteArray) (i : Int) (K : D → Prop) : callX Tryd.prog (ctxL (rlL G bl) [(50, 5, onceL rlJ (rlS s (G.ng s) (G.es s) (G.n s) (G.e s) (G.n s) false) (rlS s (G.ng s) (G.es s) (G.n s) (G.e s) i false) (.exit 0))] 0) 2 50 [.v (.string s)] K = (G.ok s ∧ rlE G s K true) := by kernel_rfl
set_option maxRecDepth 100000 in
theorem rl_tree2 (G : Gots) (bl : Int → Bool) (s : ByteArray) (i : Int) (K : D → Prop) : callX Tryd.prog (ctxL (rlL G bl) [(50, 5, onceL rlJ (rlS s (G.ng s) (G.es s) (G.n s) (G.e s) (G.n s) false) (rlS s (G.ng s) (G.es s) (G.n s) (G.e s) i false) .ret)] 0) 2 50 [.v (.string s)] K = (G.ok s ∧ rlE G s K false) := by kernel_rfl
/-- A loop that ends at the first byte that is none, or behind the last one. -/
theorem rl_runs (ng : Bool) (es : List (List D)) (n e : Int) (r : List Nat) : ∀ (p : List Nat), byteL (p ++ r) → (p ++ r).length < 1000000 →
    ∃ k i, Runs (rlL gotsR blankI) Tryd.f50 0 [] k (rlS (strB (p ++ r)) ng es n e (p.length : Int) false) (bif lead isBl r == r.length then .exit 0 else .ret) (rlS (strB (p ++ r)) ng es n e i false) := by
  induction r with
  | nil =>
    intro p _ _
    refine ⟨1, (p.length : Int), Runs.stop ⟨fun K h => ?_⟩⟩
    rw [rl_round, strB_size]
    have : decide ((p.length : Int) < ((p ++ []).length : Nat)) = false := by simp
    rw [this, cond_false]
    exact h
  | cons x r ih =>
    intro p hB hl
    have hlen : (p ++ x :: r).length = p.length + (r.length + 1) := by simp
    have hget : (p ++ x :: r).getD p.length 0 = x := by simp
    have g1 : decide ((p.length : Int) < ((p ++ x :: r).length : Nat)) = true := by rw [hlen, decide_eq_true_eq]; omega
    have hs : p ++ x :: r = (p ++ [x]) ++ r := by simp
    have hx := hB x (by simp)
    cases hb : isBl x with
    | true =>
      obtain ⟨k, i, hk⟩ := ih (p ++ [x]) (by rw [← hs]; exact hB) (by rw [← hs]; exact hl)
      have e1 : (lead isBl (x :: r) == (x :: r).length) = (lead isBl r == r.length) := by
        rw [lead_cons, hb, cond_true, List.length_cons, Bool.eq_iff_iff, beq_iff_eq, beq_iff_eq]; omega
      rw [← hs, ← e1] at hk
      have w6 : IntKind.i64.wrap ((p.length : Int) + 1) = ((p ++ [x]).length : Int) := by rw [wrap_small (by omega) (by omega)]; simp
      refine ⟨k + 1, i, Runs.go ⟨fun K h => ?_⟩ hk⟩
      rw [rl_round, strB_size, g1, cond_true, atS_eq _ _ (by omega), byteAt_at hB (by omega), hget, blankI_eq hx, hb, w6]
      exact h
    | false =>
      have e1 : (lead isBl (x :: r) == (x :: r).length) = false := by
        rw [lead_cons, hb, cond_false, beq_eq_false_iff_ne, List.length_cons]; omega
      rw [e1]
      refine ⟨1, (p.length : Int), Runs.ret ⟨fun K h => ?_⟩⟩
      rw [rl_round, strB_size, g1, cond_true, atS_eq _ _ (by omega), byteAt_at hB (by omega), hget, blankI_eq hx, hb]
      exact h
theorem gots_n (s : ByteArray) : gotsR.n s = ((scN (natsB s) : Nat) : Int) := rfl
theorem rlook_ps (s : ByteArray) (hs : s.size < 100000) : PS Tryd.prog 50 [.v (.string s)] (.v (.bool (gotsR.looks s))) := by
  have hB := natsB_lt s
  have hl : (natsB s).length < 100000 := by rw [natsB_len]; exact hs
  have hN := scN_le (natsB s)
  obtain ⟨k, i, hk⟩ := rl_runs (gotsR.ng s) (gotsR.es s) (gotsR.n s) (gotsR.e s) ((natsB s).drop (scN (natsB s))) ((natsB s).take (scN (natsB s))) (by rw [List.take_append_drop]; exact hB) (by rw [List.take_append_drop]; omega)
  rw [List.take_append_drop, List.length_take, Nat.min_eq_left hN, strB_natsB] at hk
  have e0 : gotsR.looks s = (decide (0 < scN (natsB s)) && (lead isBl ((natsB s).drop (scN (natsB s))) == ((natsB s).drop (scN (natsB s))).length)) := by
    show looksN (natsB s) = _
    unfold looksN
    congr 1
    rw [List.length_drop, Bool.eq_iff_iff, beq_iff_eq, beq_iff_eq]; omega
  have fin : ∀ x : Bool, (lead isBl ((natsB s).drop (scN (natsB s))) == ((natsB s).drop (scN (natsB s))).length) = x → gotsR.ok s ∧ rlE gotsR s (fun d => d = .v (.bool (gotsR.looks s))) x := by
    intro x hx
    refine ⟨hs, ?_⟩
    unfold rlE
    rw [gots_n]
    by_cases h0 : scN (natsB s) = 0
    · have g : (((scN (natsB s) : Nat) : Int) == 0) = true := by rw [h0]; rfl
      rw [g, cond_true, e0, decide_eq_false (by omega)]; rfl
    · have g : (((scN (natsB s) : Nat) : Int) == 0) = false := by rw [beq_eq_false_iff_ne]; omega
      rw [g, cond_false, e0, decide_eq_true (by omega), hx]
      exact ⟨rfl, rfl⟩
  cases hx : lead isBl ((natsB s).drop (scN (natsB s))) == ((natsB s).drop (scN (natsB s))).length with
  | true =>
    rw [hx, cond_true] at hk
    refine callX_eq (n := 2) (ctxL_ok (l := rlL gotsR blankI) (ll := [(50, 5, onceL rlJ (rlS s (gotsR.ng s) (gotsR.es s) (gotsR.n s) (gotsR.e s) (gotsR.n s) false) (rlS s (gotsR.ng s) (gotsR.es s) (gotsR.n s) (gotsR.e s) i false) (.exit 0))]) (fuel := 0) rlL_ok ?_) ?_
    · intro x hx
      obtain rfl := List.mem_singleton.1 hx
      exact LoopSound.mk (n := 0) Tryd.func50 rfl (by kernel_rfl) (by kernel_rfl) (Runs.once rlL_ok (by kernel_rfl) hk)
    · rw [rl_tree]
      exact fin true hx
  | false =>
    rw [hx, cond_false] at hk
    refine callX_eq (n := 2) (ctxL_ok (l := rlL gotsR blankI) (ll := [(50, 5, onceL rlJ (rlS s (gotsR.ng s) (gotsR.es s) (gotsR.n s) (gotsR.e s) (gotsR.n s) false) (rlS s (gotsR.ng s) (gotsR.es s) (gotsR.n s) (gotsR.e s) i false) .ret)]) (fuel := 0) rlL_ok ?_) ?_
    · intro x hx
      obtain rfl := List.mem_singleton.1 hx
      exact LoopSound.mk (n := 0) Tryd.func50 rfl (by kernel_rfl) (by kernel_rfl) (Runs.once rlL_ok (by kernel_rfl) hk)
    · rw [rl_tree2]
      exact fin false hx
def rlC (G : Gots) : Orc := fun _ ds K => match ds with
  | [.v (.string s)] => G.ok s ∧ K (.v (.bool (G.looks s)))
  | _ => False
theorem rlC_ok : Sound 50 (rlC gotsR) := by
  intro ds K hK
  unfold rlC at hK
  split at hK
  · rename_i s
    obtain ⟨hs, hK⟩ := hK
    exact ⟨_, hK, fun K' h => ⟨hs, h⟩, rlook_ps s hs⟩
  · exact hK.elim
end Go.Proofs.YtlfdelobjbdimaaDoor
