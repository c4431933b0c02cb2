/-
  The walk of fieldfareref02's Prefix: its loops' rounds.
-/
import Derived.Test.YtlfdelobjbdimaaDoorNrlM
import Derived.Test.YtlfdelobjbdimaaDoorDigG
set_option maxRecDepth 20000
namespace Go.Proofs.YtlfdelobjbdimaaDoor
set_option linter.unusedSimpArgs false
set_option linter.unusedVariables false
open Go.RowKit

def dgI (c : Int) : Bool := decide (c ≥ 48) && decide (c ≤ 57)
def digitC (dg : Int → Bool) : Orc := fun _ ds K => match ds with
  | [.v (.int .u8 c)] => K (.v (.bool (dg c)))
  | _ => False
set_option maxRecDepth 100000 in
theorem digit_tree (c : Int) (K : D → Prop) : callX Tryd.prog (ctxL [] [] 0) 2 65 [.v (.int .u8 c)] K = (
    bif decide (c ≥ 48) then K (.v (.bool (bif true then decide (c ≤ 57) else false))) else K (.v (.bool false))) := by kernel_rfl
theorem digitC_ok : Sound 65 (digitC dgI) := by
  intro ds K hK
  unfold digitC at hK
  split at hK
  · rename_i c
    refine ⟨_, hK, fun K' h => h, ?_⟩
    refine callX_eq (n := 2) (C := ctxL [] [] 0) (ctx0_ok none_ok) ?_
    rw [digit_tree]
    unfold dgI
    cases decide (c ≥ 48) <;> rfl
  · exact hK.elim
def pfL (bl dg : Int → Bool) : List (Nat × Orc) := [(64, blankC bl), (65, digitC dg)]
theorem pfL_ok : ∀ x ∈ pfL blankI dgI, Sound x.1 x.2 := by
  intro x hx
  simp only [pfL, List.mem_cons, List.not_mem_nil, or_false] at hx
  rcases hx with rfl | rfl
  · exact blankC_ok
  · exact digitC_ok
/-- Prefix's frame: the place, the sign, the two texts, a place, the digits, three places. -/
def pfS (s : ByteArray) (i neg w r k d k2 k3 n : D) : List D := [.v (.string s), .undef, .obj 88 [.v (.bool false), .list true 3 [], .v (.int .i64 0), .v (.int .i64 0)], i, neg, w, r, k, d, k2, .undef, k3, n] ++ List.replicate 159 .undef
def vI (i : Int) : D := .v (.int .i64 i)
def vS (s : ByteArray) : D := .v (.string s)
def atS (s : ByteArray) (i : Int) (X : Prop) : Prop := bif decide (0 ≤ i) && decide (i < (s.size : Int)) then X else False
set_option maxRecDepth 100000 in
theorem pf_round0 (bl dg : Int → Bool) (s : ByteArray) (i : Int) (K : AExit → List D → Prop) :
    roundJ Tryd.prog (orcOf (pfL bl dg)) (fun _ _ _ => False) ([] ++ junk (loopN Tryd.f51 0)) (loopN Tryd.f51 0) (pfS s (vI i) .undef .undef .undef .undef .undef .undef .undef .undef) K = (
      bif decide (i < (s.size : Int)) then atS s i (bif bif true then bl (byteAt s i.toNat) else false then K .normal (pfS s (vI (IntKind.i64.wrap (i + 1))) .undef .undef .undef .undef .undef .undef .undef .undef) else K (.exit 0) (pfS s (vI i) .undef .undef .undef .undef .undef .undef .undef .undef))
      else K (.exit 0) (pfS s (vI i) .undef .undef .undef .undef .undef .undef .undef .undef)) := by kernel_rfl
set_option maxRecDepth 100000 in
theorem pf_round1 (bl dg : Int → Bool) (s w : ByteArray) (neg : Bool) (i : Int) (K : AExit → List D → Prop) :
    roundJ Tryd.prog (orcOf (pfL bl dg)) (fun _ _ _ => False) ([] ++ junk (loopN Tryd.f51 1)) (loopN Tryd.f51 1) (pfS s (vI i) (.v (.bool neg)) (vS w) .undef .undef .undef .undef .undef .undef) K = (
      bif decide (i < (s.size : Int)) then atS s i (bif bif true then dg (byteAt s i.toNat) else false then slS s i (IntKind.i64.wrap (i + 1)) fun t => catS w t fun w' => K .normal (pfS s (vI (IntKind.i64.wrap (i + 1))) (.v (.bool neg)) (vS w') .undef .undef .undef .undef .undef .undef)
        else K (.exit 2) (pfS s (vI i) (.v (.bool neg)) (vS w) .undef .undef .undef .undef .undef .undef))
      else K (.exit 2) (pfS s (vI i) (.v (.bool neg)) (vS w) .undef .undef .undef .undef .undef .undef)) := by kernel_rfl
set_option maxRecDepth 100000 in
theorem pf_round2 (bl dg : Int → Bool) (s w r : ByteArray) (neg : Bool) (i k : Int) (K : AExit → List D → Prop) :
    roundJ Tryd.prog (orcOf (pfL bl dg)) (fun _ _ _ => False) ([] ++ junk (loopN Tryd.f51 2)) (loopN Tryd.f51 2) (pfS s (vI i) (.v (.bool neg)) (vS w) (vS r) (vI k) .undef .undef .undef .undef) K = (
      bif decide (k < (s.size : Int)) then atS s k (bif bif true then dg (byteAt s k.toNat) else false then slS s k (IntKind.i64.wrap (k + 1)) fun t => catS r t fun r' => K .normal (pfS s (vI i) (.v (.bool neg)) (vS w) (vS r') (vI (IntKind.i64.wrap (k + 1))) .undef .undef .undef .undef)
        else K (.exit 4) (pfS s (vI i) (.v (.bool neg)) (vS w) (vS r) (vI k) .undef .undef .undef .undef))
      else K (.exit 4) (pfS s (vI i) (.v (.bool neg)) (vS w) (vS r) (vI k) .undef .undef .undef .undef)) := by kernel_rfl
/-- A byte's digit. -/
def dgAt (s : ByteArray) (k : Int) : Int := IntKind.i64.wrap (IntKind.i64.wrap (byteAt s k.toNat) - 48)
def putD (es : List (List D)) (x : Int) (K : List (List D) → Prop) : Prop := roomD es x (K (es ++ [[.v (.int .i64 x)]]))
set_option maxRecDepth 100000 in
theorem pf_round3 (bl dg : Int → Bool) (s w r : ByteArray) (neg : Bool) (i k : Int) (es : List (List D)) (K : AExit → List D → Prop) :
    roundJ Tryd.prog (orcOf (pfL bl dg)) (fun _ _ _ => False) ([10] ++ junk (loopN Tryd.f51 3)) (loopN Tryd.f51 3) (pfS s (vI i) (.v (.bool neg)) (vS w) (vS r) .undef (.list true 3 es) (vI k) .undef .undef) K = (
      bif decide (k ≥ 0) then bif decide (k < (r.size : Int)) then atS r k (putD es (dgAt r k) fun es' => K .normal (pfS s (vI i) (.v (.bool neg)) (vS w) (vS r) .undef (.list true 3 es') (vI (IntKind.i64.wrap (k - 1))) .undef .undef))
        else putD es 0 fun es' => K .normal (pfS s (vI i) (.v (.bool neg)) (vS w) (vS r) .undef (.list true 3 es') (vI (IntKind.i64.wrap (k - 1))) .undef .undef)
      else K (.exit 6) (pfS s (vI i) (.v (.bool neg)) (vS w) (vS r) .undef (.list true 3 es) (vI k) .undef .undef)) := by kernel_rfl
set_option maxRecDepth 100000 in
theorem pf_round4 (bl dg : Int → Bool) (s w r : ByteArray) (neg : Bool) (i k : Int) (es : List (List D)) (K : AExit → List D → Prop) :
    roundJ Tryd.prog (orcOf (pfL bl dg)) (fun _ _ _ => False) ([] ++ junk (loopN Tryd.f51 4)) (loopN Tryd.f51 4) (pfS s (vI i) (.v (.bool neg)) (vS w) (vS r) .undef (.list true 3 es) .undef (vI k) .undef) K = (
      bif decide (k ≥ 0) then atS w k (putD es (dgAt w k) fun es' => K .normal (pfS s (vI i) (.v (.bool neg)) (vS w) (vS r) .undef (.list true 3 es') .undef (vI (IntKind.i64.wrap (k - 1))) .undef))
      else K (.exit 8) (pfS s (vI i) (.v (.bool neg)) (vS w) (vS r) .undef (.list true 3 es) .undef (vI k) .undef)) := by kernel_rfl
set_option maxRecDepth 100000 in
theorem pf_round5 (bl dg : Int → Bool) (s : ByteArray) (neg : Bool) (i n : Int) (es : List (List D)) (K : AExit → List D → Prop) :
    roundJ Tryd.prog (orcOf (pfL bl dg)) (fun _ _ _ => False) ([] ++ junk (loopN Tryd.f51 5)) (loopN Tryd.f51 5) (pfS s (vI i) (.v (.bool neg)) .undef .undef .undef (.list true 3 es) .undef .undef (vI n)) K = (
      bif decide (n > 0) then inR es (IntKind.i64.wrap (n - 1)) (bif bif true then getI es (IntKind.i64.wrap (n - 1)) == 0 else false then K .normal (pfS s (vI i) (.v (.bool neg)) .undef .undef .undef (.list true 3 es) .undef .undef (vI (IntKind.i64.wrap (n - 1)))) else K (.exit 10) (pfS s (vI i) (.v (.bool neg)) .undef .undef .undef (.list true 3 es) .undef .undef (vI n)))
      else K (.exit 10) (pfS s (vI i) (.v (.bool neg)) .undef .undef .undef (.list true 3 es) .undef .undef (vI n))) := by kernel_rfl

/-! ### The loops, gone round -/
theorem blankI_eq {x : Nat} (h : x < 256) : blankI (x : Int) = isBl x := by
  rw [bl_eq h]
  unfold blankI
  rw [Bool.eq_iff_iff]
  simp only [Bool.or_eq_true, Bool.and_eq_true, beq_iff_eq, decide_eq_true_eq]
  omega
theorem dgI_eq {x : Nat} (h : x < 256) : dgI (x : Int) = isDg x := by
  rw [dg_eq h]
  unfold dgI
  rw [Bool.eq_iff_iff]
  simp only [Bool.and_eq_true, decide_eq_true_eq]
  omega
theorem atS_eq (l : List Nat) (i : Nat) (h : i < l.length) (X : Prop) : atS (strB l) (i : Int) X = X := by
  unfold atS
  have g1 : decide ((i : Int) < ((strB l).size : Int)) = true := by rw [strB_size, decide_eq_true_eq]; omega
  have g2 : decide (0 ≤ (i : Int)) = true := by rw [decide_eq_true_eq]; omega
  rw [g1, g2]; rfl
theorem byteAt_at {l : List Nat} (hB : byteL l) {i : Nat} (h : i < l.length) : byteAt (strB l) ((i : Int)).toNat = ((l.getD i 0 : Nat) : Int) := by
  rw [Int.toNat_natCast]; exact byteAt_strB l i hB h
theorem slS_one (p r : List Nat) (x : Nat) (K : ByteArray → Prop) : slS (strB (p ++ x :: r)) (p.length : Int) ((p.length + 1 : Nat) : Int) K = K (strB [x]) := by
  unfold slS
  have h2 : decide (0 ≤ (p.length : Int)) = true := by rw [decide_eq_true_eq]; omega
  have h3 : decide ((p.length : Int) ≤ ((p.length + 1 : Nat) : Int)) = true := by rw [decide_eq_true_eq]; omega
  have h4 : decide (((p.length + 1 : Nat) : Int) ≤ ((strB (p ++ x :: r)).size : Int)) = true := by rw [strB_size, decide_eq_true_eq, List.length_append, List.length_cons]; omega
  have e : ((p ++ x :: r).take (p.length + 1)).drop p.length = [x] := by
    rw [show p ++ x :: r = (p ++ [x]) ++ r by simp, show p.length + 1 = (p ++ [x]).length by simp, List.take_left, List.drop_left]
  rw [h2, h3, h4, Int.toNat_natCast, Int.toNat_natCast, strB_extract, e]
  rfl
theorem pf_runs0 (r : List Nat) : ∀ (p : List Nat), byteL (p ++ r) → (p ++ r).length < 1000000 →
    ∃ k, Runs (pfL blankI dgI) Tryd.f51 0 [] k (pfS (strB (p ++ r)) (vI (p.length : Int)) .undef .undef .undef .undef .undef .undef .undef .undef) (.exit 0) (pfS (strB (p ++ r)) (vI ((p.length + lead isBl r : Nat) : Int)) .undef .undef .undef .undef .undef .undef .undef .undef) := by
  induction r with
  | nil =>
    intro p _ _
    refine ⟨1, Runs.stop ⟨fun K h => ?_⟩⟩
    rw [pf_round0, strB_size]
    have : decide ((p.length : Int) < ((p ++ []).length : Nat)) = false := by simp
    rw [this, cond_false]
    exact h
  | cons x r ih =>
    intro p hB hl
    have hlen : (p ++ x :: r).length = p.length + (r.length + 1) := by simp
    have hget : (p ++ x :: r).getD p.length 0 = x := by simp
    have g1 : decide ((p.length : Int) < ((p ++ x :: r).length : Nat)) = true := by rw [hlen, decide_eq_true_eq]; omega
    have hs : p ++ x :: r = (p ++ [x]) ++ r := by simp
    have hx := hB x (by simp)
    cases hb : isBl x with
    | true =>
      obtain ⟨k, hk⟩ := ih (p ++ [x]) (by rw [← hs]; exact hB) (by rw [← hs]; exact hl)
      have hl2 : (p ++ [x]).length + lead isBl r = p.length + lead isBl (x :: r) := by rw [lead_cons, hb]; simp; omega
      rw [hl2, ← hs] at hk
      have w6 : IntKind.i64.wrap ((p.length : Int) + 1) = ((p ++ [x]).length : Int) := by rw [wrap_small (by omega) (by omega)]; simp
      refine ⟨k + 1, Runs.go ⟨fun K h => ?_⟩ hk⟩
      rw [pf_round0, strB_size, g1, cond_true, atS_eq _ _ (by omega), byteAt_at hB (by omega), hget, blankI_eq hx, hb, w6]
      exact h
    | false =>
      have hl2 : lead isBl (x :: r) = 0 := by rw [lead_cons, hb]; rfl
      refine ⟨1, Runs.stop ⟨fun K h => ?_⟩⟩
      rw [hl2] at h
      rw [pf_round0, strB_size, g1, cond_true, atS_eq _ _ (by omega), byteAt_at hB (by omega), hget, blankI_eq hx, hb]
      exact h
theorem pf_runs1 (neg : Bool) (r : List Nat) : ∀ (p w : List Nat), byteL (p ++ r) → (p ++ r).length + (w.length + r.length) < 1000000 →
    ∃ k, Runs (pfL blankI dgI) Tryd.f51 1 [] k (pfS (strB (p ++ r)) (vI (p.length : Int)) (.v (.bool neg)) (vS (strB w)) .undef .undef .undef .undef .undef .undef) (.exit 2)
      (pfS (strB (p ++ r)) (vI ((p.length + lead isDg r : Nat) : Int)) (.v (.bool neg)) (vS (strB (w ++ r.take (lead isDg r)))) .undef .undef .undef .undef .undef .undef) := by
  induction r with
  | nil =>
    intro p w _ _
    refine ⟨1, Runs.stop ⟨fun K h => ?_⟩⟩
    rw [pf_round1, strB_size]
    have : decide ((p.length : Int) < ((p ++ []).length : Nat)) = false := by simp
    rw [this, cond_false]
    rw [List.take_nil, List.append_nil w] at h
    exact h
  | cons x r ih =>
    intro p w hB hl
    have hlen : (p ++ x :: r).length = p.length + (r.length + 1) := by simp
    have hget : (p ++ x :: r).getD p.length 0 = x := by simp
    have g1 : decide ((p.length : Int) < ((p ++ x :: r).length : Nat)) = true := by rw [hlen, decide_eq_true_eq]; omega
    have hs : p ++ x :: r = (p ++ [x]) ++ r := by simp
    have hx := hB x (by simp)
    have w6 : IntKind.i64.wrap ((p.length : Int) + 1) = ((p.length + 1 : Nat) : Int) := wrap_nat (n := p.length + 1) (by omega)
    cases hb : isDg x with
    | true =>
      obtain ⟨k, hk⟩ := ih (p ++ [x]) (w ++ [x]) (by rw [← hs]; exact hB) (by rw [← hs, hlen, List.length_append, List.length_singleton]; rw [hlen, List.length_cons] at hl; omega)
      have hl2 : (p ++ [x]).length + lead isDg r = p.length + lead isDg (x :: r) := by rw [lead_cons, hb]; simp; omega
      have hl3 : (w ++ [x]) ++ r.take (lead isDg r) = w ++ (x :: r).take (lead isDg (x :: r)) := by rw [lead_cons, hb, cond_true, List.take_succ_cons]; simp
      rw [hl2, hl3, ← hs] at hk
      have e1 : ((p ++ [x]).length : Int) = ((p.length + 1 : Nat) : Int) := by simp
      rw [e1] at hk
      refine ⟨k + 1, Runs.go ⟨fun K h => ?_⟩ hk⟩
      rw [pf_round1, strB_size, g1, cond_true, atS_eq _ _ (by omega), byteAt_at hB (by omega), hget, dgI_eq hx, hb, w6, slS_one, catS_eq w [x] (by rw [List.length_singleton]; rw [hlen, List.length_cons] at hl; omega)]
      exact h
    | false =>
      have hl2 : lead isDg (x :: r) = 0 := by rw [lead_cons, hb]; rfl
      refine ⟨1, Runs.stop ⟨fun K h => ?_⟩⟩
      rw [hl2, List.take_zero, List.append_nil] at h
      rw [pf_round1, strB_size, g1, cond_true, atS_eq _ _ (by omega), byteAt_at hB (by omega), hget, dgI_eq hx, hb]
      exact h
theorem pf_runs2 (neg : Bool) (i : Int) (w0 : ByteArray) (r : List Nat) : ∀ (p w : List Nat), byteL (p ++ r) → (p ++ r).length + (w.length + r.length) < 1000000 →
    ∃ k, Runs (pfL blankI dgI) Tryd.f51 2 [] k (pfS (strB (p ++ r)) (vI i) (.v (.bool neg)) (vS w0) (vS (strB w)) (vI (p.length : Int)) .undef .undef .undef .undef) (.exit 4)
      (pfS (strB (p ++ r)) (vI i) (.v (.bool neg)) (vS w0) (vS (strB (w ++ r.take (lead isDg r)))) (vI ((p.length + lead isDg r : Nat) : Int)) .undef .undef .undef .undef) := by
  induction r with
  | nil =>
    intro p w _ _
    refine ⟨1, Runs.stop ⟨fun K h => ?_⟩⟩
    rw [pf_round2, strB_size]
    have : decide ((p.length : Int) < ((p ++ []).length : Nat)) = false := by simp
    rw [this, cond_false]
    rw [List.take_nil, List.append_nil w] at h
    exact h
  | cons x r ih =>
    intro p w hB hl
    have hlen : (p ++ x :: r).length = p.length + (r.length + 1) := by simp
    have hget : (p ++ x :: r).getD p.length 0 = x := by simp
    have g1 : decide ((p.length : Int) < ((p ++ x :: r).length : Nat)) = true := by rw [hlen, decide_eq_true_eq]; omega
    have hs : p ++ x :: r = (p ++ [x]) ++ r := by simp
    have hx := hB x (by simp)
    have w6 : IntKind.i64.wrap ((p.length : Int) + 1) = ((p.length + 1 : Nat) : Int) := wrap_nat (n := p.length + 1) (by omega)
    cases hb : isDg x with
    | true =>
      obtain ⟨k, hk⟩ := ih (p ++ [x]) (w ++ [x]) (by rw [← hs]; exact hB) (by rw [← hs, hlen, List.length_append, List.length_singleton]; rw [hlen, List.length_cons] at hl; omega)
      have hl2 : (p ++ [x]).length + lead isDg r = p.length + lead isDg (x :: r) := by rw [lead_cons, hb]; simp; omega
      have hl3 : (w ++ [x]) ++ r.take (lead isDg r) = w ++ (x :: r).take (lead isDg (x :: r)) := by rw [lead_cons, hb, cond_true, List.take_succ_cons]; simp
      rw [hl2, hl3, ← hs] at hk
      have e1 : ((p ++ [x]).length : Int) = ((p.length + 1 : Nat) : Int) := by simp
      rw [e1] at hk
      refine ⟨k + 1, Runs.go ⟨fun K h => ?_⟩ hk⟩
      rw [pf_round2, strB_size, g1, cond_true, atS_eq _ _ (by omega), byteAt_at hB (by omega), hget, dgI_eq hx, hb, w6, slS_one, catS_eq w [x] (by rw [List.length_singleton]; rw [hlen, List.length_cons] at hl; omega)]
      exact h
    | false =>
      have hl2 : lead isDg (x :: r) = 0 := by rw [lead_cons, hb]; rfl
      refine ⟨1, Runs.stop ⟨fun K h => ?_⟩⟩
      rw [hl2, List.take_zero, List.append_nil] at h
      rw [pf_round2, strB_size, g1, cond_true, atS_eq _ _ (by omega), byteAt_at hB (by omega), hget, dgI_eq hx, hb]
      exact h
/-- Digits from a place down. -/
def dgs (r : List Nat) : Nat → List Nat
  | 0 => []
  | j + 1 => (r.getD j 0 - 48) :: dgs r j
theorem byteL_dg' {a : List Nat} (h : allDg a) : byteL a := fun x hx => by have := h x hx; omega
theorem dgAt_eq {r : List Nat} (hd : allDg r) {k : Nat} (h : k < r.length) : dgAt (strB r) (k : Int) = ((r.getD k 0 - 48 : Nat) : Int) := by
  unfold dgAt
  have hx : 48 ≤ r.getD k 0 ∧ r.getD k 0 ≤ 57 := by
    rw [List.getD_eq_getElem?_getD, List.getElem?_eq_getElem h]; exact hd _ (List.getElem_mem h)
  have w1 : IntKind.i64.wrap ((r.getD k 0 : Nat) : Int) = ((r.getD k 0 : Nat) : Int) := wrap_nat (n := r.getD k 0) (by omega)
  rw [byteAt_at (byteL_dg' hd) h, w1, wrap_small (by omega) (by omega)]
  omega
theorem putD_eq (d : List Nat) (x : Nat) (h : d.length < 1000000) (K : List (List D) → Prop) : putD (dD d) (x : Int) K = K (dD (d ++ [x])) := by
  unfold putD
  rw [roomD_eq d h, dD_app d [x]]
  rfl
theorem pf_runs3 (s w : ByteArray) (neg : Bool) (i : Int) (r : List Nat) (hd : allDg r) (j : Nat) : ∀ (d : List Nat), d.length + j < 1000000 →
    ∃ k, Runs (pfL blankI dgI) Tryd.f51 3 [10] k (pfS s (vI i) (.v (.bool neg)) (vS w) (vS (strB r)) .undef (.list true 3 (dD d)) (vI ((j : Int) - 1)) .undef .undef) (.exit 6)
      (pfS s (vI i) (.v (.bool neg)) (vS w) (vS (strB r)) .undef (.list true 3 (dD (d ++ dgs r j))) (vI (-1)) .undef .undef) := by
  induction j with
  | zero =>
    intro d _
    refine ⟨1, Runs.stop ⟨fun K h => ?_⟩⟩
    rw [pf_round3]
    have : decide (((0 : Nat) : Int) - 1 ≥ 0) = false := by decide
    rw [this, cond_false]
    rw [show d ++ dgs r 0 = d from List.append_nil d] at h
    exact h
  | succ j ih =>
    intro d hl
    obtain ⟨k, hk⟩ := ih (d ++ [r.getD j 0 - 48]) (by rw [List.length_append, List.length_singleton]; omega)
    have e : (d ++ [r.getD j 0 - 48]) ++ dgs r j = d ++ dgs r (j + 1) := by rw [dgs]; simp
    rw [e] at hk
    have w6 : IntKind.i64.wrap ((j : Int) - 1) = (j : Int) - 1 := wrap_small (by omega) (by omega)
    refine ⟨k + 1, Runs.go ⟨fun K h => ?_⟩ hk⟩
    rw [show ((j + 1 : Nat) : Int) - 1 = (j : Int) by omega, pf_round3, ge_cast, cond_true, strB_size, w6]
    by_cases hj : j < r.length
    · have g : decide ((j : Int) < (r.length : Nat)) = true := by rw [decide_eq_true_eq]; omega
      rw [g, cond_true, atS_eq _ _ hj, dgAt_eq hd hj, putD_eq _ _ (by omega)]
      exact h
    · have g : decide ((j : Int) < (r.length : Nat)) = false := by rw [decide_eq_false_iff_not]; omega
      have hz : r.getD j 0 - 48 = 0 := by rw [getD_out r j hj]
      rw [hz] at h
      have hp := putD_eq d 0 (by omega)
      rw [g, cond_false]
      have hp2 := hp fun es' => K .normal (pfS s (vI i) (.v (.bool neg)) (vS w) (vS (strB r)) .undef (.list true 3 es') (vI ((j : Int) - 1)) .undef .undef)
      rw [show (((0 : Nat) : Int)) = 0 from rfl] at hp2
      rw [hp2]
      exact h
theorem pf_runs4 (s r : ByteArray) (neg : Bool) (i : Int) (w : List Nat) (hd : allDg w) (j : Nat) : ∀ (d : List Nat), j ≤ w.length → d.length + j < 1000000 →
    ∃ k, Runs (pfL blankI dgI) Tryd.f51 4 [] k (pfS s (vI i) (.v (.bool neg)) (vS (strB w)) (vS r) .undef (.list true 3 (dD d)) .undef (vI ((j : Int) - 1)) .undef) (.exit 8)
      (pfS s (vI i) (.v (.bool neg)) (vS (strB w)) (vS r) .undef (.list true 3 (dD (d ++ dgs w j))) .undef (vI (-1)) .undef) := by
  induction j with
  | zero =>
    intro d _ _
    refine ⟨1, Runs.stop ⟨fun K h => ?_⟩⟩
    rw [pf_round4]
    have : decide (((0 : Nat) : Int) - 1 ≥ 0) = false := by decide
    rw [this, cond_false]
    rw [show d ++ dgs w 0 = d from List.append_nil d] at h
    exact h
  | succ j ih =>
    intro d hw hl
    obtain ⟨k, hk⟩ := ih (d ++ [w.getD j 0 - 48]) (by omega) (by rw [List.length_append, List.length_singleton]; omega)
    have e : (d ++ [w.getD j 0 - 48]) ++ dgs w j = d ++ dgs w (j + 1) := by rw [dgs]; simp
    rw [e] at hk
    have w6 : IntKind.i64.wrap ((j : Int) - 1) = (j : Int) - 1 := wrap_small (by omega) (by omega)
    refine ⟨k + 1, Runs.go ⟨fun K h => ?_⟩ hk⟩
    rw [show ((j + 1 : Nat) : Int) - 1 = (j : Int) by omega, pf_round4, ge_cast, cond_true, w6, atS_eq _ _ (by omega), dgAt_eq hd (by omega), putD_eq _ _ (by omega)]
    exact h
theorem pf_runs5 (s : ByteArray) (neg : Bool) (i : Int) (l : List Nat) (hl : l.length < 1000000) (j : Nat) : j ≤ l.length →
    ∃ k, Runs (pfL blankI dgI) Tryd.f51 5 [] k (pfS s (vI i) (.v (.bool neg)) .undef .undef .undef (.list true 3 (dD l)) .undef .undef (vI (j : Int))) (.exit 10)
      (pfS s (vI i) (.v (.bool neg)) .undef .undef .undef (.list true 3 (dD l)) .undef .undef (vI ((cutN l j : Nat) : Int))) := by
  induction j with
  | zero =>
    intro _
    refine ⟨1, Runs.stop ⟨fun K h => ?_⟩⟩
    rw [pf_round5]
    have : decide (((0 : Nat) : Int) > 0) = false := by decide
    rw [this, cond_false]
    exact h
  | succ j ih =>
    intro hj
    obtain ⟨k, hk⟩ := ih (by omega)
    have g1 : decide (((j + 1 : Nat) : Int) > 0) = true := by rw [decide_eq_true_eq]; omega
    have w1 : IntKind.i64.wrap (((j + 1 : Nat) : Int) - 1) = (j : Int) := by rw [wrap_small (by omega) (by omega)]; omega
    by_cases h0 : l.getD j 0 = 0
    · have e : cutN l (j + 1) = cutN l j := by rw [cutN, if_pos h0]
      rw [e]
      refine ⟨k + 1, Runs.go ⟨fun K h => ?_⟩ hk⟩
      have hz : (((l.getD j 0 : Nat) : Int) == 0) = true := by rw [h0]; rfl
      rw [pf_round5, g1, cond_true, w1, inR_eq l j (by omega), getI_eq l j (by omega), hz]
      exact h
    · have e : cutN l (j + 1) = j + 1 := by rw [cutN, if_neg h0]
      rw [e]
      refine ⟨1, Runs.stop ⟨fun K h => ?_⟩⟩
      have hz : (((l.getD j 0 : Nat) : Int) == 0) = false := by rw [beq_eq_false_iff_ne]; omega
      rw [pf_round5, g1, cond_true, w1, inR_eq l j (by omega), getI_eq l j (by omega), hz]
      exact h
/-! ### What the digits come to -/
theorem num_dgs_w (w : List Nat) : ∀ j, j ≤ w.length → num (dgs w j) = decN (w.take j) 0 := by
  intro j
  induction j with
  | zero => intro _; rfl
  | succ j ih =>
    intro h
    have e : w.take (j + 1) = w.take j ++ [w.getD j 0] := by
      rw [List.take_add_one, List.getD_eq_getElem?_getD, List.getElem?_eq_getElem (by omega)]; rfl
    rw [e, decN_snoc, ← ih (by omega), dgs]
    simp only [num]
    omega
end Go.Proofs.YtlfdelobjbdimaaDoor
