/-
  The walk of fieldfareref02's Text, and what it comes to.
-/
import Derived.Test.YthhfnggigmfmjaaDoorNrlP
namespace Go.Proofs.YthhfnggigmfmjaaDoor
set_option linter.unusedSimpArgs false
set_option linter.unusedVariables false
open Go.RowKit

def lsI (o : Bool) (es : List (List D)) : D := .list o 3 es
def rtxS (b : Bool) (x y : Int) (es : List (List D)) (d s i f k : D) : List D := [.agg [.v (.bool b), .v (.int .u64 x), .v (.int .u64 y)], .obj 24 [.v (.bool b), .v (.int .u64 x), .v (.int .u64 y)], .v (.string ⟨#[]⟩), .obj 43 [.v (.bool b), .list false 3 es], d, s, i, f, k] ++ List.replicate 66 .undef
def rtxJ : List Nat := (List.range 66).map (· + 9)
def dgS (ds : List (List D)) (i : Int) : ByteArray := strOfD [[.v (.int .u8 (IntKind.u8.wrap (IntKind.i64.wrap (48 + getI ds i))))]]
def padK (ds : List (List D)) (K : List (List D) → Prop) : Prop := bif decide ((([] : List (List D)).length + ds.length) * (Tryd.prog.bytesOf 3 + 1) ≤ 70368744177664) then roomD ([] ++ ds) 0 (K ([] ++ ds ++ [[.v (.int .i64 0)]])) else False
set_option maxRecDepth 100000 in
theorem rtx_round0 (b : Bool) (x y : Int) (o : Bool) (es ds : List (List D)) (K : AExit → List D → Prop) : roundJ Tryd.prog (orcOf []) (fun _ _ _ => False) ([] ++ junk (loopN Tryd.f11 0)) (loopN Tryd.f11 0) (rtxS b x y es (lsI o ds) .undef .undef .undef .undef) K = (
    bif decide ((ds.length : Int) < 7) then padK ds fun ds' => K .normal (rtxS b x y es (lsI true ds') .undef .undef .undef .undef) else K (.exit 0) (rtxS b x y es (lsI o ds) .undef .undef .undef .undef)) := by kernel_rfl
set_option maxRecDepth 100000 in
theorem rtx_round1 (b : Bool) (x y : Int) (o : Bool) (es ds : List (List D)) (s : ByteArray) (i : Int) (K : AExit → List D → Prop) : roundJ Tryd.prog (orcOf []) (fun _ _ _ => False) ([] ++ junk (loopN Tryd.f11 1)) (loopN Tryd.f11 1) (rtxS b x y es (lsI o ds) (vS s) (vI i) .undef .undef) K = (
    bif decide (i < (ds.length : Int)) then inR ds i (catS (dgS ds i) s fun s' => K .normal (rtxS b x y es (lsI o ds) (vS s') (vI (IntKind.i64.wrap (i + 1))) .undef .undef)) else K (.exit 2) (rtxS b x y es (lsI o ds) (vS s) (vI i) .undef .undef)) := by kernel_rfl
set_option maxRecDepth 100000 in
theorem rtx_round2 (b : Bool) (x y : Int) (o : Bool) (es ds : List (List D)) (s : ByteArray) (i : Int) (K : AExit → List D → Prop) : roundJ Tryd.prog (orcOf []) (fun _ _ _ => False) ([] ++ junk (loopN Tryd.f11 2)) (loopN Tryd.f11 2) (rtxS b x y es (lsI o ds) (vS s) .undef (vI i) .undef) K = (
    bif decide (i < 6) then inR ds i (bif bif true then getI ds i == 0 else false then K .normal (rtxS b x y es (lsI o ds) (vS s) .undef (vI (IntKind.i64.wrap (i + 1))) .undef) else K (.exit 4) (rtxS b x y es (lsI o ds) (vS s) .undef (vI i) .undef)) else K (.exit 4) (rtxS b x y es (lsI o ds) (vS s) .undef (vI i) .undef)) := by kernel_rfl
set_option maxRecDepth 100000 in
theorem rtx_round3 (b : Bool) (x y : Int) (o : Bool) (es ds : List (List D)) (s : ByteArray) (i k : Int) (K : AExit → List D → Prop) : roundJ Tryd.prog (orcOf []) (fun _ _ _ => False) ([] ++ junk (loopN Tryd.f11 3)) (loopN Tryd.f11 3) (rtxS b x y es (lsI o ds) (vS s) .undef (vI i) (vI k)) K = (
    bif decide (k ≥ i) then inR ds k (catS s (dgS ds k) fun s' => K .normal (rtxS b x y es (lsI o ds) (vS s') .undef (vI i) (vI (IntKind.i64.wrap (k - 1))))) else K (.exit 6) (rtxS b x y es (lsI o ds) (vS s) .undef (vI i) (vI k))) := by kernel_rfl
def rtxLL (b : Bool) (x y : Int) (o : Bool) (es ps : List (List D)) (s1 s2 s3 : ByteArray) (fr : Int) : List (Nat × Nat × (List D → (AExit → List D → Prop) → Prop)) := [
  (11, 5, onceL rtxJ (rtxS b x y es (lsI false es) .undef .undef .undef .undef) (rtxS b x y es (lsI o ps) .undef .undef .undef .undef) (.exit 0)),
  (11, 9, onceL rtxJ (rtxS b x y es (lsI o ps) (vS ⟨#[]⟩) (vI 6) .undef .undef) (rtxS b x y es (lsI o ps) (vS s1) (vI ps.length) .undef .undef) (.exit 2)),
  (11, 13, onceL (6 :: rtxJ) (rtxS b x y es (lsI o ps) (vS s1) .undef (vI 0) .undef) (rtxS b x y es (lsI o ps) (vS s1) .undef (vI fr) .undef) (.exit 4)),
  (11, 18, onceL (6 :: rtxJ) (rtxS b x y es (lsI o ps) (vS s2) .undef (vI fr) (vI 5)) (rtxS b x y es (lsI o ps) (vS s3) .undef (vI fr) (vI (fr - 1))) (.exit 6))]
def rtxFin (b : Bool) (s : ByteArray) (K : D → Prop) : Prop := bif b then catS ⟨#[45]⟩ s fun r => K (vS r) else K (vS s)
def rtxEnd (b : Bool) (x y : Int) (o : Bool) (es ps : List (List D)) (s1 s2 s3 : ByteArray) (fr : Int) (K : D → Prop) : Prop :=
  rtxS b x y es (lsI false es) .undef .undef .undef .undef = rtxS b x y es (lsI false es) .undef .undef .undef .undef ∧
  rtxS b x y es (lsI o ps) (vS ⟨#[]⟩) (vI 6) .undef .undef = rtxS b x y es (lsI o ps) (vS ⟨#[]⟩) (vI 6) .undef .undef ∧
  rtxS b x y es (lsI o ps) (vS s1) .undef (vI 0) .undef = rtxS b x y es (lsI o ps) (vS s1) .undef (vI 0) .undef ∧
  bif decide (fr < 6) then catS s1 ⟨#[46]⟩ fun s => rtxS b x y es (lsI o ps) (vS s) .undef (vI fr) (vI 5) = rtxS b x y es (lsI o ps) (vS s2) .undef (vI fr) (vI 5) ∧ rtxFin b s3 K else rtxFin b s1 K
def rtxL (M : Ops) (N : Nums) (mag : Int → Int → Nat) : List (Nat × Orc) := [(29, goodC M), (22, ofO N mag)]
set_option maxRecDepth 100000 in
theorem rtx_tree (M : Ops) (N : Nums) (mag : Int → Int → Nat) (b : Bool) (x y : Int) (o : Bool) (ps : List (List D)) (s1 s2 s3 : ByteArray) (fr : Int) (K : D → Prop) : callX Tryd.prog (ctxL (rtxL M N mag) (rtxLL b x y o (N.dd (mag x y)) ps s1 s2 s3 fr) 0) 2 11 [.agg [.v (.bool b), .v (.int .u64 x), .v (.int .u64 y)]] K = (
    bif !M.good b x y then K (vS ⟨#[]⟩) else rtxEnd b x y o (N.dd (mag x y)) ps s1 s2 s3 fr K) := by kernel_rfl

/-! ### The loops, gone round -/
def asc (l : List Nat) : List Nat := (l.map (48 + ·)).reverse
theorem asc_len (l : List Nat) : (asc l).length = l.length := by simp [asc]
theorem asc_cons (x : Nat) (l : List Nat) : asc (x :: l) = asc l ++ [48 + x] := by simp [asc]
theorem asc_app (a b : List Nat) : asc (a ++ b) = asc b ++ asc a := by simp [asc]
theorem strOfD_one (n : Nat) : strOfD [[.v (.int .u8 (n : Int))]] = strB [n] := by
  unfold strOfD strOfNums strB; rfl
theorem dgS_eq {l : List Nat} {i : Nat} {x : Nat} (h : i < l.length) (hx : l.getD i 0 = x) (hx' : x < 10) : dgS (dD l) (i : Int) = strB [48 + x] := by
  unfold dgS
  rw [getI_eq l i h, hx, wrap_small (by omega) (by omega), show IntKind.u8.wrap (48 + ((x : Nat) : Int)) = ((48 + x : Nat) : Int) by rw [IntKind.wrap_u8]; omega]
  exact strOfD_one (48 + x)
theorem dD_len' (l : List Nat) : (dD l).length = l.length := List.length_map _
def zer (n : Nat) : List Nat := List.replicate n 0
theorem rtx_runs0 (b : Bool) (x y : Int) (es : List (List D)) : ∀ (m : Nat) (o : Bool) (l : List Nat), l.length < 1000 → 7 - l.length = m → ∃ k o', Runs [] Tryd.f11 0 [] k (rtxS b x y es (lsI o (dD l)) .undef .undef .undef .undef) (.exit 0) (rtxS b x y es (lsI o' (dD (l ++ zer m))) .undef .undef .undef .undef)
  | 0, o, l, hl, hm => by
    refine ⟨1, o, Runs.stop ⟨fun K hK => ?_⟩⟩
    rw [rtx_round0, decide_eq_false (by rw [dD_len']; omega), cond_false]
    rw [show l ++ zer 0 = l from List.append_nil l] at hK
    exact hK
  | m + 1, o, l, hl, hm => by
    obtain ⟨k, o', hk⟩ := rtx_runs0 b x y es m true (l ++ [0]) (by simp; omega) (by simp; omega)
    have e : l ++ [0] ++ zer m = l ++ zer (m + 1) := by rw [List.append_assoc]; rfl
    rw [e] at hk
    refine ⟨k + 1, o', Runs.go ⟨fun K hK => ?_⟩ hk⟩
    rw [rtx_round0, decide_eq_true (by rw [dD_len']; omega), cond_true]
    unfold padK
    rw [List.nil_append, List.length_nil, Nat.zero_add, dD_len', bytes_int, decide_eq_true (show l.length * (8 + 1) ≤ 70368744177664 by omega), cond_true, roomD_eq l (by omega)]
    have e2 : dD (l ++ [0]) = dD l ++ [[.v (.int .i64 0)]] := by unfold dD; rw [List.map_append]; rfl
    rw [← e2]; exact hK
theorem getD_mid (a : List Nat) (x : Nat) (b : List Nat) : (a ++ x :: b).getD a.length 0 = x := by rw [getD_app]; rfl
theorem rtx_runs1 (b : Bool) (x y : Int) (o : Bool) (es : List (List D)) (pre : List Nat) (hpre : pre.length < 1000) : ∀ (r a : List Nat), (∀ z ∈ r, z < 10) → a.length + r.length < 1000 → ∃ k, Runs [] Tryd.f11 1 [] k (rtxS b x y es (lsI o (dD (pre ++ (a ++ r)))) (vS (strB (asc a))) (vI ((pre.length + a.length : Nat) : Int)) .undef .undef) (.exit 2) (rtxS b x y es (lsI o (dD (pre ++ (a ++ r)))) (vS (strB (asc (a ++ r)))) (vI ((dD (pre ++ (a ++ r))).length : Nat)) .undef .undef)
  | [], a, _, hl => by
    refine ⟨1, Runs.stop ⟨fun K hK => ?_⟩⟩
    rw [rtx_round1, decide_eq_false (by rw [dD_len']; simp), cond_false]
    rw [List.append_nil] at hK ⊢
    rw [dD_len', List.length_append] at hK
    exact hK
  | z :: r, a, hz, hl => by
    have hzz := hz z (by simp)
    simp only [List.length_cons] at hl
    obtain ⟨k, hk⟩ := rtx_runs1 b x y o es pre hpre r (a ++ [z]) (fun w hw => hz w (by simp [hw])) (by simp; omega)
    have e : a ++ [z] ++ r = a ++ z :: r := by simp
    rw [e] at hk
    refine ⟨k + 1, Runs.go ⟨fun K hK => ?_⟩ hk⟩
    have hi : pre.length + a.length < (pre ++ (a ++ z :: r)).length := by simp
    have hg : (pre ++ (a ++ z :: r)).getD (pre.length + a.length) 0 = z := by
      rw [← List.append_assoc, ← List.length_append, getD_mid]
    rw [rtx_round1, decide_eq_true (by rw [dD_len']; omega), cond_true, inR_eq _ _ hi, dgS_eq hi hg hzz, catS_eq _ _ (by rw [asc_len]; simp; omega), wrap_small (by omega) (by omega)]
    have e2 : asc (a ++ [z]) = [48 + z] ++ asc a := by rw [asc_app]; rfl
    have e3 : ((pre.length + (a ++ [z]).length : Nat) : Int) = ((pre.length + a.length : Nat) : Int) + 1 := by simp; omega
    rw [e2, e3] at hK
    exact hK
theorem rtx_runs2 (b : Bool) (x y : Int) (o : Bool) (es : List (List D)) (s : ByteArray) (t : List Nat) : ∀ (r a : List Nat), (∀ z ∈ r, z < 10) → a.length + r.length = 6 → ∃ k, Runs [] Tryd.f11 2 [] k (rtxS b x y es (lsI o (dD (a ++ r ++ t))) (vS s) .undef (vI (a.length : Int)) .undef) (.exit 4) (rtxS b x y es (lsI o (dD (a ++ r ++ t))) (vS s) .undef (vI ((a.length + lead (· == 0) r : Nat) : Int)) .undef)
  | [], a, _, hl => by
    refine ⟨1, Runs.stop ⟨fun K hK => ?_⟩⟩
    rw [List.length_nil, Nat.add_zero] at hl
    rw [rtx_round2, decide_eq_false (by omega), cond_false]
    exact hK
  | z :: r, a, hz, hl => by
    simp only [List.length_cons] at hl
    have hi : a.length < (a ++ z :: r ++ t).length := by simp
    have hg : (a ++ z :: r ++ t).getD a.length 0 = z := by rw [List.append_assoc]; exact getD_mid a z (r ++ t)
    by_cases h0 : z = 0
    · subst h0
      obtain ⟨k, hk⟩ := rtx_runs2 b x y o es s t r (a ++ [0]) (fun w hw => hz w (by simp [hw])) (by simp; omega)
      have e : a ++ [0] ++ r ++ t = a ++ 0 :: r ++ t := by simp
      have e2 : (a ++ [0]).length + lead (· == 0) r = a.length + lead (· == 0) (0 :: r) := by rw [lead_cons]; simp; omega
      rw [e, e2] at hk
      refine ⟨k + 1, Runs.go ⟨fun K hK => ?_⟩ hk⟩
      rw [rtx_round2, decide_eq_true (by omega), cond_true, inR_eq _ _ hi, getI_eq _ _ hi, hg, wrap_small (by omega) (by omega)]
      have e3 : ((a ++ [0]).length : Int) = (a.length : Int) + 1 := by simp
      rw [e3] at hK
      exact hK
    · refine ⟨1, Runs.stop ⟨fun K hK => ?_⟩⟩
      have hb : (z == 0) = false := by rw [beq_eq_false_iff_ne]; exact h0
      rw [rtx_round2, decide_eq_true (by omega), cond_true, inR_eq _ _ hi, getI_eq _ _ hi, hg, show (((z : Nat) : Int) == 0) = false by rw [beq_eq_false_iff_ne]; omega, cond_true, cond_false]
      rw [lead_cons, hb, cond_false, Nat.add_zero] at hK
      exact hK
theorem rtx_runs3 (b : Bool) (x y : Int) (o : Bool) (es : List (List D)) (a : List Nat) (ha : a.length ≤ 6) : ∀ (m : Nat) (c e s : List Nat), c.length = m → m ≤ 6 → (∀ z ∈ c, z < 10) → s.length + m < 1000 → ∃ k, Runs [] Tryd.f11 3 [] k (rtxS b x y es (lsI o (dD (a ++ (c ++ e)))) (vS (strB s)) .undef (vI (a.length : Int)) (vI ((a.length : Int) + (m : Int) - 1))) (.exit 6) (rtxS b x y es (lsI o (dD (a ++ (c ++ e)))) (vS (strB (s ++ asc c))) .undef (vI (a.length : Int)) (vI ((a.length : Int) - 1)))
  | 0, c, e, s, hc, _, _, _ => by
    obtain rfl := List.eq_nil_of_length_eq_zero hc
    refine ⟨1, Runs.stop ⟨fun K hK => ?_⟩⟩
    rw [rtx_round3, decide_eq_false (by omega), cond_false, show ((a.length : Int) + ((0 : Nat) : Int) - 1) = (a.length : Int) - 1 by omega]
    rw [show s ++ asc [] = s from List.append_nil s] at hK
    exact hK
  | m + 1, c, e, s, hc, hm, hz, hl => by
    obtain ⟨c', z, rfl⟩ : ∃ c' z, c = c' ++ [z] := by
      rcases List.eq_nil_or_concat c with h | ⟨c', z, h⟩
      · rw [h] at hc; simp at hc
      · exact ⟨c', z, by simpa using h⟩
    have hc' : c'.length = m := by simpa using hc
    have hzz := hz z (by simp)
    obtain ⟨k, hk⟩ := rtx_runs3 b x y o es a ha m c' (z :: e) (s ++ [48 + z]) hc' (by omega) (fun w hw => hz w (by simp [hw])) (by simp; omega)
    have e1 : a ++ (c' ++ z :: e) = a ++ (c' ++ [z] ++ e) := by simp
    have e2 : s ++ [48 + z] ++ asc c' = s ++ asc (c' ++ [z]) := by rw [asc_app, List.append_assoc]; rfl
    rw [e1, e2] at hk
    refine ⟨k + 1, Runs.go ⟨fun K hK => ?_⟩ hk⟩
    have hi : a.length + m < (a ++ (c' ++ [z] ++ e)).length := by simp; omega
    have hg : (a ++ (c' ++ [z] ++ e)).getD (a.length + m) 0 = z := by
      have : a ++ (c' ++ [z] ++ e) = (a ++ c') ++ z :: e := by simp
      rw [this, show a.length + m = (a ++ c').length by rw [List.length_append, hc'], getD_mid]
    have ek : ((a.length : Int) + ((m + 1 : Nat) : Int) - 1) = ((a.length + m : Nat) : Int) := by omega
    rw [ek, rtx_round3, decide_eq_true (by omega), cond_true, inR_eq _ _ hi, dgS_eq hi hg hzz, catS_eq _ _ (by simp; omega), wrap_small (by omega) (by omega)]
    rw [show ((a.length + m : Nat) : Int) - 1 = (a.length : Int) + (m : Int) - 1 by omega]
    exact hK
end Go.Proofs.YthhfnggigmfmjaaDoor
