/-
  The law NumeralSums: its walk and the plain law.
-/
import Derived.Test.YthhfnggigmfmjaaDoorNrlM
namespace Go.Proofs.YthhfnggigmfmjaaDoor
set_option linter.unusedSimpArgs false
set_option linter.unusedVariables false
open Go.RowKit

def smS (M : Ops) (z f b : Int) (s : ByteArray) (d8 d9 d10 d11 : D) : List D := [.undef, .v (.int .u8 f), .v (.int .u8 b), .obj 24 (cellsM M z), .undef, .undef, .v (.bool false), .v (.string s), d8, d9, d10, d11] ++ List.replicate 75 .undef
set_option maxRecDepth 100000 in
theorem sm_round1 (M : Ops) (z f b i : Int) (pt : Bool) (s : ByteArray) (K : AExit → List D → Prop) : roundJ Tryd.prog (orcOf []) (fun _ _ _ => False) ([] ++ junk (loopN Tryd.f5 0)) (loopN Tryd.f5 0) (smS M z f b s (.v (.bool pt)) (.v (.int .i64 i)) .undef .undef) K = (
    bif decide (i < (s.size : Int)) then bif pt then K .normal (smS M z f b s (.v (.bool true)) (.v (.int .i64 (IntKind.i64.wrap (i + 1)))) .undef .undef) else
      bif decide (0 ≤ i) && decide (i < (s.size : Int)) then K .normal (smS M z f b s (.v (.bool (bif false then true else byteAt s i.toNat == 46))) (.v (.int .i64 (IntKind.i64.wrap (i + 1)))) .undef .undef) else False
    else K (.exit 0) (smS M z f b s (.v (.bool pt)) (.v (.int .i64 i)) .undef .undef)) := by kernel_rfl
set_option maxRecDepth 100000 in
theorem sm_round2 (M : Ops) (z f b i : Int) (s : ByteArray) (K : AExit → List D → Prop) : roundJ Tryd.prog (orcOf []) (fun _ _ _ => False) ([] ++ junk (loopN Tryd.f5 1)) (loopN Tryd.f5 1) (smS M z f b s .undef .undef (.v (.int .i64 i)) .undef) K = (
    bif decide (i < IntKind.i64.wrap f) then catS ⟨#[48]⟩ s fun s' => K .normal (smS M z f b s' .undef .undef (.v (.int .i64 (IntKind.i64.wrap (i + 1)))) .undef) else K (.exit 2) (smS M z f b s .undef .undef (.v (.int .i64 i)) .undef)) := by kernel_rfl
set_option maxRecDepth 100000 in
theorem sm_round3 (M : Ops) (z f b i : Int) (s : ByteArray) (K : AExit → List D → Prop) : roundJ Tryd.prog (orcOf []) (fun _ _ _ => False) ([] ++ junk (loopN Tryd.f5 2)) (loopN Tryd.f5 2) (smS M z f b s .undef .undef .undef (.v (.int .i64 i))) K = (
    bif decide (i < IntKind.i64.wrap b) then catS s ⟨#[48]⟩ fun s' => K .normal (smS M z f b s' .undef .undef .undef (.v (.int .i64 (IntKind.i64.wrap (i + 1))))) else K (.exit 4) (smS M z f b s .undef .undef .undef (.v (.int .i64 i)))) := by kernel_rfl
theorem sm_runs1 (z f b : Int) (r : List Nat) : ∀ (p : List Nat) (pt : Bool), byteL (p ++ r) → (p ++ r).length < 1000000 →
    ∃ k, Runs [] Tryd.f5 0 [] k (smS opsR z f b (strB (p ++ r)) (.v (.bool pt)) (.v (.int .i64 (p.length : Int))) .undef .undef) (.exit 0)
      (smS opsR z f b (strB (p ++ r)) (.v (.bool (pt || r.any (· == 46)))) (.v (.int .i64 (((p ++ r).length : Nat) : Int))) .undef .undef) := by
  induction r with
  | nil =>
    intro p pt _ _
    refine ⟨1, Runs.stop ⟨fun K h => ?_⟩⟩
    rw [sm_round1, strB_size]
    have : decide ((p.length : Int) < ((p ++ []).length : Nat)) = false := by simp
    rw [this, cond_false]
    have e : (((p ++ ([] : List Nat)).length : Nat) : Int) = (p.length : Int) := by simp
    have e2 : (pt || ([] : List Nat).any (· == 46)) = pt := by simp
    rw [e, e2] at h
    exact h
  | cons x r ih =>
    intro p pt hB hl
    have hlen : (p ++ x :: r).length = p.length + (r.length + 1) := by simp
    have hget : (p ++ x :: r).getD p.length 0 = x := by simp
    have g1 : decide ((p.length : Int) < ((p ++ x :: r).length : Nat)) = true := by rw [hlen, decide_eq_true_eq]; omega
    have g2 : decide (0 ≤ (p.length : Int)) = true := by rw [decide_eq_true_eq]; omega
    have hs : p ++ x :: r = (p ++ [x]) ++ r := by simp
    obtain ⟨k, hk⟩ := ih (p ++ [x]) (pt || x == 46) (by rw [← hs]; exact hB) (by rw [← hs]; exact hl)
    rw [← hs] at hk
    have e : ((pt || x == 46) || r.any (· == 46)) = (pt || (x :: r).any (· == 46)) := by simp [Bool.or_assoc]
    rw [e] at hk
    have w6 : IntKind.i64.wrap ((p.length : Int) + 1) = ((p ++ [x]).length : Int) := by rw [wrap_small (by omega) (by omega)]; simp
    have hx : byteAt (strB (p ++ x :: r)) ((p.length : Int)).toNat = (x : Int) := by
      rw [Int.toNat_natCast, byteAt_strB _ _ hB (by omega), hget]
    have hb : ((x : Int) == 46) = (x == 46) := by rw [Bool.eq_iff_iff, beq_iff_eq, beq_iff_eq]; omega
    refine ⟨k + 1, Runs.go ⟨fun K h => ?_⟩ hk⟩
    rw [sm_round1, strB_size, g1, g2, w6, hx, hb]
    cases pt
    · exact h
    · exact h
theorem zeroS_eq : (⟨#[48]⟩ : ByteArray) = strB [48] := rfl
theorem wrap_byte (f : Nat) (h : f < 256) : IntKind.i64.wrap (f : Int) = (f : Int) := wrap_nat (n := f) (by omega)
theorem sm_runs2 (z b : Int) (f : Nat) (hf : f ≤ 60) (k : Nat) : ∀ (l : List Nat), k ≤ f → l.length + k < 1000 →
    ∃ j, Runs [] Tryd.f5 1 [] j (smS opsR z (f : Int) b (strB l) .undef .undef (.v (.int .i64 ((f - k : Nat) : Int))) .undef) (.exit 2) (smS opsR z (f : Int) b (strB (List.replicate k 48 ++ l)) .undef .undef (.v (.int .i64 (f : Int))) .undef) := by
  induction k with
  | zero =>
    intro l _ _
    refine ⟨1, Runs.stop ⟨fun K h => ?_⟩⟩
    rw [sm_round2, wrap_byte f (by omega)]
    have : decide (((f - 0 : Nat) : Int) < (f : Int)) = false := by rw [decide_eq_false_iff_not]; omega
    rw [this, cond_false]
    exact h
  | succ k ih =>
    intro l hk hl
    obtain ⟨j, hj⟩ := ih (48 :: l) (by omega) (by rw [List.length_cons]; omega)
    have e : List.replicate k 48 ++ 48 :: l = List.replicate (k + 1) 48 ++ l := by rw [List.replicate_succ']; simp
    rw [e] at hj
    refine ⟨j + 1, Runs.go ⟨fun K h => ?_⟩ hj⟩
    have g : decide (((f - (k + 1) : Nat) : Int) < (f : Int)) = true := by rw [decide_eq_true_eq]; omega
    have w6 : IntKind.i64.wrap (((f - (k + 1) : Nat) : Int) + 1) = ((f - k : Nat) : Int) := by rw [wrap_small (by omega) (by omega)]; omega
    rw [sm_round2, wrap_byte f (by omega), g, cond_true, w6, zeroS_eq, catS_eq _ _ (by simp; omega)]
    exact h
theorem sm_runs3 (z f : Int) (b : Nat) (hb : b ≤ 60) (k : Nat) : ∀ (l : List Nat), k ≤ b → l.length + k < 1000 →
    ∃ j, Runs [] Tryd.f5 2 [] j (smS opsR z f (b : Int) (strB l) .undef .undef .undef (.v (.int .i64 ((b - k : Nat) : Int)))) (.exit 4) (smS opsR z f (b : Int) (strB (l ++ List.replicate k 48)) .undef .undef .undef (.v (.int .i64 (b : Int)))) := by
  induction k with
  | zero =>
    intro l _ _
    refine ⟨1, Runs.stop ⟨fun K h => ?_⟩⟩
    rw [sm_round3, wrap_byte b (by omega)]
    have : decide (((b - 0 : Nat) : Int) < (b : Int)) = false := by rw [decide_eq_false_iff_not]; omega
    rw [this, cond_false]
    rw [List.replicate_zero, List.append_nil] at h
    exact h
  | succ k ih =>
    intro l hk hl
    obtain ⟨j, hj⟩ := ih (l ++ [48]) (by omega) (by simp; omega)
    have e : (l ++ [48]) ++ List.replicate k 48 = l ++ List.replicate (k + 1) 48 := by rw [List.replicate_succ]; simp
    rw [e] at hj
    refine ⟨j + 1, Runs.go ⟨fun K h => ?_⟩ hj⟩
    have g : decide (((b - (k + 1) : Nat) : Int) < (b : Int)) = true := by rw [decide_eq_true_eq]; omega
    have w6 : IntKind.i64.wrap (((b - (k + 1) : Nat) : Int) + 1) = ((b - k : Nat) : Int) := by rw [wrap_small (by omega) (by omega)]; omega
    rw [sm_round3, wrap_byte b (by omega), g, cond_true, w6, zeroS_eq, catS_eq _ _ (by simp; omega)]
    exact h

/-! ### The tree -/
def smL (M : Ops) (V : Nrl) (tx : Int → ByteArray) : List (Nat × Orc) := [(9, awakeN), (12, goodC M), (10, textT M tx), (13, prefixF M V)]
theorem smL_ok : ∀ x ∈ smL opsR nrlR txR, Sound x.1 x.2 := by
  intro x hx
  simp only [smL, List.mem_cons, List.not_mem_nil, or_false] at hx
  rcases hx with rfl | rfl | rfl | rfl
  · exact awakeN_ok
  · exact goodC_ok
  · exact textT_ok
  · exact prefixF_ok
def smJ1 : List Nat := [0, 15, 16, 17, 18, 19, 20, 21, 22, 23, 24, 25, 26, 27, 28, 29, 30, 31, 32, 33]
def smJ2 : List Nat := [8, 9, 47, 48, 49, 50]
def smJ3 : List Nat := [10]
def smEnd (M : Ops) (V : Nrl) (z : Int) (s : ByteArray) (K : D → Prop) : Prop :=
  bif decide (s.size ≤ 1073741824) then 5 = 5 ∧ V.ok (bytesD s) ∧ V.pbig (bytesD s) = false ∧
    bif M.sg (V.pval (bytesD s)) == M.sg z && (M.hi (V.pval (bytesD s)) == M.hi z && (M.lo (V.pval (bytesD s)) == M.lo z && true)) then bif bif true then V.n (bytesD s) == s.size else false then K (.v (.bool (bif true then true else false))) else K (.v (.bool false)) else K (.v (.bool false))
  else False
def smRest (M : Ops) (V : Nrl) (z f b : Int) (sA s' s2 s3 : ByteArray) (K : D → Prop) : Prop :=
  smS M z f b s' .undef .undef (.v (.int .i64 0)) .undef = smS M z f b sA .undef .undef (.v (.int .i64 0)) .undef ∧ smS M z f b s2 .undef .undef .undef (.v (.int .i64 0)) = smS M z f b s2 .undef .undef .undef (.v (.int .i64 0)) ∧ smEnd M V z s3 K
set_option maxRecDepth 100000 in
theorem sm_tree (M : Ops) (V : Nrl) (tx : Int → ByteArray) (z f b i : Int) (pt : Bool) (sA s2 s3 : ByteArray) (K : D → Prop) : callX Tryd.prog (ctxL (smL M V tx) [
      (5, 8, onceL smJ1 (smS M z f b (tx (vz M z)) (.v (.bool false)) (.v (.int .i64 0)) .undef .undef) (smS M z f b (tx (vz M z)) (.v (.bool pt)) (.v (.int .i64 i)) .undef .undef) (.exit 0)),
      (5, 14, onceL smJ2 (smS M z f b sA .undef .undef (.v (.int .i64 0)) .undef) (smS M z f b s2 .undef .undef (.v (.int .i64 f)) .undef) (.exit 2)),
      (5, 18, onceL smJ3 (smS M z f b s2 .undef .undef .undef (.v (.int .i64 0))) (smS M z f b s3 .undef .undef .undef (.v (.int .i64 b))) (.exit 4))] 0) 2 5 [decM M z, .v (.int .u8 f), .v (.int .u8 b)] K = (
    bif !gz M z then K (.v (.bool true)) else bif bif false then true else M.sg z then K (.v (.bool true)) else bif bif false then true else decide (f > 60) then K (.v (.bool true)) else bif bif false then true else decide (b > 60) then K (.v (.bool true)) else
      gz M z = true ∧ smS M z f b (tx (vz M z)) (.v (.bool false)) (.v (.int .i64 0)) .undef .undef = smS M z f b (tx (vz M z)) (.v (.bool false)) (.v (.int .i64 0)) .undef .undef ∧
      bif !pt then catS (tx (vz M z)) ⟨#[46]⟩ fun s' => smRest M V z f b sA s' s2 s3 K else smRest M V z f b sA (tx (vz M z)) s2 s3 K) := by kernel_rfl
set_option maxRecDepth 100000 in
theorem sm_tree2 (M : Ops) (s : Bool) (x y f b : Int) (K : D → Prop) : callX Tryd.prog (ctxL [(9, awakeN), (12, goodC M)] [(5, 8, fun _ _ => False), (5, 14, fun _ _ => False), (5, 18, fun _ _ => False)] 0) 2 5 [.agg [.v (.bool s), .v (.int .u64 x), .v (.int .u64 y)], .v (.int .u8 f), .v (.int .u8 b)] K = (
    bif !M.good s x y then K (.v (.bool true)) else bif bif false then true else s then K (.v (.bool true)) else bif bif false then true else decide (f > 60) then K (.v (.bool true)) else bif bif false then true else decide (b > 60) then K (.v (.bool true)) else False) := by kernel_rfl
end Go.Proofs.YthhfnggigmfmjaaDoor
