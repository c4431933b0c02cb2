/-
  Digits; the walk of fieldfareref01's double.
-/
import Derived.Test.YtlfdelobjbdimaaDoorNumD
set_option maxRecDepth 20000
namespace Go.Proofs.YtlfdelobjbdimaaDoor
set_option linter.unusedSimpArgs false
set_option linter.unusedVariables false
open Go.RowKit

/-! ### Lists of ints -/
/-! ### double -/
def dblS (es : List (List D)) (b : Int) (out : List (List D)) (i : Int) : List D := [.list false 3 es, .v (.int .i64 b), .undef, .undef, .list true 3 [], .list true 3 out, .v (.int .i64 i)] ++ List.replicate 28 .undef
set_option maxRecDepth 100000 in
theorem dbl_round (es out : List (List D)) (b i : Int) (K : AExit → List D → Prop) :
    roundJ Tryd.prog (fun _ _ _ => False) (fun _ _ _ => False) (7 :: junk (loopN Tryd.f48 0)) (loopN Tryd.f48 0) (dblS es b out i) K = (
      bif decide (i < es.length) then
        bif decide (0 ≤ i) && decide (i < es.length) then
          bif isD Tryd.prog 3 ((es.getD i.toNat []).getD 0 .undef) then
            bif decide ((out.length + [[D.v (.int .i64 ((IntKind.i64.wrap (IntKind.i64.wrap (2 * intOf ((es.getD i.toNat []).getD 0 D.undef)) + b)).tmod 10))]].length) * (Tryd.prog.bytesOf 3 + 1) ≤ 70368744177664) then
              K .normal (dblS es (IntKind.i64.wrap ((IntKind.i64.wrap (IntKind.i64.wrap (2 * intOf ((es.getD i.toNat []).getD 0 D.undef)) + b)).tdiv 10)) (out ++ [[D.v (.int .i64 ((IntKind.i64.wrap (IntKind.i64.wrap (2 * intOf ((es.getD i.toNat []).getD 0 D.undef)) + b)).tmod 10))]]) (IntKind.i64.wrap (i + 1)))
            else False
          else False
        else False
      else K (.exit 0) (dblS es b out i)) := by kernel_rfl

def dblG : List Nat → Nat → List Nat
  | [], _ => []
  | x :: l, b => (2 * x + b) % 10 :: dblG l ((2 * x + b) / 10)
def dblB : List Nat → Nat → Nat
  | [], b => b
  | x :: l, b => dblB l ((2 * x + b) / 10)
theorem dblB_le : ∀ (l : List Nat) (b : Nat), (∀ x ∈ l, x < 10) → b ≤ 1 → dblB l b ≤ 1
  | [], b, _, hb => hb
  | x :: l, b, hl, hb => dblB_le l _ (fun y hy => hl y (by simp [hy])) (by have := hl x (by simp); omega)
theorem dbl_dig (n b : Nat) (hb : b ≤ 1) : dblG (dig n) b ++ (if 0 < dblB (dig n) b then [dblB (dig n) b] else []) = dig (2 * n + b) := by
  induction n using Nat.strongRecOn generalizing b with
  | ind n ih =>
    by_cases h : n = 0
    · subst h
      rw [dig_zero]
      simp only [dblG, dblB]
      by_cases h0 : b = 0
      · subst h0; simp [dig_zero]
      · obtain rfl : b = 1 := by omega
        rw [dig_pos (by omega)]
        simp [dig_zero]
    · rw [dig_pos h, dig_pos (show 2 * n + b ≠ 0 by omega)]
      simp only [dblG, dblB, List.cons_append]
      have := ih (n / 10) (by omega) ((2 * (n % 10) + b) / 10) (by omega)
      refine Eq.trans (congrArg (List.cons ((2 * (n % 10) + b) % 10)) this) ?_
      congr 1
      · omega
      · congr 1; omega

set_option maxRecDepth 100000 in
theorem dbl_rounds (r : List Nat) : ∀ (p : List Nat) (b : Nat) (out : List Nat), (∀ x ∈ p ++ r, x < 10) → b ≤ 1 → out.length = p.length → (p ++ r).length < 1000000 →
    RoundsJ Tryd.prog (fun _ _ _ => False) (fun _ _ _ => False) (7 :: junk (loopN Tryd.f48 0)) (loopN Tryd.f48 0) (r.length + 1) (dblS (dD (p ++ r)) (b : Int) (dD out) (p.length : Int)) (.exit 0)
      (dblS (dD (p ++ r)) (dblB r b : Int) (dD (out ++ dblG r b)) ((p ++ r).length : Int)) := by
  induction r with
  | nil =>
    intro p b out _ _ _ _
    unfold RoundsJ
    rw [dbl_round, dD_len]
    have : decide ((p.length : Int) < ((p ++ []).length : Nat)) = false := by simp
    rw [this, cond_false]
    simp [dblB, dblG]
  | cons x r ih =>
    intro p b out hd hb ho hl
    unfold RoundsJ
    rw [dbl_round, dD_len]
    have hx := hd x (by simp)
    have hlen : (p ++ x :: r).length = p.length + (r.length + 1) := by simp
    have h1 : decide ((p.length : Int) < ((p ++ x :: r).length : Nat)) = true := by rw [hlen]; simp; omega
    have h2 : decide (0 ≤ (p.length : Int)) = true := by simp
    rw [h1, h2, dD_at p r x _ rfl, is_int, intOf_v, dD_len, bytes_int]
    have w1 : IntKind.i64.wrap (2 * (x : Int)) = 2 * (x : Int) := wrap_small (by omega) (by omega)
    have w2 : IntKind.i64.wrap (2 * (x : Int) + (b : Int)) = ((2 * x + b : Nat) : Int) := by rw [wrap_small (by omega) (by omega)]; omega
    have w3 : ((2 * x + b : Nat) : Int).tdiv 10 = (((2 * x + b) / 10 : Nat) : Int) := rfl
    have w4 : ((2 * x + b : Nat) : Int).tmod 10 = (((2 * x + b) % 10 : Nat) : Int) := rfl
    have w5 : IntKind.i64.wrap (((2 * x + b) / 10 : Nat) : Int) = (((2 * x + b) / 10 : Nat) : Int) := wrap_small (by omega) (by omega)
    have w6 : IntKind.i64.wrap ((p.length : Int) + 1) = ((p ++ [x]).length : Int) := by rw [wrap_small (by omega) (by omega)]; simp
    rw [w1, w2, w3, w4, w5, w6]
    have h3 : decide ((out.length + [[D.v (.int .i64 (((2 * x + b) % 10 : Nat) : Int))]].length) * (8 + 1) ≤ 70368744177664) = true := by
      simp only [List.length_singleton, decide_eq_true_eq]; omega
    rw [h3]
    simp only [Bool.and_self, cond_true]
    have hs : dD (p ++ x :: r) = dD ((p ++ [x]) ++ r) := by simp
    have := ih (p ++ [x]) ((2 * x + b) / 10) (out ++ [(2 * x + b) % 10]) (by simpa using hd) (by omega) (by simp [ho]) (by simpa using hl)
    rw [dD_app out [(2 * x + b) % 10]] at this
    rw [hs]
    have e1 : ((p ++ [x]) ++ r).length = (p ++ x :: r).length := by simp
    rw [e1] at this
    have e2 : (out ++ [(2 * x + b) % 10]) ++ dblG r ((2 * x + b) / 10) = out ++ dblG (x :: r) b := by simp [dblG]
    rw [e2] at this
    exact this

/-! ### double -/
set_option maxRecDepth 100000 in
theorem dbl_tree (es out : List (List D)) (b c len : Int) (K : D → Prop) : callX Tryd.prog (ctxL [] [(48, 3, onceL [] (dblS es b [] 0) (dblS es c out len) (.exit 0))] 0) 1 48 [.list false 3 es, .v (.int .i64 b)] K = (
    dblS es b [] 0 = dblS es b [] 0 ∧
      bif decide (c > 0) then bif decide ((out.length + [[D.v (.int .i64 c)]].length) * (Tryd.prog.bytesOf 3 + 1) ≤ 70368744177664) then K (.list false 3 (out ++ [[.v (.int .i64 c)]])) else False
      else K (.list false 3 out)) := by kernel_rfl
theorem dblG_len : ∀ (l : List Nat) (b : Nat), (dblG l b).length = l.length
  | [], _ => rfl
  | x :: l, b => by simp [dblG, dblG_len l]
set_option maxRecDepth 100000 in
theorem double_ps (n b : Nat) (hl : (dig n).length < 100000) (hb : b ≤ 1) : PS Tryd.prog 48 [.list false 3 (dD (dig n)), .v (.int .i64 (b : Int))] (.list false 3 (dD (dig (2 * n + b)))) := by
  have hR := dbl_rounds (dig n) [] b [] (by simpa using dig_lt n) hb rfl (by simp; omega)
  simp only [List.nil_append, List.length_nil] at hR
  refine callX_eq (n := 1) (ctxL_ok (l := []) (ll := [(48, 3, onceL [] (dblS (dD (dig n)) b [] 0) (dblS (dD (dig n)) (dblB (dig n) b : Int) (dD (dblG (dig n) b)) ((dig n).length : Int)) (.exit 0))]) (fuel := 0) (by intro x hx; cases hx) ?_) ?_
  · intro x hx
    obtain rfl := List.mem_singleton.1 hx
    exact LoopSound.mk (n := 0) Tryd.func48 rfl (by kernel_rfl) (by kernel_rfl) (onceL_ok (by kernel_rfl) hR)
  · rw [dbl_tree]
    refine ⟨rfl, ?_⟩
    have hB := dblB_le (dig n) b (dig_lt n) hb
    have hd := dbl_dig n b hb
    rw [dD_len, dblG_len, bytes_int]
    by_cases h0 : 0 < dblB (dig n) b
    · have h1 : decide (((dblB (dig n) b : Nat) : Int) > 0) = true := by simpa using h0
      have h2 : decide (((dig n).length + [[D.v (.int .i64 ((dblB (dig n) b : Nat) : Int))]].length) * (8 + 1) ≤ 70368744177664) = true := by simp only [List.length_singleton, decide_eq_true_eq]; omega
      rw [h1, h2, cond_true, cond_true, ← hd, if_pos h0, dD_app]
      rfl
    · have h1 : decide (((dblB (dig n) b : Nat) : Int) > 0) = false := by simpa using h0
      rw [h1, cond_false, ← hd, if_neg h0, List.append_nil]

/-! ### cut -/
/-- Digits without 0s at the end. -/
def cutN (l : List Nat) : Nat → Nat
  | 0 => 0
  | k + 1 => if l.getD k 0 = 0 then cutN l k else k + 1
theorem cutN_le (l : List Nat) : ∀ k, cutN l k ≤ k
  | 0 => Nat.le_refl _
  | k + 1 => by unfold cutN; split <;> have := cutN_le l k <;> omega
def cutS (es : List (List D)) (i : Int) : List D := [.list false 3 es, .undef, .list true 3 [], .v (.int .i64 i)] ++ List.replicate 19 .undef
set_option maxRecDepth 100000 in
theorem cut_round (es : List (List D)) (i : Int) (K : AExit → List D → Prop) :
    roundJ Tryd.prog (fun _ _ _ => False) (fun _ _ _ => False) (junk (loopN Tryd.f49 0)) (loopN Tryd.f49 0) (cutS es i) K = (
      bif decide (i > 0) then
        bif decide (0 ≤ IntKind.i64.wrap (i - 1)) && decide (IntKind.i64.wrap (i - 1) < es.length) then
          bif isD Tryd.prog 3 ((es.getD (IntKind.i64.wrap (i - 1)).toNat []).getD 0 D.undef) then
            bif bif true then intOf ((es.getD (IntKind.i64.wrap (i - 1)).toNat []).getD 0 D.undef) == 0 else false then K .normal (cutS es (IntKind.i64.wrap (i - 1)))
            else K (.exit 0) (cutS es i)
          else False
        else False
      else K (.exit 0) (cutS es i)) := by kernel_rfl
set_option maxRecDepth 100000 in
theorem cut_rounds (l : List Nat) (hl : l.length < 1000000) : ∀ k, k ≤ l.length →
    RoundsJ Tryd.prog (fun _ _ _ => False) (fun _ _ _ => False) (junk (loopN Tryd.f49 0)) (loopN Tryd.f49 0) (k + 1) (cutS (dD l) (k : Int)) (.exit 0) (cutS (dD l) (cutN l k : Int)) := by
  intro k
  induction k with
  | zero =>
    intro _
    unfold RoundsJ
    rw [cut_round]
    have : decide (((0 : Nat) : Int) > 0) = false := by simp
    rw [this, cond_false]
    simp [cutN]
  | succ k ih =>
    intro hk
    unfold RoundsJ
    rw [cut_round, dD_len]
    have h1 : decide (((k + 1 : Nat) : Int) > 0) = true := by rw [decide_eq_true_eq]; omega
    have w1 : IntKind.i64.wrap (((k + 1 : Nat) : Int) - 1) = (k : Int) := by rw [wrap_small (by omega) (by omega)]; omega
    have h2 : decide (0 ≤ (k : Int)) = true := by simp
    have h3 : decide ((k : Int) < (l.length : Nat)) = true := by rw [decide_eq_true_eq]; omega
    rw [h1, w1, h2, h3, Int.toNat_natCast, dD_get l k (by omega), is_int, intOf_v]
    simp only [Bool.and_self, cond_true]
    unfold cutN
    by_cases h0 : l.getD k 0 = 0
    · rw [if_pos h0, h0]
      exact ih (by omega)
    · have h4 : ((((l.getD k 0 : Nat) : Int)) == 0) = false := by simpa using h0
      rw [if_neg h0, h4]
      simp
set_option maxRecDepth 100000 in
theorem cut_tree (es : List (List D)) (j : Int) (K : D → Prop) : callX Tryd.prog (ctxL [] [(49, 2, onceL [4, 5] (cutS es es.length) (cutS es j) (.exit 0))] 0) 1 49 [.list false 3 es] K = (
    cutS es es.length = cutS es es.length ∧
      bif 3 == 3 && (Tryd.prog.info? 3).isSome && decide (0 ≤ Int.ofNat 0) && decide (Int.ofNat 0 ≤ j) && decide (j ≤ es.length) then
        bif decide ((([] : List (List D)).length + (List.drop (Int.ofNat 0).toNat (List.take j.toNat es)).length) * (Tryd.prog.bytesOf 3 + 1) ≤ 70368744177664) then K (.list false 3 ([] ++ List.drop (Int.ofNat 0).toNat (List.take j.toNat es))) else False
      else False) := by kernel_rfl
theorem cut_dig (l : List Nat) (hd : ∀ x ∈ l, x < 10) : l.take (cutN l l.length) = dig (num l) := by
  have key : ∀ (k : Nat) (l : List Nat), l.length = k → (∀ x ∈ l, x < 10) → l.take (cutN l l.length) = dig (num l) := by
    intro k
    induction k with
    | zero => intro l hk _; rw [List.length_eq_zero_iff.1 hk]; simp [num, dig_zero]
    | succ k ih =>
      intro l hk hd
      obtain ⟨x, r, rfl⟩ : ∃ x r, l = x :: r := by cases l with | nil => simp at hk | cons x r => exact ⟨x, r, rfl⟩
      have hr := ih r (by simpa using hk) (fun y hy => hd y (by simp [hy]))
      have hx := hd x (by simp)
      have hc : ∀ n, cutN (x :: r) (n + 1) = if cutN r n = 0 then (if x = 0 then 0 else 1) else cutN r n + 1 := by
        intro n
        induction n with
        | zero => simp [cutN]
        | succ n ihn =>
          rw [cutN]
          by_cases h0 : r.getD n 0 = 0
          · rw [if_pos (by simpa using h0), ihn]
            rw [show cutN r (n + 1) = cutN r n by rw [cutN, if_pos h0]]
          · rw [if_neg (by simpa using h0)]
            rw [show cutN r (n + 1) = n + 1 by rw [cutN, if_neg h0]]
            rw [if_neg (by omega)]
      rw [List.length_cons, hc]
      by_cases h0 : cutN r r.length = 0
      · rw [h0] at hr
        have hn : num r = 0 := by
          have := num_dig (num r)
          rw [← hr] at this; simpa [num] using this.symm
        rw [if_pos h0]
        by_cases hx0 : x = 0
        · subst hx0; simp [num, hn, dig_zero]
        · rw [if_neg hx0]
          simp only [num, hn]
          rw [dig_pos (by omega), show (x + 10 * 0) / 10 = 0 by omega, dig_zero]
          simp; omega
      · rw [if_neg h0, List.take_succ_cons, hr]
        have hn : num r ≠ 0 := by
          intro h
          rw [h, dig_zero] at hr
          have h5 : (r.take (cutN r r.length)).length = 0 := by rw [hr]; rfl
          rw [List.length_take] at h5
          have := cutN_le r r.length
          omega
        simp only [num]
        rw [dig_pos (show x + 10 * num r ≠ 0 by omega), show (x + 10 * num r) % 10 = x by omega, show (x + 10 * num r) / 10 = num r by omega]
  exact key _ l rfl hd
set_option maxRecDepth 100000 in
theorem cut_ps (l : List Nat) (hd : ∀ x ∈ l, x < 10) (hl : l.length < 200000) : PS Tryd.prog 49 [.list false 3 (dD l)] (.list false 3 (dD (dig (num l)))) := by
  have hR := cut_rounds l (by omega) l.length (Nat.le_refl _)
  have hle := cutN_le l l.length
  refine callX_eq (n := 1) (ctxL_ok (l := []) (ll := [(49, 2, onceL [4, 5] (cutS (dD l) (dD l).length) (cutS (dD l) (cutN l l.length : Int)) (.exit 0))]) (fuel := 0) (by intro x hx; cases hx) ?_) ?_
  · intro x hx
    obtain rfl := List.mem_singleton.1 hx
    exact LoopSound.mk (n := 0) Tryd.func49 rfl (by kernel_rfl) (by kernel_rfl) (onceL_ok (by kernel_rfl) (by rw [dD_len]; exact hR))
  · rw [cut_tree]
    refine ⟨rfl, ?_⟩
    have h1 : (3 == 3 && (Tryd.prog.info? 3).isSome && decide (0 ≤ Int.ofNat 0)) = true := by kernel_rfl
    have h2 : decide (Int.ofNat 0 ≤ ((cutN l l.length : Nat) : Int)) = true := by simp
    have h3 : decide (((cutN l l.length : Nat) : Int) ≤ (l.length : Nat)) = true := by rw [decide_eq_true_eq]; omega
    rw [dD_len, h1, h2, h3, Int.toNat_natCast, dD_take, cut_dig l hd, bytes_int]
    have h4 : (dig (num l)).length ≤ l.length := by rw [← cut_dig l hd, List.length_take]; omega
    have h5 : decide ((([] : List (List D)).length + (List.drop (Int.ofNat 0).toNat (dD (dig (num l)))).length) * (8 + 1) ≤ 70368744177664) = true := by
      rw [decide_eq_true_eq]
      show (0 + (dD (dig (num l))).length) * 9 ≤ _
      rw [dD_len]; omega
    rw [h5]
    rfl
end Go.Proofs.YtlfdelobjbdimaaDoor
