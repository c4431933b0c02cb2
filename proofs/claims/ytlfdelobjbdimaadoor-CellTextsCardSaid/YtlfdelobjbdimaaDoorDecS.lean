/-
  dec: Div, Mod, Mul by their magnitudes.
-/
import Derived.Test.YtlfdelobjbdimaaDoorDecN
import Derived.Test.YtlfdelobjbdimaaDoorDecO
import Derived.Test.YtlfdelobjbdimaaDoorDecP
import Derived.Test.YtlfdelobjbdimaaDoorDecQ
namespace Go.Proofs.YtlfdelobjbdimaaDoor
set_option linter.unusedSimpArgs false
set_option linter.unusedVariables false
open Go.RowKit

theorem good_lt {s : Bool} {m : Nat} (h : goodB s m = true) : m < 1000000000000000000000000000000000000 := by unfold goodB at h; simp at h; exact h.1

theorem halves_ne {m : Nat} (h : m ≠ 0) : ¬ (((hiN m : Nat) : Int) = 0 ∧ ((loN m : Nat) : Int) = 0) := by
  unfold hiN loN; omega

theorem mega_product (m : Nat) (hm : m < 1000000000000000000000000000000000000) (w : World) :
    Calls Tryd.prog 56 #[(.agg #[.int .u64 ((hiN (m) : Nat) : Int), .int .u64 ((loN (m) : Nat) : Int)]), .agg #[.int .u64 0, .int .u64 1000000]] w fun e w' => e = .returned (.agg #[.int .u64 (lim 0 (m * 1000000) : Nat), .int .u64 (lim 1 (m * 1000000) : Nat), .int .u64 (lim 2 (m * 1000000) : Nat), .int .u64 (lim 3 (m * 1000000) : Nat)]) ∧ Ext w w' :=
  product_any m 1000000 (by omega) (by omega) w

theorem div_ok (s : Bool) (m : Nat) (s' : Bool) (m' : Nat) (w : World) (h : goodB s m = true) (h' : goodB s' m' = true) (h0 : m' ≠ 0) (hq : m * 1000000 / m' < 1000000000000000000000000000000000000)
    (t : Bool) (ht : ((s != s') && decide (m * 1000000 / m' ≠ 0)) = t) :
    Calls Tryd.prog 34 #[(.agg #[.bool (s), .int .u64 ((hiN (m) : Nat) : Int), .int .u64 ((loN (m) : Nat) : Int)]), (.agg #[.bool (s'), .int .u64 ((hiN (m') : Nat) : Int), .int .u64 ((loN (m') : Nat) : Int)])] w fun e w' => e = .returned (.tuple #[(.agg #[.bool (t), .int .u64 ((hiN (m * 1000000 / m') : Nat) : Int), .int .u64 ((loN (m * 1000000 / m') : Nat) : Int)]), .nilIface]) ∧ Ext w w' := by
  have hm := good_lt h; have hm' := good_lt h'
  have hd := fun w => divide_any (m * 1000000) m' (by omega) (by omega) hm' w true (by simpa using hq)
  rw [Nat.mod_eq_of_lt (show m * 1000000 / m' < 340282366920938463463374607431768211456 by omega)] at hd
  exact div_fits s _ _ s' _ _ _ _ _ _ _ _ _ _ t w (halves_ne h0) (Lib.hid fun w => right_any s m s' m' w true (by rw [h, h']; rfl)) (Lib.hid fun w => of_any s' m' w) (Lib.hid fun w => of_any s m w)
    (Lib.hid fun w => mega_product m hm w) (Lib.hid hd) (Lib.hid fun w => made_any (s != s') _ w t ht)
theorem div_large (s : Bool) (m : Nat) (s' : Bool) (m' : Nat) (w : World) (h : goodB s m = true) (h' : goodB s' m' = true) (h0 : m' ≠ 0) (hq : ¬ m * 1000000 / m' < 1000000000000000000000000000000000000) :
    Calls Tryd.prog 34 #[(.agg #[.bool (s), .int .u64 ((hiN (m) : Nat) : Int), .int .u64 ((loN (m) : Nat) : Int)]), (.agg #[.bool (s'), .int .u64 ((hiN (m') : Nat) : Int), .int .u64 ((loN (m') : Nat) : Int)])] w fun e w' => e = .returned (.tuple #[.agg #[.bool false, .int .u64 0, .int .u64 0], .iface 77 (.int .i64 2)]) ∧ Ext w w' := by
  have hm := good_lt h; have hm' := good_lt h'
  have hd := fun w => divide_any (m * 1000000) m' (by omega) (by omega) hm' w false (by simpa using hq)
  exact div_over s _ _ s' _ _ _ _ _ _ _ _ _ _ w (halves_ne h0) (Lib.hid fun w => right_any s m s' m' w true (by rw [h, h']; rfl)) (Lib.hid fun w => of_any s' m' w) (Lib.hid fun w => of_any s m w)
    (Lib.hid fun w => mega_product m hm w) (Lib.hid hd)

theorem mod_ok (s : Bool) (m : Nat) (s' : Bool) (m' : Nat) (w : World) (h : goodB s m = true) (h' : goodB s' m' = true) (h0 : m' ≠ 0)
    (t : Bool) (ht : (s && decide (m % m' ≠ 0)) = t) :
    Calls Tryd.prog 32 #[(.agg #[.bool (s), .int .u64 ((hiN (m) : Nat) : Int), .int .u64 ((loN (m) : Nat) : Int)]), (.agg #[.bool (s'), .int .u64 ((hiN (m') : Nat) : Int), .int .u64 ((loN (m') : Nat) : Int)])] w fun e w' => e = .returned (.tuple #[(.agg #[.bool (t), .int .u64 ((hiN (m % m') : Nat) : Int), .int .u64 ((loN (m % m') : Nat) : Int)]), .nilIface]) ∧ Ext w w' := by
  have hm := good_lt h; have hm' := good_lt h'
  have hq : m / m' < 1000000000000000000000000000000000000 := Nat.lt_of_le_of_lt (Nat.div_le_self _ _) hm
  have hd := fun w => divide_any m m' (by omega) (by omega) hm' w true (by simpa using hq)
  have e0 : lim 0 m = loN m := by rw [lim_zero]; rfl
  have e1 : lim 1 m = hiN m := by
    rw [lim_succ, lim_zero, Nat.mod_eq_of_lt]
    · rfl
    · exact hiN_lt (by omega)
  have e2 : lim 2 m = 0 := by
    rw [lim_succ, lim_succ, lim_zero, Nat.div_eq_of_lt (show m / 18446744073709551616 < 18446744073709551616 from hiN_lt (by omega))]
  rw [e0, e1, e2] at hd
  exact mod_walk s _ _ s' _ _ _ _ _ _ _ t w (halves_ne h0) (Lib.hid fun w => right_any s m s' m' w true (by rw [h, h']; rfl)) (Lib.hid fun w => of_any s' m' w)
    (Lib.hid hd) (Lib.hid fun w => made_any s _ w t ht)

/-! ### Mul -/
theorem long_div (L l0 l1 l2 l3 B : Nat) (hB : 0 < B) (hL : L = l0 + B * (l1 + B * (l2 + B * l3))) (q3 r3 q2 r2 q1 r1 q0 r0 : Nat)
    (e3 : l3 = q3 * 1000000 + r3) (e2 : r3 * B + l2 = q2 * 1000000 + r2) (e1 : r2 * B + l1 = q1 * 1000000 + r1) (e0 : r1 * B + l0 = q0 * 1000000 + r0) (h : r0 < 1000000) :
    L / 1000000 = q0 + B * (q1 + B * (q2 + B * q3)) := by
  have hs : L = (q0 + B * (q1 + B * (q2 + B * q3))) * 1000000 + r0 := by
    rw [hL, e3, show l0 + B * (l1 + B * (l2 + B * (q3 * 1000000 + r3))) = l0 + B * (l1 + B * ((r3 * B + l2) + B * (q3 * 1000000))) by grind, e2,
      show l0 + B * (l1 + B * (q2 * 1000000 + r2 + B * (q3 * 1000000))) = l0 + B * ((r2 * B + l1) + B * (q2 * 1000000 + B * (q3 * 1000000))) by grind, e1,
      show l0 + B * (q1 * 1000000 + r1 + B * (q2 * 1000000 + B * (q3 * 1000000))) = (r1 * B + l0) + B * (q1 * 1000000 + B * (q2 * 1000000 + B * (q3 * 1000000))) by grind, e0]
    grind
  exact (div_of_parts hs h).1
theorem limbs_of (L : Nat) (h : L < 115792089237316195423570985008687907853269984665640564039457584007913129639936) :
    L = lim 0 L + 18446744073709551616 * (lim 1 L + 18446744073709551616 * (lim 2 L + 18446744073709551616 * lim 3 L)) := by
  rw [lim_succ 2, lim_succ 1, lim_succ 0, lim_succ 1, lim_succ 0, lim_succ 0]
  simp only [lim_zero]
  generalize hx : L / 18446744073709551616 = x
  generalize hy : x / 18446744073709551616 = y
  generalize hz : y / 18446744073709551616 = z
  have a1 := Nat.mod_add_div L 18446744073709551616
  have a2 := Nat.mod_add_div x 18446744073709551616
  have a3 := Nat.mod_add_div y 18446744073709551616
  have a4 : z % 18446744073709551616 = z := Nat.mod_eq_of_lt (by
    subst hx hy hz
    rw [Nat.div_div_eq_div_mul, Nat.div_div_eq_div_mul]
    exact Nat.div_lt_of_lt_mul h)
  rw [a4, ← hz, a3, ← hy, a2, ← hx, a1]
theorem lim_lt (i L : Nat) : lim i L < 18446744073709551616 := Nat.mod_lt _ (by decide)
theorem quo_lt {r l : Nat} (hr : r < 1000000) (hl : l < 18446744073709551616) : (r * 18446744073709551616 + l) / 1000000 < 18446744073709551616 := by omega

theorem or_ne (a b : Nat) (ha : a < 18446744073709551616) (hb : b < 18446744073709551616) : (bits .or .u64 (a : Int) (b : Int) != 0) = decide (¬ (a = 0 ∧ b = 0)) := by
  rw [bits_or_u64_nat a b ha hb, Bool.eq_iff_iff]
  simp only [bne_iff_ne, ne_eq, decide_eq_true_eq]
  rw [show (((a ||| b : Nat) : Int) = 0) ↔ (a ||| b) = 0 by omega, Nat.or_eq_zero_iff]

/-- What Mul comes to: the product's million part, unless it is too great. -/
theorem mul_good (s : Bool) (m : Nat) (s' : Bool) (m' : Nat) (w : World) (h : goodB s m = true) (h' : goodB s' m' = true) :
    (m * m' / 1000000 < 1000000000000000000000000000000000000 → ∀ t, ((s != s') && decide (m * m' / 1000000 ≠ 0)) = t →
      Calls Tryd.prog 74 #[(.agg #[.bool (s), .int .u64 ((hiN (m) : Nat) : Int), .int .u64 ((loN (m) : Nat) : Int)]), (.agg #[.bool (s'), .int .u64 ((hiN (m') : Nat) : Int), .int .u64 ((loN (m') : Nat) : Int)])] w fun e w' => e = .returned (.tuple #[(.agg #[.bool (t), .int .u64 ((hiN (m * m' / 1000000) : Nat) : Int), .int .u64 ((loN (m * m' / 1000000) : Nat) : Int)]), .nilIface]) ∧ Ext w w') ∧
    (¬ m * m' / 1000000 < 1000000000000000000000000000000000000 →
      Calls Tryd.prog 74 #[(.agg #[.bool (s), .int .u64 ((hiN (m) : Nat) : Int), .int .u64 ((loN (m) : Nat) : Int)]), (.agg #[.bool (s'), .int .u64 ((hiN (m') : Nat) : Int), .int .u64 ((loN (m') : Nat) : Int)])] w fun e w' => e = .returned (.tuple #[.agg #[.bool false, .int .u64 0, .int .u64 0], .iface 77 (.int .i64 2)]) ∧ Ext w w') := by
  have hm := good_lt h; have hm' := good_lt h'
  have H1 : Hid _ := Lib.hid fun w => right_any s m s' m' w true (by rw [h, h']; rfl)
  have HP : Hid _ := Lib.hid fun w => product_any m m' (by omega) (by omega) w
  have hL := limbs_of (m * m') (Nat.lt_trans (lt_mul hm hm') (by decide))
  have b0 := lim_lt 0 (m * m'); have b1 := lim_lt 1 (m * m'); have b2 := lim_lt 2 (m * m'); have b3 := lim_lt 3 (m * m')
  generalize m * m' = L at *
  generalize lim 0 L = l0 at *
  generalize lim 1 L = l1 at *
  generalize lim 2 L = l2 at *
  generalize lim 3 L = l3 at *
  have D3 := fun w => div64_any 0 l3 (by omega) b3 w
  rw [Nat.zero_mul, Nat.zero_add] at D3
  have r3 : l3 % 1000000 < 1000000 := Nat.mod_lt _ (by decide)
  have e3 := (Nat.div_add_mod' l3 1000000).symm
  have c3 : l3 / 1000000 < 18446744073709551616 := Nat.lt_of_le_of_lt (Nat.div_le_self _ _) b3
  generalize l3 % 1000000 = x3 at *
  generalize l3 / 1000000 = q3 at *
  have D2 := fun w => div64_any x3 l2 r3 b2 w
  have r2 : (x3 * 18446744073709551616 + l2) % 1000000 < 1000000 := Nat.mod_lt _ (by decide)
  have e2 := (Nat.div_add_mod' (x3 * 18446744073709551616 + l2) 1000000).symm
  have c2 := quo_lt r3 b2
  generalize (x3 * 18446744073709551616 + l2) % 1000000 = x2 at *
  generalize (x3 * 18446744073709551616 + l2) / 1000000 = q2 at *
  have D1 := fun w => div64_any x2 l1 r2 b1 w
  have r1 : (x2 * 18446744073709551616 + l1) % 1000000 < 1000000 := Nat.mod_lt _ (by decide)
  have e1 := (Nat.div_add_mod' (x2 * 18446744073709551616 + l1) 1000000).symm
  have c1 := quo_lt r2 b1
  generalize (x2 * 18446744073709551616 + l1) % 1000000 = x1 at *
  generalize (x2 * 18446744073709551616 + l1) / 1000000 = q1 at *
  have D0 := fun w => div64_any x1 l0 r1 b0 w
  have r0 : (x1 * 18446744073709551616 + l0) % 1000000 < 1000000 := Nat.mod_lt _ (by decide)
  have e0 := (Nat.div_add_mod' (x1 * 18446744073709551616 + l0) 1000000).symm
  have c0 := quo_lt r1 b0
  generalize (x1 * 18446744073709551616 + l0) % 1000000 = x0 at *
  generalize (x1 * 18446744073709551616 + l0) / 1000000 = q0 at *
  have hQ := long_div L l0 l1 l2 l3 18446744073709551616 (by omega) hL q3 x3 q2 x2 q1 x1 q0 x0 e3 e2 e1 e0 r0
  clear hL e0 e1 e2 e3
  by_cases hz : q2 = 0 ∧ q3 = 0
  · obtain ⟨hz2, hz3⟩ := hz
    have hQ' : L / 1000000 = q1 * 18446744073709551616 + q0 := by rw [hQ, hz2, hz3]; omega
    have eh : hiN (L / 1000000) = q1 := by rw [hQ']; unfold hiN; omega
    have el : loN (L / 1000000) = q0 := by rw [hQ']; unfold loN; omega
    have HB : (bits .or .u64 (q2 : Int) (q3 : Int) != 0) = false := by rw [or_ne q2 q3 c2 c3]; simp [hz2, hz3]
    refine ⟨fun hlt t ht => ?_, fun hlt => ?_⟩
    · have HL := Lib.hid fun w => below_lim (L / 1000000) w true (by simpa using hlt)
      have HM := Lib.hid fun w => made_any (s != s') (L / 1000000) w t ht
      rw [eh, el] at HL HM ⊢
      exact mul_fits s m s' m' w l0 l1 l2 l3 q0 q1 q2 q3 x0 x1 x2 x3 t HB HL HM H1 HP (Lib.hid D3) (Lib.hid D2) (Lib.hid D1) (Lib.hid D0)
    · have HL := Lib.hid fun w => below_lim (L / 1000000) w false (by simpa using hlt)
      rw [eh, el] at HL
      exact mul_over s m s' m' w l0 l1 l2 l3 q0 q1 q2 q3 x0 x1 x2 x3 HB HL H1 HP (Lib.hid D3) (Lib.hid D2) (Lib.hid D1) (Lib.hid D0)
  · have HB : (bits .or .u64 (q2 : Int) (q3 : Int) != 0) = true := by rw [or_ne q2 q3 c2 c3]; exact decide_eq_true hz
    refine ⟨fun hlt => ?_, fun _ => mul_high s m s' m' w l0 l1 l2 l3 q0 q1 q2 q3 x0 x1 x2 x3 HB H1 HP (Lib.hid D3) (Lib.hid D2) (Lib.hid D1) (Lib.hid D0)⟩
    exact absurd hlt (by rw [hQ]; omega)
end Go.Proofs.YtlfdelobjbdimaaDoor
