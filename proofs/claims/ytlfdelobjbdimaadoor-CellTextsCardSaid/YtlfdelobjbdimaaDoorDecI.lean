/-
  The walks of dec: product's limbs; math/bits.Div64 by a million.
-/
import Derived.Test.YtlfdelobjbdimaaDoorDecH
namespace Go.Proofs.YtlfdelobjbdimaaDoor
set_option linter.unusedSimpArgs false
set_option linter.unusedVariables false
open Go.RowKit

/-- A number's limb of 64 bits. -/
def lim (i : Nat) (L : Nat) : Nat := L / 18446744073709551616 ^ i % 18446744073709551616
theorem lim_zero (L : Nat) : lim 0 L = L % 18446744073709551616 := by simp [lim]
theorem lim_succ (i L : Nat) : lim (i + 1) L = lim i (L / 18446744073709551616) := by
  unfold lim; rw [Nat.pow_succ', Nat.div_div_eq_div_mul]
theorem div_of {L x k : Nat} (h : L = x + 18446744073709551616 * k) (hx : x < 18446744073709551616) : L / 18446744073709551616 = k ∧ L % 18446744073709551616 = x := by omega
theorem lims (L a b c d : Nat) (h : L = a + 18446744073709551616 * (b + 18446744073709551616 * (c + 18446744073709551616 * d)))
    (ha : a < 18446744073709551616) (hb : b < 18446744073709551616) (hc : c < 18446744073709551616) (hd : d < 18446744073709551616) :
    lim 0 L = a ∧ lim 1 L = b ∧ lim 2 L = c ∧ lim 3 L = d := by
  obtain ⟨h1, h2⟩ := div_of h ha
  obtain ⟨h3, h4⟩ := div_of (rfl : b + 18446744073709551616 * (c + 18446744073709551616 * d) = _) hb
  obtain ⟨h5, h6⟩ := div_of (rfl : c + 18446744073709551616 * d = _) hc
  refine ⟨by rw [lim_zero, h2], by rw [lim_succ, lim_zero, h1, h4], by rw [lim_succ, lim_succ, lim_zero, h1, h3, h6], by rw [lim_succ, lim_succ, lim_succ, lim_zero, h1, h3, h5, Nat.mod_eq_of_lt hd]⟩

theorem product_sum (B x0 y0 x1 y1 x2 y2 x3 y3 l1 c1 l2 d1 l1' c2 l2' d2 l2'' c3 l3 : Nat)
    (e1 : x0 + y1 = l1 + B * c1) (e2 : x1 + c1 = l2 + B * d1) (e3 : l1 + y2 = l1' + B * c2)
    (e4 : l2 + x2 + c2 = l2' + B * d2) (e5 : l2' + y3 = l2'' + B * c3) (e6 : d1 + d2 + x3 + c3 = l3) :
    (y0 + B * x0) + B * ((y1 + B * x1) + (y2 + B * x2)) + B * B * (y3 + B * x3) = y0 + B * (l1' + B * (l2'' + B * l3)) := by
  subst e6
  have f3 : x0 + y1 + y2 = l1' + B * (c1 + c2) := by rw [e1, Nat.add_right_comm, e3, Nat.mul_add]; omega
  have f5 : x1 + x2 + y3 + c1 + c2 = l2'' + B * (d1 + d2 + c3) := by
    have : x1 + x2 + y3 + c1 + c2 = (x1 + c1) + x2 + c2 + y3 := by omega
    rw [this, e2, show l2 + B * d1 + x2 + c2 + y3 = l2 + x2 + c2 + B * d1 + y3 by omega, e4, show l2' + B * d2 + B * d1 + y3 = l2' + y3 + B * d2 + B * d1 by omega, e5, Nat.mul_add, Nat.mul_add]
    omega
  have g : (y0 + B * x0) + B * ((y1 + B * x1) + (y2 + B * x2)) + B * B * (y3 + B * x3) = y0 + B * ((x0 + y1 + y2) + B * (x1 + x2 + y3 + B * x3)) := by grind
  rw [g, f3, show l1' + B * (c1 + c2) + B * (x1 + x2 + y3 + B * x3) = l1' + B * ((x1 + x2 + y3 + c1 + c2) + B * x3) by grind, f5]
  grind

theorem mul_split (ah al bh bl : Nat) : (ah * 18446744073709551616 + al) * (bh * 18446744073709551616 + bl) = al * bl + 18446744073709551616 * (al * bh + ah * bl) + 18446744073709551616 * 18446744073709551616 * (ah * bh) := by grind

theorem lt_mul {a b n : Nat} (ha : a < n) (hb : b < n) : a * b < n * n := Nat.mul_lt_mul'' ha hb
theorem carry_le {x y c : Nat} (hx : x < 18446744073709551616) (hy : y < 18446744073709551616) (hc : c ≤ 1) : (x + y + c) / 18446744073709551616 ≤ 1 := by omega
theorem half_lt {r : Nat} (h : r < 18446744073709551616 * 18446744073709551616) : r / 18446744073709551616 < 18446744073709551616 := by omega
theorem run_add0 (x y : Nat) (w : World) :
    (callFunc 68 #[.int .u64 x, .int .u64 y, .int .u64 0]).run Tryd.prog w =
      .ok (.value (.tuple #[.int .u64 (((x + y) % 18446744073709551616 : Nat) : Int), .int .u64 (((x + y) / 18446744073709551616 : Nat) : Int)])) w := run_add64 x y 0 (by omega) w
theorem run_add1 (y c : Nat) (hc : c ≤ 1) (w : World) :
    (callFunc 68 #[.int .u64 0, .int .u64 y, .int .u64 c]).run Tryd.prog w =
      .ok (.value (.tuple #[.int .u64 (((y + c) % 18446744073709551616 : Nat) : Int), .int .u64 (((y + c) / 18446744073709551616 : Nat) : Int)])) w := by
  have h := run_add64 0 y c hc w
  rw [Nat.zero_add] at h; exact h

theorem product_any (a b : Nat) (ha : a < 340282366920938463463374607431768211456) (hb : b < 340282366920938463463374607431768211456) (w : World) :
    Calls Tryd.prog 56 #[(.agg #[.int .u64 ((hiN (a) : Nat) : Int), .int .u64 ((loN (a) : Nat) : Int)]), (.agg #[.int .u64 ((hiN (b) : Nat) : Int), .int .u64 ((loN (b) : Nat) : Int)])] w fun e w' => e = .returned (.agg #[.int .u64 (lim 0 (a * b) : Nat), .int .u64 (lim 1 (a * b) : Nat), .int .u64 (lim 2 (a * b) : Nat), .int .u64 (lim 3 (a * b) : Nat)]) ∧ Ext w w' := by
  have hah := hiN_lt ha; have hbh := hiN_lt hb; have hal := loN_lt a; have hbl := loN_lt b
  have hL : a * b < 18446744073709551616 * 18446744073709551616 * (18446744073709551616 * 18446744073709551616) := lt_mul ha hb
  have hs := mul_split (hiN a) (loN a) (hiN b) (loN b)
  rw [hilo a, hilo b] at hs
  have p0 := lt_mul hal hbl; have p1 := lt_mul hal hbh; have p2 := lt_mul hah hbl; have p3 := lt_mul hah hbh
  have M1 := Lib.hid fun w => mul64_any (loN a) (loN b) hal hbl w
  have M2 := Lib.hid fun w => mul64_any (loN a) (hiN b) hal hbh w
  have M3 := Lib.hid fun w => mul64_any (hiN a) (loN b) hah hbl w
  have M4 := Lib.hid fun w => mul64_any (hiN a) (hiN b) hah hbh w
  generalize loN a * loN b = r0 at *
  generalize loN a * hiN b = r1 at *
  generalize hiN a * loN b = r2 at *
  generalize hiN a * hiN b = r3 at *
  have m0 := (Nat.mod_add_div r0 18446744073709551616).symm; have m1 := (Nat.mod_add_div r1 18446744073709551616).symm; have m2 := (Nat.mod_add_div r2 18446744073709551616).symm; have m3 := (Nat.mod_add_div r3 18446744073709551616).symm
  have b0 : r0 % 18446744073709551616 < 18446744073709551616 := Nat.mod_lt _ (by decide); have b1 : r1 % 18446744073709551616 < 18446744073709551616 := Nat.mod_lt _ (by decide); have b2 : r2 % 18446744073709551616 < 18446744073709551616 := Nat.mod_lt _ (by decide); have b3 : r3 % 18446744073709551616 < 18446744073709551616 := Nat.mod_lt _ (by decide)
  have d0 := half_lt p0; have d1 := half_lt p1; have d2 := half_lt p2; have d3 := half_lt p3
  generalize r0 % 18446744073709551616 = y0 at *; generalize r0 / 18446744073709551616 = x0 at *
  generalize r1 % 18446744073709551616 = y1 at *; generalize r1 / 18446744073709551616 = x1 at *
  generalize r2 % 18446744073709551616 = y2 at *; generalize r2 / 18446744073709551616 = x2 at *
  generalize r3 % 18446744073709551616 = y3 at *; generalize r3 / 18446744073709551616 = x3 at *
  rw [m0, m1, m2, m3] at hs
  clear m0 m1 m2 m3 p0 p1 p2 p3
  have A1 := fun w => run_add0 x0 y1 w
  have e1 := (Nat.mod_add_div (x0 + y1) 18446744073709551616).symm
  have l1b : (x0 + y1) % 18446744073709551616 < 18446744073709551616 := Nat.mod_lt _ (by decide)
  have c1b : (x0 + y1) / 18446744073709551616 ≤ 1 := carry_le (c := 0) d0 b1 (by omega)
  generalize (x0 + y1) % 18446744073709551616 = l1 at *; generalize (x0 + y1) / 18446744073709551616 = c1 at *
  have A2 := fun w => run_add1 x1 c1 c1b w
  have e2 := (Nat.mod_add_div (x1 + c1) 18446744073709551616).symm
  have l2b : (x1 + c1) % 18446744073709551616 < 18446744073709551616 := Nat.mod_lt _ (by decide)
  have d1b : (x1 + c1) / 18446744073709551616 ≤ 1 := carry_le (c := 0) d1 (by omega) (by omega)
  generalize (x1 + c1) % 18446744073709551616 = l2 at *; generalize (x1 + c1) / 18446744073709551616 = e1' at *
  have A3 := fun w => run_add0 l1 y2 w
  have e3 := (Nat.mod_add_div (l1 + y2) 18446744073709551616).symm
  have l1b' : (l1 + y2) % 18446744073709551616 < 18446744073709551616 := Nat.mod_lt _ (by decide)
  have c2b : (l1 + y2) / 18446744073709551616 ≤ 1 := carry_le (c := 0) l1b b2 (by omega)
  generalize (l1 + y2) % 18446744073709551616 = l1' at *; generalize (l1 + y2) / 18446744073709551616 = c2 at *
  have A4 := fun w => run_add64 l2 x2 c2 c2b w
  have e4 := (Nat.mod_add_div (l2 + x2 + c2) 18446744073709551616).symm
  have l2b' : (l2 + x2 + c2) % 18446744073709551616 < 18446744073709551616 := Nat.mod_lt _ (by decide)
  have d2b : (l2 + x2 + c2) / 18446744073709551616 ≤ 1 := carry_le l2b d2 c2b
  generalize (l2 + x2 + c2) % 18446744073709551616 = l2' at *; generalize (l2 + x2 + c2) / 18446744073709551616 = e2' at *
  have A5 := fun w => run_add0 l2' y3 w
  have e5 := (Nat.mod_add_div (l2' + y3) 18446744073709551616).symm
  have l2b'' : (l2' + y3) % 18446744073709551616 < 18446744073709551616 := Nat.mod_lt _ (by decide)
  have c3b : (l2' + y3) / 18446744073709551616 ≤ 1 := carry_le (c := 0) l2b' b3 (by omega)
  generalize (l2' + y3) % 18446744073709551616 = l2'' at *; generalize (l2' + y3) / 18446744073709551616 = c3 at *
  have A6 := fun w => run_add64 (e1' + e2') x3 c3 c3b w
  have e := product_sum 18446744073709551616 x0 y0 x1 y1 x2 y2 x3 y3 l1 c1 l2 e1' l1' c2 l2' e2' l2'' c3 _ e1 e2 e3 e4 e5 rfl
  rw [e] at hs
  have hl3 : e1' + e2' + x3 + c3 < 18446744073709551616 := by
    rw [hs] at hL
    rcases Nat.lt_or_ge (e1' + e2' + x3 + c3) 18446744073709551616 with h | h
    · exact h
    · exact absurd hL (by
        have h1 : 18446744073709551616 * (18446744073709551616 * (18446744073709551616 * 18446744073709551616)) ≤ 18446744073709551616 * (18446744073709551616 * (18446744073709551616 * (e1' + e2' + x3 + c3))) := Nat.mul_le_mul_left _ (Nat.mul_le_mul_left _ (Nat.mul_le_mul_left _ h))
        clear e1 e2 e3 e4 e5 e hs A1 A2 A3 A4 A5 A6 hL
        omega)
  rw [Nat.mod_eq_of_lt hl3] at A6
  obtain ⟨k0, k1, k2, k3⟩ := lims (a * b) y0 l1' l2'' _ hs b0 l1b' l2b'' hl3
  rw [k0, k1, k2, k3]
  exact product_walk _ _ _ _ _ _ _ _ _ _ _ _ _ _ _ _ _ _ _ _ _ _ _ _ w d1b d2b M1 M2 M3 M4 A1 A2 A3 A4 A5 (by simpa only [Int.natCast_add e1' e2'] using A6)

set_option maxRecDepth 100000 in
set_option maxHeartbeats 4000000 in
theorem lead_mega (w : World) :
    Calls Tryd.prog 85 #[.int .u64 1000000] w fun e w' => e = .returned (.int .i64 44) ∧ w = w' := by
  go_enter Tryd.func85, Tryd.ntmps85
  go_wp2
  go_ret
  exact ⟨by kernel_rfl, rfl⟩

theorem div_e1 : bits .and .u64 17592186044416000000 4294967295 = 0 := by decide +kernel

set_option maxRecDepth 100000 in
set_option maxHeartbeats 4000000 in
theorem div64_walk (hi lo x y y1 y0 q1 r1 z u m1 m2 m3 q0 r0 z2 v n1 n2 n3 n4 n5 Q R : Nat) (w : World) (h3 : ((hi : Int) == 0) = false) (h4 : decide ((1000000 : Int) ≤ (hi : Int)) = false)
    (E2 : bits .or .u64 (IntKind.u64.wrap ((hi : Int) * 17592186044416)) ((lo : Int) / 1048576) = (x : Int))
    (E3 : IntKind.u64.wrap ((lo : Int) * 17592186044416) = (y : Int))
    (E4 : bits .and .u64 (y : Int) 4294967295 = (y0 : Int)) (E5 : (y : Int) / 4294967296 = (y1 : Int))
    (E6 : IntKind.u64.wrap ((x : Int) / 4096000000) = (q1 : Int)) (E7 : IntKind.u64.wrap ((x : Int) - IntKind.u64.wrap ((q1 : Int) * 4096000000)) = (r1 : Int))
    (B1 : decide ((4294967296 : Int) ≤ (q1 : Int)) = false) (E8 : IntKind.u64.wrap (4294967296 * (r1 : Int)) = (z : Int)) (E9 : IntKind.u64.wrap ((z : Int) + (y1 : Int)) = (u : Int))
    (E10 : IntKind.u64.wrap ((x : Int) * 4294967296) = (m1 : Int)) (E11 : IntKind.u64.wrap ((m1 : Int) + (y1 : Int)) = (m2 : Int)) (E12 : IntKind.u64.wrap ((q1 : Int) * 17592186044416000000) = (m3 : Int)) (E13 : IntKind.u64.wrap ((m2 : Int) - (m3 : Int)) = (u : Int))
    (E14 : IntKind.u64.wrap ((u : Int) / 4096000000) = (q0 : Int)) (E15 : IntKind.u64.wrap ((u : Int) - IntKind.u64.wrap ((q0 : Int) * 4096000000)) = (r0 : Int))
    (B2 : decide ((4294967296 : Int) ≤ (q0 : Int)) = false) (E16 : IntKind.u64.wrap (4294967296 * (r0 : Int)) = (z2 : Int)) (E17 : IntKind.u64.wrap ((z2 : Int) + (y0 : Int)) = (v : Int))
    (E18 : IntKind.u64.wrap ((q1 : Int) * 4294967296) = (n1 : Int)) (E19 : IntKind.u64.wrap ((n1 : Int) + (q0 : Int)) = (Q : Int))
    (E20 : IntKind.u64.wrap ((u : Int) * 4294967296) = (n2 : Int)) (E21 : IntKind.u64.wrap ((n2 : Int) + (y0 : Int)) = (n3 : Int)) (E22 : IntKind.u64.wrap ((q0 : Int) * 17592186044416000000) = (n4 : Int)) (E23 : IntKind.u64.wrap ((n3 : Int) - (n4 : Int)) = (n5 : Int))
    (E24 : (n5 : Int) / 17592186044416 = (R : Int)) :
    Calls Tryd.prog 80 #[.int .u64 hi, .int .u64 lo, .int .u64 1000000] w fun e w' => e = .returned (.tuple #[.int .u64 (Q : Int), .int .u64 (R : Int)]) ∧ Ext w w' := by
  have E1 := div_e1
  go_enter Tryd.func80, Tryd.ntmps80
  go_wp2_with (go_at_call 85; refine (lead_mega _).mono ?_; rintro e w9 ⟨rfl, rfl⟩)
  refine wp_loop_rounds 1 ?_
  rw [rounds_succ]
  go_wp2_with fail
  refine wp_loop_rounds 1 ?_
  rw [rounds_succ]
  go_wp2_with fail
  go_ret2
  refine ⟨rfl, ?_⟩
  repeat (first | (with_reducible refine Ext.set ?_ (by dsimp only; omega)) | (with_reducible refine Ext.al ?_) | (with_reducible refine Ext.dr ?_) | (with_reducible exact Ext.refl _) | (with_reducible refine Ext.trans ?_ (by assumption)))
end Go.Proofs.YtlfdelobjbdimaaDoor
