/-
  math/bits.Div64 by a million: the numbers.
-/
import Derived.Test.YtlfdelobjbdimaaDoorDecI
namespace Go.Proofs.YtlfdelobjbdimaaDoor
set_option linter.unusedSimpArgs false
set_option linter.unusedVariables false
open Go.RowKit

theorem wrapI (a : Int) : IntKind.u64.wrap a = a % 18446744073709551616 := by rw [IntKind.wrap_u64]
theorem wrapE (a : Nat) : IntKind.u64.wrap (a : Int) = ((a % 18446744073709551616 : Nat) : Int) := by rw [wrapI]; omega
theorem d2 (hi lo : Nat) (h1 : hi < 1000000) (h2 : lo < 18446744073709551616) :
    bits .or .u64 (IntKind.u64.wrap ((hi : Int) * 17592186044416)) ((lo : Int) / 1048576) = ((hi * 17592186044416 + lo / 1048576 : Nat) : Int) := by
  have e1 : IntKind.u64.wrap ((hi : Int) * 17592186044416) = ((hi * 17592186044416 : Nat) : Int) := by rw [wrapI]; omega
  have e2 : (lo : Int) / 1048576 = ((lo / 1048576 : Nat) : Int) := by omega
  rw [e1, e2, bits_or_u64_nat _ _ (by omega) (by omega)]
  have h := Nat.two_pow_add_eq_or_of_lt (i := 44) (b := lo / 1048576) (by simp only [Nat.reducePow]; omega) hi
  simp only [Nat.reducePow] at h
  rw [Nat.mul_comm hi, ← h]
theorem d13 (X A b y : Nat) (h : X = A + b) (hb : b + y < 18446744073709551616) :
    IntKind.u64.wrap ((((X % 18446744073709551616 + y) % 18446744073709551616 : Nat) : Int) - ((A % 18446744073709551616 : Nat) : Int)) = ((b + y : Nat) : Int) := by
  rw [wrapI]; omega
theorem mulAssoc (q : Nat) : q * 4096000000 * 4294967296 = q * 17592186044416000000 := by omega
theorem k1 (hi lo c d q1 r1 q0 r0 y1 y0 A C Y E : Nat) (hlo : lo = c * E + d) (hx : hi * A + c = q1 * Y + r1) (hy : d * A = y1 * C + y0)
    (hu : r1 * C + y1 = q0 * Y + r0) (e1 : A * E = C * C) (e2 : Y * C = 1000000 * A) :
    (hi * (C * C) + lo) * A = ((q1 * C + q0) * 1000000) * A + (r0 * C + y0) := by
  have a1 : (hi * (C * C) + lo) * A = (hi * A + c) * (A * E) + d * A := by rw [hlo, ← e1]; grind
  have a2 : (q1 * Y + r1) * (C * C) + (y1 * C + y0) = q1 * C * (Y * C) + (r1 * C + y1) * C + y0 := by grind
  have a3 : q1 * C * (Y * C) + (q0 * Y + r0) * C + y0 = (q1 * C + q0) * (Y * C) + (r0 * C + y0) := by grind
  rw [a1, hx, e1, hy, a2, hu, a3, e2, Nat.mul_assoc]
theorem k2 (U Q v A : Nat) (h0 : 0 < A) (k : U * A = (Q * 1000000) * A + v) (hv : v < 1000000 * A) : Q = U / 1000000 ∧ v / A = U % 1000000 := by
  have h1 : Q * 1000000 ≤ U := by
    refine Nat.le_of_mul_le_mul_right (c := A) ?_ h0
    rw [k]; exact Nat.le_add_right _ _
  obtain ⟨r, rfl⟩ := Nat.exists_eq_add_of_le h1
  have hr : v = r * A := by rw [Nat.add_mul] at k; exact (Nat.add_left_cancel k).symm
  subst hr
  have hr' : r < 1000000 := Nat.lt_of_mul_lt_mul_right hv
  rw [Nat.mul_div_cancel _ h0]
  omega
theorem two_parts (n m : Nat) (h : 0 < m) : ∃ q r, n = q * m + r ∧ r < m := ⟨n / m, n % m, by rw [Nat.mul_comm]; exact (Nat.div_add_mod n m).symm, Nat.mod_lt _ h⟩
theorem wrap_id {a : Nat} (h : a < 18446744073709551616) : IntKind.u64.wrap (a : Int) = (a : Int) := by rw [wrapI]; omega
theorem div_of_parts {n q m r : Nat} (h : n = q * m + r) (hr : r < m) : n / m = q ∧ n % m = r := by
  subst h
  have hm : 0 < m := Nat.lt_of_le_of_lt (Nat.zero_le _) hr
  rw [Nat.mul_comm, Nat.mul_add_div hm, Nat.mul_add_mod, Nat.div_eq_of_lt hr, Nat.mod_eq_of_lt hr]
  exact ⟨rfl, rfl⟩
theorem wrap_div {n q m r : Nat} (h : n = q * m + r) (hr : r < m) (hn : n < 18446744073709551616) : IntKind.u64.wrap ((n : Int) / (m : Int)) = (q : Int) := by
  have h1 := (div_of_parts h hr).1
  rw [← Int.natCast_ediv, h1]
  refine wrap_id (Nat.lt_of_le_of_lt ?_ hn)
  rw [← h1]; exact Nat.div_le_self _ _
theorem wrap_rest {n q m r : Nat} (h : n = q * m + r) (hn : n < 18446744073709551616) : IntKind.u64.wrap ((n : Int) - IntKind.u64.wrap ((q : Int) * (m : Int))) = (r : Int) := by
  rw [← Int.natCast_mul, wrap_id (show q * m < 18446744073709551616 by omega), show (n : Int) - ((q * m : Nat) : Int) = (r : Int) by omega, wrap_id (by omega)]
theorem wrap_mul (a m : Nat) : IntKind.u64.wrap ((a : Int) * (m : Int)) = ((a * m % 18446744073709551616 : Nat) : Int) := by rw [← Int.natCast_mul, wrapE]
theorem wrap_add (a m : Nat) : IntKind.u64.wrap ((a : Int) + (m : Int)) = (((a + m) % 18446744073709551616 : Nat) : Int) := by rw [← Int.natCast_add, wrapE]

theorem div64_big (hi lo : Nat) (h1 : hi < 1000000) (h0 : ¬ hi = 0) (h2 : lo < 18446744073709551616) (w : World) :
    Calls Tryd.prog 80 #[.int .u64 hi, .int .u64 lo, .int .u64 1000000] w fun e w' => e = .returned (.tuple #[.int .u64 (((hi * 18446744073709551616 + lo) / 1000000 : Nat) : Int), .int .u64 (((hi * 18446744073709551616 + lo) % 1000000 : Nat) : Int)]) ∧ Ext w w' := by
  have D2 := d2 hi lo h1 h2
  have h3 : ((hi : Int) == 0) = false := by rw [beq_eq_false_iff_ne]; omega
  have h4 : decide ((1000000 : Int) ≤ (hi : Int)) = false := by rw [decide_eq_false_iff_not]; omega
  have hcv : lo / 1048576 = lo / 1048576 := rfl
  obtain ⟨c, d, hc, hd⟩ := two_parts lo 1048576 (by omega)
  have hcd := (div_of_parts hc hd).1
  rw [hcd] at D2
  have hc' : c < 17592186044416 := by omega
  obtain ⟨x, gx⟩ : ∃ x, x = hi * 17592186044416 + c := ⟨_, rfl⟩
  obtain ⟨y, gy⟩ : ∃ y, y = d * 17592186044416 := ⟨_, rfl⟩
  have hxb : x < 17592186044416000000 := by omega
  have hyb : y < 18446744073709551616 := by omega
  have hly : lo * 17592186044416 % 18446744073709551616 = y := by rw [hc, Nat.add_mul, show c * 1048576 * 17592186044416 = 18446744073709551616 * c by omega, Nat.mul_add_mod, ← gy, Nat.mod_eq_of_lt hyb]
  have E3 : IntKind.u64.wrap ((lo : Int) * 17592186044416) = (y : Int) := by
    have h := wrap_mul lo 17592186044416
    rw [hly, show ((17592186044416 : Nat) : Int) = 17592186044416 by omega] at h
    exact h
  rw [← gx] at D2
  obtain ⟨q1, r1, hx, hr1⟩ := two_parts x 4096000000 (by omega)
  obtain ⟨y1, y0, hy, hy0⟩ := two_parts y 4294967296 (by omega)
  have hy1 : y1 < 4294967296 := by omega
  obtain ⟨u, gu⟩ : ∃ u, u = r1 * 4294967296 + y1 := ⟨_, rfl⟩
  have hub : u < 17592186044416000000 := by omega
  obtain ⟨q0, r0, hu, hr0⟩ := two_parts u 4096000000 (by omega)
  have hq1 : q1 < 4294967296 := by omega
  have hq0 : q0 < 4294967296 := by omega
  obtain ⟨v, gv⟩ : ∃ v, v = r0 * 4294967296 + y0 := ⟨_, rfl⟩
  have hvb : v < 17592186044416000000 := by omega
  have kk := k1 hi lo c d q1 r1 q0 r0 y1 y0 17592186044416 4294967296 4096000000 1048576 hc (by rw [← gx]; exact hx) (by rw [← gy]; exact hy) (by rw [← gu]; exact hu) (by decide) (by decide)
  rw [← gv] at kk
  obtain ⟨f1, f2⟩ := k2 _ _ _ _ (by omega) kk (by omega)
  have hU : hi * (4294967296 * 4294967296) + lo = hi * 18446744073709551616 + lo := by simp only [Nat.reduceMul]
  rw [hU] at f1 f2
  rw [← f1, ← f2]
  clear kk f1 f2 hU hcv
  have E4 : bits .and .u64 (y : Int) 4294967295 = (y0 : Int) := by rw [maskN y hyb, (div_of_parts hy hy0).2]
  have E5 : (y : Int) / 4294967296 = (y1 : Int) := by
    have := (div_of_parts hy hy0).1; omega
  refine div64_walk hi lo x y y1 y0 q1 r1 (4294967296 * r1) u (x * 4294967296 % 18446744073709551616) ((x * 4294967296 % 18446744073709551616 + y1) % 18446744073709551616) (q1 * 17592186044416000000 % 18446744073709551616)
    q0 r0 (4294967296 * r0) v (q1 * 4294967296) (u * 4294967296 % 18446744073709551616) ((u * 4294967296 % 18446744073709551616 + y0) % 18446744073709551616) (q0 * 17592186044416000000 % 18446744073709551616) v (q1 * 4294967296 + q0) (v / 17592186044416) w h3 h4 D2 E3 E4 E5
    (wrap_div hx hr1 (by omega)) (wrap_rest hx (by omega)) (by rw [decide_eq_false_iff_not]; omega) ?_ ?_ (wrap_mul x 4294967296) (wrap_add _ _) (wrap_mul q1 17592186044416000000) ?_
    (wrap_div hu hr0 (by omega)) (wrap_rest hu (by omega)) (by rw [decide_eq_false_iff_not]; omega) ?_ ?_ ?_ ?_ (wrap_mul u 4294967296) (wrap_add _ _) (wrap_mul q0 17592186044416000000) ?_ ?_
  · rw [show (4294967296 : Int) * (r1 : Int) = ((4294967296 * r1 : Nat) : Int) by omega]; exact wrap_id (by omega)
  · rw [show ((4294967296 * r1 : Nat) : Int) + (y1 : Int) = (u : Int) by omega]; exact wrap_id (by omega)
  · rw [d13 (x * 4294967296) (q1 * 17592186044416000000) (r1 * 4294967296) y1 (by rw [hx, Nat.add_mul, mulAssoc]) (by omega), gu]
  · rw [show (4294967296 : Int) * (r0 : Int) = ((4294967296 * r0 : Nat) : Int) by omega]; exact wrap_id (by omega)
  · rw [show ((4294967296 * r0 : Nat) : Int) + (y0 : Int) = (v : Int) by omega]; exact wrap_id (by omega)
  · rw [show (q1 : Int) * 4294967296 = ((q1 * 4294967296 : Nat) : Int) by omega]; exact wrap_id (by omega)
  · rw [show ((q1 * 4294967296 : Nat) : Int) + (q0 : Int) = ((q1 * 4294967296 + q0 : Nat) : Int) by omega]; exact wrap_id (by omega)
  · rw [d13 (u * 4294967296) (q0 * 17592186044416000000) (r0 * 4294967296) y0 (by rw [hu, Nat.add_mul, mulAssoc]) (by omega), gv]
  · omega

theorem div64_any (hi lo : Nat) (h1 : hi < 1000000) (h2 : lo < 18446744073709551616) (w : World) :
    Calls Tryd.prog 80 #[.int .u64 hi, .int .u64 lo, .int .u64 1000000] w fun e w' => e = .returned (.tuple #[.int .u64 (((hi * 18446744073709551616 + lo) / 1000000 : Nat) : Int), .int .u64 (((hi * 18446744073709551616 + lo) % 1000000 : Nat) : Int)]) ∧ Ext w w' := by
  by_cases h0 : hi = 0
  · subst h0
    rw [Nat.zero_mul, Nat.zero_add]
    have e1 : IntKind.u64.wrap ((lo : Int) / 1000000) = ((lo / 1000000 : Nat) : Int) := by rw [wrapI]; omega
    have e2 : IntKind.u64.wrap ((lo : Int) % 1000000) = ((lo % 1000000 : Nat) : Int) := by rw [wrapI]; omega
    clear h1 h2
    go_enter Tryd.func80, Tryd.ntmps80
    go_wp2_with fail
    refine wp_region_M (fun w' => Ext _ w') (fun i => !([] : List Nat).contains i) (by kernel_rfl) (Ext.drew _) ?_
    refine takeV (v := ?_) 0 rfl (by kernel_rfl) (fun _ _ _ h => h) (by rfl) ?_ ?_; rotate_left
    · intro w' hS; have hc := (bcell hS).1; go_simp; all_goals with_reducible rfl
    simp only [Act.put, List.setIfInBounds_toArray, List.set_cons_zero, List.set_cons_succ]
    refine takeV (v := ?_) 1 rfl (by kernel_rfl) (fun _ _ _ h => h) (by rfl) ?_ ?_; rotate_left
    · intro w' hS; have hc := (bcell hS).1; go_simp; all_goals with_reducible rfl
    simp only [Act.put, List.setIfInBounds_toArray, List.set_cons_zero, List.set_cons_succ]
    refine takeV (v := ?_) 2 rfl (by kernel_rfl) (fun _ _ _ h => h) (by rfl) ?_ ?_; rotate_left
    · intro w' hS; have hc := (bcell hS).1; go_simp; all_goals with_reducible rfl
    simp only [Act.put, List.setIfInBounds_toArray, List.set_cons_zero, List.set_cons_succ]
    refine takeV (v := ?_) 3 rfl (by kernel_rfl) (fun _ _ _ h => h) (by rfl) ?_ ?_; rotate_left
    · intro w' hS; have hc := (bcell hS).1; go_simp; all_goals with_reducible rfl
    simp only [Act.put, List.setIfInBounds_toArray, List.set_cons_zero, List.set_cons_succ]
    refine takeV (v := ?_) 4 rfl (by kernel_rfl) (fun _ _ _ h => h) (by rfl) ?_ ?_; rotate_left
    · intro w' hS; have hc := (bcell hS).1; go_simp; all_goals with_reducible rfl
    simp only [Act.put, List.setIfInBounds_toArray, List.set_cons_zero, List.set_cons_succ]
    refine takeV (v := ?_) 5 rfl (by kernel_rfl) (fun _ _ _ h => h) (by rfl) ?_ ?_; rotate_left
    · intro w' hS; have hc := (bcell hS).1; go_simp; all_goals with_reducible rfl
    simp only [Act.put, List.setIfInBounds_toArray, List.set_cons_zero, List.set_cons_succ]
    refine takeV (v := ?_) 6 rfl (by kernel_rfl) (fun _ _ _ h => h) (by rfl) ?_ ?_; rotate_left
    · intro w' hS; have hc := (bcell hS).1; go_simp; all_goals with_reducible rfl
    simp only [Act.put, List.setIfInBounds_toArray, List.set_cons_zero, List.set_cons_succ]
    refine takeV (v := ?_) 7 rfl (by kernel_rfl) (fun _ _ _ h => h) (by rfl) ?_ ?_; rotate_left
    · intro w' hS; have hc := (bcell hS).1; go_simp; all_goals with_reducible rfl
    simp only [Act.put, List.setIfInBounds_toArray, List.set_cons_zero, List.set_cons_succ]
    refine doneM (by kernel_rfl) fun w1 hx hS => ?_
    obtain ⟨hc, hf, hz, hy⟩ := bcell hS
    refine chainM [] (by kernel_rfl) rfl ?_
    go_wp2
    go_ret2
    refine ⟨rfl, ?_⟩
    repeat (first | (with_reducible refine Ext.set ?_ (by dsimp only; omega)) | (with_reducible refine Ext.al ?_) | (with_reducible refine Ext.dr ?_) | (with_reducible exact Ext.refl _) | (with_reducible refine Ext.trans ?_ (by assumption)))
  · exact div64_big hi lo h1 h0 h2 w
end Go.Proofs.YtlfdelobjbdimaaDoor
