/-
  The walk of dec.divide.
-/
import Derived.Test.YtlfdelobjbdimaaDoorDecL
namespace Go.Proofs.YtlfdelobjbdimaaDoor
set_option linter.unusedSimpArgs false
set_option linter.unusedVariables false
open Go.RowKit

set_option maxRecDepth 100000 in
set_option maxHeartbeats 4000000 in
theorem divide_any (L b : Nat) (hL : L < 6277101735386680763835789423207666416102355444464034512896) (hb0 : 0 < b) (hb : b < 1000000000000000000000000000000000000) (w : World) (t' : Bool) (ht' : decide (L / b < 1000000000000000000000000000000000000) = t') :
    Calls Tryd.prog 52 #[.agg #[.int .u64 (lim 0 L : Nat), .int .u64 (lim 1 L : Nat), .int .u64 (lim 2 L : Nat)], (.agg #[.int .u64 ((hiN (b) : Nat) : Int), .int .u64 ((loN (b) : Nat) : Int)])] w fun e w' => e = .returned (.tuple #[(.agg #[.int .u64 ((hiN (L / b % 340282366920938463463374607431768211456) : Nat) : Int), .int .u64 ((loN (L / b % 340282366920938463463374607431768211456) : Nat) : Int)]), (.agg #[.int .u64 ((hiN (L % b) : Nat) : Int), .int .u64 ((loN (L % b) : Nat) : Int)]), .bool t']) ∧ Ext w w' := by
  have HL := Lib.hid hL; have HB0 := Lib.hid hb0; have HB := Lib.hid hb; have HT := Lib.hid ht'
  clear hL hb0 hb ht'
  go_enter Tryd.func52, Tryd.ntmps52
  go_wp2_with fail
  go_loopw [6, 7] (fun ok i wr => ∃ (n q r : Nat) (t : Bool), n ≤ 192 ∧ i = .int .i64 ((n : Int) - 1) ∧ ok = .bool t ∧ Hid (DivN L b n q r t) ∧ Hid (DivW w wr L b q r)) (fun _ i _ => (intOf i + 1).toNat)
  case atStart =>
    refine ⟨192, 0, 0, true, Nat.le_refl _, rfl, rfl, ?_, ?_⟩
    · refine Lib.hid ⟨?_, ?_, ?_⟩ <;> rw [Nat.div_eq_of_lt (show L < 2 ^ 192 from HL.out)] <;> simp
    · refine Lib.hid ⟨fun o ho => ?_, ?_, ?_, ?_, ?_, ?_, ?_, fun o => ?_, fun o => ?_, by simp, ?_⟩
      · rcases o with _ | _ | _ | o
        · go_simp
        · go_simp
        · go_simp
        · omega
      · go_simp
      · go_simp
      · go_simp; rfl
      · go_simp; rfl
      · go_simp; rfl
      · go_simp; rfl
      · go_simp
      · go_simp
      · repeat (first | (with_reducible refine Ext.set ?_ (by dsimp only; omega)) | (with_reducible refine Ext.al ?_) | (with_reducible refine Ext.dr ?_) | (with_reducible exact Ext.refl _) | (with_reducible refine Ext.trans ?_ (by assumption)))
  case round =>
    obtain ⟨n, q, r, t, hn, rfl, rfl, HN, HW⟩ := hrel
    by_cases h0 : n = 0
    · subst h0
      obtain ⟨l, b0, b1, q0, q1, r0, r1, fq, fr, sz, ex⟩ := HW.out
      obtain ⟨hq, hr, ht⟩ := HN.out
      rw [Nat.pow_zero, Nat.div_one] at hq hr ht
      have Hf : Hid ((t && decide (q < 1000000000000000000000000000000000000)) = t') := by
        refine Lib.hid ?_
        rw [← HT.out, ht, hq, Bool.eq_iff_iff]
        simp only [Bool.and_eq_true, decide_eq_true_eq]
        generalize L / b = d
        omega
      have Hq := Lib.hid hq; have Hr := Lib.hid hr
      clear hq hr ht l
      cases t
      · obtain rfl : t' = false := by rw [← Hf.out]; rfl
        go_wp2_with fail
        refine wp_region_M (fun w' => DivW w w' L b q r) (fun _ => true) (by kernel_rfl) (HW.out.grow (Ext.drew _)) ?_
        refine takeV (v := ?_) 0 rfl (by kernel_rfl) (fun _ _ _ h => h) (by rfl) ?_ ?_; rotate_left
        · intro w' hS; obtain ⟨_, _, _, q0, q1, r0, r1, fq, fr, _, _⟩ := hS; go_simp; all_goals with_reducible rfl
        simp only [Act.put, List.setIfInBounds_toArray, List.set_cons_zero, List.set_cons_succ]
        refine takeV (v := ?_) 1 rfl (by kernel_rfl) (fun _ _ _ h => h) (by rfl) ?_ ?_; rotate_left
        · intro w' hS; obtain ⟨_, _, _, q0, q1, r0, r1, fq, fr, _, _⟩ := hS; go_simp; all_goals with_reducible rfl
        simp only [Act.put, List.setIfInBounds_toArray, List.set_cons_zero, List.set_cons_succ]
        refine takeV (v := ?_) 2 rfl (by kernel_rfl) (fun _ _ _ h => h) (by rfl) ?_ ?_; rotate_left
        · intro w' hS; obtain ⟨_, _, _, q0, q1, r0, r1, fq, fr, _, _⟩ := hS; go_simp; all_goals with_reducible rfl
        simp only [Act.put, List.setIfInBounds_toArray, List.set_cons_zero, List.set_cons_succ]
        refine takeV (v := ?_) 3 rfl (by kernel_rfl) (fun _ _ _ h => h) (by rfl) ?_ ?_; rotate_left
        · intro w' hS; obtain ⟨_, _, _, q0, q1, r0, r1, fq, fr, _, _⟩ := hS; go_simp; all_goals with_reducible rfl
        simp only [Act.put, List.setIfInBounds_toArray, List.set_cons_zero, List.set_cons_succ]
        -- OFF 4 t67 := load 70 t4  [if #3 is true]
        refine takeN 4 rfl (by kernel_rfl) (fun _ _ _ h => h) (by rfl) ?_
        simp only [Act.put, List.setIfInBounds_toArray, List.set_cons_zero, List.set_cons_succ]
        -- OFF 5 t68 := call call F41()  [if #3 is true]
        refine takeN 5 rfl (by kernel_rfl) (fun _ _ _ h => h) (by rfl) ?_
        simp only [Act.put, List.setIfInBounds_toArray, List.set_cons_zero, List.set_cons_succ]
        -- OFF 6 t69 := call call F40(t67, t68)  [if #3 is true]
        refine takeN 6 rfl (by kernel_rfl) (fun _ _ _ h => h) (by rfl) ?_
        simp only [Act.put, List.setIfInBounds_toArray, List.set_cons_zero, List.set_cons_succ]
        refine takeV (v := ?_) 7 rfl (by kernel_rfl) (fun _ _ _ h => h) (by rfl) ?_ ?_; rotate_left
        · intro w' hS; obtain ⟨_, _, _, q0, q1, r0, r1, fq, fr, _, _⟩ := hS; go_simp; all_goals with_reducible rfl
        simp only [Act.put, List.setIfInBounds_toArray, List.set_cons_zero, List.set_cons_succ]
        refine oneM 8 rfl (by kernel_rfl) (by rfl) fun w2 hx2 hS2 => ?_
        have hS3 := Lib.hid hS2
        obtain ⟨_, _, _, q0, q1, r0, r1, fq, fr, _, _⟩ := hS2
        go_simp
        refine ⟨hS3.out.setQ q, ?_⟩
        clear q0 q1 r0 r1 fq fr
        refine oneM 9 rfl (by kernel_rfl) (by rfl) fun w3 hx3 hS4 => ?_
        have hS5 := Lib.hid hS4
        obtain ⟨_, _, _, q0, q1, r0, r1, fq, fr, _, _⟩ := hS4
        go_simp
        refine ⟨hS5.out.setR r, ?_⟩
        clear q0 q1 r0 r1 fq fr
        refine takeV (v := ?_) 10 rfl (by kernel_rfl) (fun _ _ _ h => h) (by rfl) ?_ ?_; rotate_left
        · intro w' hS; go_simp; all_goals with_reducible rfl
        simp only [Act.put, List.setIfInBounds_toArray, List.set_cons_zero, List.set_cons_succ]
        refine doneM (by kernel_rfl) fun w4 hx4 hS6 => ?_
        refine chainM [] (by kernel_rfl) rfl ?_
        have hS7 := Lib.hid hS6.ext
        obtain ⟨_, _, _, q0, q1, r0, r1, fq, fr, _, _⟩ := hS6
        go_wp2
        refine bodyPost_ret (v := .tuple #[(.agg #[.int .u64 ((hiN (q) : Nat) : Int), .int .u64 ((loN (q) : Nat) : Int)]), (.agg #[.int .u64 ((hiN (r) : Nat) : Int), .int .u64 ((loN (r) : Nat) : Int)]), .bool false]) (by simp only [results, Tryd.results52]; go_simp) rfl ⟨by rw [← Hq.out, ← Hr.out], hS7.out⟩
      · have Hb := Lib.hid fun w => below_lim q w t' (by rw [← Hf.out]; simp)
        go_wp2_with fail
        refine wp_region_M (fun w' => DivW w w' L b q r) (fun _ => true) (by kernel_rfl) (HW.out.grow (Ext.drew _)) ?_
        refine takeV (v := ?_) 0 rfl (by kernel_rfl) (fun _ _ _ h => h) (by rfl) ?_ ?_; rotate_left
        · intro w' hS; obtain ⟨_, _, _, q0, q1, r0, r1, fq, fr, _, _⟩ := hS; go_simp; all_goals with_reducible rfl
        simp only [Act.put, List.setIfInBounds_toArray, List.set_cons_zero, List.set_cons_succ]
        refine takeV (v := ?_) 1 rfl (by kernel_rfl) (fun _ _ _ h => h) (by rfl) ?_ ?_; rotate_left
        · intro w' hS; obtain ⟨_, _, _, q0, q1, r0, r1, fq, fr, _, _⟩ := hS; go_simp; all_goals with_reducible rfl
        simp only [Act.put, List.setIfInBounds_toArray, List.set_cons_zero, List.set_cons_succ]
        refine takeV (v := ?_) 2 rfl (by kernel_rfl) (fun _ _ _ h => h) (by rfl) ?_ ?_; rotate_left
        · intro w' hS; obtain ⟨_, _, _, q0, q1, r0, r1, fq, fr, _, _⟩ := hS; go_simp; all_goals with_reducible rfl
        simp only [Act.put, List.setIfInBounds_toArray, List.set_cons_zero, List.set_cons_succ]
        refine takeV (v := ?_) 3 rfl (by kernel_rfl) (fun _ _ _ h => h) (by rfl) ?_ ?_; rotate_left
        · intro w' hS; obtain ⟨_, _, _, q0, q1, r0, r1, fq, fr, _, _⟩ := hS; go_simp; all_goals with_reducible rfl
        simp only [Act.put, List.setIfInBounds_toArray, List.set_cons_zero, List.set_cons_succ]
        refine takeV (v := ?_) 4 rfl (by kernel_rfl) (fun _ _ _ h => h) (by rfl) ?_ ?_; rotate_left
        · intro w' hS; obtain ⟨_, _, _, q0, q1, r0, r1, fq, fr, _, _⟩ := hS; go_simp; all_goals with_reducible rfl
        simp only [Act.put, List.setIfInBounds_toArray, List.set_cons_zero, List.set_cons_succ]
        refine takeC (v := ?_) 5 rfl (by kernel_rfl) (fun _ _ _ h => h) (by rfl) (fun _ => by go_simp; exact ⟨rfl, rfl⟩) ?_ ?_; rotate_left
        · intro w' hS; refine Calls.mono (limit_walk _) fun e w2 hh => ⟨hh.1.trans ?_, hh.2, hS.grow hh.2⟩; with_reducible rfl
        simp only [Act.put, List.setIfInBounds_toArray, List.set_cons_zero, List.set_cons_succ]
        refine takeC (v := ?_) 6 rfl (by kernel_rfl) (fun _ _ _ h => h) (by rfl) (fun _ => by go_simp; exact ⟨rfl, rfl⟩) ?_ ?_; rotate_left
        · intro w' hS; refine Calls.mono (Hb.out _) fun e w2 hh => ⟨hh.1.trans ?_, hh.2, hS.grow hh.2⟩; with_reducible rfl
        simp only [Act.put, List.setIfInBounds_toArray, List.set_cons_zero, List.set_cons_succ]
        refine takeV (v := ?_) 7 rfl (by kernel_rfl) (fun _ _ _ h => h) (by rfl) ?_ ?_; rotate_left
        · intro w' hS; obtain ⟨_, _, _, q0, q1, r0, r1, fq, fr, _, _⟩ := hS; go_simp; all_goals with_reducible rfl
        simp only [Act.put, List.setIfInBounds_toArray, List.set_cons_zero, List.set_cons_succ]
        refine oneM 8 rfl (by kernel_rfl) (by rfl) fun w2 hx2 hS2 => ?_
        have hS3 := Lib.hid hS2
        obtain ⟨_, _, _, q0, q1, r0, r1, fq, fr, _, _⟩ := hS2
        go_simp
        refine ⟨hS3.out.setQ q, ?_⟩
        clear q0 q1 r0 r1 fq fr
        refine oneM 9 rfl (by kernel_rfl) (by rfl) fun w3 hx3 hS4 => ?_
        have hS5 := Lib.hid hS4
        obtain ⟨_, _, _, q0, q1, r0, r1, fq, fr, _, _⟩ := hS4
        go_simp
        refine ⟨hS5.out.setR r, ?_⟩
        clear q0 q1 r0 r1 fq fr
        refine takeV (v := ?_) 10 rfl (by kernel_rfl) (fun _ _ _ h => h) (by rfl) ?_ ?_; rotate_left
        · intro w' hS; go_simp; all_goals with_reducible rfl
        simp only [Act.put, List.setIfInBounds_toArray, List.set_cons_zero, List.set_cons_succ]
        refine doneM (by kernel_rfl) fun w4 hx4 hS6 => ?_
        refine chainM [] (by kernel_rfl) rfl ?_
        have hS7 := Lib.hid hS6.ext
        obtain ⟨_, _, _, q0, q1, r0, r1, fq, fr, _, _⟩ := hS6
        go_wp2
        refine bodyPost_ret (v := .tuple #[(.agg #[.int .u64 ((hiN (q) : Nat) : Int), .int .u64 ((loN (q) : Nat) : Int)]), (.agg #[.int .u64 ((hiN (r) : Nat) : Int), .int .u64 ((loN (r) : Nat) : Int)]), .bool t']) (by simp only [results, Tryd.results52]; go_simp) rfl ⟨by rw [← Hq.out, ← Hr.out], hS7.out⟩
    · have h0' : (0 : Int) ≤ (n : Int) - 1 := by omega
      have h1' : (n : Int) - 1 < 192 := by omega
      obtain ⟨l, b0, b1, q0, q1, r0, r1, fq, fr, sz, ex⟩ := HW.out
      have hl := l ((n - 1) / 64) (by omega)
      have hk2 : (0 : Int) ≤ ((n : Int) - 1) % 64 := by omega
      have hk3 : ((n : Int) - 1) % 64 < 64 := by omega
      have hbit : L / 2 ^ (n - 1) % 2 < 2 := Nat.mod_lt _ (by decide)
      have hr : r < b := by rw [HN.out.r]; exact Nat.mod_lt _ HB0.out
      have hb := HB.out
      have X0 := bit_of L (n - 1)
      have X1 := sh_hi r (L / 2 ^ (n - 1) % 2) hbit
      have X2 := sh_lo r (L / 2 ^ (n - 1) % 2) hbit
      rw [Nat.mod_eq_of_lt (show 2 * r + L / 2 ^ (n - 1) % 2 < 340282366920938463463374607431768211456 by omega)] at X1 X2
      have X3 := sh_hi q 0 (by omega)
      rw [Nat.add_zero] at X3
      have X4 := sh_lo0 q
      have X5 := or_one q
      have HW1 := Lib.hid ((HW.out.setR (2 * r + L / 2 ^ (n - 1) % 2)).setQ (2 * q % 340282366920938463463374607431768211456))
      by_cases hlt : 2 * r + L / 2 ^ (n - 1) % 2 < b
      · have HN' := Lib.hid (HN.out.low h0 HB0.out hlt)
        have Hb := Lib.hid fun w => below_any (2 * r + L / 2 ^ (n - 1) % 2) b w true (by simpa using hlt)
        clear hlt hr hb hbit l
        generalize 2 * r + L / 2 ^ (n - 1) % 2 = rr at *
        generalize L / 2 ^ (n - 1) % 2 = bit at *
        generalize 2 * q % 340282366920938463463374607431768211456 = qq at *
        have hz : (((hiN q : Nat) : Int) / 9223372036854775808 == 0) = (hiN q / 9223372036854775808 == 0) := by rw [Bool.eq_iff_iff]; simp; omega
        generalize (hiN q / 9223372036854775808 == 0) = z at *
        have hn1 : ((n - 1 : Nat) : Int) - 1 = (n : Int) - 1 - 1 := by omega
        have Hn1 := Lib.hid hn1; clear hn1
        cases t
        all_goals
          go_wp2_with fail
          refine (Hb.out _).mono ?_
          rintro e w9 ⟨rfl, hx9⟩
          have HW2 := Lib.hid (HW1.out.grow hx9)
          go_wp2
          go_roundw
          case rel => exact ⟨n - 1, qq, rr, _, by omega, by rw [Hn1.out], rfl, HN', HW2⟩
          case measure => simp [intOf]; omega
      · have HN' := Lib.hid (HN.out.high h0 HB0.out hlt)
        have Hb := Lib.hid fun w => below_any (2 * r + L / 2 ^ (n - 1) % 2) b w false (by simpa using hlt)
        have Hs := Lib.hid fun w => sub_any (2 * r + L / 2 ^ (n - 1) % 2) b (by omega) (by omega) w
        have H1 := Lib.hid (hi_one q)
        clear hlt hr hb hbit l
        generalize 2 * r + L / 2 ^ (n - 1) % 2 = rr at *
        generalize L / 2 ^ (n - 1) % 2 = bit at *
        generalize 2 * q % 340282366920938463463374607431768211456 = qq at *
        have hz : (((hiN q : Nat) : Int) / 9223372036854775808 == 0) = (hiN q / 9223372036854775808 == 0) := by rw [Bool.eq_iff_iff]; simp; omega
        generalize (hiN q / 9223372036854775808 == 0) = z at *
        have hn1 : ((n - 1 : Nat) : Int) - 1 = (n : Int) - 1 - 1 := by omega
        have Hn1 := Lib.hid hn1; clear hn1
        cases t
        all_goals
          go_wp2_with fail
          refine (Hb.out _).mono ?_
          rintro e w9 ⟨rfl, hx9⟩
          have HW2 := Lib.hid (HW1.out.grow hx9)
          obtain ⟨_, b0', b1', q0', q1', r0', r1', fq', fr', sz', ex'⟩ := HW2.out
          go_wp2_with fail
          refine (Hs.out _).mono ?_
          rintro e w8 ⟨rfl, hx8⟩
          have HW3 := Lib.hid (HW2.out.grow hx8)
          have HW4 := Lib.hid ((HW3.out.setR (rr - b)).setQlo (qq + 1) H1.out)
          obtain ⟨_, b0'', b1'', q0'', q1'', r0'', r1'', fq'', fr'', sz'', ex''⟩ := HW3.out
          go_wp2
          go_roundw
          case rel => exact ⟨n - 1, qq + 1, rr - b, _, by omega, by rw [Hn1.out], rfl, HN', HW4⟩
          case measure => simp [intOf]; omega
end Go.Proofs.YtlfdelobjbdimaaDoor
