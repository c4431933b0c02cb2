/-
  The walks of dec: divide.
-/
import Derived.Test.YtlfdelobjbdimaaDoorDecK
namespace Go.Proofs.YtlfdelobjbdimaaDoor
set_option linter.unusedSimpArgs false
set_option linter.unusedVariables false
open Go.RowKit

/-- Of the world inside divide's loop: the four variables' cells. -/
structure DivW (w wr : World) (L by_ q r : Nat) : Prop where
  l : ∀ o, o < 3 → wr.cell? ⟨w.heap.size, o, none⟩ = some (.int .u64 (lim o L : Nat))
  b0 : wr.cell? ⟨w.heap.size + 1, 0, none⟩ = some (.int .u64 (hiN by_ : Nat))
  b1 : wr.cell? ⟨w.heap.size + 1, 1, none⟩ = some (.int .u64 (loN by_ : Nat))
  q0 : wr.cell? ⟨w.heap.size + 1 + 1, 0, none⟩ = some (.int .u64 (hiN q : Nat))
  q1 : wr.cell? ⟨w.heap.size + 1 + 1, 1, none⟩ = some (.int .u64 (loN q : Nat))
  r0 : wr.cell? ⟨w.heap.size + 1 + 1 + 1, 0, none⟩ = some (.int .u64 (hiN r : Nat))
  r1 : wr.cell? ⟨w.heap.size + 1 + 1 + 1, 1, none⟩ = some (.int .u64 (loN r : Nat))
  fq : ∀ o, wr.frozen? ⟨w.heap.size + 1 + 1, o, none⟩ = false
  fr : ∀ o, wr.frozen? ⟨w.heap.size + 1 + 1 + 1, o, none⟩ = false
  size : w.heap.size + 1 + 1 + 1 < wr.heap.size
  ext : Ext w wr

theorem DivW.grow {w wr w' : World} {L b q r : Nat} (h : DivW w wr L b q r) (hx : Ext wr w') : DivW w w' L b q r := by
  obtain ⟨l, b0, b1, q0, q1, r0, r1, fq, fr, sz, ex⟩ := h
  refine ⟨fun o ho => ?_, ?_, ?_, ?_, ?_, ?_, ?_, fun o => ?_, fun o => ?_, Nat.lt_of_lt_of_le sz hx.size, ex.trans hx⟩
  · rw [hx.cell (by show w.heap.size < _; omega)]; exact l o ho
  · rw [hx.cell (by show w.heap.size + 1 < _; omega)]; exact b0
  · rw [hx.cell (by show w.heap.size + 1 < _; omega)]; exact b1
  · rw [hx.cell (by show w.heap.size + 1 + 1 < _; omega)]; exact q0
  · rw [hx.cell (by show w.heap.size + 1 + 1 < _; omega)]; exact q1
  · rw [hx.cell (by show w.heap.size + 1 + 1 + 1 < _; omega)]; exact r0
  · rw [hx.cell (by show w.heap.size + 1 + 1 + 1 < _; omega)]; exact r1
  · rw [hx.frozen (by show w.heap.size + 1 + 1 < _; omega)]; exact fq o
  · rw [hx.frozen (by show w.heap.size + 1 + 1 + 1 < _; omega)]; exact fr o
theorem DivW.setR {w wr : World} {L b q r : Nat} (h : DivW w wr L b q r) (r' : Nat) :
    DivW w ((wr.setCell ⟨w.heap.size + 1 + 1 + 1, 0, none⟩ (.int .u64 (hiN r' : Nat))).setCell ⟨w.heap.size + 1 + 1 + 1, 1, none⟩ (.int .u64 (loN r' : Nat))) L b q r' := by
  obtain ⟨l, b0, b1, q0, q1, r0, r1, fq, fr, sz, ex⟩ := h
  refine ⟨fun o ho => ?_, ?_, ?_, ?_, ?_, ?_, ?_, fun o => ?_, fun o => ?_, by simpa using sz, Ext.set (Ext.set ex (by dsimp only; omega)) (by dsimp only; omega)⟩
  · have := l o ho; go_simp
  all_goals go_simp
theorem DivW.setQ {w wr : World} {L b q r : Nat} (h : DivW w wr L b q r) (q' : Nat) :
    DivW w ((wr.setCell ⟨w.heap.size + 1 + 1, 0, none⟩ (.int .u64 (hiN q' : Nat))).setCell ⟨w.heap.size + 1 + 1, 1, none⟩ (.int .u64 (loN q' : Nat))) L b q' r := by
  obtain ⟨l, b0, b1, q0, q1, r0, r1, fq, fr, sz, ex⟩ := h
  refine ⟨fun o ho => ?_, ?_, ?_, ?_, ?_, ?_, ?_, fun o => ?_, fun o => ?_, by simpa using sz, Ext.set (Ext.set ex (by dsimp only; omega)) (by dsimp only; omega)⟩
  · have := l o ho; go_simp
  all_goals go_simp
theorem DivW.setQlo {w wr : World} {L b q r : Nat} (h : DivW w wr L b q r) (q' : Nat) (hq : hiN q' = hiN q) :
    DivW w (wr.setCell ⟨w.heap.size + 1 + 1, 1, none⟩ (.int .u64 (loN q' : Nat))) L b q' r := by
  obtain ⟨l, b0, b1, q0, q1, r0, r1, fq, fr, sz, ex⟩ := h
  rw [← hq] at q0
  refine ⟨fun o ho => ?_, ?_, ?_, ?_, ?_, ?_, ?_, fun o => ?_, fun o => ?_, by simpa using sz, Ext.set ex (by dsimp only; omega)⟩
  · have := l o ho; go_simp
  all_goals go_simp

/-- What divide has reckoned when n bits are still to come. -/
structure DivN (L by_ n q r : Nat) (ok : Bool) : Prop where
  q : q = L / 2 ^ n / by_ % 340282366920938463463374607431768211456
  r : r = L / 2 ^ n % by_
  ok : ok = decide (L / 2 ^ n / by_ < 340282366920938463463374607431768211456)

theorem halves (L n : Nat) (h : ¬ n = 0) : L / 2 ^ (n - 1) = 2 * (L / 2 ^ n) + L / 2 ^ (n - 1) % 2 := by
  obtain ⟨k, rfl⟩ := Nat.exists_eq_succ_of_ne_zero h
  simp only [Nat.succ_eq_add_one, Nat.add_sub_cancel]
  rw [Nat.pow_succ, ← Nat.div_div_eq_div_mul]
  omega

theorem DivN.low {L b n q r : Nat} {t : Bool} (h : DivN L b n q r t) (h0 : ¬ n = 0) (hb : 0 < b) (hlt : 2 * r + L / 2 ^ (n - 1) % 2 < b) :
    DivN L b (n - 1) (2 * q % 340282366920938463463374607431768211456) (2 * r + L / 2 ^ (n - 1) % 2) (t && hiN q / 9223372036854775808 == 0) := by
  obtain ⟨hq, hr, ht⟩ := h
  have hh := halves L n h0
  generalize L / 2 ^ n = P at *
  obtain ⟨P', hP'⟩ : ∃ P', P' = L / 2 ^ (n - 1) := ⟨_, rfl⟩
  rw [← hP'] at hh hlt
  rw [← hP']
  have hP := Nat.div_add_mod P b
  have hm := Nat.mod_lt P hb
  have hd : P' = b * (2 * (P / b)) + (2 * r + P' % 2) := by rw [hr, Nat.mul_left_comm]; omega
  obtain ⟨e1, e2⟩ := div_of_parts (n := P') (q := 2 * (P / b)) (m := b) (r := 2 * r + P' % 2) (by rw [Nat.mul_comm]; exact hd) hlt
  refine ⟨?_, ?_, ?_⟩
  · rw [← hP', e1, hq]; generalize P / b = d; omega
  · rw [← hP', e2]
  · rw [← hP', e1, ht, hq, Bool.eq_iff_iff]
    generalize P / b = d
    unfold hiN
    simp only [Bool.and_eq_true, decide_eq_true_eq, beq_iff_eq]
    omega
theorem DivN.high {L b n q r : Nat} {t : Bool} (h : DivN L b n q r t) (h0 : ¬ n = 0) (hb : 0 < b) (hlt : ¬ 2 * r + L / 2 ^ (n - 1) % 2 < b) :
    DivN L b (n - 1) (2 * q % 340282366920938463463374607431768211456 + 1) (2 * r + L / 2 ^ (n - 1) % 2 - b) (t && hiN q / 9223372036854775808 == 0) := by
  obtain ⟨hq, hr, ht⟩ := h
  have hh := halves L n h0
  generalize L / 2 ^ n = P at *
  obtain ⟨P', hP'⟩ : ∃ P', P' = L / 2 ^ (n - 1) := ⟨_, rfl⟩
  rw [← hP'] at hh hlt
  rw [← hP']
  have hP := Nat.div_add_mod P b
  have hm := Nat.mod_lt P hb
  have hd : P' = b * (2 * (P / b) + 1) + (2 * r + P' % 2 - b) := by rw [hr, Nat.mul_add, Nat.mul_left_comm]; omega
  obtain ⟨e1, e2⟩ := div_of_parts (n := P') (q := 2 * (P / b) + 1) (m := b) (r := 2 * r + P' % 2 - b) (by rw [Nat.mul_comm]; exact hd) (by omega)
  refine ⟨?_, ?_, ?_⟩
  · rw [← hP', e1, hq]; generalize P / b = d; omega
  · rw [← hP', e2]
  · rw [← hP', e1, ht, hq, Bool.eq_iff_iff]
    generalize P / b = d
    unfold hiN
    simp only [Bool.and_eq_true, decide_eq_true_eq, beq_iff_eq]
    omega

/-! ### shifts by one place -/
theorem or_bit (a c : Nat) (hc : c < 2) (ha : 2 * a < 18446744073709551616) : bits .or .u64 ((2 * a : Nat) : Int) (c : Int) = ((2 * a + c : Nat) : Int) := by
  rw [bits_or_u64_nat _ _ ha (by omega)]
  have h := Nat.two_pow_add_eq_or_of_lt (i := 1) (b := c) (by omega) a
  rw [Nat.pow_one] at h
  rw [h]
theorem sh_hi (x c : Nat) (hc : c < 2) : bits .or .u64 (IntKind.u64.wrap ((hiN x : Int) * 2)) ((loN x : Int) / 9223372036854775808) = ((hiN ((2 * x + c) % 340282366920938463463374607431768211456) : Nat) : Int) := by
  have e1 : IntKind.u64.wrap ((hiN x : Int) * 2) = ((2 * (hiN x % 9223372036854775808) : Nat) : Int) := by rw [wrapI]; omega
  have e2 : (loN x : Int) / 9223372036854775808 = ((loN x / 9223372036854775808 : Nat) : Int) := by omega
  have := loN_lt x
  rw [e1, e2, or_bit _ _ (by omega) (by omega)]
  congr 1
  unfold hiN loN; omega
theorem sh_lo (x c : Nat) (hc : c < 2) : bits .or .u64 (IntKind.u64.wrap ((loN x : Int) * 2)) (c : Int) = ((loN ((2 * x + c) % 340282366920938463463374607431768211456) : Nat) : Int) := by
  have e1 : IntKind.u64.wrap ((loN x : Int) * 2) = ((2 * (loN x % 9223372036854775808) : Nat) : Int) := by rw [wrapI]; omega
  rw [e1, or_bit _ _ hc (by omega)]
  congr 1
  unfold loN; omega
theorem sh_lo0 (x : Nat) : IntKind.u64.wrap ((loN x : Int) * 2) = ((loN (2 * x % 340282366920938463463374607431768211456) : Nat) : Int) := by
  rw [wrapI]; unfold loN; omega
theorem or_one (x : Nat) : bits .or .u64 ((loN (2 * x % 340282366920938463463374607431768211456) : Nat) : Int) 1 = ((loN (2 * x % 340282366920938463463374607431768211456 + 1) : Nat) : Int) := by
  have e : loN (2 * x % 340282366920938463463374607431768211456) = 2 * (loN x % 9223372036854775808) := by unfold loN; omega
  rw [e]
  have h := or_bit (loN x % 9223372036854775808) 1 (by omega) (by omega)
  refine Eq.trans h (congrArg _ ?_)
  unfold loN; omega
theorem hi_one (x : Nat) : hiN (2 * x % 340282366920938463463374607431768211456 + 1) = hiN (2 * x % 340282366920938463463374607431768211456) := by unfold hiN; omega
theorem bit_of (L m : Nat) : bits .and .u64 (((lim (m / 64) L : Nat) : Int) / 2 ^ (m % 64)) 1 = ((L / 2 ^ m % 2 : Nat) : Int) := by
  have hj : m % 64 < 64 := Nat.mod_lt _ (by decide)
  have hlt : lim (m / 64) L < 18446744073709551616 := Nat.mod_lt _ (by decide)
  have e1 : ((lim (m / 64) L : Nat) : Int) / 2 ^ (m % 64) = ((lim (m / 64) L / 2 ^ (m % 64) : Nat) : Int) := by simp
  have e2 : lim (m / 64) L / 2 ^ (m % 64) < 18446744073709551616 := Nat.lt_of_le_of_lt (Nat.div_le_self _ _) hlt
  rw [e1]
  have h := bits_and_u64_nat (lim (m / 64) L / 2 ^ (m % 64)) 1 e2 (by omega)
  refine Eq.trans h (congrArg _ ?_)
  rw [Nat.and_one_is_mod]
  unfold lim
  rw [show (18446744073709551616 : Nat) = 2 ^ 64 by decide, ← Nat.pow_mul]
  have hs : (2 : Nat) ^ 64 = 2 ^ (m % 64) * 2 ^ (64 - m % 64) := by rw [← Nat.pow_add]; congr 1; omega
  rw [hs, Nat.mod_mul_right_div_self, Nat.div_div_eq_div_mul, ← Nat.pow_add, show 64 * (m / 64) + m % 64 = m by omega]
  have hp : (2 : Nat) ^ (64 - m % 64) = 2 * 2 ^ (63 - m % 64) := by rw [← Nat.pow_succ']; congr 1; omega
  rw [hp, Nat.mod_mul_right_mod]
end Go.Proofs.YtlfdelobjbdimaaDoor
