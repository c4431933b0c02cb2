/-
  Contracts of fieldfareref01's double and cut; the walk of Of.
-/
import Derived.Test.YtlfdelobjbdimaaDoorDigA
set_option maxRecDepth 20000
namespace Go.Proofs.YtlfdelobjbdimaaDoor
set_option linter.unusedSimpArgs false
set_option linter.unusedVariables false
open Go.RowKit

/-- Numbers and digits; as a variable, so that a run leaves them as they are. -/
structure Nums where
  num : List (List D) → Nat
  dd : Nat → List (List D)
  ok : List (List D) → Prop
  okD : List (List D) → Prop
def numsR : Nums where
  num es := num (natsOf es)
  dd n := dD (dig n)
  ok es := ∃ n, es = dD (dig n) ∧ (dig n).length < 100000
  okD es := ∃ l, es = dD l ∧ (∀ x ∈ l, x < 10) ∧ l.length < 200000
theorem natsOf_dD (l : List Nat) : natsOf (dD l) = l := by
  induction l with
  | nil => rfl
  | cons x l ih => exact congr (congrArg List.cons (Int.toNat_natCast x)) ih
theorem nums_num (l : List Nat) : numsR.num (dD l) = num l := by show num (natsOf _) = _; rw [natsOf_dD]
theorem nums_num' (n : Nat) : numsR.num (dD (dig n)) = n := by rw [nums_num, num_dig]
theorem nums_dd (n : Nat) : numsR.dd n = dD (dig n) := rfl
theorem nums_ok (n : Nat) (h : n < 10 ^ 60) : numsR.ok (dD (dig n)) := ⟨n, rfl, by have := (dig_len n 60).2 h; omega⟩
theorem nums_okD (n : Nat) (h : n < 10 ^ 60) : numsR.okD (dD (dig n)) := ⟨dig n, rfl, dig_lt n, by have := (dig_len n 60).2 h; omega⟩

def doubleC (N : Nums) : Orc := fun _ ds K => match ds with
  | [.list false T es, .v (.int .i64 b)] => T = 3 ∧ N.ok es ∧ (b = 0 ∨ b = 1) ∧ K (.list false 3 (N.dd (2 * N.num es + b.toNat)))
  | _ => False
def cutC (N : Nums) : Orc := fun _ ds K => match ds with
  | [.list false T es] => T = 3 ∧ N.okD es ∧ K (.list false 3 (N.dd (N.num es)))
  | _ => False
theorem doubleC_ok : Sound 48 (doubleC numsR) := by
  intro ds K hK
  unfold doubleC at hK
  split at hK
  · obtain ⟨rfl, ⟨n, rfl, hl⟩, hb, hK⟩ := hK
    rename_i b
    refine ⟨_, hK, fun K' h => ⟨rfl, ⟨n, rfl, hl⟩, hb, h⟩, ?_⟩
    rw [nums_num', nums_dd]
    rcases hb with rfl | rfl
    · exact double_ps n 0 hl (by omega)
    · exact double_ps n 1 hl (by omega)
  · exact hK.elim
theorem cutC_ok : Sound 49 (cutC numsR) := by
  intro ds K hK
  unfold cutC at hK
  split at hK
  · obtain ⟨rfl, ⟨l, rfl, hd, hl⟩, hK⟩ := hK
    refine ⟨_, hK, fun K' h => ⟨rfl, ⟨l, rfl, hd, hl⟩, h⟩, ?_⟩
    rw [nums_num, nums_dd]
    exact cut_ps l hd hl
  · exact hK.elim

/-! ### Of -/
def ofS (neg : Bool) (x y : Int) (o : Bool) (es : List (List D)) (i : Int) (t5 : D) : List D := [.agg [.v (.bool neg), .v (.int .u64 x), .v (.int .u64 y)], .obj 24 [.v (.bool neg), .v (.int .u64 x), .v (.int .u64 y)], .obj 59 [.v (.bool false), .list true 3 []], .list o 3 es, .v (.int .i64 i), t5] ++ List.replicate 31 .undef
/-- The bit of a number at a place. -/
def bitE (x i : Int) : Int := IntKind.i64.wrap (bits .and .u64 (x.fdiv (2 ^ min (IntKind.u64.wrap i).toNat IntKind.u64.bits)) 1)
set_option maxRecDepth 100000 in
theorem of_round1 (N : Nums) (neg o : Bool) (x y i : Int) (es : List (List D)) (K : AExit → List D → Prop) :
    roundJ Tryd.prog (orcOf [(48, doubleC N)]) (fun _ _ _ => False) (junk (loopN Tryd.f27 0)) (loopN Tryd.f27 0) (ofS neg x y o es i .undef) K = (
      bif decide (i ≥ 0) then bif decide (0 ≤ IntKind.u64.wrap i) then 3 = 3 ∧ N.ok es ∧ (bitE x i = 0 ∨ bitE x i = 1) ∧ K .normal (ofS neg x y false (N.dd (2 * N.num es + (bitE x i).toNat)) (IntKind.i64.wrap (i - 1)) .undef) else False
      else K (.exit 0) (ofS neg x y o es i .undef)) := by kernel_rfl
set_option maxRecDepth 100000 in
theorem of_round2 (N : Nums) (neg : Bool) (x y i j : Int) (es : List (List D)) (K : AExit → List D → Prop) :
    roundJ Tryd.prog (orcOf [(48, doubleC N)]) (fun _ _ _ => False) (junk (loopN Tryd.f27 1)) (loopN Tryd.f27 1) (ofS neg x y false es j (.v (.int .i64 i))) K = (
      bif decide (i ≥ 0) then bif decide (0 ≤ IntKind.u64.wrap i) then 3 = 3 ∧ N.ok es ∧ (bitE y i = 0 ∨ bitE y i = 1) ∧ K .normal (ofS neg x y false (N.dd (2 * N.num es + (bitE y i).toNat)) j (.v (.int .i64 (IntKind.i64.wrap (i - 1))))) else False
      else K (.exit 2) (ofS neg x y false es j (.v (.int .i64 i)))) := by kernel_rfl

theorem bitE_eq (X k : Nat) (hX : X < 18446744073709551616) (hk : k < 64) : bitE (X : Int) (k : Int) = ((X / 2 ^ k % 2 : Nat) : Int) := by
  unfold bitE
  have w : IntKind.u64.wrap (k : Int) = (k : Int) := wrapN k (by omega)
  have hm : min k IntKind.u64.bits = k := by have : IntKind.u64.bits = 64 := rfl; omega
  rw [w, Int.toNat_natCast, hm]
  have hdiv : ((X : Int)).fdiv (2 ^ k) = ((X / 2 ^ k : Nat) : Int) := by
    rw [Int.fdiv_eq_ediv_of_nonneg _ (Int.le_of_lt (Int.pow_pos (by omega)))]
    rw [Int.natCast_ediv, Int.natCast_pow]; rfl
  rw [hdiv]
  have hq : X / 2 ^ k < 18446744073709551616 := Nat.lt_of_le_of_lt (Nat.div_le_self _ _) hX
  have hb := bits_and_u64_nat (X / 2 ^ k) 1 hq (by omega)
  rw [Nat.and_one_is_mod] at hb
  rw [show ((1 : Nat) : Int) = 1 from rfl] at hb
  rw [hb]
  exact wrap_small (by omega) (by omega)
/-- What is read of a number when k bits are left. -/
def accN (H X k : Nat) : Nat := H * 2 ^ (64 - k) + X / 2 ^ k
theorem accN_step (H X k : Nat) (hk : k < 64) : 2 * accN H X (k + 1) + X / 2 ^ k % 2 = accN H X k := by
  unfold accN
  have e1 : 2 ^ (64 - k) = 2 * 2 ^ (64 - (k + 1)) := by rw [show 64 - k = (64 - (k + 1)) + 1 by omega, Nat.pow_succ]; omega
  have e2 : X / 2 ^ (k + 1) = X / 2 ^ k / 2 := by rw [Nat.pow_succ, Nat.div_div_eq_div_mul]
  rw [e1, e2, Nat.mul_left_comm]
  omega
theorem accN_lt (H X k : Nat) (hH : H < 18446744073709551616) (hX : X < 18446744073709551616) : accN H X k < 10 ^ 60 := by
  unfold accN
  have h1 : 2 ^ (64 - k) ≤ 2 ^ 64 := Nat.pow_le_pow_right (by omega) (by omega)
  have h2 : H * 2 ^ (64 - k) ≤ 18446744073709551616 * 2 ^ 64 := Nat.mul_le_mul (by omega) h1
  have h3 : X / 2 ^ k ≤ X := Nat.div_le_self _ _
  omega

theorem dblC_mem : ∀ x ∈ [(48, doubleC numsR)], Sound x.1 x.2 := by
  intro x hx
  obtain rfl := List.mem_singleton.1 hx
  exact doubleC_ok
theorem of_step1 (neg o : Bool) (H X k : Nat) (y : Int) (hH : H < 18446744073709551616) (hX : X < 18446744073709551616) (hk : k < 64) :
    Goes [(48, doubleC numsR)] Tryd.f27 0 [] (ofS neg X y o (dD (dig (accN H X (k + 1)))) (k : Int) .undef) .normal (ofS neg X y false (dD (dig (accN H X k))) ((k : Int) - 1) .undef) := by
  refine ⟨fun K h => ?_⟩
  rw [List.nil_append]
  rw [of_round1, ge_cast, wrapu_cast k hk, cond_true, cond_true, bitE_eq X k hX hk, nums_num', nums_dd, Int.toNat_natCast, accN_step H X k hk, wrap_small (by omega) (by omega)]
  exact ⟨rfl, nums_ok _ (accN_lt H X _ hH hX), by omega, h⟩
theorem of_step2 (neg : Bool) (H X k : Nat) (x j : Int) (hH : H < 18446744073709551616) (hX : X < 18446744073709551616) (hk : k < 64) :
    Goes [(48, doubleC numsR)] Tryd.f27 1 [] (ofS neg x X false (dD (dig (accN H X (k + 1)))) j (.v (.int .i64 (k : Int)))) .normal (ofS neg x X false (dD (dig (accN H X k))) j (.v (.int .i64 ((k : Int) - 1)))) := by
  refine ⟨fun K h => ?_⟩
  rw [List.nil_append]
  rw [of_round2, ge_cast, wrapu_cast k hk, cond_true, cond_true, bitE_eq X k hX hk, nums_num', nums_dd, Int.toNat_natCast, accN_step H X k hk, wrap_small (by omega) (by omega)]
  exact ⟨rfl, nums_ok _ (accN_lt H X _ hH hX), by omega, h⟩

set_option maxRecDepth 100000 in
theorem of_rounds1 (neg : Bool) (H X : Nat) (y : Int) (hH : H < 18446744073709551616) (hX : X < 18446744073709551616) (k : Nat) : k ≤ 64 →
    Runs [(48, doubleC numsR)] Tryd.f27 0 [] (k + 1) (ofS neg X y false (dD (dig (accN H X k))) ((k : Int) - 1) .undef) (.exit 0)
      (ofS neg X y false (dD (dig (accN H X 0))) (-1) .undef) := by
  induction k with
  | zero =>
    intro _
    refine Runs.stop ⟨fun K h => ?_⟩
    rw [List.nil_append]
    rw [of_round1]
    have : decide (((0 : Nat) : Int) - 1 ≥ 0) = false := by decide
    rw [this, cond_false]
    exact h
  | succ k ih =>
    intro hk
    rw [show ((k + 1 : Nat) : Int) - 1 = (k : Int) by omega]
    have h1 := of_step1 neg false H X k y hH hX (by omega)
    have h2 := ih (by omega)
    exact Runs.go h1 h2
set_option maxRecDepth 100000 in
theorem of_rounds2 (neg : Bool) (H X : Nat) (x j : Int) (hH : H < 18446744073709551616) (hX : X < 18446744073709551616) (k : Nat) : k ≤ 64 →
    Runs [(48, doubleC numsR)] Tryd.f27 1 [] (k + 1) (ofS neg x X false (dD (dig (accN H X k))) j (.v (.int .i64 ((k : Int) - 1)))) (.exit 2)
      (ofS neg x X false (dD (dig (accN H X 0))) j (.v (.int .i64 (-1)))) := by
  induction k with
  | zero =>
    intro _
    refine Runs.stop ⟨fun K h => ?_⟩
    rw [List.nil_append]
    rw [of_round2]
    have : decide (((0 : Nat) : Int) - 1 ≥ 0) = false := by decide
    rw [this, cond_false]
    exact h
  | succ k ih =>
    intro hk
    rw [show ((k + 1 : Nat) : Int) - 1 = (k : Int) by omega]
    have h1 := of_step2 neg H X k x j hH hX (by omega)
    have h2 := ih (by omega)
    exact Runs.go h1 h2

theorem of_rounds0 (neg o : Bool) (H X : Nat) (y : Int) (hH : H < 18446744073709551616) (hX : X < 18446744073709551616) (k : Nat) (hk : k < 64) :
    Runs [(48, doubleC numsR)] Tryd.f27 0 [] (k + 1 + 1) (ofS neg X y o (dD (dig (accN H X (k + 1)))) (k : Int) .undef) (.exit 0)
      (ofS neg X y false (dD (dig (accN H X 0))) (-1) .undef) :=
  Runs.go (of_step1 neg o H X k y hH hX hk) (of_rounds1 neg H X y hH hX k (Nat.le_of_lt hk))
/-- Of's two loops. -/
def ofL1 (s : Bool) (x y : Int) (e1 : List (List D)) : LO := onceL [] (ofS s x y true [] 63 .undef) (ofS s x y false e1 (-1) .undef) (.exit 0)
def ofL2 (s : Bool) (x y : Int) (e1 e2 : List (List D)) : LO := onceL [] (ofS s x y false e1 (-1) (.v (.int .i64 63))) (ofS s x y false e2 (-1) (.v (.int .i64 (-1)))) (.exit 2)
def ofC (N : Nums) : List (Nat × Orc) := [(48, doubleC N), (49, cutC N)]
set_option maxRecDepth 100000 in
theorem of_tree (N : Nums) (s : Bool) (x y : Int) (e1 e2 : List (List D)) (K : D → Prop) :
    callX Tryd.prog (ctxL (ofC N) [(27, 3, ofL1 s x y e1), (27, 7, ofL2 s x y e1 e2)] 0) 2 27 [.agg [.v (.bool s), .v (.int .u64 x), .v (.int .u64 y)]] K = (
      ofS s x y true [] 63 .undef = ofS s x y true [] 63 .undef ∧ ofS s x y false e1 (-1) (.v (.int .i64 63)) = ofS s x y false e1 (-1) (.v (.int .i64 63)) ∧
        3 = 3 ∧ N.okD e2 ∧ K (.agg [.v (.bool s), .list false 3 (N.dd (N.num e2))])) := by kernel_rfl
theorem ofC_ok : ∀ x ∈ ofC numsR, Sound x.1 x.2 := by
  intro x hx
  simp only [ofC, List.mem_cons, List.not_mem_nil, or_false] at hx
  rcases hx with rfl | rfl
  · exact doubleC_ok
  · exact cutC_ok
set_option maxRecDepth 100000 in
theorem of_ps (s : Bool) (hi lo : Nat) (hH : hi < 18446744073709551616) (hX : lo < 18446744073709551616) :
    PS Tryd.prog 27 [.agg [.v (.bool s), .v (.int .u64 (hi : Int)), .v (.int .u64 (lo : Int))]] (.agg [.v (.bool s), .list false 3 (dD (dig (hi * 18446744073709551616 + lo)))]) := by
  have a1 : accN 0 hi 64 = 0 := by unfold accN; omega
  have a2 : accN 0 hi 0 = hi := by unfold accN; omega
  have a3 : accN hi lo 64 = hi := by unfold accN; omega
  have a4 : accN hi lo 0 = hi * 18446744073709551616 + lo := by unfold accN; omega
  have R1 := of_rounds0 s true 0 hi lo (by omega) hH 63 (by omega)
  have R2 := of_rounds2 s hi lo hi (-1) hH hX 64 (by omega)
  rw [a1, a2, dig_zero] at R1
  rw [a3, a4] at R2
  refine callX_eq (n := 2) (ctxL_ok (l := ofC numsR) (ll := [(27, 3, ofL1 s hi lo (dD (dig hi))), (27, 7, ofL2 s hi lo (dD (dig hi)) (dD (dig (hi * 18446744073709551616 + lo))))]) (fuel := 0) ofC_ok ?_) ?_
  · intro x hx
    simp only [List.mem_cons, List.not_mem_nil, or_false] at hx
    rcases hx with rfl | rfl
    · exact LoopSound.mk (n := 0) Tryd.func27 rfl (by kernel_rfl) (by kernel_rfl) (Runs.once dblC_mem (by kernel_rfl) R1)
    · exact LoopSound.mk (n := 1) Tryd.func27 rfl (by kernel_rfl) (by kernel_rfl) (Runs.once dblC_mem (by kernel_rfl) R2)
  · rw [of_tree]
    refine ⟨rfl, rfl, rfl, nums_okD _ (by omega), ?_⟩
    rw [nums_num', nums_dd]
end Go.Proofs.YtlfdelobjbdimaaDoor
