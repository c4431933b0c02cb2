/-
  Texts as lists of bytes; the loop of numeral's Text.
-/
import Derived.Test.YtlfdelobjbdimaaDoorNrlF
set_option maxRecDepth 20000
namespace Go.Proofs.YtlfdelobjbdimaaDoor
set_option linter.unusedSimpArgs false
set_option linter.unusedVariables false
open Go.RowKit

/-- A text of bytes. -/
def strB (l : List Nat) : ByteArray := ⟨(l.map UInt8.ofNat).toArray⟩
theorem strB_size (l : List Nat) : (strB l).size = l.length := by
  show (l.map UInt8.ofNat).toArray.size = _
  simp
theorem strB_app (l r : List Nat) : strB l ++ strB r = strB (l ++ r) := by
  apply ByteArray.ext
  rw [ByteArray.data_append]
  show (l.map UInt8.ofNat).toArray ++ (r.map UInt8.ofNat).toArray = ((l ++ r).map UInt8.ofNat).toArray
  simp
theorem strB_extract (l : List Nat) (i j : Nat) : (strB l).extract i j = strB ((l.take j).drop i) := by
  apply ByteArray.ext
  rw [ByteArray.data_extract]
  show (l.map UInt8.ofNat).toArray.extract i j = (((l.take j).drop i).map UInt8.ofNat).toArray
  rw [List.extract_toArray, List.extract_eq_take_drop, ← List.drop_take, ← List.map_take, ← List.map_drop]
theorem digitsS_eq : digitsS = strB [48, 49, 50, 51, 52, 53, 54, 55, 56, 57] := rfl
theorem emptyS_eq : (⟨#[]⟩ : ByteArray) = strB [] := rfl
theorem strEq_nil (l : List Nat) : strEq (strB l) ⟨#[]⟩ = l.isEmpty := by
  cases l <;> rfl
theorem digit_cut {n : Nat} (h : n < 10) : ([48, 49, 50, 51, 52, 53, 54, 55, 56, 57].take (n + 1)).drop n = [48 + n] := by
  have : n = 0 ∨ n = 1 ∨ n = 2 ∨ n = 3 ∨ n = 4 ∨ n = 5 ∨ n = 6 ∨ n = 7 ∨ n = 8 ∨ n = 9 := by omega
  rcases this with rfl | rfl | rfl | rfl | rfl | rfl | rfl | rfl | rfl | rfl <;> rfl

def slS (s : ByteArray) (lo hi : Int) (K : ByteArray → Prop) : Prop := bif decide (0 ≤ lo) && decide (lo ≤ hi) && decide (hi ≤ (s.size : Int)) then K (s.extract lo.toNat hi.toNat) else False
def catS (a b : ByteArray) (K : ByteArray → Prop) : Prop := bif decide (a.size + b.size ≤ 9223372036854775807) then K (a ++ b) else False
theorem slS_digit {n : Nat} (h : n < 10) (K : ByteArray → Prop) : slS digitsS (n : Int) ((n + 1 : Nat) : Int) K = K (strB [48 + n]) := by
  unfold slS
  have h2 : decide (0 ≤ (n : Int)) = true := by rw [decide_eq_true_eq]; omega
  have h3 : decide ((n : Int) ≤ ((n + 1 : Nat) : Int)) = true := by rw [decide_eq_true_eq]; omega
  have h4 : decide (((n + 1 : Nat) : Int) ≤ (digitsS.size : Int)) = true := by rw [decide_eq_true_eq]; show _ ≤ ((10 : Nat) : Int); omega
  rw [h2, h3, h4, Int.toNat_natCast, Int.toNat_natCast, digitsS_eq, strB_extract, digit_cut h]
  rfl
theorem catS_eq (l r : List Nat) (h : l.length + r.length < 1000000) (K : ByteArray → Prop) : catS (strB l) (strB r) K = K (strB (l ++ r)) := by
  unfold catS
  have h2 : decide ((strB l).size + (strB r).size ≤ 9223372036854775807) = true := by rw [strB_size, strB_size, decide_eq_true_eq]; omega
  rw [h2, strB_app]
  rfl

/-! ### The loop of Text -/
def subF (M : Ops) : Orc := fun _ ds K => match two? ds with
  | some (s, x, y, s', x', y') => M.good s x y = true ∧ M.good s' x' y' = true ∧ M.fit (M.sub (M.val s x y) (M.val s' x' y')) = true ∧ K (.tup [decM M (M.sub (M.val s x y) (M.val s' x' y')), nilD])
  | none => False
theorem subF_to {M : Ops} {f : Nat} {ds : List D} {K : D → Prop} (h : subF M f ds K) : subC M f ds K ∧ ∀ K' : D → Prop, subC M f ds K' → subF M f ds K' := by
  revert h; unfold subF subC fitC; generalize two? ds = r; intro h
  match r, h with
  | none, h => exact h.elim
  | some (s, x, y, s', x', y'), h => exact ⟨by simp only [h.1, h.2.1, h.2.2.1, Bool.and_self, cond_true]; exact h.2.2.2, fun K' hK => ⟨h.1, h.2.1, h.2.2.1, by simp only [h.1, h.2.1, h.2.2.1, Bool.and_self, cond_true] at hK; exact hK⟩⟩
def txL (M : Ops) (Q : Quo) (W : Wh) (mq : Int → Int → Nat) : List (Nat × Orc) := [(32, modT M Q), (33, wholeT M W mq), (34, divT M Q), (30, truncT M)]
theorem txL_ok : ∀ x ∈ txL opsR quoR whR mqR, Sound x.1 x.2 := by
  intro x hx
  simp only [txL, List.mem_cons, List.not_mem_nil, or_false] at hx
  rcases hx with rfl | rfl | rfl | rfl
  · exact modT_ok
  · exact soundT wholeC_ok fun _ _ h => wholeT_to h
  · exact divT_ok
  · exact soundT truncC_ok fun _ _ h => truncT_to h
def txJ : List Nat := [7, 9, 10, 11, 12, 30, 31, 32, 33, 34, 35, 36, 37, 38, 39, 40, 41, 42, 43, 44, 45, 46, 47, 48, 49, 50, 51, 52, 53, 54, 55, 56, 57, 58, 59, 60, 61, 62]
def txS (M : Ops) (neg : Bool) (w p : Int) (s : ByteArray) : List D := [.undef, .undef, .v (.string ⟨#[]⟩), .v (.string s), .v (.bool neg), .obj 24 (cellsM M w), .obj 24 (cellsM M p), .undef, .obj 24 (cellsM M (M.int 10))] ++ List.replicate 67 .undef
def zeroM (M : Ops) (w : Int) : Bool := M.sg w == false && (M.hi w == 0 && (M.lo w == 0 && true))
def txBody (M : Ops) (Q : Quo) (W : Wh) (mq : Int → Int → Nat) (neg : Bool) (w p : Int) (s : ByteArray) (K : AExit → List D → Prop) : Prop :=
  let t := vz M (M.int 10); let md := Q.md (vz M w) t; let n := W.i (M.sg md) (mq (M.hi md) (M.lo md)); let dv := Q.dv (vz M w) t
  gz M w = true ∧ gz M (M.int 10) = true ∧ Q.nz t = true ∧ gz M md = true ∧ slS digitsS n (IntKind.i64.wrap (n + 1)) fun d => catS d s fun s' =>
    gz M w = true ∧ gz M (M.int 10) = true ∧ Q.nz t = true ∧ M.fit dv = true ∧ gz M dv = true ∧ K .normal (txS M neg (M.trunc (vz M dv)) p s')
set_option maxRecDepth 100000 in
theorem tx_round (M : Ops) (Q : Quo) (W : Wh) (mq : Int → Int → Nat) (neg : Bool) (w p : Int) (s : ByteArray) (K : AExit → List D → Prop) :
    roundJ Tryd.prog (orcOf (txL M Q W mq)) (fun _ _ _ => False) txJ (loopN Tryd.f15 0) (txS M neg w p s) K = (
      bif !zeroM M w then txBody M Q W mq neg w p s K else bif bif false then true else strEq s ⟨#[]⟩ then txBody M Q W mq neg w p s K else K (.exit 0) (txS M neg w p s)) := by kernel_rfl
theorem zero_eq (n : Nat) : zeroM opsR ((n * 1000000 : Nat) : Int) = (n == 0) := by
  by_cases h : n = 0
  · subst h; rfl
  · have h1 : (n == 0) = false := by rw [beq_eq_false_iff_ne]; exact h
    rw [h1]
    unfold zeroM
    have hm : (hiN (n * 1000000)) * 18446744073709551616 + loN (n * 1000000) = n * 1000000 := by unfold hiN loN; omega
    have e1 : opsR.hi ((n * 1000000 : Nat) : Int) = ((hiN (n * 1000000) : Nat) : Int) := by show ((hiN ((n * 1000000 : Nat) : Int).natAbs : Nat) : Int) = _; rw [Int.natAbs_natCast]
    have e2 : opsR.lo ((n * 1000000 : Nat) : Int) = ((loN (n * 1000000) : Nat) : Int) := by show ((loN ((n * 1000000 : Nat) : Int).natAbs : Nat) : Int) = _; rw [Int.natAbs_natCast]
    rw [e1, e2]
    by_cases h2 : hiN (n * 1000000) = 0
    · have h3 : ¬ loN (n * 1000000) = 0 := by omega
      have : (((loN (n * 1000000) : Nat) : Int) == 0) = false := by rw [beq_eq_false_iff_ne]; omega
      rw [this]; simp
    · have : (((hiN (n * 1000000) : Nat) : Int) == 0) = false := by rw [beq_eq_false_iff_ne]; omega
      rw [this]; simp
theorem whole_small {n : Nat} (h : n < 10) : whR.i (opsR.sg ((n * 1000000 : Nat) : Int)) (mqR (opsR.hi ((n * 1000000 : Nat) : Int)) (opsR.lo ((n * 1000000 : Nat) : Int))) = (n : Int) := by
  have : n = 0 ∨ n = 1 ∨ n = 2 ∨ n = 3 ∨ n = 4 ∨ n = 5 ∨ n = 6 ∨ n = 7 ∨ n = 8 ∨ n = 9 := by omega
  rcases this with rfl | rfl | rfl | rfl | rfl | rfl | rfl | rfl | rfl | rfl <;> decide
theorem md_eq (n : Nat) : quoR.md ((n * 1000000 : Nat) : Int) 10000000 = ((n % 10 * 1000000 : Nat) : Int) := by
  show ((n * 1000000 % 10000000 : Nat) : Int) = _
  congr 1; omega
theorem dv_eq (n : Nat) : quoR.dv ((n * 1000000 : Nat) : Int) 10000000 = ((n * 100000 : Nat) : Int) := by
  show (((n * 1000000 : Nat) : Int) * 1000000).tdiv 10000000 = _
  rw [show ((n * 1000000 : Nat) : Int) * 1000000 = ((n * 1000000 * 1000000 : Nat) : Int) by omega]
  show ((n * 1000000 * 1000000 / 10000000 : Nat) : Int) = _
  congr 1; omega
theorem tr_eq (n : Nat) : opsR.trunc ((n * 100000 : Nat) : Int) = ((n / 10 * 1000000 : Nat) : Int) := by
  show ((n * 100000 : Nat) : Int) - ((n * 100000 % 1000000 : Nat) : Int) = _
  omega
theorem fit_small {n : Nat} (h : n < 1000000000000000000000000000000000000) : opsR.fit ((n : Nat) : Int) = true := by
  show fitB _ = true
  have h2 : ((n : Nat) : Int).natAbs < 1000000000000000000000000000000000000 := by rw [Int.natAbs_natCast]; exact h
  exact fit_mk h2
theorem int10_eq : opsR.int 10 = 10000000 := rfl
theorem nz10 : quoR.nz 10000000 = true := by decide
theorem fit10 : opsR.fit 10000000 = true := by decide
theorem tx_body (neg : Bool) (n : Nat) (p : Int) (l : List Nat) (hn : n < 1000000000000000000000000000000) (hl : l.length < 1000) (K : AExit → List D → Prop)
    (h : K .normal (txS opsR neg ((n / 10 * 1000000 : Nat) : Int) p (strB ((48 + n % 10) :: l)))) : Prf (txBody opsR quoR whR mqR neg ((n * 1000000 : Nat) : Int) p (strB l) K) := by
  refine ⟨?_⟩
  have hm : n % 10 < 10 := Nat.mod_lt _ (by omega)
  have f1 := fit_nat hn
  have f2 : opsR.fit ((n % 10 * 1000000 : Nat) : Int) = true := fit_small (by omega)
  have f3 : opsR.fit ((n * 100000 : Nat) : Int) = true := fit_small (by omega)
  have w1 : IntKind.i64.wrap (((n % 10 : Nat) : Int) + 1) = ((n % 10 + 1 : Nat) : Int) := wrap_nat (n := n % 10 + 1) (by omega)
  unfold txBody
  simp only [vz_eq, gz_eq, int10_eq, md_eq, dv_eq, tr_eq, f1, f2, f3, nz10, fit10, whole_small hm, true_and]
  rw [w1, slS_digit hm, catS_eq _ _ (by simp; omega)]
  exact h
theorem tx_runs (neg : Bool) (p : Int) : ∀ (n : Nat) (l : List Nat), n < 1000000000000000000000000000000 → l.length + (dig n).length < 1000 → (n ≠ 0 ∨ l ≠ []) →
    ∃ k, RunsK (txL opsR quoR whR mqR) Tryd.f15 0 txJ k (txS opsR neg ((n * 1000000 : Nat) : Int) p (strB l)) (.exit 0) (txS opsR neg ((0 * 1000000 : Nat) : Int) p (strB (((dig n).map (48 + ·)).reverse ++ l))) := by
  intro n
  induction n using Nat.strongRecOn with
  | ind n ih =>
    intro l hn hl hne
    by_cases h0 : n = 0
    · subst h0
      have hl0 : l.isEmpty = false := by
        cases l with
        | nil => rcases hne with h | h <;> exact absurd rfl h
        | cons x l => rfl
      refine ⟨1, RunsK.stop ⟨fun K h => ?_⟩⟩
      rw [tx_round, zero_eq, strEq_nil, hl0]
      rw [dig_zero] at h
      exact h
    · rw [dig_pos h0, List.length_cons] at hl
      obtain ⟨k, hk⟩ := ih (n / 10) (by omega) ((48 + n % 10) :: l) (by omega) (by rw [List.length_cons]; omega) (.inr (by simp))
      have e : ((dig (n / 10)).map (48 + ·)).reverse ++ (48 + n % 10) :: l = ((dig n).map (48 + ·)).reverse ++ l := by rw [dig_pos h0]; simp
      rw [e] at hk
      refine ⟨k + 1, RunsK.go ⟨fun K h => ?_⟩ hk⟩
      have hb := tx_body neg n p l hn (by omega) K h
      have hz : (n == 0) = false := by rw [beq_eq_false_iff_ne]; exact h0
      rw [tx_round, zero_eq, hz]
      cases hb; assumption
/-- From nothing: a zero has one digit. -/
theorem tx_start (neg : Bool) (p : Int) (n : Nat) (hn : n < 1000000000000000000000000000000) :
    ∃ k, RunsK (txL opsR quoR whR mqR) Tryd.f15 0 txJ k (txS opsR neg ((n * 1000000 : Nat) : Int) p (strB [])) (.exit 0) (txS opsR neg ((0 * 1000000 : Nat) : Int) p (strB (if n = 0 then [48] else ((dig n).map (48 + ·)).reverse))) := by
  have hlen : (dig n).length ≤ 30 := (dig_len n 30).2 (by exact hn)
  by_cases h0 : n = 0
  · subst h0
    rw [if_pos rfl]
    obtain ⟨k, hk⟩ := tx_runs neg p 0 [48] (by omega) (by rw [dig_zero]; simp) (.inr (by simp))
    rw [dig_zero] at hk
    refine ⟨k + 1, RunsK.go ⟨fun K h => ?_⟩ hk⟩
    have hb := tx_body neg 0 p [] (by omega) (by simp) K h
    rw [tx_round, zero_eq, strEq_nil]
    cases hb; assumption
  · rw [if_neg h0]
    obtain ⟨k, hk⟩ := tx_runs neg p n [] hn (by simp; omega) (.inl h0)
    rw [List.append_nil] at hk
    exact ⟨k, hk⟩
end Go.Proofs.YtlfdelobjbdimaaDoor
