/-
  fieldfareref02's Text, by digits; its contract, and the one of numeral's Text, of any number.
-/
import Derived.Test.YthhfnggigmfmjaaDoorNrlX
import Derived.Test.YthhfnggigmfmjaaDoorNrlO
namespace Go.Proofs.YthhfnggigmfmjaaDoor
set_option linter.unusedSimpArgs false
set_option linter.unusedVariables false
open Go.RowKit

def loK : Nat → Nat → List Nat
  | 0, _ => []
  | k + 1, n => n % 10 :: loK k (n / 10)
theorem loK_len : ∀ (k n : Nat), (loK k n).length = k
  | 0, _ => rfl
  | k + 1, n => congrArg (· + 1) (loK_len k (n / 10))
theorem loK_lt : ∀ (k n x : Nat), x ∈ loK k n → x < 10
  | 0, _, x, h => by cases h
  | k + 1, n, x, h => by
    rcases List.mem_cons.1 h with rfl | h
    · omega
    · exact loK_lt k _ x h
theorem zer_succ (k : Nat) : zer (k + 1) = 0 :: zer k := List.replicate_succ
theorem padd : ∀ (k n : Nat), dig n ++ zer (k - (dig n).length) = loK k n ++ dig (n / 10 ^ k)
  | 0, n => by rw [Nat.zero_sub, show zer 0 = [] from rfl, List.append_nil, Nat.pow_zero, Nat.div_one]; rfl
  | k + 1, n => by
    have e : n / 10 ^ (k + 1) = n / 10 / 10 ^ k := by rw [Nat.div_div_eq_div_mul, Nat.pow_succ, Nat.mul_comm]
    rw [e]
    have ih := padd k (n / 10)
    by_cases h : n = 0
    · subst h
      rw [Nat.zero_div, dig_zero] at ih
      rw [Nat.zero_div, dig_zero]
      rw [List.nil_append, List.length_nil, Nat.sub_zero] at ih ⊢
      rw [zer_succ, ih]
      rw [List.append_nil]
      show 0 :: (loK k 0 ++ dig (0 / 10 ^ k)) = 0 :: loK k (0 / 10)
      rw [Nat.zero_div, Nat.zero_div, dig_zero, List.append_nil]
    · rw [dig_pos h, List.length_cons, Nat.add_sub_add_right, List.cons_append, ih]; rfl
def tlD (m : Nat) : List Nat := m % 10 :: dig (m / 10)
theorem pd7 (n : Nat) : dig n ++ zer (7 - (dig n).length) = loK 6 n ++ tlD (n / 1000000) := by
  rw [padd]
  have e1 : loK 7 n = loK 6 n ++ [n / 1000000 % 10] := by
    simp only [loK, List.cons_append, List.nil_append, Nat.div_div_eq_div_mul]
  have e2 : n / 10 ^ 7 = n / 1000000 / 10 := by rw [Nat.div_div_eq_div_mul]
  rw [e1, e2, List.append_assoc]; rfl
theorem asc_tlD (m : Nat) : asc (tlD m) = iD m := by
  unfold tlD iD asc
  by_cases h : m = 0
  · subst h; rw [if_pos rfl, Nat.zero_div, dig_zero]; rfl
  · rw [if_neg h, ← dig_pos h]
theorem tlD_lt (m x : Nat) (h : x ∈ tlD m) : x < 10 := by
  rcases List.mem_cons.1 h with rfl | h
  · omega
  · exact dig_lt _ x h
theorem loK_mod (n : Nat) : loK 6 (n % 1000000) = loK 6 n := by
  simp only [loK, List.cons.injEq, and_true]; omega
theorem frN_asc (p : Nat) : frN 6 p [] = asc (loK 6 p) := by
  simp [frN, asc, loK]
theorem drop_lead : ∀ (l : List Nat), ((l.map (48 + ·)).dropWhile (· == 48)) = (l.drop (lead (· == 0) l)).map (48 + ·)
  | [] => rfl
  | x :: l => by
    rw [List.map_cons, List.dropWhile_cons, lead_cons]
    by_cases h : x = 0
    · subst h
      rw [if_pos (by rfl), drop_lead l, show ((0 : Nat) == 0) = true from rfl, cond_true, List.drop_succ_cons]
    · rw [if_neg (by simp; omega), show (x == 0) = false by rw [beq_eq_false_iff_ne]; exact h, cond_false, List.drop_zero, List.map_cons]
theorem trim_asc (l : List Nat) : trimL 48 (asc l) = asc (l.drop (lead (· == 0) l)) := by
  unfold trimL asc
  rw [List.reverse_reverse, drop_lead]
theorem fP_asc (n : Nat) : fP (n % 1000000) = asc ((loK 6 n).drop (lead (· == 0) (loK 6 n))) := by
  unfold fP
  rw [frN_asc, loK_mod, trim_asc]
theorem lead_zero (n : Nat) : lead (· == 0) (loK 6 n) < 6 ↔ n % 1000000 ≠ 0 := by
  have key : ∀ (a b c d e f : Nat), lead (· == 0) [a, b, c, d, e, f] < 6 ↔ ¬ (a = 0 ∧ b = 0 ∧ c = 0 ∧ d = 0 ∧ e = 0 ∧ f = 0) := by
    intro a b c d e f
    have nn : lead (· == 0) ([] : List Nat) = 0 := rfl
    simp only [lead_cons, nn]
    by_cases ha : a = 0
    · by_cases hb : b = 0
      · by_cases hc : c = 0
        · by_cases hd : d = 0
          · by_cases he : e = 0
            · by_cases hf : f = 0
              · simp [ha, hb, hc, hd, he, hf]
              · simp [ha, hb, hc, hd, he, hf, beq_eq_false_iff_ne.2 hf]
            · simp [ha, hb, hc, hd, he, beq_eq_false_iff_ne.2 he]
          · simp [ha, hb, hc, hd, beq_eq_false_iff_ne.2 hd]
        · simp [ha, hb, hc, beq_eq_false_iff_ne.2 hc]
      · simp [ha, hb, beq_eq_false_iff_ne.2 hb]
    · simp [ha, beq_eq_false_iff_ne.2 ha]
  have := key (n % 10) (n / 10 % 10) (n / 10 / 10 % 10) (n / 10 / 10 / 10 % 10) (n / 10 / 10 / 10 / 10 % 10) (n / 10 / 10 / 10 / 10 / 10 % 10)
  show lead (· == 0) [n % 10, n / 10 % 10, n / 10 / 10 % 10, n / 10 / 10 / 10 % 10, n / 10 / 10 / 10 / 10 % 10, n / 10 / 10 / 10 / 10 / 10 % 10] < 6 ↔ _
  rw [this]; omega
theorem fD_fr (n : Nat) : fD (n % 1000000) = if lead (· == 0) (loK 6 n) < 6 then 46 :: fP (n % 1000000) else [] := by
  rw [fD_eq]
  by_cases h : n % 1000000 = 0
  · rw [if_pos h, if_neg (fun h2 => (lead_zero n).1 h2 h)]
  · rw [if_neg h, if_pos ((lead_zero n).2 h)]

/-! ### The contract -/
def txC (s : Bool) (x y : Int) : ByteArray := strB (txN s (magI x y))
def textC (M : Ops) (tx : Bool → Int → Int → ByteArray) : Orc := fun _ ds K => match one? ds with
  | some (s, x, y) => bif M.good s x y then K (vS (tx s x y)) else K (vS ⟨#[]⟩)
  | none => False
theorem rtxFin_eq (b : Bool) (t : List Nat) (h : t.length < 1000) (K : D → Prop) : rtxFin b (strB t) K = K (vS (strB ((bif b then [45] else []) ++ t))) := by
  unfold rtxFin
  cases b
  · rfl
  · rw [cond_true, minS_eq, catS_eq _ _ (by simp; omega)]; rfl
theorem rtxEnd_gen (b : Bool) (x y : Int) (o : Bool) (es ps : List (List D)) (s1 s2 s3 : ByteArray) (fr : Int) (K : D → Prop) (h1 : fr < 6 → (∀ X : ByteArray → Prop, catS s1 ⟨#[46]⟩ X = X s2) ∧ rtxFin b s3 K) (h2 : ¬ fr < 6 → rtxFin b s1 K) : rtxEnd b x y o es ps s1 s2 s3 fr K := by
  unfold rtxEnd
  refine ⟨rfl, rfl, rfl, ?_⟩
  by_cases h : fr < 6
  · rw [decide_eq_true h, cond_true, (h1 h).1]; exact ⟨rfl, (h1 h).2⟩
  · rw [decide_eq_false h, cond_false]; exact h2 h
theorem rtx_loops (b : Bool) (x y : Int) (n : Nat) (hn : n < 1000000000000000000000000000000000000) : ∃ o, ∀ z ∈ rtxLL b x y o (dD (dig n)) (dD (loK 6 n ++ tlD (n / 1000000))) (strB (iD (n / 1000000))) (strB (iD (n / 1000000) ++ [46])) (strB (iD (n / 1000000) ++ [46] ++ fP (n % 1000000))) ((lead (· == 0) (loK 6 n) : Nat) : Int), LoopSound Tryd.prog z.1 z.2.1 z.2.2 := by
  have hd : (dig n).length ≤ 36 := (dig_len n 36).2 (by exact hn)
  have hd2 : (dig (n / 1000000 / 10)).length ≤ 36 := (dig_len _ 36).2 (by omega)
  have htl : (tlD (n / 1000000)).length ≤ 37 := by unfold tlD; rw [List.length_cons]; omega
  have hle := lead_le (· == 0) (loK 6 n)
  rw [loK_len] at hle
  obtain ⟨k0, o, h0⟩ := rtx_runs0 b x y (dD (dig n)) (7 - (dig n).length) false (dig n) (by omega) rfl
  rw [pd7] at h0
  obtain ⟨k1, h1⟩ := rtx_runs1 b x y o (dD (dig n)) (loK 6 n) (by rw [loK_len]; omega) (tlD (n / 1000000)) [] (tlD_lt _) (by rw [List.length_nil]; omega)
  obtain ⟨k2, h2⟩ := rtx_runs2 b x y o (dD (dig n)) (strB (iD (n / 1000000))) (tlD (n / 1000000)) (loK 6 n) [] (loK_lt 6 n) (by rw [loK_len]; rfl)
  have hta : ((loK 6 n).take (lead (· == 0) (loK 6 n))).length = lead (· == 0) (loK 6 n) := by rw [List.length_take, loK_len]; omega
  have htd : ((loK 6 n).drop (lead (· == 0) (loK 6 n))).length = 6 - lead (· == 0) (loK 6 n) := by rw [List.length_drop, loK_len]
  have hi := iD_len (k := n / 1000000) (by omega)
  obtain ⟨k3, h3⟩ := rtx_runs3 b x y o (dD (dig n)) ((loK 6 n).take (lead (· == 0) (loK 6 n))) (by rw [hta]; exact hle) (6 - lead (· == 0) (loK 6 n)) ((loK 6 n).drop (lead (· == 0) (loK 6 n))) (tlD (n / 1000000)) (iD (n / 1000000) ++ [46]) htd (by omega) (fun z hz => loK_lt 6 n z (List.mem_of_mem_drop hz)) (by simp; omega)
  rw [← List.append_assoc, List.take_append_drop, hta, ← fP_asc] at h3
  rw [List.nil_append, loK_len, asc_tlD] at h1
  rw [List.nil_append, List.length_nil, Nat.zero_add] at h2
  have e3 : ((lead (· == 0) (loK 6 n) : Nat) : Int) + ((6 - lead (· == 0) (loK 6 n) : Nat) : Int) - 1 = 5 := by omega
  rw [e3] at h3
  refine ⟨o, fun z hz => ?_⟩
  simp only [rtxLL, List.mem_cons, List.not_mem_nil, or_false] at hz
  rcases hz with rfl | rfl | rfl | rfl
  · exact LoopSound.mk (n := 0) Tryd.func11 rfl (by kernel_rfl) (by kernel_rfl) (Runs.once none_ok (by kernel_rfl) h0)
  · exact LoopSound.mk (n := 1) Tryd.func11 rfl (by kernel_rfl) (by kernel_rfl) (Runs.once none_ok (by kernel_rfl) h1)
  · exact LoopSound.mk (n := 2) Tryd.func11 rfl (by kernel_rfl) (by kernel_rfl) (Runs.once none_ok (by kernel_rfl) h2)
  · exact LoopSound.mk (n := 3) Tryd.func11 rfl (by kernel_rfl) (by kernel_rfl) (Runs.once none_ok (by kernel_rfl) h3)
theorem rtxL_ok : ∀ x ∈ rtxL opsR numsR magI, Sound x.1 x.2 := by
  intro x hx
  simp only [rtxL, List.mem_cons, List.not_mem_nil, or_false] at hx
  rcases hx with rfl | rfl
  · exact refGoodC_ok
  · exact ofO_ok
theorem rtx_gen (M : Ops) (N : Nums) (mag : Int → Int → Nat) (hL : ∀ x ∈ rtxL M N mag, Sound x.1 x.2) (b : Bool) (x y : Int) (n : Nat) (hdd : N.dd (mag x y) = dD (dig n)) (hn : n < 1000000000000000000000000000000000000) (hg : M.good b x y = true) : PS Tryd.prog 11 [.agg [.v (.bool b), .v (.int .u64 x), .v (.int .u64 y)]] (vS (strB (txN b n))) := by
  obtain ⟨o, hl⟩ := rtx_loops b x y n hn
  refine callX_eq (n := 2) (ctxL_ok (fuel := 0) hL hl) ?_
  have ht := rtx_tree M N mag b x y o (dD (loK 6 n ++ tlD (n / 1000000))) (strB (iD (n / 1000000))) (strB (iD (n / 1000000) ++ [46])) (strB (iD (n / 1000000) ++ [46] ++ fP (n % 1000000))) ((lead (· == 0) (loK 6 n) : Nat) : Int) (fun d => d = vS (strB (txN b n)))
  rw [hdd, hg, Bool.not_true, cond_false] at ht
  rw [ht]
  have hi := iD_len (k := n / 1000000) (by omega)
  have hf := fP_len (n % 1000000)
  refine rtxEnd_gen _ _ _ _ _ _ _ _ _ _ _ (fun h => ⟨fun X => ?_, ?_⟩) (fun h => ?_)
  · rw [dotS_eq, catS_eq _ _ (by simp; omega)]
  · rw [rtxFin_eq _ _ (by simp; omega)]
    unfold txN
    rw [fD_fr, if_pos (by omega), List.append_assoc]; rfl
  · rw [rtxFin_eq _ _ (by omega)]
    unfold txN
    rw [fD_fr, if_neg (by omega), List.append_nil]
def goodN (M : Ops) : Orc := fun _ ds K => match one? ds with
  | some (s, x, y) => M.good s x y = false ∧ K (.v (.bool false))
  | none => False
theorem goodN_to {M : Ops} {f : Nat} {ds : List D} {K : D → Prop} (h : goodN M f ds K) : goodC M f ds K ∧ ∀ K' : D → Prop, goodC M f ds K' → goodN M f ds K' := by
  unfold goodN at h
  unfold goodC
  cases e : one? ds with
  | none => rw [e] at h; exact h.elim
  | some a =>
    obtain ⟨s, x, y⟩ := a
    rw [e] at h
    obtain ⟨g, hK⟩ := h
    refine ⟨?_, fun K' h' => ?_⟩
    · show K (.v (.bool (M.good s x y))); rw [g]; exact hK
    · unfold goodN
      rw [e]
      have h2 : K' (.v (.bool (M.good s x y))) := h'
      rw [g] at h2
      exact ⟨g, h2⟩
set_option maxRecDepth 100000 in
theorem rtx_tree2 (M : Ops) (b : Bool) (x y : Int) (K : D → Prop) : callX Tryd.prog (ctxL [(29, goodN M)] [] 0) 2 11 [.agg [.v (.bool b), .v (.int .u64 x), .v (.int .u64 y)]] K = (M.good b x y = false ∧ K (vS ⟨#[]⟩)) := by kernel_rfl
set_option maxRecDepth 100000 in
theorem text_tree2 (M : Ops) (b : Bool) (x y : Int) (K : D → Prop) : callX Tryd.prog (ctxL [(12, goodN M)] [] 0) 2 10 [.agg [.v (.bool b), .v (.int .u64 x), .v (.int .u64 y)]] K = (M.good b x y = false ∧ K (vS ⟨#[]⟩)) := by kernel_rfl
theorem rtx_bad (s : Bool) (x y : Int) (g : opsR.good s x y = false) : PS Tryd.prog 11 [.agg [.v (.bool s), .v (.int .u64 x), .v (.int .u64 y)]] (vS ⟨#[]⟩) := by
  refine callX_eq (n := 2) (ctxL_ok (l := [(29, goodN opsR)]) (ll := []) (fuel := 0) (fun x hx => ?_) (by intro x hx; cases hx)) ?_
  · obtain rfl := List.mem_singleton.1 hx
    exact soundT refGoodC_ok fun _ _ h => goodN_to h
  · rw [rtx_tree2]; exact ⟨g, rfl⟩
theorem text_bad (s : Bool) (x y : Int) (g : opsR.good s x y = false) : PS Tryd.prog 10 [.agg [.v (.bool s), .v (.int .u64 x), .v (.int .u64 y)]] (vS ⟨#[]⟩) := by
  refine callX_eq (n := 2) (ctxL_ok (l := [(12, goodN opsR)]) (ll := []) (fuel := 0) (fun x hx => ?_) (by intro x hx; cases hx)) ?_
  · obtain rfl := List.mem_singleton.1 hx
    exact soundT goodC_ok fun _ _ h => goodN_to h
  · rw [text_tree2]; exact ⟨g, rfl⟩
theorem mag_lt {s : Bool} {x y : Int} (g : opsR.good s x y = true) : magI x y < 1000000000000000000000000000000000000 := by
  obtain ⟨z, h1, h2, h3, h4⟩ := dec_good (s := s) (m := magI x y) g
  have := fit_lt h3
  rw [h2] at this; exact this
theorem rtextC_ok : Sound 11 (textC opsR txC) := by
  refine sound1 (m := fun s x y K => bif opsR.good s x y then K (vS (txC s x y)) else K (vS ⟨#[]⟩)) (fun _ _ => rfl) fun s x y K hK => ?_
  cases g : opsR.good s x y with
  | true =>
    rw [g, cond_true] at hK
    exact ⟨_, hK, fun K' h => h, rtx_gen opsR numsR magI rtxL_ok s x y (magI x y) (nums_dd _) (mag_lt g) g⟩
  | false =>
    rw [g, cond_false] at hK
    exact ⟨_, hK, fun K' h => h, rtx_bad s x y g⟩
theorem textC_ok : Sound 10 (textC opsR txC) := by
  refine sound1 (m := fun s x y K => bif opsR.good s x y then K (vS (txC s x y)) else K (vS ⟨#[]⟩)) (fun _ _ => rfl) fun s x y K hK => ?_
  cases g : opsR.good s x y with
  | true =>
    rw [g, cond_true] at hK
    refine ⟨_, hK, fun K' h => h, ?_⟩
    intro role w args hlow hmask hsz hargs
    obtain ⟨a, rfl, ha⟩ := args_one rfl hsz hargs
    obtain ⟨_, hx, hy⟩ := rd_dec ha
    obtain ⟨e1, e2, _⟩ := hi_magI hx hy
    obtain ⟨z, h1, h2, h3, h4⟩ := dec_good (s := s) (m := magI x y) g
    have hc : [D.agg [.v (.bool s), .v (.int .u64 x), .v (.int .u64 y)]] = [decM opsR z] := by
      have c1 : opsR.sg z = s := h1
      have c2 : opsR.hi z = x := by show ((hiN z.natAbs : Nat) : Int) = x; rw [h2]; exact e1
      have c3 : opsR.lo z = y := by show ((loN z.natAbs : Nat) : Int) = y; rw [h2]; exact e2
      unfold decM
      rw [c1, c2, c3]
    have ht : txC s x y = strB (txtZ z) := by unfold txC txtZ; rw [h1, h2]
    rw [ht]
    rw [hc] at hargs hsz
    exact text_ps z h3 role w _ hlow hmask hsz hargs
  | false =>
    rw [g, cond_false] at hK
    exact ⟨_, hK, fun K' h => h, text_bad s x y g⟩
end Go.Proofs.YthhfnggigmfmjaaDoor
