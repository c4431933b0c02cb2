/-
  strings.TrimRight of one byte; numeral's fraction; Text of any right number.
-/
import Derived.Test.YtlfdelobjbdimaaDoorNrlJ
set_option maxRecDepth 20000
namespace Go.Proofs.YtlfdelobjbdimaaDoor
set_option linter.unusedSimpArgs false
set_option linter.unusedVariables false
open Go.RowKit

/-! ### TrimRight -/
/-- Without what is one byte at the end. -/
def trimL (c : Nat) (l : List Nat) : List Nat := (l.reverse.dropWhile (· == c)).reverse
theorem trimL_nil (c : Nat) : trimL c [] = [] := rfl
theorem trimL_eq (c : Nat) (l : List Nat) : trimL c (l ++ [c]) = trimL c l := by
  unfold trimL
  rw [List.reverse_append]; simp
theorem trimL_ne {c x : Nat} (l : List Nat) (h : x ≠ c) : trimL c (l ++ [x]) = l ++ [x] := by
  unfold trimL
  rw [List.reverse_append]; simp [h]
def rtS (s : ByteArray) (c : Int) : List D := [.v (.string s), .v (.int .u8 c), .undef, .undef, .v (.string ⟨#[]⟩)] ++ List.replicate 18 .undef
def rtJ : List Nat := [5, 6, 7, 8, 9, 10, 11, 12, 13, 14, 15, 16, 17, 18, 19, 20, 21]
set_option maxRecDepth 100000 in
theorem rt_round (s : ByteArray) (c : Int) (K : AExit → List D → Prop) : roundJ Tryd.prog (orcOf []) (fun _ _ _ => False) rtJ (loopN Tryd.f69 0) (rtS s c) K = (
    bif decide ((s.size : Int) > 0) then bif decide (0 ≤ IntKind.i64.wrap ((s.size : Int) - 1)) && decide (IntKind.i64.wrap ((s.size : Int) - 1) < (s.size : Int)) then
      bif bif true then byteAt s (IntKind.i64.wrap ((s.size : Int) - 1)).toNat == c else false then slS s 0 (IntKind.i64.wrap ((s.size : Int) - 1)) fun s' => K .normal (rtS s' c) else K (.exit 0) (rtS s c)
      else False
    else K (.exit 0) (rtS s c)) := by kernel_rfl
theorem byteAt_strB (l : List Nat) (i : Nat) (h : ∀ x ∈ l, x < 256) (hi : i < l.length) : byteAt (strB l) i = ((l.getD i 0 : Nat) : Int) := by
  unfold byteAt
  have e : (strB l).data.toList = l.map UInt8.ofNat := rfl
  rw [e, List.getD_eq_getElem?_getD, List.getElem?_map, List.getElem?_eq_getElem hi, List.getD_eq_getElem?_getD, List.getElem?_eq_getElem hi]
  have hx := h l[i] (List.getElem_mem hi)
  show (((UInt8.ofNat l[i]).toNat : Nat) : Int) = ((l[i] : Nat) : Int)
  rw [UInt8.toNat_ofNat']
  congr 1
  exact Nat.mod_eq_of_lt hx
theorem rt_runs (c : Nat) (n : Nat) : ∀ (l : List Nat), l.length = n → byteL l → n < 1000000 → ∃ k, RunsK [] Tryd.f69 0 rtJ k (rtS (strB l) (c : Int)) (.exit 0) (rtS (strB (trimL c l)) (c : Int)) := by
  induction n with
  | zero =>
    intro l hl _ _
    obtain rfl := List.length_eq_zero_iff.1 hl
    refine ⟨1, RunsK.stop ⟨fun K h => ?_⟩⟩
    rw [rt_round]
    exact h
  | succ n ih =>
    intro l hl hB hn
    obtain ⟨m, x, rfl⟩ : ∃ m x, l = m ++ [x] := by
      refine ⟨l.take n, l.getD n 0, ?_⟩
      have h1 := List.take_append_drop n l
      rw [List.drop_eq_getElem_cons (by omega), List.drop_eq_nil_of_le (by omega)] at h1
      rw [List.getD_eq_getElem?_getD, List.getElem?_eq_getElem (by omega)]
      exact h1.symm
    have hm : m.length = n := by simpa using hl
    have hsz : (strB (m ++ [x])).size = n + 1 := by rw [strB_size, hl]
    have g1 : decide (((strB (m ++ [x])).size : Int) > 0) = true := by rw [hsz, decide_eq_true_eq]; omega
    have w1 : IntKind.i64.wrap (((strB (m ++ [x])).size : Int) - 1) = (n : Int) := by rw [hsz, wrap_small (by omega) (by omega)]; omega
    have g2 : decide (0 ≤ (n : Int)) = true := by rw [decide_eq_true_eq]; omega
    have g3 : decide ((n : Int) < ((strB (m ++ [x])).size : Int)) = true := by rw [hsz, decide_eq_true_eq]; omega
    have hb : byteAt (strB (m ++ [x])) n = (x : Int) := by
      rw [byteAt_strB _ _ hB (by omega)]
      congr 1
      rw [← hm]; simp
    have hsl : ∀ K : ByteArray → Prop, slS (strB (m ++ [x])) 0 (n : Int) K = K (strB m) := by
      intro K
      unfold slS
      have g4 : decide ((n : Int) ≤ ((strB (m ++ [x])).size : Int)) = true := by rw [hsz, decide_eq_true_eq]; omega
      rw [g2, g4, Int.toNat_natCast, strB_extract, ← hm]
      simp
    by_cases hx : x = c
    · subst hx
      obtain ⟨k, hk⟩ := ih m hm (fun y hy => hB y (by simp [hy])) (by omega)
      rw [trimL_eq]
      refine ⟨k + 1, RunsK.go ⟨fun K h => ?_⟩ hk⟩
      rw [rt_round, g1, w1, g2, g3, Int.toNat_natCast, hb, hsl, beq_self_eq_true]
      exact h
    · rw [trimL_ne m hx]
      refine ⟨1, RunsK.stop ⟨fun K h => ?_⟩⟩
      have hne : ((x : Int) == (c : Int)) = false := by rw [beq_eq_false_iff_ne]; omega
      rw [rt_round, g1, w1, g2, g3, Int.toNat_natCast, hb, hne]
      exact h
/-- Texts that may be, without what is one byte at the end; as a variable, so that a run leaves them. -/
structure Txt where
  ok : ByteArray → Prop
  tr : Int → ByteArray → ByteArray
  okf : Int → Prop
  fr : Int → ByteArray
def bytesS (s : ByteArray) : List Nat := s.data.toList.map UInt8.toNat
theorem bytesS_strB {l : List Nat} (h : byteL l) : bytesS (strB l) = l := by
  have e : (strB l).data.toList = l.map UInt8.ofNat := rfl
  unfold bytesS
  rw [e, List.map_map]
  conv => rhs; rw [← List.map_id l]
  apply List.map_congr_left
  intro x hx
  show (UInt8.ofNat x).toNat = x
  rw [UInt8.toNat_ofNat']
  exact Nat.mod_eq_of_lt (h x hx)
/-- So many digits, from the last one on. -/
def frN : Nat → Nat → List Nat → List Nat
  | 0, _, l => l
  | k + 1, n, l => frN k (n / 10) ((48 + n % 10) :: l)
def txtR : Txt where
  ok s := ∃ l, s = strB l ∧ byteL l ∧ l.length < 1000000
  tr c s := strB (trimL c.toNat (bytesS s))
  okf n := ∃ m : Nat, n = (m : Int) ∧ m < 1000000
  fr n := strB (trimL 48 (frN 6 n.toNat []))
def rtC (X : Txt) : Orc := fun _ ds K => match ds with
  | [.v (.string s), .v (.int .u8 c)] => X.ok s ∧ (0 ≤ c) ∧ K (.v (.string (X.tr c s)))
  | _ => False
set_option maxRecDepth 100000 in
theorem rt_tree (s s' : ByteArray) (c : Int) (K : D → Prop) : callX Tryd.prog (ctxL [] [(69, 1, onceL [] (rtS s c) (rtS s' c) (.exit 0))] 0) 2 69 [.v (.string s), .v (.int .u8 c)] K = (rtS s c = rtS s c ∧ K (.v (.string s'))) := by kernel_rfl
theorem rtC_ok : Sound 69 (rtC txtR) := by
  intro ds K hK
  unfold rtC at hK
  split at hK
  · obtain ⟨⟨l, rfl, hB, hl⟩, hc, hK⟩ := hK
    rename_i c
    refine ⟨_, hK, fun K' h => ⟨⟨l, rfl, hB, hl⟩, hc, h⟩, ?_⟩
    obtain ⟨k, hk⟩ := rt_runs c.toNat l.length l rfl hB hl
    rw [Int.toNat_of_nonneg hc] at hk
    have e : txtR.tr c (strB l) = strB (trimL c.toNat l) := by show strB (trimL c.toNat (bytesS (strB l))) = _; rw [bytesS_strB hB]
    rw [e]
    refine callX_eq (n := 2) (ctxL_ok (l := []) (ll := [(69, 1, onceL [] (rtS (strB l) c) (rtS (strB (trimL c.toNat l)) c) (.exit 0))]) (fuel := 0) none_ok ?_) ?_
    · intro x hx
      obtain rfl := List.mem_singleton.1 hx
      exact LoopSound.mk (n := 0) Tryd.func69 rfl (by kernel_rfl) (by kernel_rfl) (RunsK.once none_ok (by kernel_rfl) hk)
    · rw [rt_tree]
      exact ⟨rfl, rfl⟩
  · exact hK.elim

/-! ### fraction -/
def frS (n : Int) (s : ByteArray) (i : Int) : List D := [.v (.int .u64 n), .undef, .v (.string ⟨#[]⟩), .v (.string s), .v (.int .i64 i)] ++ List.replicate 14 .undef
def frJ : List Nat := [5, 6, 7, 8, 9, 10, 11, 12, 13, 14, 15, 16]
set_option maxRecDepth 100000 in
theorem fr_round (n : Int) (s : ByteArray) (i : Int) (K : AExit → List D → Prop) : roundJ Tryd.prog (orcOf []) (fun _ _ _ => False) frJ (loopN Tryd.f35 0) (frS n s i) K = (
    bif decide (i < 6) then slS digitsS (n.tmod 10) (IntKind.u64.wrap (n.tmod 10 + 1)) fun d => catS d s fun s' => K .normal (frS (IntKind.u64.wrap (n.tdiv 10)) s' (IntKind.i64.wrap (i + 1))) else K (.exit 0) (frS n s i)) := by kernel_rfl
theorem fr_runs (k : Nat) : ∀ (n : Nat) (l : List Nat), k ≤ 6 → n < 1000000 → l.length < 1000 - k → ∃ j n' , RunsK [] Tryd.f35 0 frJ j (frS (n : Int) (strB l) ((6 - k : Nat) : Int)) (.exit 0) (frS n' (strB (frN k n l)) 6) := by
  induction k with
  | zero =>
    intro n l _ _ _
    refine ⟨1, n, RunsK.stop ⟨fun K h => ?_⟩⟩
    rw [fr_round]
    exact h
  | succ k ih =>
    intro n l hk hn hl
    obtain ⟨j, n', hj⟩ := ih (n / 10) ((48 + n % 10) :: l) (by omega) (by omega) (by simp; omega)
    refine ⟨j + 1, n', RunsK.go ⟨fun K h => ?_⟩ hj⟩
    have hm : n % 10 < 10 := Nat.mod_lt _ (by omega)
    have g1 : decide (((6 - (k + 1) : Nat) : Int) < 6) = true := by rw [decide_eq_true_eq]; omega
    have w0 : (n : Int).tmod 10 = ((n % 10 : Nat) : Int) := rfl
    have w1 : IntKind.u64.wrap (((n % 10 : Nat) : Int) + 1) = ((n % 10 + 1 : Nat) : Int) := wrapN (n % 10 + 1) (by omega)
    have w2 : IntKind.u64.wrap ((n : Int).tdiv 10) = ((n / 10 : Nat) : Int) := wrapN (n / 10) (by omega)
    have w3 : IntKind.i64.wrap (((6 - (k + 1) : Nat) : Int) + 1) = ((6 - k : Nat) : Int) := by rw [wrap_small (by omega) (by omega)]; omega
    rw [fr_round, g1, cond_true, w0, w1, w2, w3, slS_digit hm, catS_eq _ _ (by simp; omega)]
    exact h
theorem frN_byte (k : Nat) : ∀ (n : Nat) (l : List Nat), byteL l → byteL (frN k n l) := by
  induction k with
  | zero => intro n l h; exact h
  | succ k ih =>
    intro n l h
    refine ih _ _ fun x hx => ?_
    rcases List.mem_cons.1 hx with rfl | hx
    · omega
    · exact h x hx
theorem frN_len (k : Nat) : ∀ (n : Nat) (l : List Nat), (frN k n l).length = k + l.length := by
  induction k with
  | zero => intro n l; show l.length = 0 + l.length; omega
  | succ k ih => intro n l; show (frN k (n / 10) ((48 + n % 10) :: l)).length = _; rw [ih, List.length_cons]; omega
set_option maxRecDepth 100000 in
theorem fr_tree (X : Txt) (n n' : Int) (s : ByteArray) (K : D → Prop) : callX Tryd.prog (ctxL [(69, rtC X)] [(35, 3, onceL [] (frS n ⟨#[]⟩ 0) (frS n' s 6) (.exit 0))] 0) 3 35 [.v (.int .u64 n)] K = (
    frS n ⟨#[]⟩ 0 = frS n ⟨#[]⟩ 0 ∧ bif strEq s ⟨#[]⟩ then K (.v (.string s)) else X.ok s ∧ ((0 : Int) ≤ 48) ∧ K (.v (.string (X.tr 48 s)))) := by kernel_rfl
def frC (X : Txt) : Orc := fun _ ds K => match ds with
  | [.v (.int .u64 n)] => X.okf n ∧ K (.v (.string (X.fr n)))
  | _ => False
theorem frC_ok : Sound 35 (frC txtR) := by
  intro ds K hK
  unfold frC at hK
  split at hK
  · obtain ⟨⟨m, rfl, hm⟩, hK⟩ := hK
    refine ⟨_, hK, fun K' h => ⟨⟨m, rfl, hm⟩, h⟩, ?_⟩
    obtain ⟨j, n', hj⟩ := fr_runs 6 m [] (by omega) hm (by simp)
    have hB := frN_byte 6 m [] (fun x hx => by cases hx)
    have hlen := frN_len 6 m []
    have e : txtR.fr (m : Int) = strB (trimL 48 (frN 6 m [])) := by show strB (trimL 48 (frN 6 ((m : Int)).toNat [])) = _; rw [Int.toNat_natCast]
    rw [e]
    refine callX_eq (n := 3) (ctxL_ok (l := [(69, rtC txtR)]) (ll := [(35, 3, onceL [] (frS (m : Int) ⟨#[]⟩ 0) (frS n' (strB (frN 6 m [])) 6) (.exit 0))]) (fuel := 0) (by intro x hx; obtain rfl := List.mem_singleton.1 hx; exact rtC_ok) ?_) ?_
    · intro x hx
      obtain rfl := List.mem_singleton.1 hx
      exact LoopSound.mk (n := 0) Tryd.func35 rfl (by kernel_rfl) (by kernel_rfl) (RunsK.once none_ok (by kernel_rfl) hj)
    · rw [fr_tree, strEq_nil]
      have hne : (frN 6 m []).isEmpty = false := by
        cases h : frN 6 m [] with
        | nil => rw [h] at hlen; simp at hlen
        | cons x l => rfl
      have e2 : txtR.tr 48 (strB (frN 6 m [])) = strB (trimL 48 (frN 6 m [])) := by show strB (trimL 48 (bytesS (strB (frN 6 m [])))) = _; rw [bytesS_strB hB]
      rw [hne, e2]
      exact ⟨rfl, ⟨_, rfl, hB, by rw [hlen]; simp⟩, by omega, rfl⟩
  · exact hK.elim
end Go.Proofs.YtlfdelobjbdimaaDoor
