/-
  Bytes; strings.IndexByte; numeral's run. What numeral's scan comes to. The walk of numeral's value. numeral's value, Prefix, Looks, by bytes. Contracts of numeral's value, scan, Prefix, Looks.
-/
import Derived.Test.YtlfdelobjbdimaaDoorNumD
import Derived.Lib.Bytealg
import Derived.Laws.Externs
set_option linter.unusedSimpArgs false
set_option linter.unusedVariables false
set_option maxRecDepth 20000
namespace Go.Proofs.YtlfdelobjbdimaaDoor
set_option linter.unusedSimpArgs false
set_option linter.unusedVariables false
open Go.RowKit

/-- A list of bytes. -/
def bD (l : List Nat) : List (List D) := l.map fun (x : Nat) => [D.v (.int .u8 (x : Int))]
theorem bD_len (l : List Nat) : (bD l).length = l.length := by simp [bD]
theorem bD_app (l r : List Nat) : bD (l ++ r) = bD l ++ bD r := by simp [bD]
theorem bD_take (l : List Nat) (k : Nat) : (bD l).take k = bD (l.take k) := by simp [bD, List.map_take]
theorem bD_drop (l : List Nat) (k : Nat) : (bD l).drop k = bD (l.drop k) := by simp [bD, List.map_drop]
theorem bD_get (l : List Nat) (k : Nat) (h : k < l.length) : ((bD l).getD k []).getD 0 .undef = .v (.int .u8 ((l.getD k 0 : Nat) : Int)) := by
  simp [bD, h]
theorem is_byte (x : Int) : isD Tryd.prog 5 (.v (.int .u8 x)) = true := by kernel_rfl
theorem byte_kind {x : Nat} (h : x < 256) : inKind .u8 (x : Int) = true := by
  show (false || (decide (0 ≤ (x : Int)) && decide ((x : Int) < 256))) = true
  rw [Bool.false_or, Bool.and_eq_true, decide_eq_true_eq, decide_eq_true_eq]; omega

/-- A text's first place of a byte; as a variable, so that a run leaves it. -/
abbrev Ix := ByteArray → Int → Int
def ixR : Ix := fun s c => Lib.indexByte s.data.toList c.toNat.toUInt8
def ixC (ix : Ix) : Orc := fun _ ds K => match ds with
  | [.v (.string s), .v (.int .u8 c)] => K (.v (.int .i64 (ix s c)))
  | _ => False
theorem ixC0_ok : Sound 81 (ixC ixR) := by
  intro ds K hK
  unfold ixC at hK
  split at hK
  · rename_i s c
    refine ⟨_, hK, fun K' h => h, ?_⟩
    intro role w args hlow hmask hsz hargs
    obtain ⟨x, y, rfl, hx, hy⟩ := args_two rfl hsz hargs
    obtain ⟨rfl, _⟩ := rd_v hx
    obtain ⟨rfl, _⟩ := rd_v hy
    unfold CallsV
    rw [run_callFunc_extern Tryd.func81 (by kernel_rfl) (by kernel_rfl) (by kernel_rfl) (e := Extern.BytealgIndexByte.indexByte) (by kernel_rfl), Lib.run_indexByteString]
    exact ⟨_, role, rfl, Exd.refl w, fun _ _ => rfl, hlow, .v rfl⟩
  · exact hK.elim
set_option maxRecDepth 100000 in
theorem ix_tree (ix : Ix) (s : ByteArray) (c : Int) (K : D → Prop) : callX Tryd.prog (ctxL [(81, ixC ix)] [] 0) 3 63 [.v (.string s), .v (.int .u8 c)] K = K (.v (.int .i64 (ix s c))) := by kernel_rfl
theorem ix0_ok : ∀ x ∈ [(81, ixC ixR)], Sound x.1 x.2 := by
  intro x hx
  obtain rfl := List.mem_singleton.1 hx
  exact ixC0_ok
theorem ixC_ok : Sound 63 (ixC ixR) := by
  intro ds K hK
  unfold ixC at hK
  split at hK
  · refine ⟨_, hK, fun K' h => h, ?_⟩
    refine callX_eq (n := 3) (C := ctxL [(81, ixC ixR)] [] 0) (ctx0_ok ix0_ok) ?_
    rw [ix_tree]
  · exact hK.elim
/-! ### run -/
/-- How many of the first bytes are among others. -/
def lead (p : Nat → Bool) : List Nat → Nat
  | [] => 0
  | x :: l => bif p x then lead p l + 1 else 0
theorem lead_cons (p : Nat → Bool) (x : Nat) (l : List Nat) : lead p (x :: l) = bif p x then lead p l + 1 else 0 := rfl
theorem lead_le (p : Nat → Bool) : ∀ l, lead p l ≤ l.length
  | [] => Nat.le_refl _
  | x :: l => by
    have := lead_le p l
    unfold lead
    cases p x <;> simp <;> omega
/-- Is a byte among a text's? -/
def amongB (s : ByteArray) (x : Nat) : Bool := decide (ixR s (x : Int) ≥ 0)
def runS (es : List (List D)) (s : ByteArray) (n : Int) : List D := [.list false 5 es, .v (.string s), .undef, .undef, .v (.int .i64 0), .v (.int .i64 n)] ++ List.replicate 16 .undef
/-- A place in a list of bytes. -/
def inB (es : List (List D)) (i : Int) (X : Prop) : Prop := bif decide (0 ≤ i) && decide (i < es.length) then bif isD Tryd.prog 5 ((es.getD i.toNat []).getD 0 .undef) then X else False else False
theorem inB_eq (l : List Nat) (i : Nat) (h : i < l.length) (X : Prop) : inB (bD l) (i : Int) X = X := by
  unfold inB
  have g1 : decide ((i : Int) < (l.length : Nat)) = true := by rw [decide_eq_true_eq]; omega
  have g2 : decide (0 ≤ (i : Int)) = true := by rw [decide_eq_true_eq]; omega
  rw [bD_len, g1, g2, Int.toNat_natCast, bD_get l i h, is_byte]
  rfl
theorem getB_eq (l : List Nat) (i : Nat) (h : i < l.length) : getI (bD l) (i : Int) = ((l.getD i 0 : Nat) : Int) := by
  unfold getI; rw [Int.toNat_natCast, bD_get l i h]; rfl
set_option maxRecDepth 100000 in
theorem run_round (ix : Ix) (es : List (List D)) (s : ByteArray) (n : Int) (K : AExit → List D → Prop) :
    roundJ Tryd.prog (orcOf [(63, ixC ix)]) (fun _ _ _ => False) ([] ++ junk (loopN Tryd.f45 0)) (loopN Tryd.f45 0) (runS es s n) K = (
      bif decide (n < es.length) then inB es n (
        bif bif true then decide (ix s (getI es n) ≥ 0) else false then K .normal (runS es s (IntKind.i64.wrap (n + 1))) else K (.exit 0) (runS es s n))
      else K (.exit 0) (runS es s n)) := by kernel_rfl
theorem ixL_ok : ∀ x ∈ [(63, ixC ixR)], Sound x.1 x.2 := by
  intro x hx
  obtain rfl := List.mem_singleton.1 hx
  exact ixC_ok
theorem run_runs (s : ByteArray) (r : List Nat) : ∀ (p : List Nat), (p ++ r).length < 1000000 →
    ∃ k, Runs [(63, ixC ixR)] Tryd.f45 0 [] k (runS (bD (p ++ r)) s (p.length : Int)) (.exit 0) (runS (bD (p ++ r)) s ((p.length + lead (amongB s) r : Nat) : Int)) := by
  induction r with
  | nil =>
    intro p _
    refine ⟨1, Runs.stop ⟨fun K h => ?_⟩⟩
    rw [run_round, bD_len]
    have : decide ((p.length : Int) < ((p ++ []).length : Nat)) = false := by simp
    rw [this, cond_false]
    exact h
  | cons x r ih =>
    intro p hl
    have hlen : (p ++ x :: r).length = p.length + (r.length + 1) := by simp
    have hx : (p ++ x :: r).getD p.length 0 = x := by simp
    have g1 : decide ((p.length : Int) < ((p ++ x :: r).length : Nat)) = true := by rw [hlen, decide_eq_true_eq]; omega
    have hs : p ++ x :: r = (p ++ [x]) ++ r := by simp
    by_cases hb : amongB s x = true
    · obtain ⟨k, hk⟩ := ih (p ++ [x]) (by rw [← hs]; exact hl)
      have hl2 : (p ++ [x]).length + lead (amongB s) r = p.length + lead (amongB s) (x :: r) := by
        rw [lead_cons, hb]; simp; omega
      rw [hl2, ← hs] at hk
      refine ⟨k + 1, Runs.go ⟨fun K h => ?_⟩ hk⟩
      rw [run_round, bD_len, g1, cond_true, inB_eq _ _ (by omega), getB_eq _ _ (by omega), hx]
      have hb' : decide (ixR s (x : Int) ≥ 0) = true := hb
      have w6 : IntKind.i64.wrap ((p.length : Int) + 1) = ((p ++ [x]).length : Int) := by rw [wrap_small (by omega) (by omega)]; simp
      rw [hb', w6]
      exact h
    · have hb' : decide (ixR s (x : Int) ≥ 0) = false := by simpa [amongB] using hb
      have hl2 : lead (amongB s) (x :: r) = 0 := by
        rw [lead_cons, show amongB s x = false from hb']; rfl
      refine ⟨1, Runs.stop ⟨fun K h => ?_⟩⟩
      rw [run_round, bD_len, g1, cond_true, inB_eq _ _ (by omega), getB_eq _ _ (by omega), hx, hb']
      rw [hl2] at h
      exact h
/-- Bytes that may be, how many of the first ones are among others; as a variable, so that a run leaves them. -/
structure Bys where
  ok : List (List D) → Prop
  rn : ByteArray → List (List D) → Int
def bytesN (es : List (List D)) : List Nat := es.map fun c => match c with
  | [.v (.int _ x)] => x.toNat
  | _ => 0
theorem bytesN_bD (l : List Nat) : bytesN (bD l) = l := by
  induction l with
  | nil => rfl
  | cons x l ih => exact congr (congrArg List.cons (Int.toNat_natCast x)) ih
def bysR : Bys where
  ok es := ∃ l, es = bD l ∧ l.length < 1000000
  rn s es := ((lead (amongB s) (bytesN es) : Nat) : Int)
theorem bys_rn (s : ByteArray) (l : List Nat) : bysR.rn s (bD l) = ((lead (amongB s) l : Nat) : Int) := by
  show ((lead (amongB s) (bytesN (bD l)) : Nat) : Int) = _
  rw [bytesN_bD]
def runC (B : Bys) : Orc := fun _ ds K => match ds with
  | [.list false T es, .v (.string s)] => T = 5 ∧ B.ok es ∧ K (.v (.int .i64 (B.rn s es)))
  | _ => False
set_option maxRecDepth 100000 in
theorem run_tree (es : List (List D)) (s : ByteArray) (n : Int) (K : D → Prop) : callX Tryd.prog (ctxL [] [(45, 2, onceL [] (runS es s 0) (runS es s n) (.exit 0))] 0) 1 45 [.list false 5 es, .v (.string s)] K = (
    runS es s 0 = runS es s 0 ∧ K (.v (.int .i64 n))) := by kernel_rfl
theorem runC_ok : Sound 45 (runC bysR) := by
  intro ds K hK
  unfold runC at hK
  split at hK
  · obtain ⟨rfl, ⟨l, rfl, hl⟩, hK⟩ := hK
    rename_i s
    refine ⟨_, hK, fun K' h => ⟨rfl, ⟨l, rfl, hl⟩, h⟩, ?_⟩
    obtain ⟨k, hk⟩ := run_runs s l [] (by simpa using hl)
    simp only [List.nil_append, List.length_nil, Nat.zero_add] at hk
    refine callX_eq (n := 1) (ctxL_ok (l := []) (ll := [(45, 2, onceL [] (runS (bD l) s 0) (runS (bD l) s ((lead (amongB s) l : Nat) : Int)) (.exit 0))]) (fuel := 0) none_ok ?_) ?_
    · intro x hx
      obtain rfl := List.mem_singleton.1 hx
      exact LoopSound.mk (n := 0) Tryd.func45 rfl (by kernel_rfl) (by kernel_rfl) (Runs.once ixL_ok (by kernel_rfl) hk)
    · rw [run_tree, bys_rn]
      exact ⟨rfl, rfl⟩
  · exact hK.elim

/-! ### scan -/
def blanksS : ByteArray := ⟨#[9, 10, 11, 12, 13, 32]⟩
def digitsS : ByteArray := ⟨#[48, 49, 50, 51, 52, 53, 54, 55, 56, 57]⟩
/-- A part of a list of bytes. -/
def slB (es : List (List D)) (lo hi : Int) (K : List (List D) → Prop) : Prop :=
  bif 5 == 5 && (Tryd.prog.info? 5).isSome && decide (0 ≤ lo) && decide (lo ≤ hi) && decide (hi ≤ es.length) then K (List.drop lo.toNat (List.take hi.toNat es)) else False
/-- How many of its first bytes are among others. -/
def rnB (B : Bys) (s : ByteArray) (es : List (List D)) (K : Int → Prop) : Prop := 5 = 5 ∧ B.ok es ∧ K (B.rn s es)
def scanEnd (neg : Bool) (wh : List (List D)) (n : Int) (K : D → Prop) : Prop :=
  bif (wh.length : Int) == 0 then K (.tup [.v (.bool neg), .list false 5 wh, .list false 5 [], .v (.int .i64 0)]) else K (.tup [.v (.bool neg), .list false 5 wh, .list false 5 [], .v (.int .i64 n)])
def scanBack (B : Bys) (es : List (List D)) (neg : Bool) (wh : List (List D)) (n : Int) (K : D → Prop) : Prop :=
  slB es n es.length fun r => rnB B digitsS r fun k => slB es n (IntKind.i64.wrap (n + k)) fun rs => K (.tup [.v (.bool neg), .list false 5 wh, .list false 5 rs, .v (.int .i64 (IntKind.i64.wrap (n + k)))])
def scanPoint (B : Bys) (es : List (List D)) (neg : Bool) (wh : List (List D)) (n : Int) (K : D → Prop) : Prop :=
  bif n == es.length then scanEnd neg wh n K else inB es n (bif bif false then true else getI es n != 46 then scanEnd neg wh n K else
    slB es (IntKind.i64.wrap (n + 1)) es.length fun r => rnB B digitsS r fun k => bif bif false then true else IntKind.i64.wrap (wh.length + k) == 0 then scanEnd neg wh n K else scanBack B es neg wh (IntKind.i64.wrap (n + 1)) K)
def scanFront (B : Bys) (es : List (List D)) (neg : Bool) (n : Int) (K : D → Prop) : Prop :=
  slB es n es.length fun r => rnB B digitsS r fun k => slB es n (IntKind.i64.wrap (n + k)) fun wh => scanPoint B es neg wh (IntKind.i64.wrap (n + k)) K
def scanSign (B : Bys) (es : List (List D)) (n : Int) (K : D → Prop) : Prop :=
  bif decide (n < es.length) then inB es n (bif getI es n == 45 then inB es n (scanFront B es (getI es n == 45) (IntKind.i64.wrap (n + 1)) K) else
    inB es n (bif bif true then bif false then true else getI es n == 43 else false then inB es n (scanFront B es (getI es n == 45) (IntKind.i64.wrap (n + 1)) K) else scanFront B es false n K))
  else scanFront B es false n K
set_option maxRecDepth 100000 in
theorem scan_tree (B : Bys) (es : List (List D)) (K : D → Prop) : callX Tryd.prog (ctxL [(45, runC B)] [] 3) 2 44 [.list false 5 es] K = (
    rnB B blanksS es fun n => scanSign B es n K) := by kernel_rfl
end Go.Proofs.YtlfdelobjbdimaaDoor

namespace Go.Proofs.YtlfdelobjbdimaaDoor
open Go.RowKit

theorem slB_eq (l : List Nat) (lo hi : Nat) (h : lo ≤ hi) (h' : hi ≤ l.length) (K : List (List D) → Prop) : slB (bD l) (lo : Int) (hi : Int) K = K (bD ((l.take hi).drop lo)) := by
  unfold slB
  have h1 : (5 == 5 && (Tryd.prog.info? 5).isSome) = true := by kernel_rfl
  have h2 : decide (0 ≤ (lo : Int)) = true := by rw [decide_eq_true_eq]; omega
  have h3 : decide ((lo : Int) ≤ (hi : Int)) = true := by rw [decide_eq_true_eq]; omega
  have h4 : decide ((hi : Int) ≤ (l.length : Nat)) = true := by rw [decide_eq_true_eq]; omega
  rw [bD_len, h1, h2, h3, h4, Int.toNat_natCast, Int.toNat_natCast, bD_take, bD_drop]
  rfl
theorem slB_end (l : List Nat) (lo : Nat) (h : lo ≤ l.length) (K : List (List D) → Prop) : slB (bD l) (lo : Int) ((bD l).length : Nat) K = K (bD (l.drop lo)) := by
  rw [bD_len, slB_eq l lo l.length h (Nat.le_refl _), List.take_length]
theorem slB_mid (l : List Nat) (lo k : Nat) (h : lo + k ≤ l.length) (K : List (List D) → Prop) : slB (bD l) (lo : Int) ((lo + k : Nat) : Int) K = K (bD ((l.drop lo).take k)) := by
  rw [slB_eq l lo (lo + k) (by omega) h, List.drop_take, Nat.add_sub_cancel_left]
theorem rnB_eq (s : ByteArray) (l : List Nat) (h : l.length < 1000000) (K : Int → Prop) : rnB bysR s (bD l) K = K ((lead (amongB s) l : Nat) : Int) := by
  unfold rnB
  rw [bys_rn]
  exact propext ⟨fun h => h.2.2, fun hK => ⟨rfl, ⟨l, rfl, h⟩, hK⟩⟩

/-! ### What scan comes to -/
abbrev isBl : Nat → Bool := amongB blanksS
abbrev isDg : Nat → Bool := amongB digitsS
def scB (l : List Nat) : Nat := lead isBl l
/-- Is a byte a sign? -/
def isSg (l : List Nat) (i : Nat) : Bool := decide (i < l.length) && (l.getD i 0 == 45 || l.getD i 0 == 43)
def scI (l : List Nat) : Nat := bif isSg l (scB l) then scB l + 1 else scB l
def scNeg (l : List Nat) : Bool := isSg l (scB l) && l.getD (scB l) 0 == 45
def scD (l : List Nat) : Nat := lead isDg (l.drop (scI l))
def scW (l : List Nat) : List Nat := (l.drop (scI l)).take (scD l)
def scP (l : List Nat) : Nat := scI l + scD l
def scK (l : List Nat) : Nat := lead isDg (l.drop (scP l + 1))
def scDot (l : List Nat) : Bool := decide (scP l < l.length) && (l.getD (scP l) 0 == 46 && !((scW l).length + scK l == 0))
def scR (l : List Nat) : List Nat := bif scDot l then (l.drop (scP l + 1)).take (scK l) else []
def scN (l : List Nat) : Nat := bif scDot l then scP l + 1 + scK l else bif (scW l).length == 0 then 0 else scP l
theorem scD_le (l : List Nat) (h : scI l ≤ l.length) : scI l + scD l ≤ l.length := by
  have := lead_le isDg (l.drop (scI l)); rw [List.length_drop] at this; unfold scD; omega
theorem scI_le (l : List Nat) : scI l ≤ l.length := by
  have h1 := lead_le isBl l
  unfold scI
  cases h : isSg l (scB l) with
  | true =>
    unfold isSg at h
    simp only [Bool.and_eq_true, decide_eq_true_eq] at h
    show scB l + 1 ≤ l.length
    exact h.1
  | false => exact h1
theorem scP_le (l : List Nat) : scP l ≤ l.length := scD_le l (scI_le l)
theorem scW_len (l : List Nat) : (scW l).length = scD l := by
  have := scP_le l; unfold scP at this
  unfold scW; rw [List.length_take, List.length_drop]; omega
theorem scK_le (l : List Nat) (h : scP l < l.length) : scP l + 1 + scK l ≤ l.length := by
  have := lead_le isDg (l.drop (scP l + 1)); rw [List.length_drop] at this; unfold scK; omega
theorem scanEnd_eq (neg : Bool) (w : List Nat) (n : Nat) (K : D → Prop) : scanEnd neg (bD w) (n : Int) K = K (.tup [.v (.bool neg), .list false 5 (bD w), .list false 5 (bD []), .v (.int .i64 (((bif w.length == 0 then 0 else n) : Nat) : Int))]) := by
  unfold scanEnd
  rw [bD_len]
  have h1 : ((w.length : Int) == 0) = (w.length == 0) := by rw [Bool.eq_iff_iff, beq_iff_eq, beq_iff_eq]; omega
  rw [h1]
  cases w.length == 0 <;> rfl
/-- The results of scan. -/
def scT (neg : Bool) (l : List Nat) : D := .tup [.v (.bool neg), .list false 5 (bD (scW l)), .list false 5 (bD (scR l)), .v (.int .i64 ((scN l : Nat) : Int))]
theorem wrap_nat {n : Nat} (h : n < 10000000) : IntKind.i64.wrap ((n : Nat) : Int) = (n : Int) := wrap_small (by omega) (by omega)
theorem scanPoint_eq (l : List Nat) (hl : l.length < 1000000) (neg : Bool) (K : D → Prop) : scanPoint bysR (bD l) neg (bD (scW l)) ((scP l : Nat) : Int) K = K (scT neg l) := by
  unfold scanPoint scT
  have hP := scP_le l
  have hW := scW_len l
  have hD : scD l ≤ scP l := by unfold scP; omega
  rw [scanEnd_eq]
  by_cases h : scP l < l.length
  · have e1 : (((scP l : Nat) : Int) == (((bD l).length : Nat) : Int)) = false := by rw [bD_len, beq_eq_false_iff_ne]; omega
    rw [e1, cond_false, inB_eq l _ h, getB_eq l _ h, cond_false]
    by_cases h2 : l.getD (scP l) 0 = 46
    · have e2 : (((l.getD (scP l) 0 : Nat) : Int) != 46) = false := by rw [h2]; rfl
      have hK := scK_le l h
      have w1 : IntKind.i64.wrap (((scP l : Nat) : Int) + 1) = ((scP l + 1 : Nat) : Int) := wrap_nat (n := scP l + 1) (by omega)
      have w2 : IntKind.i64.wrap ((((bD (scW l)).length : Nat) : Int) + ((lead (amongB digitsS) (l.drop (scP l + 1)) : Nat) : Int)) = (((scW l).length + scK l : Nat) : Int) := by
        rw [bD_len]; exact wrap_nat (n := (scW l).length + scK l) (by omega)
      rw [e2, cond_false, w1, slB_end l _ (by omega), rnB_eq _ _ (by rw [List.length_drop]; omega), w2]
      by_cases h3 : (scW l).length + scK l = 0
      · have e3 : ((((scW l).length + scK l : Nat) : Int) == 0) = true := by rw [h3]; rfl
        have hdot : scDot l = false := by unfold scDot; rw [show ((scW l).length + scK l == 0) = true by rw [h3]; rfl]; simp
        rw [e3, cond_false, cond_true]
        unfold scR scN
        rw [hdot]; rfl
      · have e3 : ((((scW l).length + scK l : Nat) : Int) == 0) = false := by rw [beq_eq_false_iff_ne]; omega
        have hdot : scDot l = true := by
          unfold scDot
          rw [decide_eq_true h, h2, show ((scW l).length + scK l == 0) = false by rw [beq_eq_false_iff_ne]; exact h3]; rfl
        have w3 : IntKind.i64.wrap (((scP l + 1 : Nat) : Int) + ((lead (amongB digitsS) (l.drop (scP l + 1)) : Nat) : Int)) = ((scP l + 1 + scK l : Nat) : Int) := wrap_nat (n := scP l + 1 + scK l) (by omega)
        rw [e3, cond_false, cond_false]
        unfold scanBack
        rw [slB_end l _ (by omega), rnB_eq _ _ (by rw [List.length_drop]; omega), w3, slB_mid l _ _ hK]
        unfold scR scN
        rw [hdot]; rfl
    · have e2 : (((l.getD (scP l) 0 : Nat) : Int) != 46) = true := by rw [bne_iff_ne]; omega
      have hdot : scDot l = false := by unfold scDot; rw [show (l.getD (scP l) 0 == 46) = false by rw [beq_eq_false_iff_ne]; exact h2]; simp
      rw [e2, cond_true]
      unfold scR scN
      rw [hdot]; rfl
  · have e1 : (((scP l : Nat) : Int) == (((bD l).length : Nat) : Int)) = true := by rw [bD_len, beq_iff_eq]; omega
    have hdot : scDot l = false := by unfold scDot; rw [decide_eq_false h]; rfl
    rw [e1, cond_true]
    unfold scR scN
    rw [hdot]; rfl
theorem scanFront_eq (l : List Nat) (hl : l.length < 1000000) (neg : Bool) (K : D → Prop) : scanFront bysR (bD l) neg ((scI l : Nat) : Int) K = K (scT neg l) := by
  unfold scanFront
  have hI := scI_le l
  have hP := scP_le l
  have w1 : IntKind.i64.wrap (((scI l : Nat) : Int) + ((lead (amongB digitsS) (l.drop (scI l)) : Nat) : Int)) = ((scI l + scD l : Nat) : Int) := wrap_nat (n := scI l + scD l) (by unfold scP at hP; omega)
  rw [slB_end l _ hI, rnB_eq _ _ (by rw [List.length_drop]; omega), w1, slB_mid l _ _ hP]
  exact scanPoint_eq l hl neg K
theorem scan_eq (l : List Nat) (hl : l.length < 1000000) (K : D → Prop) : (rnB bysR blanksS (bD l) fun n => scanSign bysR (bD l) n K) = K (scT (scNeg l) l) := by
  rw [rnB_eq _ _ hl]
  show scanSign bysR (bD l) ((scB l : Nat) : Int) K = _
  have hB : scB l ≤ l.length := lead_le isBl l
  have w1 : IntKind.i64.wrap (((scB l : Nat) : Int) + 1) = ((scB l + 1 : Nat) : Int) := wrap_nat (n := scB l + 1) (by omega)
  have hI := scanFront_eq l hl
  unfold scanSign scNeg
  unfold scI isSg at hI
  unfold isSg
  rw [bD_len, w1]
  by_cases h : scB l < l.length
  · have e1 : decide (((scB l : Nat) : Int) < (l.length : Nat)) = true := by rw [decide_eq_true_eq]; omega
    rw [decide_eq_true h] at hI ⊢
    rw [e1, cond_true, inB_eq l _ h, inB_eq l _ h, inB_eq l _ h, getB_eq l _ h]
    have e2 : (((l.getD (scB l) 0 : Nat) : Int) == 45) = (l.getD (scB l) 0 == 45) := by rw [Bool.eq_iff_iff, beq_iff_eq, beq_iff_eq]; omega
    have e3 : (((l.getD (scB l) 0 : Nat) : Int) == 43) = (l.getD (scB l) 0 == 43) := by rw [Bool.eq_iff_iff, beq_iff_eq, beq_iff_eq]; omega
    rw [e2, e3]
    cases h4 : l.getD (scB l) 0 == 45
    · rw [h4] at hI
      cases h5 : l.getD (scB l) 0 == 43
      · rw [h5] at hI
        simp only [Bool.or_false, Bool.and_false, Bool.true_and, Bool.false_and, cond_true, cond_false] at hI ⊢
        rw [hI]
      · rw [h5] at hI
        simp only [Bool.or_true, Bool.and_false, Bool.true_and, Bool.and_true, cond_true, cond_false] at hI ⊢
        rw [hI]
    · rw [h4] at hI
      simp only [Bool.true_or, Bool.true_and, Bool.and_true, cond_true, cond_false] at hI ⊢
      rw [hI]
  · have e1 : decide (((scB l : Nat) : Int) < (l.length : Nat)) = false := by rw [decide_eq_false_iff_not]; omega
    rw [decide_eq_false h] at hI ⊢
    simp only [Bool.false_and, cond_false] at hI
    rw [e1, cond_false, hI]
    rfl
theorem scan_ps (l : List Nat) (hl : l.length < 1000000) : PS Tryd.prog 44 [.list false 5 (bD l)] (scT (scNeg l) l) := by
  refine callX_eq (n := 2) (C := ctxL [(45, runC bysR)] [] 3) (ctxL_ok (by intro x hx; obtain rfl := List.mem_singleton.1 hx; exact runC_ok) (by intro x hx; cases hx)) ?_
  rw [scan_tree, scan_eq l hl]
end Go.Proofs.YtlfdelobjbdimaaDoor

namespace Go.Proofs.YtlfdelobjbdimaaDoor
open Go.RowKit

/-- A round leads from a frame to a frame; what is forgotten behind it is told. -/
structure GoesK (l : List (Nat × Orc)) (f : Func) (n : Nat) (j : List Nat) (s : List D) (e : AExit) (s' : List D) : Prop where
  out : ∀ K : AExit → List D → Prop, K e s' → roundJ Tryd.prog (orcOf l) (fun _ _ _ => False) j (loopN f n) s K
structure RunsK (l : List (Nat × Orc)) (f : Func) (n : Nat) (j : List Nat) (k : Nat) (s : List D) (e : AExit) (s' : List D) : Prop where
  out : RoundsJ Tryd.prog (orcOf l) (fun _ _ _ => False) j (loopN f n) k s e s'
theorem RunsK.go {l : List (Nat × Orc)} {f : Func} {n : Nat} {j : List Nat} {k : Nat} {s s1 s' : List D} {e : AExit} (h : GoesK l f n j s .normal s1) (h2 : RunsK l f n j k s1 e s') : RunsK l f n j (k + 1) s e s' := ⟨by
  unfold RoundsJ; exact h.out _ h2.out⟩
theorem RunsK.stop {l : List (Nat × Orc)} {f : Func} {n : Nat} {j : List Nat} {k : Nat} {s s' : List D} {id : Nat} (h : GoesK l f n j s (.exit id) s') : RunsK l f n j (k + 1) s (.exit id) s' := ⟨by
  unfold RoundsJ; exact h.out _ ⟨rfl, rfl⟩⟩
theorem RunsK.ret {l : List (Nat × Orc)} {f : Func} {n : Nat} {j : List Nat} {k : Nat} {s s' : List D} (h : GoesK l f n j s .ret s') : RunsK l f n j (k + 1) s .ret s' := ⟨by
  unfold RoundsJ; exact h.out _ ⟨rfl, rfl⟩⟩
theorem RunsK.once {l : List (Nat × Orc)} (hl : ∀ x ∈ l, Sound x.1 x.2) {f : Func} {n : Nat} {j j' : List Nat} {k : Nat} {s s' : List D} {e : AExit} (hL : loopsOf (loopN f n) = []) (h : RunsK l f n j' k s e s') : LoopOK Tryd.prog (loopN f n) (onceL j s s' e) :=
  onceO_ok hl hL h.out

/-! ### The digits ahead of the point -/
def cellsM (M : Ops) (z : Int) : List D := [.v (.bool (M.sg z)), .v (.int .u64 (M.hi z)), .v (.int .u64 (M.lo z))]
def valJ : List Nat := [9, 10, 11, 20, 21, 22, 23, 24, 25, 26, 27, 28, 29, 30, 31, 32, 33, 34, 35, 36, 37, 38, 39, 40, 41, 42, 43, 44, 45]
def valS (M : Ops) (es fs : List (List D)) (er : D) (a : Int) (i : Int) : List D := [.list false 5 es, .list false 5 fs, .undef, .undef, .obj 24 [.v (.bool false), .v (.int .u64 0), .v (.int .u64 0)], er, .obj 24 (cellsM M a), .obj 24 (cellsM M (M.int 10))] ++ List.replicate 8 .undef ++ [.agg (cellsM M (M.int 10)), .list false 5 es, .v (.int .i64 (es.length : Int)), .v (.int .i64 i)] ++ List.replicate 52 .undef
def valL (M : Ops) : List (Nat × Orc) := [(25, intT M), (74, mulT M), (75, addT M)]
theorem valL_ok : ∀ x ∈ valL opsR, Sound x.1 x.2 := by
  intro x hx
  simp only [valL, List.mem_cons, List.not_mem_nil, or_false] at hx
  rcases hx with rfl | rfl | rfl
  · exact intT_ok
  · exact soundT mulC_ok fun _ _ h => mulT_to h
  · exact soundT addC_ok fun _ _ h => addT_to h
/-- A number's value, as its cells tell it. -/
def vz (M : Ops) (z : Int) : Int := M.val (M.sg z) (M.hi z) (M.lo z)
def gz (M : Ops) (z : Int) : Bool := M.good (M.sg z) (M.hi z) (M.lo z)
set_option maxRecDepth 100000 in
theorem val_round (M : Ops) (es fs : List (List D)) (a i : Int) (K : AExit → List D → Prop) :
    roundJ Tryd.prog (orcOf (valL M)) (fun _ _ _ => False) valJ (loopN Tryd.f59 0) (valS M es fs nilD a i) K = (
      bif decide (i < es.length) then inB es i (
        let t := M.mul (vz M a) (vz M (M.int 10)); let c := IntKind.i64.wrap (IntKind.u8.wrap (getI es i - 48))
        gz M a = true ∧ gz M (M.int 10) = true ∧ bif M.fit t then
          M.isInt c = true ∧ gz M t = true ∧ gz M (M.int c) = true ∧ bif M.fit (M.add (vz M t) (vz M (M.int c))) then K .normal (valS M es fs nilD (M.add (vz M t) (vz M (M.int c))) (IntKind.i64.wrap (i + 1)))
          else K .ret (valS M es fs (errD 2) a i)
        else K .ret (valS M es fs (errD 2) a i))
      else K (.exit 0) (valS M es fs nilD a i)) := by kernel_rfl
/-- Digits, read on from a number. -/
def decN : List Nat → Nat → Nat
  | [], n => n
  | x :: l, n => decN l (n * 10 + (x - 48))
theorem decN_ge : ∀ (l : List Nat) (n : Nat), n ≤ decN l n
  | [], _ => Nat.le_refl _
  | x :: l, n => Nat.le_trans (by omega) (decN_ge l (n * 10 + (x - 48)))
theorem vz_eq (z : Int) : vz opsR z = z := by unfold vz; exact ops_val z
theorem gz_gen (M : Ops) (h : ∀ z, M.good (M.sg z) (M.hi z) (M.lo z) = M.fit z) (z : Int) : gz M z = M.fit z := h z
theorem gz_eq (z : Int) : gz opsR z = opsR.fit z := gz_gen opsR ops_good z
theorem fit_nat {n : Nat} (h : n < 1000000000000000000000000000000) : opsR.fit ((n * 1000000 : Nat) : Int) = true := by
  show fitB _ = true
  have h2 : ((n * 1000000 : Nat) : Int).natAbs < 1000000000000000000000000000000000000 := by rw [Int.natAbs_natCast]; omega
  exact fit_mk h2
theorem fit_not {n : Nat} (h : ¬ n < 1000000000000000000000000000000) : opsR.fit ((n * 1000000 : Nat) : Int) = false := by
  cases hf : opsR.fit ((n * 1000000 : Nat) : Int) with
  | false => rfl
  | true =>
    have h2 := fit_lt hf
    rw [Int.natAbs_natCast] at h2
    omega
theorem isInt_any {n : Int} (h : -9223372036854775808 ≤ n) (h' : n < 9223372036854775808) : opsR.isInt n = true := by
  show (decide (-9223372036854775808 ≤ n) && decide (n < 9223372036854775808)) = true
  rw [Bool.and_eq_true, decide_eq_true_eq, decide_eq_true_eq]; exact ⟨h, h'⟩
theorem isInt_small {n : Nat} (h : n < 1000000000) : opsR.isInt (n : Int) = true := isInt_any (by omega) (by omega)
/-- Are bytes all digits? -/
def allDg (l : List Nat) : Prop := ∀ x ∈ l, 48 ≤ x ∧ x ≤ 57
theorem val_go (p r : List Nat) (x : Nat) (fs : List (List D)) (n : Nat) (hx : 48 ≤ x ∧ x ≤ 57) (hl : (p ++ x :: r).length < 1000000) (hn : n < 1000000000000000000000000000000) (h : n * 10 + (x - 48) < 1000000000000000000000000000000) :
    GoesK (valL opsR) Tryd.f59 0 valJ (valS opsR (bD (p ++ x :: r)) fs nilD ((n * 1000000 : Nat) : Int) (p.length : Int)) .normal
      (valS opsR (bD (p ++ x :: r)) fs nilD (((n * 10 + (x - 48)) * 1000000 : Nat) : Int) ((p.length + 1 : Nat) : Int)) := by
  refine ⟨fun K hK => ?_⟩
  have hlen : (p ++ x :: r).length = p.length + (r.length + 1) := by simp
  have hget : (p ++ x :: r).getD p.length 0 = x := by simp
  have g1 : decide ((p.length : Int) < ((p ++ x :: r).length : Nat)) = true := by rw [hlen, decide_eq_true_eq]; omega
  have w0 : IntKind.u8.wrap ((x : Int) - 48) = ((x - 48 : Nat) : Int) := by rw [show (x : Int) - 48 = ((x - 48 : Nat) : Int) by omega, IntKind.wrap_u8]; omega
  have w1 : IntKind.i64.wrap ((x - 48 : Nat) : Int) = ((x - 48 : Nat) : Int) := wrap_small (by omega) (by omega)
  have w6 : IntKind.i64.wrap ((p.length : Int) + 1) = ((p.length + 1 : Nat) : Int) := wrap_nat (n := p.length + 1) (by omega)
  have i10 : opsR.int 10 = 10000000 := rfl
  have ec : opsR.int ((x - 48 : Nat) : Int) = (((x - 48) * 1000000 : Nat) : Int) := by show ((x - 48 : Nat) : Int) * 1000000 = _; omega
  have et : opsR.mul ((n * 1000000 : Nat) : Int) 10000000 = ((n * 10 * 1000000 : Nat) : Int) := by
    show (((n * 1000000 : Nat) : Int) * 10000000).tdiv 1000000 = _
    rw [show ((n * 1000000 : Nat) : Int) * 10000000 = ((n * 10 * 1000000 * 1000000 : Nat) : Int) by omega]
    show ((n * 10 * 1000000 * 1000000 / 1000000 : Nat) : Int) = _
    rw [Nat.mul_div_cancel _ (by omega)]
  have ea : opsR.add ((n * 10 * 1000000 : Nat) : Int) (((x - 48) * 1000000 : Nat) : Int) = (((n * 10 + (x - 48)) * 1000000 : Nat) : Int) := by
    show ((n * 10 * 1000000 : Nat) : Int) + (((x - 48) * 1000000 : Nat) : Int) = _
    omega
  have f1 : opsR.fit ((n * 1000000 : Nat) : Int) = true := fit_nat hn
  have f2 : opsR.fit 10000000 = true := by decide
  have f3 : opsR.fit ((n * 10 * 1000000 : Nat) : Int) = true := fit_nat (by omega)
  have f4 : opsR.fit (((x - 48) * 1000000 : Nat) : Int) = true := fit_nat (by omega)
  have f5 : opsR.fit (((n * 10 + (x - 48)) * 1000000 : Nat) : Int) = true := fit_nat h
  have f6 : opsR.isInt ((x - 48 : Nat) : Int) = true := by
    exact isInt_small (by omega)
  rw [val_round, bD_len, g1, cond_true, inB_eq _ _ (by omega), getB_eq _ _ (by omega), hget]
  simp only [w0, w1, w6, vz_eq, gz_eq, i10, ec, et, ea, f1, f2, f3, f4, f5, f6, cond_true, true_and]
  exact hK
theorem val_big (p r : List Nat) (x : Nat) (fs : List (List D)) (n : Nat) (hx : 48 ≤ x ∧ x ≤ 57) (hl : (p ++ x :: r).length < 1000000) (hn : n < 1000000000000000000000000000000) (h : ¬ n * 10 + (x - 48) < 1000000000000000000000000000000) :
    GoesK (valL opsR) Tryd.f59 0 valJ (valS opsR (bD (p ++ x :: r)) fs nilD ((n * 1000000 : Nat) : Int) (p.length : Int)) .ret
      (valS opsR (bD (p ++ x :: r)) fs (errD 2) ((n * 1000000 : Nat) : Int) (p.length : Int)) := by
  refine ⟨fun K hK => ?_⟩
  have hlen : (p ++ x :: r).length = p.length + (r.length + 1) := by simp
  have hget : (p ++ x :: r).getD p.length 0 = x := by simp
  have g1 : decide ((p.length : Int) < ((p ++ x :: r).length : Nat)) = true := by rw [hlen, decide_eq_true_eq]; omega
  have w0 : IntKind.u8.wrap ((x : Int) - 48) = ((x - 48 : Nat) : Int) := by rw [show (x : Int) - 48 = ((x - 48 : Nat) : Int) by omega, IntKind.wrap_u8]; omega
  have w1 : IntKind.i64.wrap ((x - 48 : Nat) : Int) = ((x - 48 : Nat) : Int) := wrap_small (by omega) (by omega)
  have i10 : opsR.int 10 = 10000000 := rfl
  have ec : opsR.int ((x - 48 : Nat) : Int) = (((x - 48) * 1000000 : Nat) : Int) := by show ((x - 48 : Nat) : Int) * 1000000 = _; omega
  have et : opsR.mul ((n * 1000000 : Nat) : Int) 10000000 = ((n * 10 * 1000000 : Nat) : Int) := by
    show (((n * 1000000 : Nat) : Int) * 10000000).tdiv 1000000 = _
    rw [show ((n * 1000000 : Nat) : Int) * 10000000 = ((n * 10 * 1000000 * 1000000 : Nat) : Int) by omega]
    show ((n * 10 * 1000000 * 1000000 / 1000000 : Nat) : Int) = _
    rw [Nat.mul_div_cancel _ (by omega)]
  have ea : opsR.add ((n * 10 * 1000000 : Nat) : Int) (((x - 48) * 1000000 : Nat) : Int) = (((n * 10 + (x - 48)) * 1000000 : Nat) : Int) := by
    show ((n * 10 * 1000000 : Nat) : Int) + (((x - 48) * 1000000 : Nat) : Int) = _
    omega
  have f1 : opsR.fit ((n * 1000000 : Nat) : Int) = true := fit_nat hn
  have f2 : opsR.fit 10000000 = true := by decide
  have f4 : opsR.fit (((x - 48) * 1000000 : Nat) : Int) = true := fit_nat (by omega)
  have f5 : opsR.fit (((n * 10 + (x - 48)) * 1000000 : Nat) : Int) = false := fit_not h
  have f6 : opsR.isInt ((x - 48 : Nat) : Int) = true := by
    exact isInt_small (by omega)
  rw [val_round, bD_len, g1, cond_true, inB_eq _ _ (by omega), getB_eq _ _ (by omega), hget]
  cases f3 : opsR.fit ((n * 10 * 1000000 : Nat) : Int)
  · simp only [w0, w1, vz_eq, gz_eq, i10, et, f1, f2, f3, cond_false, true_and]
    exact hK
  · simp only [w0, w1, vz_eq, gz_eq, i10, ec, et, ea, f1, f2, f3, f4, f5, f6, cond_true, cond_false, true_and]
    exact hK
theorem val_runs (fs : List (List D)) (r : List Nat) : ∀ (p : List Nat) (n : Nat), allDg r → (p ++ r).length < 1000000 → n < 1000000000000000000000000000000 →
    (decN r n < 1000000000000000000000000000000 ∧ ∃ k, RunsK (valL opsR) Tryd.f59 0 valJ k (valS opsR (bD (p ++ r)) fs nilD ((n * 1000000 : Nat) : Int) (p.length : Int)) (.exit 0) (valS opsR (bD (p ++ r)) fs nilD ((decN r n * 1000000 : Nat) : Int) (((p ++ r).length : Nat) : Int))) ∨
    (1000000000000000000000000000000 ≤ decN r n ∧ ∃ k a i, RunsK (valL opsR) Tryd.f59 0 valJ k (valS opsR (bD (p ++ r)) fs nilD ((n * 1000000 : Nat) : Int) (p.length : Int)) .ret (valS opsR (bD (p ++ r)) fs (errD 2) a i)) := by
  induction r with
  | nil =>
    intro p n _ _ hn
    refine .inl ⟨hn, 1, RunsK.stop ⟨fun K h => ?_⟩⟩
    rw [val_round, bD_len]
    have : decide ((p.length : Int) < ((p ++ []).length : Nat)) = false := by simp
    rw [this, cond_false]
    have e : (((p ++ ([] : List Nat)).length : Nat) : Int) = (p.length : Int) := by simp
    rw [e] at h
    exact h
  | cons x r ih =>
    intro p n hd hl hn
    have hx := hd x (by simp)
    have hs : p ++ x :: r = (p ++ [x]) ++ r := by simp
    by_cases h : n * 10 + (x - 48) < 1000000000000000000000000000000
    · have hg := val_go p r x fs n hx hl hn h
      have e1 : ((p.length + 1 : Nat) : Int) = ((p ++ [x]).length : Int) := by simp
      rw [e1] at hg
      have h2 := ih (p ++ [x]) (n * 10 + (x - 48)) (fun y hy => hd y (by simp [hy])) (by rw [← hs]; exact hl) h
      rw [← hs] at h2
      rcases h2 with ⟨h3, k, hk⟩ | ⟨h3, k, a, i, hk⟩
      · exact .inl ⟨h3, k + 1, RunsK.go hg hk⟩
      · exact .inr ⟨h3, k + 1, a, i, RunsK.go hg hk⟩
    · have hg := val_big p r x fs n hx hl hn h
      refine .inr ⟨?_, 1, _, _, RunsK.ret hg⟩
      have := decN_ge r (n * 10 + (x - 48))
      show _ ≤ decN r (n * 10 + (x - 48))
      omega

/-! ### The digits behind the point -/
def parJ : List Nat := [15, 53, 54, 55, 56, 57, 58, 59, 60, 61, 62, 63, 64, 65]
def parS (M : Ops) (es fs : List (List D)) (a : Int) (unit part : Int) (gs : List (List D)) (i : Int) : List D := [.list false 5 es, .list false 5 fs, .undef, .undef, .obj 24 [.v (.bool false), .v (.int .u64 0), .v (.int .u64 0)], nilD, .obj 24 (cellsM M a), .obj 24 (cellsM M (M.int 10)), .undef, .undef, .undef, .undef, .v (.int .u64 unit), .v (.int .u64 part), .undef, .undef,
    .agg (cellsM M (M.int 10)), .list false 5 es, .v (.int .i64 (es.length : Int)), .v (.int .i64 (es.length : Int))] ++ List.replicate 30 .undef ++ [.list false 5 gs, .v (.int .i64 (gs.length : Int)), .v (.int .i64 i)] ++ List.replicate 19 .undef
set_option maxRecDepth 100000 in
theorem par_round (M : Ops) (es fs gs : List (List D)) (a unit part i : Int) (K : AExit → List D → Prop) :
    roundJ Tryd.prog (orcOf []) (fun _ _ _ => False) parJ (loopN Tryd.f59 1) (parS M es fs a unit part gs i) K = (
      bif decide (i < gs.length) then inB gs i (
        let u := IntKind.u64.wrap (unit.tdiv 10)
        K .normal (parS M es fs a u (IntKind.u64.wrap (part + IntKind.u64.wrap (u * IntKind.u64.wrap (IntKind.u8.wrap (getI gs i - 48))))) gs (IntKind.i64.wrap (i + 1))))
      else K (.exit 2) (parS M es fs a unit part gs i)) := by kernel_rfl
/-- Digits behind a point, in units that become smaller. -/
def parN : List Nat → Nat → Nat → Nat
  | [], _, p => p
  | x :: l, u, p => parN l (u / 10) (p + u / 10 * (x - 48))
theorem par_runs (M : Ops) (es fs : List (List D)) (a : Int) (r : List Nat) : ∀ (p : List Nat) (u q : Nat), allDg r → (p ++ r).length ≤ 6 → u ≤ 1000000 → q + 1000000 * r.length ≤ 100000000 →
    ∃ k u', RunsK [] Tryd.f59 1 parJ k (parS M es fs a (u : Int) (q : Int) (bD (p ++ r)) (p.length : Int)) (.exit 2) (parS M es fs a u' ((parN r u q : Nat) : Int) (bD (p ++ r)) (((p ++ r).length : Nat) : Int)) := by
  induction r with
  | nil =>
    intro p u q _ _ _ _
    refine ⟨1, u, RunsK.stop ⟨fun K h => ?_⟩⟩
    rw [par_round, bD_len]
    have : decide ((p.length : Int) < ((p ++ []).length : Nat)) = false := by simp
    rw [this, cond_false]
    have e : (((p ++ ([] : List Nat)).length : Nat) : Int) = (p.length : Int) := by simp
    rw [e] at h
    exact h
  | cons x r ih =>
    intro p u q hd hl hu hq
    have hx := hd x (by simp)
    have hs : p ++ x :: r = (p ++ [x]) ++ r := by simp
    have hlen : (p ++ x :: r).length = p.length + (r.length + 1) := by simp
    have hget : (p ++ x :: r).getD p.length 0 = x := by simp
    have hb : u / 10 * (x - 48) ≤ 900000 := Nat.mul_le_mul (show u / 10 ≤ 100000 by omega) (show x - 48 ≤ 9 by omega)
    rw [List.length_cons] at hq
    obtain ⟨k, u', hk⟩ := ih (p ++ [x]) (u / 10) (q + u / 10 * (x - 48)) (fun y hy => hd y (by simp [hy])) (by rw [← hs]; exact hl) (by omega) (by omega)
    rw [← hs] at hk
    refine ⟨k + 1, u', RunsK.go ⟨fun K hK => ?_⟩ hk⟩
    have g1 : decide ((p.length : Int) < ((p ++ x :: r).length : Nat)) = true := by rw [hlen, decide_eq_true_eq]; omega
    have w0 : IntKind.u8.wrap ((x : Int) - 48) = ((x - 48 : Nat) : Int) := by rw [show (x : Int) - 48 = ((x - 48 : Nat) : Int) by omega, IntKind.wrap_u8]; omega
    have w1 : IntKind.u64.wrap ((x - 48 : Nat) : Int) = ((x - 48 : Nat) : Int) := wrapN _ (by omega)
    have w2 : IntKind.u64.wrap ((u : Int).tdiv 10) = ((u / 10 : Nat) : Int) := wrapN (u / 10) (by omega)
    have w3 : IntKind.u64.wrap (((u / 10 : Nat) : Int) * ((x - 48 : Nat) : Int)) = ((u / 10 * (x - 48) : Nat) : Int) := by rw [← Int.natCast_mul]; exact wrapN _ (by omega)
    have w4 : IntKind.u64.wrap ((q : Int) + ((u / 10 * (x - 48) : Nat) : Int)) = ((q + u / 10 * (x - 48) : Nat) : Int) := by rw [← Int.natCast_add]; exact wrapN _ (by omega)
    have w6 : IntKind.i64.wrap ((p.length : Int) + 1) = ((p ++ [x]).length : Int) := by rw [wrap_small (by omega) (by omega)]; simp
    rw [par_round, bD_len, g1, cond_true, inB_eq _ _ (by omega), getB_eq _ _ (by omega), hget]
    simp only [w0, w1, w2, w3, w4, w6]
    exact hK
end Go.Proofs.YtlfdelobjbdimaaDoor

namespace Go.Proofs.YtlfdelobjbdimaaDoor
open Go.RowKit

/-! ### value -/
def valZ (M : Ops) (es fs : List (List D)) : List D := [.list false 5 es, .list false 5 fs, .undef, .undef, .obj 24 [.v (.bool false), .v (.int .u64 0), .v (.int .u64 0)], nilD, .obj 24 [.v (.bool false), .v (.int .u64 0), .v (.int .u64 0)], .obj 24 (cellsM M (M.int 10))] ++ List.replicate 8 .undef ++ [.agg (cellsM M (M.int 10)), .list false 5 es, .v (.int .i64 (es.length : Int)), .v (.int .i64 0)] ++ List.replicate 52 .undef
def min6 (fs : List (List D)) : Int := bif decide (6 < (fs.length : Int)) then 6 else (fs.length : Int)
set_option maxRecDepth 100000 in
theorem value_tree (M : Ops) (es fs gs : List (List D)) (a u p : Int) (K : D → Prop) : callX Tryd.prog (ctxL (valL M) [(59, 4, onceL [] (valS M es fs nilD 0 0) (valS M es fs nilD a es.length) (.exit 0)), (59, 16, onceL [46, 47, 48, 49] (parS M es fs a 1000000 0 gs 0) (parS M es fs a u p gs gs.length) (.exit 2))] 0) 2 59 [.list false 5 es, .list false 5 fs] K = (
    M.isInt 10 = true ∧ valZ M es fs = valS M es fs nilD 0 0 ∧ slB fs 0 (min6 fs) fun gs' => parS M es fs a 1000000 0 gs' 0 = parS M es fs a 1000000 0 gs 0 ∧ gz M a = true ∧ M.good false 0 p = true ∧ fitC M (M.add (vz M a) (M.val false 0 p)) K) := by kernel_rfl
set_option maxRecDepth 100000 in
theorem value_tree2 (M : Ops) (es fs : List (List D)) (a i : Int) (K : D → Prop) : callX Tryd.prog (ctxL (valL M) [(59, 4, onceL [] (valS M es fs nilD 0 0) (valS M es fs (errD 2) a i) .ret), (59, 16, fun _ _ => False)] 0) 2 59 [.list false 5 es, .list false 5 fs] K = (
    M.isInt 10 = true ∧ valZ M es fs = valS M es fs nilD 0 0 ∧ K (.tup [decZ, errD 2])) := by kernel_rfl
theorem valZ_eq (es fs : List (List D)) : valZ opsR es fs = valS opsR es fs nilD 0 0 := rfl
theorem parN_lt : ∀ (l : List Nat) (k p : Nat), allDg l → l.length ≤ k → parN l (10 ^ k) p < p + 10 ^ k
  | [], k, p, _, _ => by have := Nat.pow_pos (n := k) (show 0 < 10 by omega); unfold parN; omega
  | x :: l, 0, _, _, h => by simp at h
  | x :: l, k + 1, p, hd, h => by
    have hx := hd x (by simp)
    have e : 10 ^ (k + 1) / 10 = 10 ^ k := by rw [Nat.pow_succ, Nat.mul_div_cancel _ (by omega)]
    have h1 := parN_lt l k (p + 10 ^ k * (x - 48)) (fun y hy => hd y (by simp [hy])) (by simpa using h)
    unfold parN
    rw [e]
    have h2 : 10 ^ k * (x - 48) ≤ 10 ^ k * 9 := Nat.mul_le_mul_left _ (by omega)
    rw [Nat.pow_succ]
    omega
/-- The number of digits ahead of a point and behind it, in millionths. -/
def numV (w r : List Nat) : Nat := decN w 0 * 1000000 + parN (r.take 6) 1000000 0
theorem part_lt (r : List Nat) (h : allDg r) : parN (r.take 6) 1000000 0 < 1000000 := by
  have := parN_lt (r.take 6) 6 0 (fun x hx => h x (List.mem_of_mem_take hx)) (by rw [List.length_take]; omega)
  simpa using this
theorem good_part {p : Nat} (h : p < 1000000) : opsR.good false 0 (p : Int) = true ∧ opsR.val false 0 (p : Int) = (p : Int) := by
  have hm : magI 0 (p : Int) = p := by unfold magI; omega
  constructor
  · show goodI false 0 (p : Int) = true
    unfold goodI; rw [hm]; exact good_mk (by omega) (by simp)
  · show valI false 0 (p : Int) = p
    unfold valI; rw [hm]; rfl
theorem value_ps (w r : List Nat) (hw : allDg w) (hr : allDg r) (hlw : w.length < 1000000) (hlr : r.length < 1000000) (h : decN w 0 < 1000000000000000000000000000000) :
    PS Tryd.prog 59 [.list false 5 (bD w), .list false 5 (bD r)] (.tup [decM opsR ((numV w r : Nat) : Int), nilD]) := by
  have hp := part_lt r hr
  obtain ⟨g1, g2⟩ := good_part hp
  have hV := val_runs (bD r) w [] 0 hw (by simpa using hlw) (by omega)
  rcases hV with ⟨_, k, hk⟩ | ⟨h3, _⟩
  · obtain ⟨k2, u', hk2⟩ := par_runs opsR (bD w) (bD r) ((decN w 0 * 1000000 : Nat) : Int) (r.take 6) [] 1000000 0 (fun x hx => hr x (List.mem_of_mem_take hx)) (by simp; omega) (by omega) (by rw [List.length_take]; omega)
    simp only [List.nil_append, List.length_nil] at hk hk2
    refine callX_eq (n := 2) (ctxL_ok (l := valL opsR) (ll := [(59, 4, onceL [] (valS opsR (bD w) (bD r) nilD 0 0) (valS opsR (bD w) (bD r) nilD ((decN w 0 * 1000000 : Nat) : Int) (bD w).length) (.exit 0)),
      (59, 16, onceL [46, 47, 48, 49] (parS opsR (bD w) (bD r) ((decN w 0 * 1000000 : Nat) : Int) 1000000 0 (bD (r.take 6)) 0) (parS opsR (bD w) (bD r) ((decN w 0 * 1000000 : Nat) : Int) u' ((parN (r.take 6) 1000000 0 : Nat) : Int) (bD (r.take 6)) (bD (r.take 6)).length) (.exit 2))]) (fuel := 0) valL_ok ?_) ?_
    · intro x hx
      simp only [List.mem_cons, List.not_mem_nil, or_false] at hx
      rw [bD_len, bD_len] at hx
      rcases hx with rfl | rfl
      · exact LoopSound.mk (n := 0) Tryd.func59 rfl (by kernel_rfl) (by kernel_rfl) (RunsK.once valL_ok (by kernel_rfl) hk)
      · exact LoopSound.mk (n := 1) Tryd.func59 rfl (by kernel_rfl) (by kernel_rfl) (RunsK.once none_ok (by kernel_rfl) hk2)
    · rw [value_tree]
      have hm : min6 (bD r) = ((min 6 r.length : Nat) : Int) := by
        unfold min6
        rw [bD_len]
        by_cases hc : 6 < r.length
        · have : decide (6 < (r.length : Int)) = true := by rw [decide_eq_true_eq]; omega
          rw [this, cond_true]; omega
        · have : decide (6 < (r.length : Int)) = false := by rw [decide_eq_false_iff_not]; omega
          rw [this, cond_false]; omega
      have ht : (r.take (min 6 r.length)).drop 0 = r.take 6 := by
        rw [List.drop_zero]
        by_cases hc : 6 ≤ r.length
        · rw [Nat.min_eq_left hc]
        · rw [Nat.min_eq_right (by omega), List.take_of_length_le (by omega), List.take_of_length_le (by omega)]
      have hsl := fun (K : List (List D) → Prop) => slB_eq r 0 (min 6 r.length) (by omega) (by omega) K
      rw [hm]
      refine ⟨isInt_any (by omega) (by omega), valZ_eq _ _, ?_⟩
      rw [show (0 : Int) = ((0 : Nat) : Int) from rfl, hsl, ht]
      refine ⟨rfl, ?_, g1, ?_⟩
      · rw [gz_eq]; exact fit_nat h
      · have hf : opsR.fit ((numV w r : Nat) : Int) = true := by
          show fitB _ = true
          have h2 : ((numV w r : Nat) : Int).natAbs < 1000000000000000000000000000000000000 := by rw [Int.natAbs_natCast]; unfold numV; omega
          exact fit_mk h2
        have ha : opsR.add (vz opsR ((decN w 0 * 1000000 : Nat) : Int)) (opsR.val false 0 ((parN (r.take 6) 1000000 0 : Nat) : Int)) = ((numV w r : Nat) : Int) := by
          rw [vz_eq, g2]
          show ((decN w 0 * 1000000 : Nat) : Int) + ((parN (r.take 6) 1000000 0 : Nat) : Int) = _
          unfold numV; omega
        rw [show (((0 : Nat) : Int)) = 0 from rfl, ha]
        unfold fitC
        rw [hf]
        rfl
  · omega
theorem value_big (w r : List Nat) (hw : allDg w) (hlw : w.length < 1000000) (h : ¬ decN w 0 < 1000000000000000000000000000000) :
    PS Tryd.prog 59 [.list false 5 (bD w), .list false 5 (bD r)] (.tup [decZ, errD 2]) := by
  have hV := val_runs (bD r) w [] 0 hw (by simpa using hlw) (by omega)
  rcases hV with ⟨h3, _⟩ | ⟨_, k, a, i, hk⟩
  · omega
  · simp only [List.nil_append, List.length_nil] at hk
    refine callX_eq (n := 2) (ctxL_ok (l := valL opsR) (ll := [(59, 4, onceL [] (valS opsR (bD w) (bD r) nilD 0 0) (valS opsR (bD w) (bD r) (errD 2) a i) .ret), (59, 16, fun _ _ => False)]) (fuel := 0) valL_ok ?_) ?_
    · intro x hx
      simp only [List.mem_cons, List.not_mem_nil, or_false] at hx
      rcases hx with rfl | rfl
      · exact LoopSound.mk (n := 0) Tryd.func59 rfl (by kernel_rfl) (by kernel_rfl) (RunsK.once valL_ok (by kernel_rfl) hk)
      · exact LoopSound.mk (n := 1) Tryd.func59 rfl (by kernel_rfl) (by kernel_rfl) (fun _ _ h => h.elim)
    · rw [value_tree2]
      exact ⟨isInt_any (by omega) (by omega), valZ_eq _ _, rfl⟩
end Go.Proofs.YtlfdelobjbdimaaDoor

namespace Go.Proofs.YtlfdelobjbdimaaDoor
open Go.RowKit

/-- What numeral's functions come to, by bytes; as a variable, so that a run leaves it. -/
structure Nrl where
  ok : List (List D) → Prop
  okd : List (List D) → Prop
  big : List (List D) → Bool
  num : List (List D) → List (List D) → Int
  ng : List (List D) → Bool
  wh : List (List D) → List (List D)
  rs : List (List D) → List (List D)
  n : List (List D) → Int
  pbig : List (List D) → Bool
  pval : List (List D) → Int
  looks : List (List D) → Bool
/-- Are they bytes? -/
def byteL (l : List Nat) : Prop := ∀ x ∈ l, x < 256
def bigN (w : List Nat) : Bool := decide (1000000000000000000000000000000 ≤ decN w 0)
def pBig (l : List Nat) : Bool := !(scN l == 0) && bigN (scW l)
def pVal (l : List Nat) : Int := bif scN l == 0 then 0 else bif scNeg l then -((numV (scW l) (scR l) : Nat) : Int) else ((numV (scW l) (scR l) : Nat) : Int)
def looksN (l : List Nat) : Bool := decide (0 < scN l) && (scN l + lead isBl (l.drop (scN l)) == l.length)
def nrlR : Nrl where
  ok es := ∃ l, es = bD l ∧ byteL l ∧ l.length < 1000000
  okd es := ∃ l, es = bD l ∧ allDg l ∧ l.length < 1000000
  big es := bigN (bytesN es)
  num es fs := ((numV (bytesN es) (bytesN fs) : Nat) : Int)
  ng es := scNeg (bytesN es)
  wh es := bD (scW (bytesN es))
  rs es := bD (scR (bytesN es))
  n es := ((scN (bytesN es) : Nat) : Int)
  pbig es := pBig (bytesN es)
  pval es := pVal (bytesN es)
  looks es := looksN (bytesN es)
theorem nrl_big (l : List Nat) : nrlR.big (bD l) = bigN l := by show bigN (bytesN (bD l)) = _; rw [bytesN_bD]
theorem nrl_num (l r : List Nat) : nrlR.num (bD l) (bD r) = ((numV l r : Nat) : Int) := by show ((numV (bytesN (bD l)) (bytesN (bD r)) : Nat) : Int) = _; rw [bytesN_bD, bytesN_bD]
theorem nrl_ng (l : List Nat) : nrlR.ng (bD l) = scNeg l := by show scNeg (bytesN (bD l)) = _; rw [bytesN_bD]
theorem nrl_wh (l : List Nat) : nrlR.wh (bD l) = bD (scW l) := by show bD (scW (bytesN (bD l))) = _; rw [bytesN_bD]
theorem nrl_rs (l : List Nat) : nrlR.rs (bD l) = bD (scR l) := by show bD (scR (bytesN (bD l))) = _; rw [bytesN_bD]
theorem nrl_n (l : List Nat) : nrlR.n (bD l) = ((scN l : Nat) : Int) := by show ((scN (bytesN (bD l)) : Nat) : Int) = _; rw [bytesN_bD]
theorem nrl_pbig (l : List Nat) : nrlR.pbig (bD l) = pBig l := by show pBig (bytesN (bD l)) = _; rw [bytesN_bD]
theorem nrl_pval (l : List Nat) : nrlR.pval (bD l) = pVal l := by show pVal (bytesN (bD l)) = _; rw [bytesN_bD]
theorem nrl_looks (l : List Nat) : nrlR.looks (bD l) = looksN l := by show looksN (bytesN (bD l)) = _; rw [bytesN_bD]

def valueC (M : Ops) (V : Nrl) : Orc := fun _ ds K => match ds with
  | [.list false T es, .list false T' fs] => T = 5 ∧ T' = 5 ∧ V.okd es ∧ V.okd fs ∧ bif V.big es then K (.tup [decZ, errD 2]) else K (.tup [decM M (V.num es fs), nilD])
  | _ => False
def scanC (V : Nrl) : Orc := fun _ ds K => match ds with
  | [.list false T es] => T = 5 ∧ V.ok es ∧ K (.tup [.v (.bool (V.ng es)), .list false 5 (V.wh es), .list false 5 (V.rs es), .v (.int .i64 (V.n es))])
  | _ => False
def prefixC (M : Ops) (V : Nrl) : Orc := fun _ ds K => match ds with
  | [.list false T es] => T = 5 ∧ V.ok es ∧ bif V.pbig es then K (.tup [decZ, .v (.int .i64 (V.n es)), errD 2]) else K (.tup [decM M (V.pval es), .v (.int .i64 (V.n es)), nilD])
  | _ => False
def looksC (V : Nrl) : Orc := fun _ ds K => match ds with
  | [.list false T es] => T = 5 ∧ V.ok es ∧ K (.v (.bool (V.looks es)))
  | _ => False
theorem scanC_ok : Sound 44 (scanC nrlR) := by
  intro ds K hK
  unfold scanC at hK
  split at hK
  · obtain ⟨rfl, ⟨l, rfl, hB, hl⟩, hK⟩ := hK
    refine ⟨_, hK, fun K' h => ⟨rfl, ⟨l, rfl, hB, hl⟩, h⟩, ?_⟩
    rw [nrl_ng, nrl_wh, nrl_rs, nrl_n]
    exact scan_ps l hl
  · exact hK.elim
theorem bigN_not {w : List Nat} (h : bigN w = false) : decN w 0 < 1000000000000000000000000000000 := by
  unfold bigN at h; rw [decide_eq_false_iff_not] at h; omega
theorem bigN_yes {w : List Nat} (h : bigN w = true) : ¬ decN w 0 < 1000000000000000000000000000000 := by
  unfold bigN at h; rw [decide_eq_true_eq] at h; omega
theorem valueC_ok : Sound 59 (valueC opsR nrlR) := by
  intro ds K hK
  unfold valueC at hK
  split at hK
  · obtain ⟨rfl, rfl, ⟨w, rfl, hw, hlw⟩, ⟨r, rfl, hr, hlr⟩, hK⟩ := hK
    rw [nrl_big] at hK
    cases hb : bigN w with
    | true =>
      rw [hb] at hK
      refine ⟨_, hK, fun K' h => ⟨rfl, rfl, ⟨w, rfl, hw, hlw⟩, ⟨r, rfl, hr, hlr⟩, ?_⟩, value_big w r hw hlw (bigN_yes hb)⟩
      rw [nrl_big, hb]; exact h
    | false =>
      rw [hb, nrl_num] at hK
      refine ⟨_, hK, fun K' h => ⟨rfl, rfl, ⟨w, rfl, hw, hlw⟩, ⟨r, rfl, hr, hlr⟩, ?_⟩, value_ps w r hw hr hlw hlr (bigN_not hb)⟩
      rw [nrl_big, nrl_num, hb]; exact h
  · exact hK.elim

/-! ### Prefix, Looks -/
theorem lead_all (p : Nat → Bool) : ∀ (l : List Nat) (x : Nat), x ∈ l.take (lead p l) → p x = true
  | [], x, h => by simp at h
  | y :: l, x, h => by
    rw [lead_cons] at h
    cases hp : p y with
    | true =>
      rw [hp] at h
      rw [cond_true, List.take_succ_cons] at h
      rcases List.mem_cons.1 h with rfl | h
      · exact hp
      · exact lead_all p l x h
    | false => rw [hp] at h; simp at h
theorem dg_small : ∀ x : Fin 256, amongB digitsS x.1 = decide (48 ≤ x.1 ∧ x.1 ≤ 57) := by decide +kernel
theorem bl_small : ∀ x : Fin 256, amongB blanksS x.1 = decide (x.1 = 32 ∨ (9 ≤ x.1 ∧ x.1 ≤ 13)) := by decide +kernel
theorem dg_eq {x : Nat} (h : x < 256) : isDg x = decide (48 ≤ x ∧ x ≤ 57) := dg_small ⟨x, h⟩
theorem bl_eq {x : Nat} (h : x < 256) : isBl x = decide (x = 32 ∨ (9 ≤ x ∧ x ≤ 13)) := bl_small ⟨x, h⟩
theorem scW_dg {l : List Nat} (h : byteL l) : allDg (scW l) := by
  intro x hx
  have h1 := lead_all isDg _ x hx
  have h2 : x < 256 := h x (List.mem_of_mem_drop (List.mem_of_mem_take hx))
  rw [dg_eq h2] at h1
  exact of_decide_eq_true h1
theorem scR_dg {l : List Nat} (h : byteL l) : allDg (scR l) := by
  intro x hx
  unfold scR at hx
  cases hd : scDot l with
  | true =>
    rw [hd] at hx
    have h1 := lead_all isDg _ x hx
    have h2 : x < 256 := h x (List.mem_of_mem_drop (List.mem_of_mem_take hx))
    rw [dg_eq h2] at h1
    exact of_decide_eq_true h1
  | false => rw [hd] at hx; cases hx
theorem scW_le (l : List Nat) : (scW l).length ≤ l.length := by unfold scW; rw [List.length_take, List.length_drop]; omega
theorem scR_le (l : List Nat) : (scR l).length ≤ l.length := by
  unfold scR
  cases scDot l
  · simp
  · rw [cond_true, List.length_take, List.length_drop]; omega
theorem scN_le (l : List Nat) : scN l ≤ l.length := by
  have hP := scP_le l
  unfold scN
  cases hd : scDot l with
  | true =>
    unfold scDot at hd
    simp only [Bool.and_eq_true, decide_eq_true_eq] at hd
    exact scK_le l hd.1
  | false =>
    rw [cond_false]
    cases (scW l).length == 0
    · exact hP
    · exact Nat.zero_le _
def preL (M : Ops) (V : Nrl) : List (Nat × Orc) := [(44, scanC V), (59, valueC M V), (29, negT M)]
theorem preL_ok : ∀ x ∈ preL opsR nrlR, Sound x.1 x.2 := by
  intro x hx
  simp only [preL, List.mem_cons, List.not_mem_nil, or_false] at hx
  rcases hx with rfl | rfl | rfl
  · exact scanC_ok
  · exact valueC_ok
  · exact soundT negC_ok fun _ _ h => negT_to h
set_option maxRecDepth 100000 in
theorem prefix_tree (M : Ops) (V : Nrl) (es : List (List D)) (K : D → Prop) : callX Tryd.prog (ctxL (preL M V) [] 0) 2 42 [.list false 5 es] K = (
    5 = 5 ∧ V.ok es ∧ bif V.n es == 0 then K (.tup [decZ, .v (.int .i64 0), nilD]) else
      5 = 5 ∧ 5 = 5 ∧ V.okd (V.wh es) ∧ V.okd (V.rs es) ∧ bif V.big (V.wh es) then K (.tup [decZ, .v (.int .i64 (V.n es)), errD 2]) else
        bif V.ng es then gz M (V.num (V.wh es) (V.rs es)) = true ∧ K (.tup [decM M (M.neg (vz M (V.num (V.wh es) (V.rs es)))), .v (.int .i64 (V.n es)), nilD])
        else K (.tup [decM M (V.num (V.wh es) (V.rs es)), .v (.int .i64 (V.n es)), nilD])) := by kernel_rfl
set_option maxRecDepth 100000 in
theorem looks_tree (B : Bys) (V : Nrl) (es : List (List D)) (K : D → Prop) : callX Tryd.prog (ctxL [(44, scanC V), (45, runC B)] [] 0) 2 24 [.list false 5 es] K = (
    5 = 5 ∧ V.ok es ∧ bif decide (V.n es > 0) then slB es (V.n es) es.length fun r => rnB B blanksS r fun k => K (.v (.bool (bif true then IntKind.i64.wrap (V.n es + k) == es.length else false)))
      else K (.v (.bool false))) := by kernel_rfl
theorem dec_zero : decM opsR 0 = decZ := rfl
theorem prefix_ps (l : List Nat) (hB : byteL l) (hl : l.length < 1000000) : PS Tryd.prog 42 [.list false 5 (bD l)]
    (bif pBig l then .tup [decZ, .v (.int .i64 ((scN l : Nat) : Int)), errD 2] else .tup [decM opsR (pVal l), .v (.int .i64 ((scN l : Nat) : Int)), nilD]) := by
  refine callX_eq (n := 2) (C := ctxL (preL opsR nrlR) [] 0) (ctx0_ok preL_ok) ?_
  rw [prefix_tree, nrl_n, nrl_wh, nrl_rs, nrl_big, nrl_ng, nrl_num]
  refine ⟨rfl, ⟨l, rfl, hB, hl⟩, ?_⟩
  have e0 : (((scN l : Nat) : Int) == 0) = (scN l == 0) := by rw [Bool.eq_iff_iff, beq_iff_eq, beq_iff_eq]; omega
  rw [e0]
  cases h0 : scN l == 0 with
  | true =>
    have hb : pBig l = false := by unfold pBig; rw [h0]; rfl
    have hv : pVal l = 0 := by unfold pVal; rw [h0]; rfl
    have hn : scN l = 0 := by simpa using h0
    rw [hb, hv, hn]
    exact congrArg (fun d => D.tup [d, .v (.int .i64 0), nilD]) dec_zero.symm
  | false =>
    have hW := scW_le l
    have hR := scR_le l
    refine ⟨rfl, rfl, ⟨_, rfl, scW_dg hB, by omega⟩, ⟨_, rfl, scR_dg hB, by omega⟩, ?_⟩
    cases hb0 : bigN (scW l) with
    | true =>
      have hb : pBig l = true := by unfold pBig; rw [h0, hb0]; rfl
      rw [hb]; rfl
    | false =>
      have hb : pBig l = false := by unfold pBig; rw [h0, hb0]; rfl
      have hlt := bigN_not hb0
      have hp := part_lt (scR l) (scR_dg hB)
      have hf : opsR.fit ((numV (scW l) (scR l) : Nat) : Int) = true := by
        show fitB _ = true
        have h2 : ((numV (scW l) (scR l) : Nat) : Int).natAbs < 1000000000000000000000000000000000000 := by rw [Int.natAbs_natCast]; unfold numV; omega
        exact fit_mk h2
      rw [hb]
      cases hg : scNeg l with
      | true =>
        have hv : pVal l = -((numV (scW l) (scR l) : Nat) : Int) := by unfold pVal; rw [h0, hg]; rfl
        rw [hv, vz_eq, gz_eq, ops_neg]
        exact ⟨hf, rfl⟩
      | false =>
        have hv : pVal l = ((numV (scW l) (scR l) : Nat) : Int) := by unfold pVal; rw [h0, hg]; rfl
        rw [hv]
        rfl
theorem prefixC_ok : Sound 42 (prefixC opsR nrlR) := by
  intro ds K hK
  unfold prefixC at hK
  split at hK
  · obtain ⟨rfl, ⟨l, rfl, hB, hl⟩, hK⟩ := hK
    have h := prefix_ps l hB hl
    rw [nrl_pbig] at hK
    cases hb : pBig l with
    | true =>
      rw [hb] at hK h
      rw [nrl_n] at hK
      refine ⟨_, hK, fun K' h => ⟨rfl, ⟨l, rfl, hB, hl⟩, ?_⟩, h⟩
      rw [nrl_pbig, nrl_n, hb]; exact h
    | false =>
      rw [hb] at hK h
      rw [nrl_n, nrl_pval] at hK
      refine ⟨_, hK, fun K' h => ⟨rfl, ⟨l, rfl, hB, hl⟩, ?_⟩, h⟩
      rw [nrl_pbig, nrl_n, nrl_pval, hb]; exact h
  · exact hK.elim
theorem looks_ps (l : List Nat) (hB : byteL l) (hl : l.length < 1000000) : PS Tryd.prog 24 [.list false 5 (bD l)] (.v (.bool (looksN l))) := by
  refine callX_eq (n := 2) (C := ctxL [(44, scanC nrlR), (45, runC bysR)] [] 0) (ctx0_ok (by
    intro x hx
    simp only [List.mem_cons, List.not_mem_nil, or_false] at hx
    rcases hx with rfl | rfl
    · exact scanC_ok
    · exact runC_ok)) ?_
  rw [looks_tree, nrl_n]
  refine ⟨rfl, ⟨l, rfl, hB, hl⟩, ?_⟩
  have hN := scN_le l
  unfold looksN
  by_cases h0 : 0 < scN l
  · have e0 : decide (((scN l : Nat) : Int) > 0) = true := by rw [decide_eq_true_eq]; omega
    have hd := lead_le isBl (l.drop (scN l))
    rw [List.length_drop] at hd
    have w1 : IntKind.i64.wrap (((scN l : Nat) : Int) + ((lead (amongB blanksS) (l.drop (scN l)) : Nat) : Int)) = ((scN l + lead isBl (l.drop (scN l)) : Nat) : Int) := wrap_nat (n := scN l + lead isBl (l.drop (scN l))) (by omega)
    have e1 : (((scN l + lead isBl (l.drop (scN l)) : Nat) : Int) == (l.length : Int)) = (scN l + lead isBl (l.drop (scN l)) == l.length) := by rw [Bool.eq_iff_iff, beq_iff_eq, beq_iff_eq]; omega
    rw [e0, cond_true, slB_end l _ hN, rnB_eq _ _ (by rw [List.length_drop]; omega), w1, bD_len, e1, decide_eq_true h0]
    rfl
  · have e0 : decide (((scN l : Nat) : Int) > 0) = false := by rw [decide_eq_false_iff_not]; omega
    rw [e0, decide_eq_false h0]
    rfl
theorem looksC_ok : Sound 24 (looksC nrlR) := by
  intro ds K hK
  unfold looksC at hK
  split at hK
  · obtain ⟨rfl, ⟨l, rfl, hB, hl⟩, hK⟩ := hK
    refine ⟨_, hK, fun K' h => ⟨rfl, ⟨l, rfl, hB, hl⟩, h⟩, ?_⟩
    rw [nrl_looks]
    exact looks_ps l hB hl
  · exact hK.elim
end Go.Proofs.YtlfdelobjbdimaaDoor
