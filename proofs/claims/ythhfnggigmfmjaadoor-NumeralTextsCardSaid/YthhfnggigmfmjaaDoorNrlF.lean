/-
  Contracts of dec.Mod, dec.Div; the law's awake. The law's awake; Prefix by its parts; Blank. An argument that is a slice of bytes, opened and shut. The law NumeralLooks: its walk and the plain law.
-/
import Derived.Test.YthhfnggigmfmjaaDoorNrlA
import Derived.ProofKit
import Derived.OpenShut
import Derived.Lib.SmallJoins
set_option linter.unusedSimpArgs false
set_option linter.unusedVariables false
namespace Go.Proofs.YthhfnggigmfmjaaDoor
set_option linter.unusedSimpArgs false
set_option linter.unusedVariables false
open Go.RowKit

structure Quo where
  md : Int → Int → Int
  dv : Int → Int → Int
  nz : Int → Bool
def quoR : Quo where
  md z z' := z.tmod z'
  dv z z' := (z * 1000000).tdiv z'
  nz z := !(z == 0)
def modT (M : Ops) (Q : Quo) : Orc := fun _ ds K => match two? ds with
  | some (s, x, y, s', x', y') => M.good s x y = true ∧ M.good s' x' y' = true ∧ Q.nz (M.val s' x' y') = true ∧ K (.tup [decM M (Q.md (M.val s x y) (M.val s' x' y')), nilD])
  | none => False
def divT (M : Ops) (Q : Quo) : Orc := fun _ ds K => match two? ds with
  | some (s, x, y, s', x', y') => M.good s x y = true ∧ M.good s' x' y' = true ∧ Q.nz (M.val s' x' y') = true ∧ M.fit (Q.dv (M.val s x y) (M.val s' x' y')) = true ∧ K (.tup [decM M (Q.dv (M.val s x y) (M.val s' x' y')), nilD])
  | none => False
theorem mod_val (s s' : Bool) (m m' : Nat) : val (s && decide (m % m' ≠ 0)) (m % m') = (val s m).tmod (val s' m') := by
  rw [val_mk]
  have key : (m : Int).tmod (m' : Int) = ((m % m' : Nat) : Int) := rfl
  generalize m % m' = r at *
  unfold val
  cases s <;> cases s' <;> simp [Int.neg_tmod, Int.tmod_neg, key]
theorem div_val (s s' : Bool) (m m' : Nat) : val ((s != s') && decide (m * 1000000 / m' ≠ 0)) (m * 1000000 / m') = (val s m * 1000000).tdiv (val s' m') := by
  rw [val_mk]
  have key : ((m : Int) * 1000000).tdiv (m' : Int) = ((m * 1000000 / m' : Nat) : Int) := by
    rw [show (m : Int) * 1000000 = ((m * 1000000 : Nat) : Int) by omega]
    rfl
  generalize m * 1000000 / m' = r at *
  unfold val
  cases s <;> cases s' <;> simp [Int.neg_mul, Int.neg_tdiv, Int.tdiv_neg, key]
theorem nz_val {s : Bool} {m : Nat} (h : quoR.nz (val s m) = true) : m ≠ 0 := by
  intro e; subst e
  unfold val at h
  cases s <;> exact absurd h (by decide)
theorem modT_ok : Sound 26 (modT opsR quoR) := by
  refine sound2 (m := fun s x y s' x' y' K => goodI s x y = true ∧ goodI s' x' y' = true ∧ quoR.nz (valI s' x' y') = true ∧ K (.tup [decM opsR (quoR.md (valI s x y) (valI s' x' y')), nilD])) (fun _ _ => rfl) fun s x y s' x' y' K ⟨g, g', hz, hK⟩ =>
    ⟨_, hK, fun K' h => ⟨g, g', hz, h⟩, ps_two Tryd.func26 (by kernel_rfl) rfl fun m m' hm hm' => ?_⟩
  rw [valI_val] at hz ⊢
  rw [valI_val]
  unfold goodI at g g'; rw [← hm] at g; rw [← hm'] at g'
  rw [← hm'] at hz ⊢
  rw [← hm]
  have h0 := nz_val hz
  have e : quoR.md (val s m) (val s' m') = val (s && decide (m % m' ≠ 0)) (m % m') := (mod_val s s' m m').symm
  rw [e]
  have hlt : m % m' < 1000000000000000000000000000000000000 := Nat.lt_of_le_of_lt (Nat.mod_le _ _) (good_lt g)
  obtain ⟨f1, f2, f3⟩ := val_facts (good_mk hlt (fun hh => by simp only [Bool.and_eq_true, decide_eq_true_eq] at hh; exact hh.2)) (rfl : val (s && decide (m % m' ≠ 0)) _ = _)
  exact ⟨_, fun w => mod_ok s m s' m' w g g' h0 _ rfl, fun role w => rd_two (rd_decV _ _ _ f1 f2 f3) (rd_nil _ _ _)⟩
theorem divT_ok : Sound 27 (divT opsR quoR) := by
  refine sound2 (m := fun s x y s' x' y' K => goodI s x y = true ∧ goodI s' x' y' = true ∧ quoR.nz (valI s' x' y') = true ∧ fitB (quoR.dv (valI s x y) (valI s' x' y')) = true ∧ K (.tup [decM opsR (quoR.dv (valI s x y) (valI s' x' y')), nilD])) (fun _ _ => rfl) fun s x y s' x' y' K ⟨g, g', hz, hf, hK⟩ =>
    ⟨_, hK, fun K' h => ⟨g, g', hz, hf, h⟩, ps_two Tryd.func27 (by kernel_rfl) rfl fun m m' hm hm' => ?_⟩
  rw [valI_val] at hz hf ⊢
  rw [valI_val] at hf ⊢
  unfold goodI at g g'; rw [← hm] at g; rw [← hm'] at g'
  rw [← hm'] at hz hf ⊢
  rw [← hm] at hf ⊢
  have h0 := nz_val hz
  have e : quoR.dv (val s m) (val s' m') = val ((s != s') && decide (m * 1000000 / m' ≠ 0)) (m * 1000000 / m') := (div_val s s' m m').symm
  rw [e] at hf ⊢
  have hl := fit_lt hf
  rw [val_mk] at hl
  have hl2 : m * 1000000 / m' < 1000000000000000000000000000000000000 := by split at hl <;> omega
  obtain ⟨f1, f2, f3⟩ := val_facts (good_mk hl2 (fun hh => by simp only [Bool.and_eq_true, decide_eq_true_eq] at hh; exact hh.2)) (rfl : val ((s != s') && decide (m * 1000000 / m' ≠ 0)) _ = _)
  exact ⟨_, fun w => div_ok s m s' m' w g g' h0 hl2 _ rfl, fun role w => rd_two (rd_decV _ _ _ f1 f2 f3) (rd_nil _ _ _)⟩

def modB (M : Ops) (Q : Quo) : Orc := fun _ ds K => match two? ds with
  | some (s, x, y, s', x', y') => bif M.good s x y && M.good s' x' y' && Q.nz (M.val s' x' y') then K (.tup [decM M (Q.md (M.val s x y) (M.val s' x' y')), nilD]) else False
  | none => False
def divB (M : Ops) (Q : Quo) : Orc := fun _ ds K => match two? ds with
  | some (s, x, y, s', x', y') => bif M.good s x y && M.good s' x' y' && Q.nz (M.val s' x' y') && M.fit (Q.dv (M.val s x y) (M.val s' x' y')) then K (.tup [decM M (Q.dv (M.val s x y) (M.val s' x' y')), nilD]) else False
  | none => False
theorem modB_to {M : Ops} {Q : Quo} {f : Nat} {ds : List D} {K : D → Prop} (h : modB M Q f ds K) : modT M Q f ds K ∧ ∀ K' : D → Prop, modT M Q f ds K' → modB M Q f ds K' := by
  revert h; unfold modT modB; generalize two? ds = r; intro h
  match r, h with
  | none, h => exact h.elim
  | some (s, x, y, s', x', y'), h =>
    cases hc : M.good s x y && M.good s' x' y' && Q.nz (M.val s' x' y') with
    | false => simp only [hc, cond_false] at h
    | true =>
      simp only [hc, cond_true] at h ⊢
      simp only [Bool.and_eq_true] at hc
      exact ⟨⟨hc.1.1, hc.1.2, hc.2, h⟩, fun K' hK => hK.2.2.2⟩
theorem divB_to {M : Ops} {Q : Quo} {f : Nat} {ds : List D} {K : D → Prop} (h : divB M Q f ds K) : divT M Q f ds K ∧ ∀ K' : D → Prop, divT M Q f ds K' → divB M Q f ds K' := by
  revert h; unfold divT divB; generalize two? ds = r; intro h
  match r, h with
  | none, h => exact h.elim
  | some (s, x, y, s', x', y'), h =>
    cases hc : M.good s x y && M.good s' x' y' && Q.nz (M.val s' x' y') && M.fit (Q.dv (M.val s x y) (M.val s' x' y')) with
    | false => simp only [hc, cond_false] at h
    | true =>
      simp only [hc, cond_true] at h ⊢
      simp only [Bool.and_eq_true] at hc
      exact ⟨⟨hc.1.1.1, hc.1.1.2, hc.1.2, hc.2, h⟩, fun K' hK => hK.2.2.2.2⟩
theorem intB_to {M : Ops} {f : Nat} {ds : List D} {K : D → Prop} (h : intC M f ds K) : intT M f ds K ∧ ∀ K' : D → Prop, intT M f ds K' → intC M f ds K' := by
  unfold intC at h
  split at h
  · rename_i n
    cases hc : M.isInt n with
    | false => rw [hc] at h; exact h.elim
    | true =>
      rw [hc] at h
      refine ⟨⟨hc, h⟩, fun K' hK => ?_⟩
      show (bif M.isInt n then _ else False)
      rw [hc]; exact hK.2
  · exact h.elim

/-! ### Text of a half -/
def textB : List (Nat × Orc) := [(12, goodC opsR), (23, negC opsR), (24, truncC opsR), (25, subC opsR), (16, intC opsR), (26, modB opsR quoR), (17, wholeC opsR whR mqR), (27, divB opsR quoR)]
theorem textB_ok : ∀ x ∈ textB, Sound x.1 x.2 := by
  intro x hx
  simp only [textB, List.mem_cons, List.not_mem_nil, or_false] at hx
  rcases hx with rfl | rfl | rfl | rfl | rfl | rfl | rfl | rfl
  · exact goodC_ok
  · exact negC_ok
  · exact truncC_ok
  · exact subC_ok
  · exact soundT intT_ok fun _ _ h => intB_to h
  · exact soundT modT_ok fun _ _ h => modB_to h
  · exact wholeC_ok
  · exact soundT divT_ok fun _ _ h => divB_to h
set_option maxRecDepth 100000 in
theorem half_tree (K : D → Prop) : callX Tryd.prog (ctxL textB [] 9) 4 10 [.agg [.v (.bool false), .v (.int .u64 0), .v (.int .u64 500000)]] K = K (.v (.string ⟨#[48, 46, 53]⟩)) := by kernel_rfl
theorem half_ps : PS Tryd.prog 10 [.agg [.v (.bool false), .v (.int .u64 0), .v (.int .u64 500000)]] (.v (.string ⟨#[48, 46, 53]⟩)) := by
  refine callX_eq (n := 4) (C := ctxL textB [] 9) (ctxL_ok textB_ok (by intro x hx; cases hx)) ?_
  rw [half_tree]
end Go.Proofs.YthhfnggigmfmjaaDoor

namespace Go.Proofs.YthhfnggigmfmjaaDoor
open Go.RowKit

/-! ### awake -/
def halfC : Orc := fun _ ds K => match ds with
  | [.agg [.v (.bool false), .v (.int .u64 (.ofNat 0)), .v (.int .u64 n)]] => n = 500000 ∧ K (.v (.string ⟨#[48, 46, 53]⟩))
  | _ => False
theorem halfC_ok : Sound 10 halfC := by
  intro ds K hK
  unfold halfC at hK
  split at hK
  · obtain ⟨rfl, hK⟩ := hK
    exact ⟨_, hK, fun K' h => ⟨rfl, h⟩, half_ps⟩
  · exact hK.elim
def awL : List (Nat × Orc) := [(13, prefixC opsR nrlR), (14, looksC nrlR), (10, halfC)]
theorem awL_ok : ∀ x ∈ awL, Sound x.1 x.2 := by
  intro x hx
  simp only [awL, List.mem_cons, List.not_mem_nil, or_false] at hx
  rcases hx with rfl | rfl | rfl
  · exact prefixC_ok
  · exact looksC_ok
  · exact halfC_ok
set_option maxRecDepth 100000 in
theorem aw_tree (K : D → Prop) : callX Tryd.prog (ctxL awL [] 0) 2 9 [] K = (
    5 = 5 ∧ nrlR.ok (bD [32, 45, 49, 50, 46, 53, 48, 120]) ∧ (500000 : Int) = 500000 ∧ 5 = 5 ∧ nrlR.ok (bD [32, 51, 32]) ∧ 5 = 5 ∧ nrlR.ok (bD [51, 120]) ∧ K (.v (.bool true))) := by kernel_rfl
theorem ok_of (l : List Nat) (h : (l.all fun x => decide (x < 256)) = true) (h' : l.length < 1000000) : nrlR.ok (bD l) :=
  ⟨l, rfl, fun x hx => by have := List.all_eq_true.1 h x hx; simpa using this, h'⟩
theorem aw_ps : PS Tryd.prog 9 [] (.v (.bool true)) := by
  refine callX_eq (n := 2) (C := ctxL awL [] 0) (ctxL_ok awL_ok (by intro x hx; cases hx)) ?_
  rw [aw_tree]
  exact ⟨rfl, ok_of _ rfl (by decide), rfl, rfl, ok_of _ rfl (by decide), rfl, ok_of _ rfl (by decide), rfl⟩
def awakeN : Orc := fun _ ds K => match ds with
  | [] => K (.v (.bool true))
  | _ => False
theorem awakeN_ok : Sound 9 awakeN := by
  intro ds K hK
  unfold awakeN at hK
  split at hK
  · exact ⟨_, hK, fun K' h => h, aw_ps⟩
  · exact hK.elim

/-! ### Prefix, whatever number it is -/
structure Pre where
  sg : List (List D) → Bool
  hi : List (List D) → Int
  lo : List (List D) → Int
  er : List (List D) → D
def preR : Pre where
  sg es := bif pBig (bytesN es) then false else opsR.sg (pVal (bytesN es))
  hi es := bif pBig (bytesN es) then 0 else opsR.hi (pVal (bytesN es))
  lo es := bif pBig (bytesN es) then 0 else opsR.lo (pVal (bytesN es))
  er es := bif pBig (bytesN es) then errD 2 else nilD
def preCells (R : Pre) (es : List (List D)) : List D := [.v (.bool (R.sg es)), .v (.int .u64 (R.hi es)), .v (.int .u64 (R.lo es))]
def prefixE (V : Nrl) (R : Pre) : Orc := fun _ ds K => match ds with
  | [.list false T es] => T = 5 ∧ V.ok es ∧ K (.tup [.agg (preCells R es), .v (.int .i64 (V.n es)), R.er es])
  | _ => False
theorem prefixE_ok : Sound 13 (prefixE nrlR preR) := by
  intro ds K hK
  unfold prefixE at hK
  split at hK
  · obtain ⟨rfl, ⟨l, rfl, hB, hl⟩, hK⟩ := hK
    have h := prefix_ps l hB hl
    refine ⟨_, hK, fun K' h => ⟨rfl, ⟨l, rfl, hB, hl⟩, h⟩, ?_⟩
    have e : D.tup [.agg (preCells preR (bD l)), .v (.int .i64 (nrlR.n (bD l))), preR.er (bD l)] = bif pBig l then .tup [decZ, .v (.int .i64 ((scN l : Nat) : Int)), errD 2] else .tup [decM opsR (pVal l), .v (.int .i64 ((scN l : Nat) : Int)), nilD] := by
      unfold preCells
      have e1 : preR.sg (bD l) = bif pBig l then false else opsR.sg (pVal l) := by show (bif pBig (bytesN (bD l)) then _ else _) = _; rw [bytesN_bD]
      have e2 : preR.hi (bD l) = bif pBig l then 0 else opsR.hi (pVal l) := by show (bif pBig (bytesN (bD l)) then _ else _) = _; rw [bytesN_bD]
      have e3 : preR.lo (bD l) = bif pBig l then 0 else opsR.lo (pVal l) := by show (bif pBig (bytesN (bD l)) then _ else _) = _; rw [bytesN_bD]
      have e4 : preR.er (bD l) = bif pBig l then errD 2 else nilD := by show (bif pBig (bytesN (bD l)) then _ else _) = _; rw [bytesN_bD]
      rw [e1, e2, e3, e4, nrl_n]
      cases pBig l <;> rfl
    rw [e]; exact h
  · exact hK.elim

/-! ### Blank -/
def blankI (c : Int) : Bool := c == 32 || (decide (c ≥ 9) && decide (c ≤ 13))
def blankC (bl : Int → Bool) : Orc := fun _ ds K => match ds with
  | [.v (.int .u8 c)] => K (.v (.bool (bl c)))
  | _ => False
set_option maxRecDepth 100000 in
theorem blank_tree (c : Int) (K : D → Prop) : callX Tryd.prog (ctxL [] [] 0) 2 15 [.v (.int .u8 c)] K = (
    bif c == 32 then K (.v (.bool (bif true then true else false))) else bif decide (c ≥ 9) then K (.v (.bool (bif false then true else bif true then decide (c ≤ 13) else false))) else K (.v (.bool (bif false then true else false)))) := by kernel_rfl
end Go.Proofs.YthhfnggigmfmjaaDoor

namespace Go.Proofs.YthhfnggigmfmjaaDoor
open Go.ChangeShapes Go.WideShapes Go.ChangeAt Go.RowKit Go.Joins

theorem wf_byte {n : Int} (h : (Lit.int .u8 n).wf = true) : 0 ≤ n ∧ n < 256 := by
  simp [Lit.wf, IntKind.min, IntKind.max, IntKind.signed, IntKind.bits] at h; omega
theorem cells_byte : Tryd.prog.cellsOf 5 = 1 := by kernel_rfl
set_option maxRecDepth 100000 in
theorem bytes_open {H : Type} {enc : TypeId × Value → H} {W : World} {r : Reach} {b0 : Nat} {v : Value} {d : DataW H} {p : List MemPlace}
    (hv : Value.okWide Tryd.prog W r b0 32 v) (h : DataW.Trod enc Tryd.prog W 0 (fun _ => true) true 32 v d p) :
    ∃ l : List Nat, byteL l ∧ l.length ≤ maxLen ∧
      (∃ role : Nat → Role, (∀ k, role k ≠ .none → k < W.heap.size) ∧ (∀ k, (∀ t, role k ≠ .loc t) ∧ ∀ lim q, role k ≠ .row lim (some q)) ∧ Rd Tryd.prog role W v (.list false 5 (bD l))) ∧
      ∀ W', Exd W W' → DataW.Trod enc Tryd.prog W' 0 (fun b => decide (b < W.heap.size)) true 32 v d p := by
  obtain ⟨a0, len0, cap0, rfl⟩ := okWide_slice Tryd.underlying32 hv
  obtain ⟨fuel, hf⟩ := h
  rcases open_ints Tryd.underlying32 Tryd.underlying5 cells_byte hf with ⟨hcs, hx⟩ | ⟨a, len, cap, zs, hcs, _, hle, hmax, hall, hx, hcell, hwf⟩
  · simp [Value.cells] at hcs
    obtain ⟨rfl, rfl, rfl⟩ := hcs
    simp only [Prod.mk.injEq] at hx
    obtain ⟨rfl, rfl⟩ := hx
    refine ⟨[], fun x hx => (by cases hx), by simp, ⟨fun _ => .none, fun k hk => absurd rfl hk, fun k => ⟨fun t ht => (by cases ht), fun lim q hq => (by cases hq)⟩, .nil⟩, fun W' _ => ?_⟩
    exact ⟨1, by simp [DataW.trod, Tryd.underlying32, Value.cells]⟩
  · simp [Value.cells] at hcs
    obtain ⟨rfl, rfl, rfl⟩ := hcs
    simp only [Prod.mk.injEq] at hx
    obtain ⟨rfl, rfl⟩ := hx
    simp only [if_true] at hall
    have hok : W.has Tryd.prog r b0 a 5 cap0 := by
      have h2 := hv
      simp only [Value.okWide, Tryd.underlying32, Cell.okWide, Cell.ok] at h2
      exact h2.2.2
    obtain ⟨_, hspot, row, cells, hsh, _⟩ := hok
    obtain ⟨b, off, spot⟩ := a
    simp only at hspot hsh
    subst hspot
    have hb : b < W.heap.size := by
      rcases Nat.lt_or_ge b W.heap.size with h' | h'
      · exact h'
      · simp [World.shape?, Array.getElem?_eq_none h'] at hsh
    have hcell' : ∀ i, i < zs.length → W.cell? ⟨b, off + i, none⟩ = some (.int .u8 (zs.getD i 0)) := fun i hi => by rw [← add_plain]; exact hcell i hi
    have hz : ∀ n ∈ zs, 0 ≤ n ∧ n < 256 := fun n hn => wf_byte (hwf n hn)
    refine ⟨(zs.take len0).map Int.toNat, ?_, ?_, ?_, fun W' hX => ?_⟩
    · intro x hx
      obtain ⟨n, hn, rfl⟩ := List.mem_map.1 hx
      have := hz n (List.mem_of_mem_take hn); omega
    · rw [List.length_map, List.length_take]; omega
    · refine ⟨fun k => if k = b then .row (off + cap0) none else .none, fun k hk => ?_, fun k => ⟨fun t ht => ?_, fun lim q hq => ?_⟩, ?_⟩
      · by_cases hkb : k = b
        · omega
        · simp [hkb] at hk
      · by_cases hkb : k = b
        · simp [hkb] at ht
        · simp [hkb] at ht
      · by_cases hkb : k = b
        · simp [hkb] at hq
        · simp [hkb] at hq
      · have hbl : (bD ((zs.take len0).map Int.toNat)).length = len0 := by rw [bD_len, List.length_map, List.length_take]; omega
        have hget : ∀ (i : Nat) (e : List D), (bD ((zs.take len0).map Int.toNat))[i]? = some e → i < len0 ∧ e = [.v (.int .u8 (zs.getD i 0))] := by
          intro i e he
          have hi := (List.getElem?_eq_some_iff.1 he).1
          rw [hbl] at hi
          refine ⟨hi, ?_⟩
          unfold bD at he
          rw [List.getElem?_map, List.getElem?_map, List.getElem?_take, if_pos hi, List.getElem?_eq_getElem (by omega)] at he
          have hn := hz zs[i] (List.getElem_mem _)
          have e2 : zs.getD i 0 = zs[i] := by rw [List.getD_eq_getElem?_getD, List.getElem?_eq_getElem (by omega)]; rfl
          rw [e2]
          simp only [Option.map_some, Option.some.injEq] at he
          rw [← he, Int.toNat_of_nonneg hn.1]
        refine .list (fun i _ => .int .u8 (zs.getD i 0)) hbl hle (fun _ => ⟨off + cap0, none, by simp, by rw [cells_byte]; omega⟩) (fun i e he => ?_) (fun i e k d' he hk => rfl) (fun i e k d' he hk => ?_) (fun i e k d' he hk => ?_)
        · rw [(hget i e he).2, cells_byte]; rfl
        · obtain ⟨h1, rfl⟩ := hget i e he
          have hk0 : k = 0 := by have := (List.getElem?_eq_some_iff.1 hk).1; simp at this; exact this
          subst hk0
          rw [cells_byte, Nat.mul_one, Nat.add_zero]
          exact hcell' i (by omega)
        · obtain ⟨h1, rfl⟩ := hget i e he
          have hk0 : k = 0 := by have := (List.getElem?_eq_some_iff.1 hk).1; simp at this; exact this
          subst hk0
          obtain rfl : D.v (.int .u8 (zs.getD i 0)) = d' := by simpa using hk
          refine .v ?_
          have hn : 0 ≤ zs.getD i 0 ∧ zs.getD i 0 < 256 := by
            rw [List.getD_eq_getElem?_getD, List.getElem?_eq_getElem (by omega)]; exact hz _ (List.getElem_mem _)
          show (false || (decide (0 ≤ zs.getD i 0) && decide (zs.getD i 0 < 256))) = true
          rw [Bool.false_or, Bool.and_eq_true, decide_eq_true_eq, decide_eq_true_eq]; exact hn
    · refine ⟨2, ?_⟩
      have := shut_ints' (enc := enc) (P := Tryd.prog) (w := W') (base := 0) (spare := fun b => decide (b < W.heap.size)) (held := true) (k := .u8) (b := b) (off := off) (len := len0) (cap := cap0) (zs := zs) 0 Tryd.underlying32 Tryd.underlying5 cells_byte (Nat.zero_le _) hle hmax
        (by rw [hall]; simp [hb]) (fun i hi => by rw [hX.cell (p := ⟨b, off + i, none⟩) hb]; exact hcell' i hi) hwf
      simpa [Value.cells] using this
/-- From what is handed on to a call, where the arguments read so in one world. -/
theorem calls_at {P : Program} {f : Nat} {fn : Func} {c : Code} (hf : P.funcs[f]? = some fn) (hname : (fn.name == "runtime.NumGoroutine") = false) (hb : fn.body = some c) {ds : List D} {x : Value} (h : PS P f ds (.v x))
    {args : Array Value} {role : Nat → Role} {w : World} (hlow : ∀ k, role k ≠ .none → k < w.heap.size) (hmask : ∀ k, (∀ t, role k ≠ .loc t) ∧ ∀ lim q, role k ≠ .row lim (some q))
    (hsz : args.size = ds.length) (hargs : ∀ (i : Nat) (y : Value) (e : D), args[i]? = some y → ds[i]? = some e → Rd P role w y e) : Calls P f args w fun e w' => e = .returned x ∧ Ext w w' := by
  have := h role w args hlow hmask hsz hargs
  unfold CallsV at this
  rw [MuLone.run_callFunc_enter hf hname hb] at this
  refine this.mono ?_
  rintro e w' ⟨v, role', rfl, hx, _, _, hr⟩
  obtain ⟨rfl, _⟩ := rd_v hr
  exact ⟨rfl, hx⟩
end Go.Proofs.YthhfnggigmfmjaaDoor

namespace Go.Proofs.YthhfnggigmfmjaaDoor
open Go.RowKit

theorem blankC_ok : Sound 15 (blankC blankI) := by
  intro ds K hK
  unfold blankC at hK
  split at hK
  · rename_i c
    refine ⟨_, hK, fun K' h => h, ?_⟩
    refine callX_eq (n := 2) (C := ctxL [] [] 0) (ctx0_ok none_ok) ?_
    rw [blank_tree]
    unfold blankI
    cases c == 32
    · cases decide (c ≥ 9)
      · rfl
      · cases decide (c ≤ 13) <;> rfl
    · rfl
  · exact hK.elim
def blL (bl : Int → Bool) : List (Nat × Orc) := [(15, blankC bl)]
theorem blL_ok : ∀ x ∈ blL blankI, Sound x.1 x.2 := by
  intro x hx
  obtain rfl := List.mem_singleton.1 hx
  exact blankC_ok
def looJ : List Nat := [3, 5, 12, 13, 14, 15, 16, 17, 18, 19, 20, 21, 22, 23, 24, 25, 26, 27, 28, 29, 30, 31, 32, 33]
def looS (es : List (List D)) (n i : Int) : List D := [.list false 5 es, .undef, .v (.bool false), .undef, .v (.int .i64 n), .undef, .v (.int .i64 i)] ++ List.replicate 67 .undef
set_option maxRecDepth 100000 in
theorem loo_round (bl : Int → Bool) (es : List (List D)) (n i : Int) (K : AExit → List D → Prop) :
    roundJ Tryd.prog (orcOf (blL bl)) (fun _ _ _ => False) ([] ++ junk (loopN Tryd.f4 0)) (loopN Tryd.f4 0) (looS es n i) K = (
      bif decide (i < es.length) then inB es i (bif !bl (getI es i) then K .ret (looS es n i) else K .normal (looS es n (IntKind.i64.wrap (i + 1)))) else K (.exit 0) (looS es n i)) := by kernel_rfl
theorem loo_runs (n : Int) (r : List Nat) : ∀ (p : List Nat), (∀ x ∈ r, blankI (x : Int) = true) → (p ++ r).length < 1000000 →
    ∃ k, Runs (blL blankI) Tryd.f4 0 [] k (looS (bD (p ++ r)) n (p.length : Int)) (.exit 0) (looS (bD (p ++ r)) n (((p ++ r).length : Nat) : Int)) := by
  induction r with
  | nil =>
    intro p _ _
    refine ⟨1, Runs.stop ⟨fun K h => ?_⟩⟩
    rw [loo_round, bD_len]
    have : decide ((p.length : Int) < ((p ++ []).length : Nat)) = false := by simp
    rw [this, cond_false]
    have e : (((p ++ ([] : List Nat)).length : Nat) : Int) = (p.length : Int) := by simp
    rw [e] at h
    exact h
  | cons x r ih =>
    intro p hb hl
    have hlen : (p ++ x :: r).length = p.length + (r.length + 1) := by simp
    have hget : (p ++ x :: r).getD p.length 0 = x := by simp
    have g1 : decide ((p.length : Int) < ((p ++ x :: r).length : Nat)) = true := by rw [hlen, decide_eq_true_eq]; omega
    have hs : p ++ x :: r = (p ++ [x]) ++ r := by simp
    obtain ⟨k, hk⟩ := ih (p ++ [x]) (fun y hy => hb y (by simp [hy])) (by rw [← hs]; exact hl)
    rw [← hs] at hk
    refine ⟨k + 1, Runs.go ⟨fun K h => ?_⟩ hk⟩
    have w6 : IntKind.i64.wrap ((p.length : Int) + 1) = ((p ++ [x]).length : Int) := by rw [wrap_small (by omega) (by omega)]; simp
    rw [loo_round, bD_len, g1, cond_true, inB_eq _ _ (by omega), getB_eq _ _ (by omega), hget, hb x (by simp), w6]
    exact h

/-! ### The tree -/
def c120 : List (List D) := [[.v (.int .u8 120)]]
def lkEnd (V : Nrl) (es : List (List D)) (K : D → Prop) : Prop :=
  5 = 5 ∧ V.ok (c120 ++ es) ∧ bif bif true then !V.looks (c120 ++ es) else false then 5 = 5 ∧ V.ok ([] ++ es ++ c120) ∧ K (.v (.bool (bif true then !V.looks ([] ++ es ++ c120) else false))) else K (.v (.bool false))
def lkPre (V : Nrl) (es : List (List D)) (K : D → Prop) : Prop :=
  5 = 5 ∧ V.ok (c120 ++ es) ∧ bif V.pbig (c120 ++ es) then (bif V.n (c120 ++ es) == 0 then lkEnd V es K else K (.v (.bool false))) else (bif V.n (c120 ++ es) == 0 then lkEnd V es K else K (.v (.bool false)))
def lkXY (V : Nrl) (es : List (List D)) (K : D → Prop) : Prop :=
  bif decide ((c120.length + es.length) * (Tryd.prog.bytesOf 5 + 1) ≤ 70368744177664) then bif decide ((([] : List (List D)).length + es.length) * (Tryd.prog.bytesOf 5 + 1) ≤ 70368744177664) then
    bif decide ((([] ++ es).length + c120.length) * (Tryd.prog.bytesOf 5 + 1) ≤ 70368744177664) then lkPre V es K else False else False else False
def lkB (V : Nrl) (es : List (List D)) (X : Prop) (K : D → Prop) : Prop :=
  bif decide (V.n es < 0) then K (.v (.bool false)) else bif bif false then true else decide (V.n es > es.length) then K (.v (.bool false)) else
    5 = 5 ∧ V.ok es ∧ bif V.looks es then X else lkXY V es K
/-- Where it looks like one. -/
def lkX (V : Nrl) (es : List (List D)) (K : D → Prop) : Prop := looS es (V.n es) (V.n es) = looS es (V.n es) (V.n es) ∧ bif V.n es == 0 then K (.v (.bool false)) else lkXY V es K
def lkT (V : Nrl) (es : List (List D)) (X : Prop) (K : D → Prop) : Prop :=
  bif decide ((es.length : Int) > 200) then K (.v (.bool true)) else 5 = 5 ∧ V.ok es ∧ bif V.pbig es then lkB V es X K else lkB V es X K
def lkL (M : Ops) (V : Nrl) : List (Nat × Orc) := [(9, awakeN), (13, prefixC M V), (14, looksC V)]
theorem lkL_ok : ∀ x ∈ lkL opsR nrlR, Sound x.1 x.2 := by
  intro x hx
  simp only [lkL, List.mem_cons, List.not_mem_nil, or_false] at hx
  rcases hx with rfl | rfl | rfl
  · exact awakeN_ok
  · exact prefixC_ok
  · exact looksC_ok
set_option maxRecDepth 100000 in
theorem lk_tree (M : Ops) (V : Nrl) (es : List (List D)) (K : D → Prop) : callX Tryd.prog (ctxL (lkL M V) [(4, 10, onceL looJ (looS es (V.n es) (V.n es)) (looS es (V.n es) es.length) (.exit 0))] 0) 3 4 [.list false 5 es] K = lkT V es (lkX V es K) K := by kernel_rfl
set_option maxRecDepth 100000 in
theorem lk_tree2 (M : Ops) (V : Nrl) (es : List (List D)) (K : D → Prop) : callX Tryd.prog (ctxL (lkL M V) [(4, 10, fun _ _ => False)] 0) 3 4 [.list false 5 es] K = lkT V es False K := by kernel_rfl
/-- What is so (a structure, so that the elaborator leaves it). -/
structure Prf (p : Prop) : Prop where
  out : p
theorem Prf.use {p q : Prop} (h : Prf p) (k : p → q) : q := k h.out

/-! ### The plain law -/
theorem looks_blank {l : List Nat} (h : looksN l = true) : 0 < scN l ∧ ∀ x ∈ l.drop (scN l), isBl x = true := by
  unfold looksN at h
  simp only [Bool.and_eq_true, decide_eq_true_eq, beq_iff_eq] at h
  refine ⟨h.1, fun x hx => ?_⟩
  have hle := scN_le l
  refine lead_all isBl (l.drop (scN l)) x ?_
  rw [List.take_of_length_le (by rw [List.length_drop]; omega)]
  exact hx
theorem blank_of {x : Nat} (h : x < 256) (hb : isBl x = true) : blankI (x : Int) = true := by
  rw [bl_eq h] at hb
  have h2 := of_decide_eq_true hb
  unfold blankI
  rcases h2 with rfl | h2
  · rfl
  · have e1 : decide ((x : Int) ≥ 9) = true := by rw [decide_eq_true_eq]; omega
    have e2 : decide ((x : Int) ≤ 13) = true := by rw [decide_eq_true_eq]; omega
    rw [e1, e2]; simp
theorem bl120 : isBl 120 = false := by rw [bl_eq (by omega)]; rfl
theorem dg120 : isDg 120 = false := by rw [dg_eq (by omega)]; rfl
theorem scN_x (l : List Nat) : scN (120 :: l) = 0 := by
  have hB : scB (120 :: l) = 0 := by unfold scB; rw [lead_cons, bl120]; rfl
  have hS : isSg (120 :: l) (scB (120 :: l)) = false := by rw [hB]; unfold isSg; simp
  have hI : scI (120 :: l) = 0 := by unfold scI; rw [hS, hB]; rfl
  have hD : scD (120 :: l) = 0 := by unfold scD; rw [hI, List.drop_zero, lead_cons, dg120]; rfl
  have hP : scP (120 :: l) = 0 := by unfold scP; rw [hI, hD]
  have hW : scW (120 :: l) = [] := by unfold scW; rw [hD]; rfl
  have hdot : scDot (120 :: l) = false := by unfold scDot; rw [hP]; simp
  unfold scN
  rw [hdot, hW]; rfl
/-- A numeral ends in a digit or a point. -/
theorem scN_last {l : List Nat} (h : 0 < scN l) : isDg (l.getD (scN l - 1) 0) = true ∨ l.getD (scN l - 1) 0 = 46 := by
  have key : ∀ (r : List Nat) (k : Nat), 0 < k → k ≤ lead isDg r → isDg (r.getD (k - 1) 0) = true := by
    intro r k h0 hk
    have hle := lead_le isDg r
    refine lead_all isDg r _ ?_
    have hlt : k - 1 < r.length := by omega
    rw [List.getD_eq_getElem?_getD, List.getElem?_eq_getElem hlt, Option.getD_some]
    exact List.mem_take_iff_getElem.2 ⟨k - 1, by omega, rfl⟩
  have drp : ∀ (a k : Nat), (l.drop a).getD k 0 = l.getD (a + k) 0 := by
    intro a k
    rw [List.getD_eq_getElem?_getD, List.getD_eq_getElem?_getD, List.getElem?_drop]
  unfold scN at h ⊢
  cases hd : scDot l with
  | true =>
    rw [cond_true]
    by_cases h0 : scK l = 0
    · right
      rw [h0, Nat.add_zero, Nat.add_sub_cancel]
      unfold scDot at hd
      simp only [Bool.and_eq_true, beq_iff_eq] at hd
      exact hd.2.1
    · left
      have := key (l.drop (scP l + 1)) (scK l) (by omega) (Nat.le_refl _)
      rw [drp, show scP l + 1 + (scK l - 1) = scP l + 1 + scK l - 1 by omega] at this
      exact this
  | false =>
    rw [hd, cond_false] at h
    rw [cond_false]
    cases hw : (scW l).length == 0 with
    | true => rw [hw] at h; simp at h
    | false =>
      rw [cond_false]
      left
      have hW := scW_len l
      have h0 : scD l ≠ 0 := by
        intro e; rw [e] at hW; rw [hW] at hw; simp at hw
      have := key (l.drop (scI l)) (scD l) (by omega) (Nat.le_refl _)
      rw [drp, show scI l + (scD l - 1) = scP l - 1 by unfold scP; omega] at this
      exact this
theorem looks_y (l : List Nat) : looksN (l ++ [120]) = false := by
  cases h : looksN (l ++ [120]) with
  | false => rfl
  | true =>
    obtain ⟨h0, h1⟩ := looks_blank h
    have hle := scN_le (l ++ [120])
    have hlen : (l ++ [120]).length = l.length + 1 := by simp
    have hlast : (l ++ [120]).getD l.length 0 = 120 := by simp
    by_cases hn : scN (l ++ [120]) = l.length + 1
    · have h2 := scN_last h0
      rw [hn, Nat.add_sub_cancel, hlast] at h2
      rcases h2 with h2 | h2
      · rw [dg120] at h2; cases h2
      · omega
    · have hm : 120 ∈ (l ++ [120]).drop (scN (l ++ [120])) := by
        rw [List.drop_append_of_le_length (by omega)]; simp
      have := h1 120 hm
      rw [bl120] at this; cases this
theorem lk_ps (l : List Nat) (hB : byteL l) (hl : l.length < 1000000) : PS Tryd.prog 4 [.list false 5 (bD l)] (.v (.bool true)) := by
  have okL : nrlR.ok (bD l) := ⟨l, rfl, hB, hl⟩
  have b120 : ∀ r : List Nat, byteL r → byteL (120 :: r) := fun r hr x hx => by
    rcases List.mem_cons.1 hx with rfl | hx
    · omega
    · exact hr x hx
  have ex : c120 ++ bD l = bD (120 :: l) := rfl
  have ey : [] ++ bD l ++ c120 = bD (l ++ [120]) := by rw [bD_app]; rfl
  have hN := scN_le l
  -- what is behind the looks
  have hXY : l.length ≤ 200 → ∀ K : D → Prop, K (.v (.bool true)) → Prf (lkXY nrlR (bD l) K) := by
    intro h2 K hK
    refine ⟨?_⟩
    have okX : nrlR.ok (bD (120 :: l)) := ⟨_, rfl, b120 l hB, by simp; omega⟩
    have okY : nrlR.ok (bD (l ++ [120])) := ⟨_, rfl, fun x hx => by
      rcases List.mem_append.1 hx with hx | hx
      · exact hB x hx
      · obtain rfl := List.mem_singleton.1 hx; omega, by simp; omega⟩
    have hb : Tryd.prog.bytesOf 5 = 1 := by kernel_rfl
    have d1 : decide ((c120.length + (bD l).length) * (Tryd.prog.bytesOf 5 + 1) ≤ 70368744177664) = true := by
      rw [hb, bD_len, decide_eq_true_eq]; show (1 + l.length) * (1 + 1) ≤ _; omega
    have d2 : decide ((([] : List (List D)).length + (bD l).length) * (Tryd.prog.bytesOf 5 + 1) ≤ 70368744177664) = true := by
      rw [hb, bD_len, decide_eq_true_eq]; show (0 + l.length) * (1 + 1) ≤ _; omega
    have d3 : decide ((([] ++ bD l).length + c120.length) * (Tryd.prog.bytesOf 5 + 1) ≤ 70368744177664) = true := by
      rw [hb, List.nil_append, bD_len, decide_eq_true_eq]; show (l.length + 1) * (1 + 1) ≤ _; omega
    have hlx : looksN (120 :: l) = false := by unfold looksN; rw [scN_x]; rfl
    have hE : lkEnd nrlR (bD l) K := by
      unfold lkEnd
      rw [ex, ey, nrl_looks, nrl_looks, hlx, looks_y]
      exact ⟨rfl, okX, rfl, okY, hK⟩
    unfold lkXY
    rw [d1, d2, d3, cond_true, cond_true, cond_true]
    unfold lkPre
    rw [ex, nrl_n, scN_x]
    refine ⟨rfl, okX, ?_⟩
    cases nrlR.pbig (bD (120 :: l))
    · exact hE
    · exact hE
  have fin : ∀ (X : Prop) (K : D → Prop), K (.v (.bool true)) → (looksN l = true → l.length ≤ 200 → X) → Prf (lkT nrlR (bD l) X K) := by
    intro X K hK hX
    refine ⟨?_⟩
    unfold lkT
    by_cases h2 : l.length > 200
    · have : decide (((bD l).length : Int) > 200) = true := by rw [bD_len, decide_eq_true_eq]; omega
      rw [this]; exact hK
    · have : decide (((bD l).length : Int) > 200) = false := by rw [bD_len, decide_eq_false_iff_not]; omega
      rw [this, cond_false]
      refine ⟨rfl, okL, ?_⟩
      have hBt : lkB nrlR (bD l) X K := by
        unfold lkB
        have e1 : decide (((scN l : Nat) : Int) < 0) = false := by rw [decide_eq_false_iff_not]; omega
        have e2 : decide (((scN l : Nat) : Int) > ((bD l).length : Nat)) = false := by rw [bD_len, decide_eq_false_iff_not]; omega
        rw [nrl_n, e1, e2, nrl_looks, cond_false]
        refine ⟨rfl, okL, ?_⟩
        cases hlk : looksN l with
        | false =>
          rw [cond_false]
          have h6 : l.length ≤ 200 := by omega
          have h7 := hXY h6 K hK
          cases h7; assumption
        | true =>
          rw [cond_true]
          exact hX hlk (by omega)
      cases nrlR.pbig (bD l)
      · exact hBt
      · exact hBt
  cases hlk : looksN l with
  | true =>
    obtain ⟨h0, h1⟩ := looks_blank hlk
    obtain ⟨k, hk⟩ := loo_runs ((scN l : Nat) : Int) (l.drop (scN l)) (l.take (scN l)) (fun x hx => blank_of (hB x (List.mem_of_mem_drop hx)) (h1 x hx)) (by rw [List.take_append_drop]; exact hl)
    rw [List.take_append_drop, List.length_take, Nat.min_eq_left hN] at hk
    refine callX_eq (n := 3) (ctxL_ok (l := lkL opsR nrlR) (ll := [(4, 10, onceL looJ (looS (bD l) (nrlR.n (bD l)) (nrlR.n (bD l))) (looS (bD l) (nrlR.n (bD l)) (bD l).length) (.exit 0))]) (fuel := 0) lkL_ok ?_) ?_
    · intro x hx
      obtain rfl := List.mem_singleton.1 hx
      rw [nrl_n, bD_len]
      exact LoopSound.mk (n := 0) Tryd.func4 rfl (by kernel_rfl) (by kernel_rfl) (Runs.once blL_ok (by kernel_rfl) hk)
    · rw [lk_tree]
      have h7 := fin (lkX nrlR (bD l) fun x => x = D.v (.bool true)) (fun x => x = D.v (.bool true)) rfl (fun _ h2 => by
        unfold lkX
        rw [nrl_n]
        have e3 : (((scN l : Nat) : Int) == 0) = false := by rw [beq_eq_false_iff_ne]; omega
        rw [e3, cond_false]
        have h8 := hXY h2 (fun x => x = D.v (.bool true)) rfl
        refine ⟨rfl, ?_⟩
        cases h8; assumption)
      cases h7; assumption
  | false =>
    refine callX_eq (n := 3) (ctxL_ok (l := lkL opsR nrlR) (ll := [(4, 10, fun _ _ => False)]) (fuel := 0) lkL_ok ?_) ?_
    · intro x hx
      obtain rfl := List.mem_singleton.1 hx
      exact LoopSound.mk (n := 0) Tryd.func4 rfl (by kernel_rfl) (by kernel_rfl) (fun _ _ h => h.elim)
    · rw [lk_tree2]
      have h7 := fin False (fun x => x = D.v (.bool true)) rfl (fun h => by rw [hlk] at h; cases h)
      cases h7; assumption
theorem lk_any (l : List Nat) (hB : byteL l) : PS Tryd.prog 4 [.list false 5 (bD l)] (.v (.bool true)) := by
  by_cases h2 : l.length > 200
  · refine callX_eq (n := 3) (ctxL_ok (l := lkL opsR nrlR) (ll := [(4, 10, fun _ _ => False)]) (fuel := 0) lkL_ok ?_) ?_
    · intro x hx
      obtain rfl := List.mem_singleton.1 hx
      exact LoopSound.mk (n := 0) Tryd.func4 rfl (by kernel_rfl) (by kernel_rfl) (fun _ _ h => h.elim)
    · rw [lk_tree2]
      unfold lkT
      have : decide (((bD l).length : Int) > 200) = true := by rw [bD_len, decide_eq_true_eq]; omega
      rw [this]; rfl
  · exact lk_ps l hB (by omega)
end Go.Proofs.YthhfnggigmfmjaaDoor
