/-
  Contracts of dec.Mod, dec.Div; the law's awake. The law's awake; Prefix by its parts; Blank. An argument that is a slice of bytes, opened and shut. The law NumeralLooks: its walk and the plain law.
-/
import Derived.Test.YtlfdelobjbdimaaDoorNrlA
import Derived.ProofKit
import Derived.OpenShut
import Derived.Lib.SmallJoins
set_option linter.unusedSimpArgs false
set_option linter.unusedVariables false
set_option maxRecDepth 20000
namespace Go.Proofs.YtlfdelobjbdimaaDoor
set_option linter.unusedSimpArgs false
set_option linter.unusedVariables false
open Go.RowKit

structure Quo where
  md : Int → Int → Int
  dv : Int → Int → Int
  nz : Int → Bool
def quoR : Quo where
  md z z' := z.tmod z'
  dv z z' := (z * 1000000).tdiv z'
  nz z := !(z == 0)
def modT (M : Ops) (Q : Quo) : Orc := fun _ ds K => match two? ds with
  | some (s, x, y, s', x', y') => M.good s x y = true ∧ M.good s' x' y' = true ∧ Q.nz (M.val s' x' y') = true ∧ K (.tup [decM M (Q.md (M.val s x y) (M.val s' x' y')), nilD])
  | none => False
def divT (M : Ops) (Q : Quo) : Orc := fun _ ds K => match two? ds with
  | some (s, x, y, s', x', y') => M.good s x y = true ∧ M.good s' x' y' = true ∧ Q.nz (M.val s' x' y') = true ∧ M.fit (Q.dv (M.val s x y) (M.val s' x' y')) = true ∧ K (.tup [decM M (Q.dv (M.val s x y) (M.val s' x' y')), nilD])
  | none => False
theorem mod_val (s s' : Bool) (m m' : Nat) : val (s && decide (m % m' ≠ 0)) (m % m') = (val s m).tmod (val s' m') := by
  rw [val_mk]
  have key : (m : Int).tmod (m' : Int) = ((m % m' : Nat) : Int) := rfl
  generalize m % m' = r at *
  unfold val
  cases s <;> cases s' <;> simp [Int.neg_tmod, Int.tmod_neg, key]
theorem div_val (s s' : Bool) (m m' : Nat) : val ((s != s') && decide (m * 1000000 / m' ≠ 0)) (m * 1000000 / m') = (val s m * 1000000).tdiv (val s' m') := by
  rw [val_mk]
  have key : ((m : Int) * 1000000).tdiv (m' : Int) = ((m * 1000000 / m' : Nat) : Int) := by
    rw [show (m : Int) * 1000000 = ((m * 1000000 : Nat) : Int) by omega]
    rfl
  generalize m * 1000000 / m' = r at *
  unfold val
  cases s <;> cases s' <;> simp [Int.neg_mul, Int.neg_tdiv, Int.tdiv_neg, key]
theorem nz_val {s : Bool} {m : Nat} (h : quoR.nz (val s m) = true) : m ≠ 0 := by
  intro e; subst e
  unfold val at h
  cases s <;> exact absurd h (by decide)
theorem modT_ok : Sound 32 (modT opsR quoR) := by
  refine sound2 (m := fun s x y s' x' y' K => goodI s x y = true ∧ goodI s' x' y' = true ∧ quoR.nz (valI s' x' y') = true ∧ K (.tup [decM opsR (quoR.md (valI s x y) (valI s' x' y')), nilD])) (fun _ _ => rfl) fun s x y s' x' y' K ⟨g, g', hz, hK⟩ =>
    ⟨_, hK, fun K' h => ⟨g, g', hz, h⟩, ps_two Tryd.func32 (by kernel_rfl) rfl fun m m' hm hm' => ?_⟩
  rw [valI_val] at hz ⊢
  rw [valI_val]
  unfold goodI at g g'; rw [← hm] at g; rw [← hm'] at g'
  rw [← hm'] at hz ⊢
  rw [← hm]
  have h0 := nz_val hz
  have e : quoR.md (val s m) (val s' m') = val (s && decide (m % m' ≠ 0)) (m % m') := (mod_val s s' m m').symm
  rw [e]
  have hlt : m % m' < 1000000000000000000000000000000000000 := Nat.lt_of_le_of_lt (Nat.mod_le _ _) (good_lt g)
  obtain ⟨f1, f2, f3⟩ := val_facts (good_mk hlt (fun hh => by simp only [Bool.and_eq_true, decide_eq_true_eq] at hh; exact hh.2)) (rfl : val (s && decide (m % m' ≠ 0)) _ = _)
  exact ⟨_, fun w => mod_ok s m s' m' w g g' h0 _ rfl, fun role w => rd_two (rd_decV _ _ _ f1 f2 f3) (rd_nil _ _ _)⟩
theorem divT_ok : Sound 34 (divT opsR quoR) := by
  refine sound2 (m := fun s x y s' x' y' K => goodI s x y = true ∧ goodI s' x' y' = true ∧ quoR.nz (valI s' x' y') = true ∧ fitB (quoR.dv (valI s x y) (valI s' x' y')) = true ∧ K (.tup [decM opsR (quoR.dv (valI s x y) (valI s' x' y')), nilD])) (fun _ _ => rfl) fun s x y s' x' y' K ⟨g, g', hz, hf, hK⟩ =>
    ⟨_, hK, fun K' h => ⟨g, g', hz, hf, h⟩, ps_two Tryd.func34 (by kernel_rfl) rfl fun m m' hm hm' => ?_⟩
  rw [valI_val] at hz hf ⊢
  rw [valI_val] at hf ⊢
  unfold goodI at g g'; rw [← hm] at g; rw [← hm'] at g'
  rw [← hm'] at hz hf ⊢
  rw [← hm] at hf ⊢
  have h0 := nz_val hz
  have e : quoR.dv (val s m) (val s' m') = val ((s != s') && decide (m * 1000000 / m' ≠ 0)) (m * 1000000 / m') := (div_val s s' m m').symm
  rw [e] at hf ⊢
  have hl := fit_lt hf
  rw [val_mk] at hl
  have hl2 : m * 1000000 / m' < 1000000000000000000000000000000000000 := by split at hl <;> omega
  obtain ⟨f1, f2, f3⟩ := val_facts (good_mk hl2 (fun hh => by simp only [Bool.and_eq_true, decide_eq_true_eq] at hh; exact hh.2)) (rfl : val ((s != s') && decide (m * 1000000 / m' ≠ 0)) _ = _)
  exact ⟨_, fun w => div_ok s m s' m' w g g' h0 hl2 _ rfl, fun role w => rd_two (rd_decV _ _ _ f1 f2 f3) (rd_nil _ _ _)⟩

def modB (M : Ops) (Q : Quo) : Orc := fun _ ds K => match two? ds with
  | some (s, x, y, s', x', y') => bif M.good s x y && M.good s' x' y' && Q.nz (M.val s' x' y') then K (.tup [decM M (Q.md (M.val s x y) (M.val s' x' y')), nilD]) else False
  | none => False
def divB (M : Ops) (Q : Quo) : Orc := fun _ ds K => match two? ds with
  | some (s, x, y, s', x', y') => bif M.good s x y && M.good s' x' y' && Q.nz (M.val s' x' y') && M.fit (Q.dv (M.val s x y) (M.val s' x' y')) then K (.tup [decM M (Q.dv (M.val s x y) (M.val s' x' y')), nilD]) else False
  | none => False
theorem modB_to {M : Ops} {Q : Quo} {f : Nat} {ds : List D} {K : D → Prop} (h : modB M Q f ds K) : modT M Q f ds K ∧ ∀ K' : D → Prop, modT M Q f ds K' → modB M Q f ds K' := by
  revert h; unfold modT modB; generalize two? ds = r; intro h
  match r, h with
  | none, h => exact h.elim
  | some (s, x, y, s', x', y'), h =>
    cases hc : M.good s x y && M.good s' x' y' && Q.nz (M.val s' x' y') with
    | false => simp only [hc, cond_false] at h
    | true =>
      simp only [hc, cond_true] at h ⊢
      simp only [Bool.and_eq_true] at hc
      exact ⟨⟨hc.1.1, hc.1.2, hc.2, h⟩, fun K' hK => hK.2.2.2⟩
theorem divB_to {M : Ops} {Q : Quo} {f : Nat} {ds : List D} {K : D → Prop} (h : divB M Q f ds K) : divT M Q f ds K ∧ ∀ K' : D → Prop, divT M Q f ds K' → divB M Q f ds K' := by
  revert h; unfold divT divB; generalize two? ds = r; intro h
  match r, h with
  | none, h => exact h.elim
  | some (s, x, y, s', x', y'), h =>
    cases hc : M.good s x y && M.good s' x' y' && Q.nz (M.val s' x' y') && M.fit (Q.dv (M.val s x y) (M.val s' x' y')) with
    | false => simp only [hc, cond_false] at h
    | true =>
      simp only [hc, cond_true] at h ⊢
      simp only [Bool.and_eq_true] at hc
      exact ⟨⟨hc.1.1.1, hc.1.1.2, hc.1.2, hc.2, h⟩, fun K' hK => hK.2.2.2.2⟩
theorem intB_to {M : Ops} {f : Nat} {ds : List D} {K : D → Prop} (h : intC M f ds K) : intT M f ds K ∧ ∀ K' : D → Prop, intT M f ds K' → intC M f ds K' := by
  unfold intC at h
  split at h
  · rename_i n
    cases hc : M.isInt n with
    | false => rw [hc] at h; exact h.elim
    | true =>
      rw [hc] at h
      refine ⟨⟨hc, h⟩, fun K' hK => ?_⟩
      show (bif M.isInt n then _ else False)
      rw [hc]; exact hK.2
  · exact h.elim

/-! ### Prefix, whatever number it is -/
structure Pre where
  sg : List (List D) → Bool
  hi : List (List D) → Int
  lo : List (List D) → Int
  er : List (List D) → D
def preR : Pre where
  sg es := bif pBig (bytesN es) then false else opsR.sg (pVal (bytesN es))
  hi es := bif pBig (bytesN es) then 0 else opsR.hi (pVal (bytesN es))
  lo es := bif pBig (bytesN es) then 0 else opsR.lo (pVal (bytesN es))
  er es := bif pBig (bytesN es) then errD 2 else nilD
def preCells (R : Pre) (es : List (List D)) : List D := [.v (.bool (R.sg es)), .v (.int .u64 (R.hi es)), .v (.int .u64 (R.lo es))]
def prefixE (V : Nrl) (R : Pre) : Orc := fun _ ds K => match ds with
  | [.list false T es] => T = 5 ∧ V.ok es ∧ K (.tup [.agg (preCells R es), .v (.int .i64 (V.n es)), R.er es])
  | _ => False
theorem prefixE_ok : Sound 42 (prefixE nrlR preR) := by
  intro ds K hK
  unfold prefixE at hK
  split at hK
  · obtain ⟨rfl, ⟨l, rfl, hB, hl⟩, hK⟩ := hK
    have h := prefix_ps l hB hl
    refine ⟨_, hK, fun K' h => ⟨rfl, ⟨l, rfl, hB, hl⟩, h⟩, ?_⟩
    have e : D.tup [.agg (preCells preR (bD l)), .v (.int .i64 (nrlR.n (bD l))), preR.er (bD l)] = bif pBig l then .tup [decZ, .v (.int .i64 ((scN l : Nat) : Int)), errD 2] else .tup [decM opsR (pVal l), .v (.int .i64 ((scN l : Nat) : Int)), nilD] := by
      unfold preCells
      have e1 : preR.sg (bD l) = bif pBig l then false else opsR.sg (pVal l) := by show (bif pBig (bytesN (bD l)) then _ else _) = _; rw [bytesN_bD]
      have e2 : preR.hi (bD l) = bif pBig l then 0 else opsR.hi (pVal l) := by show (bif pBig (bytesN (bD l)) then _ else _) = _; rw [bytesN_bD]
      have e3 : preR.lo (bD l) = bif pBig l then 0 else opsR.lo (pVal l) := by show (bif pBig (bytesN (bD l)) then _ else _) = _; rw [bytesN_bD]
      have e4 : preR.er (bD l) = bif pBig l then errD 2 else nilD := by show (bif pBig (bytesN (bD l)) then _ else _) = _; rw [bytesN_bD]
      rw [e1, e2, e3, e4, nrl_n]
      cases pBig l <;> rfl
    rw [e]; exact h
  · exact hK.elim

/-! ### Blank -/
def blankI (c : Int) : Bool := c == 32 || (decide (c ≥ 9) && decide (c ≤ 13))
def blankC (bl : Int → Bool) : Orc := fun _ ds K => match ds with
  | [.v (.int .u8 c)] => K (.v (.bool (bl c)))
  | _ => False
set_option maxRecDepth 100000 in
theorem blank_tree (c : Int) (K : D → Prop) : callX Tryd.prog (ctxL [] [] 0) 2 64 [.v (.int .u8 c)] K = (
    bif c == 32 then K (.v (.bool (bif true then true else false))) else bif decide (c ≥ 9) then K (.v (.bool (bif false then true else bif true then decide (c ≤ 13) else false))) else K (.v (.bool (bif false then true else false)))) := by kernel_rfl
end Go.Proofs.YtlfdelobjbdimaaDoor

namespace Go.Proofs.YtlfdelobjbdimaaDoor
open Go.ChangeShapes Go.WideShapes Go.ChangeAt Go.RowKit Go.Joins

theorem wf_byte {n : Int} (h : (Lit.int .u8 n).wf = true) : 0 ≤ n ∧ n < 256 := by
  simp [Lit.wf, IntKind.min, IntKind.max, IntKind.signed, IntKind.bits] at h; omega
theorem cells_byte : Tryd.prog.cellsOf 5 = 1 := by kernel_rfl
set_option maxRecDepth 100000 in
theorem bytes_open {H : Type} {enc : TypeId × Value → H} {W : World} {r : Reach} {b0 : Nat} {v : Value} {d : DataW H} {p : List MemPlace}
    (hv : Value.okWide Tryd.prog W r b0 52 v) (h : DataW.Trod enc Tryd.prog W 0 (fun _ => true) true 52 v d p) :
    ∃ l : List Nat, byteL l ∧ l.length ≤ maxLen ∧
      (∃ role : Nat → Role, (∀ k, role k ≠ .none → k < W.heap.size) ∧ (∀ k, (∀ t, role k ≠ .loc t) ∧ ∀ lim q, role k ≠ .row lim (some q)) ∧ Rd Tryd.prog role W v (.list false 5 (bD l))) ∧
      ∀ W', Exd W W' → DataW.Trod enc Tryd.prog W' 0 (fun b => decide (b < W.heap.size)) true 52 v d p := by
  obtain ⟨a0, len0, cap0, rfl⟩ := okWide_slice Tryd.underlying52 hv
  obtain ⟨fuel, hf⟩ := h
  rcases open_ints Tryd.underlying52 Tryd.underlying5 cells_byte hf with ⟨hcs, hx⟩ | ⟨a, len, cap, zs, hcs, _, hle, hmax, hall, hx, hcell, hwf⟩
  · simp [Value.cells] at hcs
    obtain ⟨rfl, rfl, rfl⟩ := hcs
    simp only [Prod.mk.injEq] at hx
    obtain ⟨rfl, rfl⟩ := hx
    refine ⟨[], fun x hx => (by cases hx), by simp, ⟨fun _ => .none, fun k hk => absurd rfl hk, fun k => ⟨fun t ht => (by cases ht), fun lim q hq => (by cases hq)⟩, .nil⟩, fun W' _ => ?_⟩
    exact ⟨1, by simp [DataW.trod, Tryd.underlying52, Value.cells]⟩
  · simp [Value.cells] at hcs
    obtain ⟨rfl, rfl, rfl⟩ := hcs
    simp only [Prod.mk.injEq] at hx
    obtain ⟨rfl, rfl⟩ := hx
    simp only [if_true] at hall
    have hok : W.has Tryd.prog r b0 a 5 cap0 := by
      have h2 := hv
      simp only [Value.okWide, Tryd.underlying52, Cell.okWide, Cell.ok] at h2
      exact h2.2.2
    obtain ⟨_, hspot, row, cells, hsh, _⟩ := hok
    obtain ⟨b, off, spot⟩ := a
    simp only at hspot hsh
    subst hspot
    have hb : b < W.heap.size := by
      rcases Nat.lt_or_ge b W.heap.size with h' | h'
      · exact h'
      · simp [World.shape?, Array.getElem?_eq_none h'] at hsh
    have hcell' : ∀ i, i < zs.length → W.cell? ⟨b, off + i, none⟩ = some (.int .u8 (zs.getD i 0)) := fun i hi => by rw [← add_plain]; exact hcell i hi
    have hz : ∀ n ∈ zs, 0 ≤ n ∧ n < 256 := fun n hn => wf_byte (hwf n hn)
    refine ⟨(zs.take len0).map Int.toNat, ?_, ?_, ?_, fun W' hX => ?_⟩
    · intro x hx
      obtain ⟨n, hn, rfl⟩ := List.mem_map.1 hx
      have := hz n (List.mem_of_mem_take hn); omega
    · rw [List.length_map, List.length_take]; omega
    · refine ⟨fun k => if k = b then .row (off + cap0) none else .none, fun k hk => ?_, fun k => ⟨fun t ht => ?_, fun lim q hq => ?_⟩, ?_⟩
      · by_cases hkb : k = b
        · omega
        · simp [hkb] at hk
      · by_cases hkb : k = b
        · simp [hkb] at ht
        · simp [hkb] at ht
      · by_cases hkb : k = b
        · simp [hkb] at hq
        · simp [hkb] at hq
      · have hbl : (bD ((zs.take len0).map Int.toNat)).length = len0 := by rw [bD_len, List.length_map, List.length_take]; omega
        have hget : ∀ (i : Nat) (e : List D), (bD ((zs.take len0).map Int.toNat))[i]? = some e → i < len0 ∧ e = [.v (.int .u8 (zs.getD i 0))] := by
          intro i e he
          have hi := (List.getElem?_eq_some_iff.1 he).1
          rw [hbl] at hi
          refine ⟨hi, ?_⟩
          unfold bD at he
          rw [List.getElem?_map, List.getElem?_map, List.getElem?_take, if_pos hi, List.getElem?_eq_getElem (by omega)] at he
          have hn := hz zs[i] (List.getElem_mem _)
          have e2 : zs.getD i 0 = zs[i] := by rw [List.getD_eq_getElem?_getD, List.getElem?_eq_getElem (by omega)]; rfl
          rw [e2]
          simp only [Option.map_some, Option.some.injEq] at he
          rw [← he, Int.toNat_of_nonneg hn.1]
        refine .list (fun i _ => .int .u8 (zs.getD i 0)) hbl hle (fun _ => ⟨off + cap0, none, by simp, by rw [cells_byte]; omega⟩) (fun i e he => ?_) (fun i e k d' he hk => rfl) (fun i e k d' he hk => ?_) (fun i e k d' he hk => ?_)
        · rw [(hget i e he).2, cells_byte]; rfl
        · obtain ⟨h1, rfl⟩ := hget i e he
          have hk0 : k = 0 := by have := (List.getElem?_eq_some_iff.1 hk).1; simp at this; exact this
          subst hk0
          rw [cells_byte, Nat.mul_one, Nat.add_zero]
          exact hcell' i (by omega)
        · obtain ⟨h1, rfl⟩ := hget i e he
          have hk0 : k = 0 := by have := (List.getElem?_eq_some_iff.1 hk).1; simp at this; exact this
          subst hk0
          obtain rfl : D.v (.int .u8 (zs.getD i 0)) = d' := by simpa using hk
          refine .v ?_
          have hn : 0 ≤ zs.getD i 0 ∧ zs.getD i 0 < 256 := by
            rw [List.getD_eq_getElem?_getD, List.getElem?_eq_getElem (by omega)]; exact hz _ (List.getElem_mem _)
          show (false || (decide (0 ≤ zs.getD i 0) && decide (zs.getD i 0 < 256))) = true
          rw [Bool.false_or, Bool.and_eq_true, decide_eq_true_eq, decide_eq_true_eq]; exact hn
    · refine ⟨2, ?_⟩
      have := shut_ints' (enc := enc) (P := Tryd.prog) (w := W') (base := 0) (spare := fun b => decide (b < W.heap.size)) (held := true) (k := .u8) (b := b) (off := off) (len := len0) (cap := cap0) (zs := zs) 0 Tryd.underlying52 Tryd.underlying5 cells_byte (Nat.zero_le _) hle hmax
        (by rw [hall]; simp [hb]) (fun i hi => by rw [hX.cell (p := ⟨b, off + i, none⟩) hb]; exact hcell' i hi) hwf
      simpa [Value.cells] using this
/-- From what is handed on to a call, where the arguments read so in one world. -/
theorem calls_at {P : Program} {f : Nat} {fn : Func} {c : Code} (hf : P.funcs[f]? = some fn) (hname : (fn.name == "runtime.NumGoroutine") = false) (hb : fn.body = some c) {ds : List D} {x : Value} (h : PS P f ds (.v x))
    {args : Array Value} {role : Nat → Role} {w : World} (hlow : ∀ k, role k ≠ .none → k < w.heap.size) (hmask : ∀ k, (∀ t, role k ≠ .loc t) ∧ ∀ lim q, role k ≠ .row lim (some q))
    (hsz : args.size = ds.length) (hargs : ∀ (i : Nat) (y : Value) (e : D), args[i]? = some y → ds[i]? = some e → Rd P role w y e) : Calls P f args w fun e w' => e = .returned x ∧ Ext w w' := by
  have := h role w args hlow hmask hsz hargs
  unfold CallsV at this
  rw [MuLone.run_callFunc_enter hf hname hb] at this
  refine this.mono ?_
  rintro e w' ⟨v, role', rfl, hx, _, _, hr⟩
  obtain ⟨rfl, _⟩ := rd_v hr
  exact ⟨rfl, hx⟩
end Go.Proofs.YtlfdelobjbdimaaDoor

namespace Go.Proofs.YtlfdelobjbdimaaDoor
open Go.RowKit

theorem blankC_ok : Sound 64 (blankC blankI) := by
  intro ds K hK
  unfold blankC at hK
  split at hK
  · rename_i c
    refine ⟨_, hK, fun K' h => h, ?_⟩
    refine callX_eq (n := 2) (C := ctxL [] [] 0) (ctx0_ok none_ok) ?_
    rw [blank_tree]
    unfold blankI
    cases c == 32
    · cases decide (c ≥ 9)
      · rfl
      · cases decide (c ≤ 13) <;> rfl
    · rfl
  · exact hK.elim
def blL (bl : Int → Bool) : List (Nat × Orc) := [(64, blankC bl)]
theorem blL_ok : ∀ x ∈ blL blankI, Sound x.1 x.2 := by
  intro x hx
  obtain rfl := List.mem_singleton.1 hx
  exact blankC_ok
structure Prf (p : Prop) : Prop where
  out : p
theorem Prf.use {p q : Prop} (h : Prf p) (k : p → q) : q := k h.out

/-! ### The plain law -/
theorem looks_blank {l : List Nat} (h : looksN l = true) : 0 < scN l ∧ ∀ x ∈ l.drop (scN l), isBl x = true := by
  unfold looksN at h
  simp only [Bool.and_eq_true, decide_eq_true_eq, beq_iff_eq] at h
  refine ⟨h.1, fun x hx => ?_⟩
  have hle := scN_le l
  refine lead_all isBl (l.drop (scN l)) x ?_
  rw [List.take_of_length_le (by rw [List.length_drop]; omega)]
  exact hx
theorem blank_of {x : Nat} (h : x < 256) (hb : isBl x = true) : blankI (x : Int) = true := by
  rw [bl_eq h] at hb
  have h2 := of_decide_eq_true hb
  unfold blankI
  rcases h2 with rfl | h2
  · rfl
  · have e1 : decide ((x : Int) ≥ 9) = true := by rw [decide_eq_true_eq]; omega
    have e2 : decide ((x : Int) ≤ 13) = true := by rw [decide_eq_true_eq]; omega
    rw [e1, e2]; simp
theorem bl120 : isBl 120 = false := by rw [bl_eq (by omega)]; rfl
theorem dg120 : isDg 120 = false := by rw [dg_eq (by omega)]; rfl
theorem scN_x (l : List Nat) : scN (120 :: l) = 0 := by
  have hB : scB (120 :: l) = 0 := by unfold scB; rw [lead_cons, bl120]; rfl
  have hS : isSg (120 :: l) (scB (120 :: l)) = false := by rw [hB]; unfold isSg; simp
  have hI : scI (120 :: l) = 0 := by unfold scI; rw [hS, hB]; rfl
  have hD : scD (120 :: l) = 0 := by unfold scD; rw [hI, List.drop_zero, lead_cons, dg120]; rfl
  have hP : scP (120 :: l) = 0 := by unfold scP; rw [hI, hD]
  have hW : scW (120 :: l) = [] := by unfold scW; rw [hD]; rfl
  have hdot : scDot (120 :: l) = false := by unfold scDot; rw [hP]; simp
  unfold scN
  rw [hdot, hW]; rfl
/-- A numeral ends in a digit or a point. -/
theorem scN_last {l : List Nat} (h : 0 < scN l) : isDg (l.getD (scN l - 1) 0) = true ∨ l.getD (scN l - 1) 0 = 46 := by
  have key : ∀ (r : List Nat) (k : Nat), 0 < k → k ≤ lead isDg r → isDg (r.getD (k - 1) 0) = true := by
    intro r k h0 hk
    have hle := lead_le isDg r
    refine lead_all isDg r _ ?_
    have hlt : k - 1 < r.length := by omega
    rw [List.getD_eq_getElem?_getD, List.getElem?_eq_getElem hlt, Option.getD_some]
    exact List.mem_take_iff_getElem.2 ⟨k - 1, by omega, rfl⟩
  have drp : ∀ (a k : Nat), (l.drop a).getD k 0 = l.getD (a + k) 0 := by
    intro a k
    rw [List.getD_eq_getElem?_getD, List.getD_eq_getElem?_getD, List.getElem?_drop]
  unfold scN at h ⊢
  cases hd : scDot l with
  | true =>
    rw [cond_true]
    by_cases h0 : scK l = 0
    · right
      rw [h0, Nat.add_zero, Nat.add_sub_cancel]
      unfold scDot at hd
      simp only [Bool.and_eq_true, beq_iff_eq] at hd
      exact hd.2.1
    · left
      have := key (l.drop (scP l + 1)) (scK l) (by omega) (Nat.le_refl _)
      rw [drp, show scP l + 1 + (scK l - 1) = scP l + 1 + scK l - 1 by omega] at this
      exact this
  | false =>
    rw [hd, cond_false] at h
    rw [cond_false]
    cases hw : (scW l).length == 0 with
    | true => rw [hw] at h; simp at h
    | false =>
      rw [cond_false]
      left
      have hW := scW_len l
      have h0 : scD l ≠ 0 := by
        intro e; rw [e] at hW; rw [hW] at hw; simp at hw
      have := key (l.drop (scI l)) (scD l) (by omega) (Nat.le_refl _)
      rw [drp, show scI l + (scD l - 1) = scP l - 1 by unfold scP; omega] at this
      exact this
theorem looks_y (l : List Nat) : looksN (l ++ [120]) = false := by
  cases h : looksN (l ++ [120]) with
  | false => rfl
  | true =>
    obtain ⟨h0, h1⟩ := looks_blank h
    have hle := scN_le (l ++ [120])
    have hlen : (l ++ [120]).length = l.length + 1 := by simp
    have hlast : (l ++ [120]).getD l.length 0 = 120 := by simp
    by_cases hn : scN (l ++ [120]) = l.length + 1
    · have h2 := scN_last h0
      rw [hn, Nat.add_sub_cancel, hlast] at h2
      rcases h2 with h2 | h2
      · rw [dg120] at h2; cases h2
      · omega
    · have hm : 120 ∈ (l ++ [120]).drop (scN (l ++ [120])) := by
        rw [List.drop_append_of_le_length (by omega)]; simp
      have := h1 120 hm
      rw [bl120] at this; cases this
end Go.Proofs.YtlfdelobjbdimaaDoor
