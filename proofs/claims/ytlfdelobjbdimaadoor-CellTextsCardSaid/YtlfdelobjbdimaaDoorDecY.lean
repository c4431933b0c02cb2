/-
  An argument that is a number, opened and shut.
-/
import Derived.Test.YtlfdelobjbdimaaDoorDecU
import Derived.ProofKit
import Derived.OpenShut
import Derived.Lib.SmallJoins
namespace Go.Proofs.YtlfdelobjbdimaaDoor
set_option linter.unusedSimpArgs false
set_option linter.unusedVariables false
open Go.ChangeShapes Go.WideShapes Go.ChangeAt Go.RowKit Go.Joins

theorem dec_own : ownKnob Tryd.prog.godebug = none := by kernel_rfl
theorem cells_dec : Tryd.prog.cellsOf 24 = 3 := by kernel_rfl
theorem u64_bounds {n : Int} (h : (Lit.int .u64 n).wf = true) : 0 ≤ n ∧ n < 18446744073709551616 := by
  simp [Lit.wf, IntKind.min, IntKind.max, IntKind.signed, IntKind.bits] at h; omega

/-- The datum of a number. -/
def decD {H : Type} (s : Bool) (m : Nat) : DataW H := .agg [.lit (.bool s), .lit (.int .u64 ((hiN m : Nat) : Int)), .lit (.int .u64 ((loN m : Nat) : Int))]

set_option maxRecDepth 100000 in
theorem dec_open {H : Type} {enc : TypeId × Value → H} {W : World} {r : Reach} {b0 : Nat} {v : Value} {d : DataW H} {p : List MemPlace} {sp : Nat → Bool}
    (hv : Value.okWide Tryd.prog W r b0 24 v) (h : DataW.Trod enc Tryd.prog W 0 sp true 24 v d p) :
    ∃ s m, v = (.agg #[.bool (s), .int .u64 ((hiN (m) : Nat) : Int), .int .u64 ((loN (m) : Nat) : Int)]) ∧ d = decD s m ∧ p = [] ∧ m < 340282366920938463463374607431768211456 := by
  obtain ⟨c0, c1, c2, y0, y1, y2, n, rfl, rfl, rfl, hy0, hy1, hy2⟩ := open_agg3 Tryd.underlying24 (by kernel_rfl) cells_dec hv h
  obtain ⟨s, e0, rfl⟩ := DataW.trod_bool Tryd.underlying4 hy0
  obtain ⟨a, e1, rfl, wa⟩ := DataW.trod_int Tryd.underlying22 hy1
  obtain ⟨b, e2, rfl, wb⟩ := DataW.trod_int Tryd.underlying22 hy2
  simp at e0 e1 e2
  subst e0 e1 e2
  have ba := u64_bounds wa
  have bb := u64_bounds wb
  refine ⟨s, a.toNat * 18446744073709551616 + b.toNat, ?_, ?_, rfl, by omega⟩
  · have e1 : ((hiN (a.toNat * 18446744073709551616 + b.toNat) : Nat) : Int) = a := by unfold hiN; omega
    have e2 : ((loN (a.toNat * 18446744073709551616 + b.toNat) : Nat) : Int) = b := by unfold loN; omega
    rw [e1, e2]
  · unfold decD
    have e1 : ((hiN (a.toNat * 18446744073709551616 + b.toNat) : Nat) : Int) = a := by unfold hiN; omega
    have e2 : ((loN (a.toNat * 18446744073709551616 + b.toNat) : Nat) : Int) = b := by unfold loN; omega
    rw [e1, e2]

set_option maxRecDepth 100000 in
theorem dec_shut {H : Type} {enc : TypeId × Value → H} (W : World) (sp : Nat → Bool) (s : Bool) (m : Nat) (hm : m < 340282366920938463463374607431768211456) :
    DataW.Trod enc Tryd.prog W 0 sp true 24 (.agg #[.bool (s), .int .u64 ((hiN (m) : Nat) : Int), .int .u64 ((loN (m) : Nat) : Int)]) (decD s m) [] := by
  have w1 : (Lit.int .u64 ((hiN m : Nat) : Int)).wf = true := WalkArith.wf_u64 (by have := hiN_lt hm; omega)
  have w2 : (Lit.int .u64 ((loN m : Nat) : Int)).wf = true := WalkArith.wf_u64 (by have := loN_lt m; omega)
  exact shut_agg3 (y0 := (.lit (.bool s), [])) (y1 := (.lit (.int .u64 ((hiN m : Nat) : Int)), [])) (y2 := (.lit (.int .u64 ((loN m : Nat) : Int)), [])) Tryd.underlying24 (by kernel_rfl) cells_dec
    ⟨1, by simp [DataW.trod, Tryd.underlying4, Lit.wf]⟩ ⟨1, by simp [DataW.trod, Tryd.underlying22, w1]⟩ ⟨1, by simp [DataW.trod, Tryd.underlying22, w2]⟩
end Go.Proofs.YtlfdelobjbdimaaDoor
