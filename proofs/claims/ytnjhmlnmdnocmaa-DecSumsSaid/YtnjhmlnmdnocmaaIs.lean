/-
  errors.Is between two of api.Errno; the laws' Code.
-/
import Derived.Test.YtnjhmlnmdnocmaaDecA
import Derived.LaidEql
import Derived.Stop.Asserts
import Derived.RowKitTokens
namespace Go.Proofs.Ytnjhmlnmdnocmaa
set_option linter.unusedSimpArgs false
set_option linter.unusedVariables false
open Go.RowKit Go.Extern.Stop Go.Stop Go.Extern

theorem isTypeOf (v : Value) (w : World) : (Extern.ReflectliteType.typeOf #[.iface 68 v]).run Try.prog w = .ok (.iface 85 (.agg #[.pointer (some ⟨2, 68, none⟩)])) w := by kernel_rfl
theorem isComparable (w : World) : ((Extern.ReflectliteType.method fun t => do Rtype.noPackHeld "Comparable" t; pure (.bool (← typeInfo t).comparable)) #[.agg #[.pointer (some ⟨2, 68, none⟩)]]).run Try.prog w = .ok (.bool true) w := by kernel_rfl
theorem callComparable (w : World) : (callFunc 78 #[.agg #[.pointer (some ⟨2, 68, none⟩)]]).run Try.prog w = .ok (.value (.bool true)) w := by
  rw [@run_callFunc_extern Try.prog 78 _ (Extern.ReflectliteType.method fun t => do Rtype.noPackHeld "Comparable" t; pure (.bool (← typeInfo t).comparable)) Try.func78 (by kernel_rfl) (by kernel_rfl) (by kernel_rfl) (by kernel_rfl), isComparable]
  rfl
theorem isMethodComparable (v : Value) (w : World) : (Go.method 232 85 v "Comparable").run Try.prog w = .ok (78, v) w := by kernel_rfl
theorem isComp : (Try.prog.info? 68).map (·.comparable) = some true := by kernel_rfl
theorem noIsE (v : Value) (xT : TypeId) (w : World) : (Instr.typeAssert (.iface 68 v) xT 87 true).run Try.prog w = .ok (.tuple #[.nilIface, .bool false]) w := run_typeAssert_lacksB Try.underlying87 (by kernel_rfl) (by kernel_rfl) v xT w
theorem noUnwrapE (v : Value) (xT : TypeId) (w : World) : (Instr.typeAssert (.iface 68 v) xT 90 true).run Try.prog w = .ok (.tuple #[.nilIface, .bool false]) w := run_typeAssert_lacksB Try.underlying90 (by kernel_rfl) (by kernel_rfl) v xT w
theorem noUnwrapsE (v : Value) (xT : TypeId) (w : World) : (Instr.typeAssert (.iface 68 v) xT 92 true).run Try.prog w = .ok (.tuple #[.nilIface, .bool false]) w := run_typeAssert_lacksB Try.underlying92 (by kernel_rfl) (by kernel_rfl) v xT w

theorem run_equalIn_iface_int {P : Program} (w : World) (d : Nat) {ti tp : TypeId} {ms : Array (String × TypeId)} {i : TypeInfo} {kd : IntKind} (x y : Int)
    (hi : P.underlying ti = some (.interface ms)) (hp : P.underlying tp = some (.int kd)) (hinfo : P.info? tp = some i) (hcomp : i.comparable = true) :
    (Op.equalIn (d + 2) ti (.iface tp (.int kd x)) (.iface tp (.int kd y))).run P w = .ok (decide (x = y)) w := by
  simp [Op.equalIn, run_underlying hi, run_underlying hp, typeInfo, hinfo, hcomp]
  try rfl
theorem run_eql_iface_int {P : Program} (w : World) {ti tp : TypeId} {ms : Array (String × TypeId)} {i : TypeInfo} {kd : IntKind} (x y : Int)
    (hi : P.underlying ti = some (.interface ms)) (hp : P.underlying tp = some (.int kd)) (hinfo : P.info? tp = some i) (hcomp : i.comparable = true) :
    (binOp .eql ti (.iface tp (.int kd x)) (.iface tp (.int kd y))).run P w = .ok (.bool (decide (x = y))) w := by
  simp only [binOp]
  simp [Op.equal, Op.maxDepth, run_equalIn_iface_int w 9998 x y hi hp hinfo hcomp]

theorem eql_errno (k n : Int) (w : World) : (binOp .eql 40 (.iface 68 (.int .i64 k)) (.iface 68 (.int .i64 n))).run Try.prog w = .ok (.bool (decide (k = n))) w := by
  obtain ⟨i, hi, hcmp⟩ := Option.map_eq_some_iff.1 isComp
  exact run_eql_iface_int w k n Try.underlying40 Try.underlying68 hi hcmp

set_option maxRecDepth 100000 in
set_option maxHeartbeats 8000000 in
theorem is_code (k n : Int) (w : World) (t : Bool) (ht : decide (k = n) = t) :
    Calls Try.prog 48 #[.iface 68 (.int .i64 k), .iface 68 (.int .i64 n)] w fun e w' => e = .returned (.bool t) ∧ w' = w := by
  have h8 := @run_callFunc_extern Try.prog 56 _ Extern.ReflectliteType.typeOf Try.func56 (by kernel_rfl) (by kernel_rfl) (by kernel_rfl) (by kernel_rfl)
  have tT := isTypeOf
  have cT := callComparable
  have mR := isMethodComparable
  have nE := noIsE
  have uE := noUnwrapE
  have vE := noUnwrapsE
  have heq := eql_errno k n
  rw [ht] at heq
  clear ht
  cases t
  all_goals
    go_enter Try.func48, Try.ntmps48
    go_wp2
    refine wp_loop_rounds 1 ?_
    rw [rounds_succ]
    go_wp2
    go_ret
    exact ⟨rfl, rfl⟩
end Go.Proofs.Ytnjhmlnmdnocmaa
