/-
  errors.Is between two of api.Errno; the laws' Code.
-/
import Derived.Test.YtlfdelobjbdimaaDoorDecA
import Derived.LaidEql
import Derived.Stop.Asserts
import Derived.RowKitTokens
namespace Go.Proofs.YtlfdelobjbdimaaDoor
set_option linter.unusedSimpArgs false
set_option linter.unusedVariables false
open Go.RowKit Go.Extern.Stop Go.Stop Go.Extern

theorem isTypeOf (v : Value) (w : World) : (Extern.ReflectliteType.typeOf #[.iface 77 v]).run Tryd.prog w = .ok (.iface 119 (.agg #[.pointer (some ⟨5, 77, none⟩)])) w := by kernel_rfl
theorem isComparable (w : World) : ((Extern.ReflectliteType.method fun t => do Rtype.noPackHeld "Comparable" t; pure (.bool (← typeInfo t).comparable)) #[.agg #[.pointer (some ⟨5, 77, none⟩)]]).run Tryd.prog w = .ok (.bool true) w := by kernel_rfl
theorem callComparable (w : World) : (callFunc 110 #[.agg #[.pointer (some ⟨5, 77, none⟩)]]).run Tryd.prog w = .ok (.value (.bool true)) w := by
  rw [@run_callFunc_extern Tryd.prog 110 _ (Extern.ReflectliteType.method fun t => do Rtype.noPackHeld "Comparable" t; pure (.bool (← typeInfo t).comparable)) Tryd.func110 (by kernel_rfl) (by kernel_rfl) (by kernel_rfl) (by kernel_rfl), isComparable]
  rfl
theorem isMethodComparable (v : Value) (w : World) : (Go.method 277 119 v "Comparable").run Tryd.prog w = .ok (110, v) w := by kernel_rfl
theorem isComp : (Tryd.prog.info? 77).map (·.comparable) = some true := by kernel_rfl
theorem noIsE (v : Value) (xT : TypeId) (w : World) : (Instr.typeAssert (.iface 77 v) xT 121 true).run Tryd.prog w = .ok (.tuple #[.nilIface, .bool false]) w := run_typeAssert_lacksB Tryd.underlying121 (by kernel_rfl) (by kernel_rfl) v xT w
theorem noUnwrapE (v : Value) (xT : TypeId) (w : World) : (Instr.typeAssert (.iface 77 v) xT 124 true).run Tryd.prog w = .ok (.tuple #[.nilIface, .bool false]) w := run_typeAssert_lacksB Tryd.underlying124 (by kernel_rfl) (by kernel_rfl) v xT w
theorem noUnwrapsE (v : Value) (xT : TypeId) (w : World) : (Instr.typeAssert (.iface 77 v) xT 126 true).run Tryd.prog w = .ok (.tuple #[.nilIface, .bool false]) w := run_typeAssert_lacksB Tryd.underlying126 (by kernel_rfl) (by kernel_rfl) v xT w

theorem run_equalIn_iface_int {P : Program} (w : World) (d : Nat) {ti tp : TypeId} {ms : Array (String × TypeId)} {i : TypeInfo} {kd : IntKind} (x y : Int)
    (hi : P.underlying ti = some (.interface ms)) (hp : P.underlying tp = some (.int kd)) (hinfo : P.info? tp = some i) (hcomp : i.comparable = true) :
    (Op.equalIn (d + 2) ti (.iface tp (.int kd x)) (.iface tp (.int kd y))).run P w = .ok (decide (x = y)) w := by
  simp [Op.equalIn, run_underlying hi, run_underlying hp, typeInfo, hinfo, hcomp]
  try rfl
theorem run_eql_iface_int {P : Program} (w : World) {ti tp : TypeId} {ms : Array (String × TypeId)} {i : TypeInfo} {kd : IntKind} (x y : Int)
    (hi : P.underlying ti = some (.interface ms)) (hp : P.underlying tp = some (.int kd)) (hinfo : P.info? tp = some i) (hcomp : i.comparable = true) :
    (binOp .eql ti (.iface tp (.int kd x)) (.iface tp (.int kd y))).run P w = .ok (.bool (decide (x = y))) w := by
  simp only [binOp]
  simp [Op.equal, Op.maxDepth, run_equalIn_iface_int w 9998 x y hi hp hinfo hcomp]

theorem eql_errno (k n : Int) (w : World) : (binOp .eql 43 (.iface 77 (.int .i64 k)) (.iface 77 (.int .i64 n))).run Tryd.prog w = .ok (.bool (decide (k = n))) w := by
  obtain ⟨i, hi, hcmp⟩ := Option.map_eq_some_iff.1 isComp
  exact run_eql_iface_int w k n Tryd.underlying43 Tryd.underlying77 hi hcmp

set_option maxRecDepth 100000 in
set_option maxHeartbeats 8000000 in
theorem is_code (k n : Int) (w : World) (t : Bool) (ht : decide (k = n) = t) :
    Calls Tryd.prog 43 #[.iface 77 (.int .i64 k), .iface 77 (.int .i64 n)] w fun e w' => e = .returned (.bool t) ∧ w' = w := by
  have h8 := @run_callFunc_extern Tryd.prog 60 _ Extern.ReflectliteType.typeOf Tryd.func60 (by kernel_rfl) (by kernel_rfl) (by kernel_rfl) (by kernel_rfl)
  have tT := isTypeOf
  have cT := callComparable
  have mR := isMethodComparable
  have nE := noIsE
  have uE := noUnwrapE
  have vE := noUnwrapsE
  have heq := eql_errno k n
  rw [ht] at heq
  clear ht
  cases t
  all_goals
    go_enter Tryd.func43, Tryd.ntmps43
    go_wp2
    refine wp_loop_rounds 1 ?_
    rw [rounds_succ]
    go_wp2
    go_ret
    exact ⟨rfl, rfl⟩
end Go.Proofs.YtlfdelobjbdimaaDoor
