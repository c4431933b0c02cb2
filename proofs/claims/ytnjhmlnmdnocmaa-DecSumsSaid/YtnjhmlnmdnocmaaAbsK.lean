/-
  Elements, slices, texts; calls of named functions; append. No program in sight.
-/
import Derived.Test.YtnjhmlnmdnocmaaAbsJ
import Derived.Conc.MuLone
namespace Go.Proofs.Ytnjhmlnmdnocmaa
set_option linter.unusedSimpArgs false
set_option linter.unusedVariables false
open Go.RowKit
open Look (ret rd chk)

section
variable (P : Program)
def callL (o : Oper) (f : Nat) (args : Array Operand) (types : Array TypeId) : Look (List (Nat × D)) :=
  (rdAll P (args.toList.zipIdx.map fun (x, i) => (types.getD i 0, x))).bind fun ds => .call f ds fun d => putW o d.strip []

def lenD : D → Option Int
  | .list _ _ es => some es.length
  | .v (.string s) => some s.size
  | _ => none
def lenL (o : Oper) (t : TypeId) (x : Operand) : Look (List (Nat × D)) := (rdO P t x).bind fun d => match P.underlying t, d with
  | some (.slice _), .list _ _ es => putW o (.v (.int .i64 (es.length : Int))) []
  | some .string, .v (.string s) => putW o (.v (.int .i64 (s.size : Int))) []
  | _, _ => .fail

def byteAt (s : ByteArray) (i : Nat) : Int := ((s.data.toList.getD i 0).toNat : Int)
def indexL (o : Oper) (t : TypeId) (x ix : Operand) : Look (List (Nat × D)) := (rdV P t x).bind fun d => (rdV P t ix).bind fun i => match P.underlying t, d, i with
  | some .string, .v (.string s), .v (.int _ n) => .chk (decide (0 ≤ n) && decide (n < (s.size : Int))) (putW o (.v (.int .u8 (byteAt s n.toNat))) [])
  | some (.array len e), .agg cs, .v (.int _ n) => match partD P e cs (n.toNat * P.cellsOf e) with
    | some d => .chk (decide (0 ≤ n) && decide (n < (len : Int)) && (P.info? e).isSome) (putW o d.strip [])
    | none => .fail
  | _, _, _ => .fail

/-- A bound of a slice: a number, or the end. -/
def rdBound (t : TypeId) : Option Operand → Look (Option Int)
  | none => .ret none
  | some x => (rdV P t x).bind fun d => match d with
    | .v (.int _ n) => .ret (some n)
    | _ => .fail
def sliceL (o : Oper) (t : TypeId) (x : Operand) (lo hi mx : Option Operand) : Look (List (Nat × D)) := match mx with
  | some _ => .fail
  | none => (rdV P t x).bind fun d => (rdBound P t lo).bind fun l => (rdBound P t hi).bind fun h => match P.underlying t, d with
    | some .string, .v (.string s) => .chk (decide (0 ≤ l.getD 0) && decide (l.getD 0 ≤ h.getD s.size) && decide (h.getD s.size ≤ (s.size : Int)))
        (putW o (.v (.string (s.extract (l.getD 0).toNat (h.getD s.size).toNat))) [])
    | some (.slice e), .list _ T es => .chk (T == e && (P.info? e).isSome && decide (0 ≤ l.getD 0) && decide (l.getD 0 ≤ h.getD es.length) && decide (h.getD es.length ≤ (es.length : Int)))
        (putW o (.list false T ((es.take (h.getD es.length).toNat).drop (l.getD 0).toNat)) [])
    | _, _ => .fail

/-- append: onto a row of ours. -/
def appendL (o : Oper) (t1 t2 : TypeId) (x y : Operand) : Look (List (Nat × D)) := match P.underlying t1, o.dst with
  | some (.slice e), some t =>
    let go (es : List (List D)) (ws : List (Nat × D)) : Look (List (Nat × D)) := (rdV P t2 y).bind fun d => match d with
      | .list _ T2 es2 => .chk (t1 == t2 && T2 == e && (zeroCellsD P e).isSome && decide (0 < P.cellsOf e) && decide ((P.cellsOf e) = ((zeroCellsD P e).getD []).length)) (.chk (decide ((es.length + es2.length) * (P.bytesOf e + 1) ≤ 70368744177664)) (putW o (.list true e (es ++ es2)) ws))
      | _ => .fail
    match x with
    | .tmp u => .rd u fun d => match d with
      | .list true T es => .chk (T == e && u != t) (go es [(u, .list false T es)])
      | _ => .fail
    | .const (.slice none 0 0) => go [] []
    | _ => .fail
  | _, _ => .fail
end
end Go.Proofs.Ytnjhmlnmdnocmaa
