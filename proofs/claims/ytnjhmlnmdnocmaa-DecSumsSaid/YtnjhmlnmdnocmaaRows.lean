/-
  No cell of these rows narrows 'for every input' (looked for: loops, veiled, ifaces, maps, wideKeys, modest, calm, conditions, laid).
  DERIVED. THE GIVEN ROWS OF THIS SEAT. 6 by the template 'for every input the law returns true; each argument reads behind the call as it read before'; 0 by the template 'total and deterministic' (their statements: YtnjhmlnmdnocmaaTotals.lean).
  GIVEN WITH THE SEED: the statements are not yours to turn. If you find one false, say at which input.
  Laid BY PROGRAM, IN A SANDBOX (cutbox-rows.mjs): the forced cells as the released guide's own fill.sh prints them over the translation 2f85576fbf32f7b1… (all of the seat's roots in one cut). By AI agents, Wed Nov 11 2026. No macro, syntax, notation, axiom, sorry.
-/
import Derived.Test.YtnjhmlnmdnocmaaChecked
import GoSem.Claim
import GoSem.ClaimJoined
import GoSem.ClaimMapViews
import Derived.JoinedTies
import Derived.KernelRfl
namespace Go.Proofs.Ytnjhmlnmdnocmaa
/- THE CELL 'sum', in the pinned program and in every row, IS THE sha256 OF THE DUMP (.gsa) THAT YtnjhmlnmdnocmaaProg.lean LOADS. Nothing in Lean hashes anything: it is a label: what it is worth is what the hold of that sum in a sandbox is worth. -/
noncomputable def Try.pinned : Pinned := { name := "ytnjhmlnmdnocmaa", sum := "2f85576fbf32f7b13b291a1f340e44eb854f0114e746feec9b42de7cfe439786", checked := Try.checked }
namespace Rows
def none {H : Type} : Left H := { results := [], args := [] }

/-- 'fieldfarelaw01.DecWholes': WHATEVER THE INPUT: true; the input reads as it did. -/
def decWholesSpec : ChangeSpec := { name := "decWholes", fn := fun _ => fun
  | [d1, d2] => { results := [.lit (.bool true)], args := [d1, d2] }
  | _ => none }
def decWholesRow : OpenClaim := { program := "ytnjhmlnmdnocmaa", sum := "2f85576fbf32f7b13b291a1f340e44eb854f0114e746feec9b42de7cfe439786", func := "fieldfare/fieldfarelaw01.DecWholes", spec := "decWholes", inPlace := ["math/bits.Add64", "math/bits.Sub64"], named := ["math/bits.divideError", "math/bits.overflowError"], apart := false }
def DecWholesSaid : Prop := decWholesRow.holds Try.pinned (OpenSpec.ofChange decWholesSpec)

/-- ITS FALSE NEIGHBOUR: 'it returns false'. Refute it at one input. -/
def decWholesWrong : ChangeSpec := { name := "decWholes", fn := fun _ => fun
  | [d1, d2] => { results := [.lit (.bool false)], args := [d1, d2] }
  | _ => none }
def DecWholesWrongFalsely : Prop := decWholesRow.holds Try.pinned (OpenSpec.ofChange decWholesWrong)

/-- 'fieldfarelaw01.DecMoves': WHATEVER THE INPUT: true; the input reads as it did. -/
def decMovesSpec : ChangeSpec := { name := "decMoves", fn := fun _ => fun
  | [d1, d2, d3] => { results := [.lit (.bool true)], args := [d1, d2, d3] }
  | _ => none }
def decMovesRow : OpenClaim := { program := "ytnjhmlnmdnocmaa", sum := "2f85576fbf32f7b13b291a1f340e44eb854f0114e746feec9b42de7cfe439786", func := "fieldfare/fieldfarelaw01.DecMoves", spec := "decMoves", inPlace := ["math/bits.Add64", "math/bits.Sub64"], named := ["math/bits.divideError", "math/bits.overflowError"], apart := false }
def DecMovesSaid : Prop := decMovesRow.holds Try.pinned (OpenSpec.ofChange decMovesSpec)

/-- ITS FALSE NEIGHBOUR: 'it returns false'. Refute it at one input. -/
def decMovesWrong : ChangeSpec := { name := "decMoves", fn := fun _ => fun
  | [d1, d2, d3] => { results := [.lit (.bool false)], args := [d1, d2, d3] }
  | _ => none }
def DecMovesWrongFalsely : Prop := decMovesRow.holds Try.pinned (OpenSpec.ofChange decMovesWrong)

/-- 'fieldfarelaw01.DecTruncs': WHATEVER THE INPUT: true; the input reads as it did. -/
def decTruncsSpec : ChangeSpec := { name := "decTruncs", fn := fun _ => fun
  | [d] => { results := [.lit (.bool true)], args := [d] }
  | _ => none }
def decTruncsRow : OpenClaim := { program := "ytnjhmlnmdnocmaa", sum := "2f85576fbf32f7b13b291a1f340e44eb854f0114e746feec9b42de7cfe439786", func := "fieldfare/fieldfarelaw01.DecTruncs", spec := "decTruncs", inPlace := ["math/bits.Add64", "math/bits.Sub64"], named := ["math/bits.divideError", "math/bits.overflowError"], apart := false }
def DecTruncsSaid : Prop := decTruncsRow.holds Try.pinned (OpenSpec.ofChange decTruncsSpec)

/-- ITS FALSE NEIGHBOUR: 'it returns false'. Refute it at one input. -/
def decTruncsWrong : ChangeSpec := { name := "decTruncs", fn := fun _ => fun
  | [d] => { results := [.lit (.bool false)], args := [d] }
  | _ => none }
def DecTruncsWrongFalsely : Prop := decTruncsRow.holds Try.pinned (OpenSpec.ofChange decTruncsWrong)

/-- 'fieldfarelaw01.DecUnits': WHATEVER THE INPUT: true; the input reads as it did. -/
def decUnitsSpec : ChangeSpec := { name := "decUnits", fn := fun _ => fun
  | [d] => { results := [.lit (.bool true)], args := [d] }
  | _ => none }
def decUnitsRow : OpenClaim := { program := "ytnjhmlnmdnocmaa", sum := "2f85576fbf32f7b13b291a1f340e44eb854f0114e746feec9b42de7cfe439786", func := "fieldfare/fieldfarelaw01.DecUnits", spec := "decUnits", inPlace := ["math/bits.Add64", "math/bits.Sub64", "internal/reflectlite.TypeOf"], unfollowed := true, recurses := true, named := ["math/bits.divideError", "math/bits.overflowError"], apart := false }
def DecUnitsSaid : Prop := decUnitsRow.holds Try.pinned (OpenSpec.ofChange decUnitsSpec)

/-- ITS FALSE NEIGHBOUR: 'it returns false'. Refute it at one input. -/
def decUnitsWrong : ChangeSpec := { name := "decUnits", fn := fun _ => fun
  | [d] => { results := [.lit (.bool false)], args := [d] }
  | _ => none }
def DecUnitsWrongFalsely : Prop := decUnitsRow.holds Try.pinned (OpenSpec.ofChange decUnitsWrong)

/-- 'fieldfarelaw01.DecSigns': WHATEVER THE INPUT: true; the input reads as it did. -/
def decSignsSpec : ChangeSpec := { name := "decSigns", fn := fun _ => fun
  | [d1, d2] => { results := [.lit (.bool true)], args := [d1, d2] }
  | _ => none }
def decSignsRow : OpenClaim := { program := "ytnjhmlnmdnocmaa", sum := "2f85576fbf32f7b13b291a1f340e44eb854f0114e746feec9b42de7cfe439786", func := "fieldfare/fieldfarelaw01.DecSigns", spec := "decSigns", inPlace := ["math/bits.Add64", "math/bits.Sub64", "internal/reflectlite.TypeOf"], unfollowed := true, recurses := true, named := ["math/bits.divideError", "math/bits.overflowError"], apart := false }
def DecSignsSaid : Prop := decSignsRow.holds Try.pinned (OpenSpec.ofChange decSignsSpec)

/-- ITS FALSE NEIGHBOUR: 'it returns false'. Refute it at one input. -/
def decSignsWrong : ChangeSpec := { name := "decSigns", fn := fun _ => fun
  | [d1, d2] => { results := [.lit (.bool false)], args := [d1, d2] }
  | _ => none }
def DecSignsWrongFalsely : Prop := decSignsRow.holds Try.pinned (OpenSpec.ofChange decSignsWrong)

/-- 'fieldfarelaw01.DecSums': WHATEVER THE INPUT: true; the input reads as it did. -/
def decSumsSpec : ChangeSpec := { name := "decSums", fn := fun _ => fun
  | [d1, d2] => { results := [.lit (.bool true)], args := [d1, d2] }
  | _ => none }
def decSumsRow : OpenClaim := { program := "ytnjhmlnmdnocmaa", sum := "2f85576fbf32f7b13b291a1f340e44eb854f0114e746feec9b42de7cfe439786", func := "fieldfare/fieldfarelaw01.DecSums", spec := "decSums", inPlace := ["math/bits.Add64", "math/bits.Sub64", "internal/reflectlite.TypeOf"], unfollowed := true, recurses := true, named := ["math/bits.divideError", "math/bits.overflowError"], apart := false }
def DecSumsSaid : Prop := decSumsRow.holds Try.pinned (OpenSpec.ofChange decSumsSpec)

/-- ITS FALSE NEIGHBOUR: 'it returns false'. Refute it at one input. -/
def decSumsWrong : ChangeSpec := { name := "decSums", fn := fun _ => fun
  | [d1, d2] => { results := [.lit (.bool false)], args := [d1, d2] }
  | _ => none }
def DecSumsWrongFalsely : Prop := decSumsRow.holds Try.pinned (OpenSpec.ofChange decSumsWrong)

/- THE SECOND FORM. 'bulk': how many values and letters a reading holds, each counted each time it is reached (what is shared counts as often as it is met; a slice's spare places count too). A statement '..UptoSaid' is the law's where the arguments, and the package variables that the reading takes, are together of bulk at most 1048576: NARROWER than '..Said'. Prove '..Said' where nothing that the law and all that it calls make is longer than what came in: it says more and counts as full. Else prove '..UptoSaid'. A law counts once. -/
mutual
def uptoBulk {H : Type} : DataW H → Nat
  | .lit (.string bytes) => bytes.length + 1
  | .lit _ => 1
  | .nil => 1
  | .ptr d => uptoBulk d + 1
  | .slice elems spare => uptoBulkAll elems + uptoBulkAll spare + 1
  | .agg parts => uptoBulkAll parts + 1
  | .iface _ d => uptoBulk d + 1
  | .map entries => uptoBulkEntries entries + 1
  | .held _ => 1
def uptoBulkAll {H : Type} : List (DataW H) → Nat
  | [] => 0
  | d :: r => uptoBulk d + uptoBulkAll r
def uptoBulkEntries {H : Type} : List (Lit × DataW H) → Nat
  | [] => 0
  | x :: r => uptoBulkEntry x + uptoBulkEntries r
def uptoBulkEntry {H : Type} : Lit × DataW H → Nat
  | (.string bytes, d) => bytes.length + uptoBulk d + 1
  | (_, d) => uptoBulk d + 1
 end
def uptoSmall : (H : Type) → List (DataW H) → Bool := fun _ ds => decide (uptoBulkAll ds ≤ 1048576)
def OpenSpec.upto (s : _root_.Go.ChangeSpec) : _root_.Go.OpenSpec := { _root_.Go.OpenSpec.ofChange s with cond := some uptoSmall }

/-- 'fieldfarelaw01.DecWholes', WHERE WHAT IT READS IS OF BULK AT MOST 1048576: true; the input reads as it did. -/
def decWholesUptoRow : OpenClaim := { program := "ytnjhmlnmdnocmaa", sum := "2f85576fbf32f7b13b291a1f340e44eb854f0114e746feec9b42de7cfe439786", func := "fieldfare/fieldfarelaw01.DecWholes", spec := "decWholes", inPlace := ["math/bits.Add64", "math/bits.Sub64"], named := ["math/bits.divideError", "math/bits.overflowError"], apart := false, narrowed := true }
def DecWholesUptoSaid : Prop := decWholesUptoRow.holds Try.pinned (OpenSpec.upto decWholesSpec)

/-- 'fieldfarelaw01.DecMoves', WHERE WHAT IT READS IS OF BULK AT MOST 1048576: true; the input reads as it did. -/
def decMovesUptoRow : OpenClaim := { program := "ytnjhmlnmdnocmaa", sum := "2f85576fbf32f7b13b291a1f340e44eb854f0114e746feec9b42de7cfe439786", func := "fieldfare/fieldfarelaw01.DecMoves", spec := "decMoves", inPlace := ["math/bits.Add64", "math/bits.Sub64"], named := ["math/bits.divideError", "math/bits.overflowError"], apart := false, narrowed := true }
def DecMovesUptoSaid : Prop := decMovesUptoRow.holds Try.pinned (OpenSpec.upto decMovesSpec)

/-- 'fieldfarelaw01.DecTruncs', WHERE WHAT IT READS IS OF BULK AT MOST 1048576: true; the input reads as it did. -/
def decTruncsUptoRow : OpenClaim := { program := "ytnjhmlnmdnocmaa", sum := "2f85576fbf32f7b13b291a1f340e44eb854f0114e746feec9b42de7cfe439786", func := "fieldfare/fieldfarelaw01.DecTruncs", spec := "decTruncs", inPlace := ["math/bits.Add64", "math/bits.Sub64"], named := ["math/bits.divideError", "math/bits.overflowError"], apart := false, narrowed := true }
def DecTruncsUptoSaid : Prop := decTruncsUptoRow.holds Try.pinned (OpenSpec.upto decTruncsSpec)

/-- 'fieldfarelaw01.DecUnits', WHERE WHAT IT READS IS OF BULK AT MOST 1048576: true; the input reads as it did. -/
def decUnitsUptoRow : OpenClaim := { program := "ytnjhmlnmdnocmaa", sum := "2f85576fbf32f7b13b291a1f340e44eb854f0114e746feec9b42de7cfe439786", func := "fieldfare/fieldfarelaw01.DecUnits", spec := "decUnits", inPlace := ["math/bits.Add64", "math/bits.Sub64", "internal/reflectlite.TypeOf"], unfollowed := true, recurses := true, named := ["math/bits.divideError", "math/bits.overflowError"], apart := false, narrowed := true }
def DecUnitsUptoSaid : Prop := decUnitsUptoRow.holds Try.pinned (OpenSpec.upto decUnitsSpec)

/-- 'fieldfarelaw01.DecSigns', WHERE WHAT IT READS IS OF BULK AT MOST 1048576: true; the input reads as it did. -/
def decSignsUptoRow : OpenClaim := { program := "ytnjhmlnmdnocmaa", sum := "2f85576fbf32f7b13b291a1f340e44eb854f0114e746feec9b42de7cfe439786", func := "fieldfare/fieldfarelaw01.DecSigns", spec := "decSigns", inPlace := ["math/bits.Add64", "math/bits.Sub64", "internal/reflectlite.TypeOf"], unfollowed := true, recurses := true, named := ["math/bits.divideError", "math/bits.overflowError"], apart := false, narrowed := true }
def DecSignsUptoSaid : Prop := decSignsUptoRow.holds Try.pinned (OpenSpec.upto decSignsSpec)

/-- 'fieldfarelaw01.DecSums', WHERE WHAT IT READS IS OF BULK AT MOST 1048576: true; the input reads as it did. -/
def decSumsUptoRow : OpenClaim := { program := "ytnjhmlnmdnocmaa", sum := "2f85576fbf32f7b13b291a1f340e44eb854f0114e746feec9b42de7cfe439786", func := "fieldfare/fieldfarelaw01.DecSums", spec := "decSums", inPlace := ["math/bits.Add64", "math/bits.Sub64", "internal/reflectlite.TypeOf"], unfollowed := true, recurses := true, named := ["math/bits.divideError", "math/bits.overflowError"], apart := false, narrowed := true }
def DecSumsUptoSaid : Prop := decSumsUptoRow.holds Try.pinned (OpenSpec.upto decSumsSpec)

end Rows
end Go.Proofs.Ytnjhmlnmdnocmaa
