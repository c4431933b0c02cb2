/-
  NARROWER THAN 'FOR EVERY INPUT', by the rows' own cells (each row's printed sentence says how): CellMakes: laid · CellOrders: laid · CellTexts: laid · CellSizes: laid · CellInputs: laid.
  DERIVED. THE GIVEN ROWS OF THIS SEAT. 5 by the template 'for every input the law returns true; each argument reads behind the call as it read before'; 0 by the template 'total and deterministic' (their statements: YtlfdelobjbdimaaDoorTotals.lean).
  GIVEN WITH THE SEED: the statements are not yours to turn. If you find one false, say at which input.
  Laid BY PROGRAM, IN A SANDBOX (cutbox-rows.mjs): the forced cells as the released guide's own fill.sh prints them over the translation f753b9478245bb37… (all of the seat's roots in one cut). By AI agents, Wed Nov 11 2026. No macro, syntax, notation, axiom, sorry.
-/
import Derived.Test.YtlfdelobjbdimaaDoorChecked
import GoSem.PinnedTables
import GoSem.Claim
import GoSem.ClaimJoined
import GoSem.ClaimMapViews
import Derived.JoinedTies
import Derived.KernelRfl
namespace Go.Proofs.YtlfdelobjbdimaaDoor
/- THE CELL 'sum', in the pinned program and in every row, IS THE sha256 OF THE DUMP (.gsa) THAT YtlfdelobjbdimaaDoorProg.lean LOADS. Nothing in Lean hashes anything: it is a label: what it is worth is what the hold of that sum in a sandbox is worth. -/
noncomputable def Tryd.pinned : Pinned := { name := "ytlfdelobjbdimaadoor", sum := "f753b9478245bb3700c4935c4e9b1f969137c9aa53312da7170ac25c42b7d86f", checked := Tryd.checked }
namespace Rows
def none {H : Type} : Left H := { results := [], args := [] }

/- WHAT THE LISTED PACKAGE-LEVEL VARIABLES READ AS WHEN THE CALL BEGINS. Each datum BY PROGRAM (the guide's laid-datum.mjs) off the statement by which the dump's own 'gosem.cut.vars' lays the variable. In a bare row this is a premise. The card (YtlfdelobjbdimaaDoorCards.lean) ties it to the program's text. -/
def laid_unicode_utf8_acceptRanges {H : Type} : DataW H := .agg [.agg [.lit (.int .u8 128), .lit (.int .u8 191)], .agg [.lit (.int .u8 160), .lit (.int .u8 191)], .agg [.lit (.int .u8 128), .lit (.int .u8 159)], .agg [.lit (.int .u8 144), .lit (.int .u8 191)], .agg [.lit (.int .u8 128), .lit (.int .u8 143)], .agg [.lit (.int .u8 0), .lit (.int .u8 0)], .agg [.lit (.int .u8 0), .lit (.int .u8 0)], .agg [.lit (.int .u8 0), .lit (.int .u8 0)], .agg [.lit (.int .u8 0), .lit (.int .u8 0)], .agg [.lit (.int .u8 0), .lit (.int .u8 0)], .agg [.lit (.int .u8 0), .lit (.int .u8 0)], .agg [.lit (.int .u8 0), .lit (.int .u8 0)], .agg [.lit (.int .u8 0), .lit (.int .u8 0)], .agg [.lit (.int .u8 0), .lit (.int .u8 0)], .agg [.lit (.int .u8 0), .lit (.int .u8 0)], .agg [.lit (.int .u8 0), .lit (.int .u8 0)]]
/-- One of Go's own tables, pinned by name: the form's constant. -/
def laid_unicode_utf8_first : DataW Unit := Go.Pinned.utf8First

/-- 'fieldfarelaw09.CellMakes': WHATEVER THE INPUT: true; the input reads as it did. -/
def cellMakesSpec : ChangeSpec := { name := "cellMakes", fn := fun _ => fun
  | [d1, d2] => { results := [.lit (.bool true)], args := [d1, d2] }
  | _ => none }
def cellMakesRow : OpenClaim := { program := "ytlfdelobjbdimaadoor", sum := "f753b9478245bb3700c4935c4e9b1f969137c9aa53312da7170ac25c42b7d86f", func := "fieldfare/fieldfarelaw09.CellMakes", spec := "cellMakes", inPlace := ["internal/bytealg.IndexByteString", "math/bits.Add64", "math/bits.Sub64", "internal/bytealg.IndexString", "internal/bytealg.abigen_runtime_cmpstring"], named := ["math/bits.divideError", "math/bits.overflowError", "unicode/utf8.first", "unicode/utf8.acceptRanges", "internal/bytealg.MaxLen"], apart := false, laid := [("unicode/utf8.acceptRanges", laid_unicode_utf8_acceptRanges), ("unicode/utf8.first", laid_unicode_utf8_first)] }
def CellMakesSaid : Prop := cellMakesRow.holds Tryd.pinned (OpenSpec.ofChange cellMakesSpec)

/-- ITS FALSE NEIGHBOUR: 'it returns false'. Refute it at one input. -/
def cellMakesWrong : ChangeSpec := { name := "cellMakes", fn := fun _ => fun
  | [d1, d2] => { results := [.lit (.bool false)], args := [d1, d2] }
  | _ => none }
def CellMakesWrongFalsely : Prop := cellMakesRow.holds Tryd.pinned (OpenSpec.ofChange cellMakesWrong)

/-- 'fieldfarelaw09.CellOrders': WHATEVER THE INPUT: true; the input reads as it did. -/
def cellOrdersSpec : ChangeSpec := { name := "cellOrders", fn := fun _ => fun
  | [d1, d2, d3] => { results := [.lit (.bool true)], args := [d1, d2, d3] }
  | _ => none }
def cellOrdersRow : OpenClaim := { program := "ytlfdelobjbdimaadoor", sum := "f753b9478245bb3700c4935c4e9b1f969137c9aa53312da7170ac25c42b7d86f", func := "fieldfare/fieldfarelaw09.CellOrders", spec := "cellOrders", inPlace := ["internal/bytealg.IndexByteString", "math/bits.Add64", "math/bits.Sub64", "internal/bytealg.IndexString", "internal/bytealg.abigen_runtime_cmpstring"], named := ["math/bits.divideError", "math/bits.overflowError", "unicode/utf8.first", "unicode/utf8.acceptRanges", "internal/bytealg.MaxLen"], apart := false, laid := [("unicode/utf8.acceptRanges", laid_unicode_utf8_acceptRanges), ("unicode/utf8.first", laid_unicode_utf8_first)] }
def CellOrdersSaid : Prop := cellOrdersRow.holds Tryd.pinned (OpenSpec.ofChange cellOrdersSpec)

/-- ITS FALSE NEIGHBOUR: 'it returns false'. Refute it at one input. -/
def cellOrdersWrong : ChangeSpec := { name := "cellOrders", fn := fun _ => fun
  | [d1, d2, d3] => { results := [.lit (.bool false)], args := [d1, d2, d3] }
  | _ => none }
def CellOrdersWrongFalsely : Prop := cellOrdersRow.holds Tryd.pinned (OpenSpec.ofChange cellOrdersWrong)

/-- 'fieldfarelaw09.CellTexts': WHATEVER THE INPUT: true; the input reads as it did. -/
def cellTextsSpec : ChangeSpec := { name := "cellTexts", fn := fun _ => fun
  | [d1, d2, d3] => { results := [.lit (.bool true)], args := [d1, d2, d3] }
  | _ => none }
def cellTextsRow : OpenClaim := { program := "ytlfdelobjbdimaadoor", sum := "f753b9478245bb3700c4935c4e9b1f969137c9aa53312da7170ac25c42b7d86f", func := "fieldfare/fieldfarelaw09.CellTexts", spec := "cellTexts", inPlace := ["internal/bytealg.IndexByteString", "math/bits.Add64", "math/bits.Sub64", "internal/bytealg.IndexString", "internal/bytealg.abigen_runtime_cmpstring"], named := ["math/bits.divideError", "math/bits.overflowError", "unicode/utf8.first", "unicode/utf8.acceptRanges", "internal/bytealg.MaxLen"], apart := false, laid := [("unicode/utf8.acceptRanges", laid_unicode_utf8_acceptRanges), ("unicode/utf8.first", laid_unicode_utf8_first)] }
def CellTextsSaid : Prop := cellTextsRow.holds Tryd.pinned (OpenSpec.ofChange cellTextsSpec)

/-- ITS FALSE NEIGHBOUR: 'it returns false'. Refute it at one input. -/
def cellTextsWrong : ChangeSpec := { name := "cellTexts", fn := fun _ => fun
  | [d1, d2, d3] => { results := [.lit (.bool false)], args := [d1, d2, d3] }
  | _ => none }
def CellTextsWrongFalsely : Prop := cellTextsRow.holds Tryd.pinned (OpenSpec.ofChange cellTextsWrong)

/-- 'fieldfarelaw09.CellSizes': WHATEVER THE INPUT: true; the input reads as it did. -/
def cellSizesSpec : ChangeSpec := { name := "cellSizes", fn := fun _ => fun
  | [d1, d2] => { results := [.lit (.bool true)], args := [d1, d2] }
  | _ => none }
def cellSizesRow : OpenClaim := { program := "ytlfdelobjbdimaadoor", sum := "f753b9478245bb3700c4935c4e9b1f969137c9aa53312da7170ac25c42b7d86f", func := "fieldfare/fieldfarelaw09.CellSizes", spec := "cellSizes", inPlace := ["internal/bytealg.IndexByteString", "math/bits.Add64", "math/bits.Sub64", "internal/bytealg.IndexString", "internal/bytealg.abigen_runtime_cmpstring"], named := ["math/bits.divideError", "math/bits.overflowError", "unicode/utf8.first", "unicode/utf8.acceptRanges", "internal/bytealg.MaxLen"], apart := false, laid := [("unicode/utf8.acceptRanges", laid_unicode_utf8_acceptRanges), ("unicode/utf8.first", laid_unicode_utf8_first)] }
def CellSizesSaid : Prop := cellSizesRow.holds Tryd.pinned (OpenSpec.ofChange cellSizesSpec)

/-- ITS FALSE NEIGHBOUR: 'it returns false'. Refute it at one input. -/
def cellSizesWrong : ChangeSpec := { name := "cellSizes", fn := fun _ => fun
  | [d1, d2] => { results := [.lit (.bool false)], args := [d1, d2] }
  | _ => none }
def CellSizesWrongFalsely : Prop := cellSizesRow.holds Tryd.pinned (OpenSpec.ofChange cellSizesWrong)

/-- 'fieldfarelaw09.CellInputs': WHATEVER THE INPUT: true; the input reads as it did. -/
def cellInputsSpec : ChangeSpec := { name := "cellInputs", fn := fun _ => fun
  | [d] => { results := [.lit (.bool true)], args := [d] }
  | _ => none }
def cellInputsRow : OpenClaim := { program := "ytlfdelobjbdimaadoor", sum := "f753b9478245bb3700c4935c4e9b1f969137c9aa53312da7170ac25c42b7d86f", func := "fieldfare/fieldfarelaw09.CellInputs", spec := "cellInputs", inPlace := ["internal/bytealg.IndexByteString", "math/bits.Add64", "math/bits.Sub64", "internal/bytealg.IndexString", "internal/bytealg.abigen_runtime_cmpstring", "internal/reflectlite.TypeOf"], unfollowed := true, recurses := true, named := ["math/bits.divideError", "math/bits.overflowError", "unicode/utf8.first", "unicode/utf8.acceptRanges", "internal/bytealg.MaxLen"], apart := false, laid := [("unicode/utf8.acceptRanges", laid_unicode_utf8_acceptRanges), ("unicode/utf8.first", laid_unicode_utf8_first)] }
def CellInputsSaid : Prop := cellInputsRow.holds Tryd.pinned (OpenSpec.ofChange cellInputsSpec)

/-- ITS FALSE NEIGHBOUR: 'it returns false'. Refute it at one input. -/
def cellInputsWrong : ChangeSpec := { name := "cellInputs", fn := fun _ => fun
  | [d] => { results := [.lit (.bool false)], args := [d] }
  | _ => none }
def CellInputsWrongFalsely : Prop := cellInputsRow.holds Tryd.pinned (OpenSpec.ofChange cellInputsWrong)

/- THE SECOND FORM. 'bulk': how many values and letters a reading holds, each counted each time it is reached (what is shared counts as often as it is met; a slice's spare places count too). A statement '..UptoSaid' is the law's where the arguments, and the package variables that the reading takes, are together of bulk at most 1048576: NARROWER than '..Said'. Prove '..Said' where nothing that the law and all that it calls make is longer than what came in: it says more and counts as full. Else prove '..UptoSaid'. A law counts once. -/
mutual
def uptoBulk {H : Type} : DataW H → Nat
  | .lit (.string bytes) => bytes.length + 1
  | .lit _ => 1
  | .nil => 1
  | .ptr d => uptoBulk d + 1
  | .slice elems spare => uptoBulkAll elems + uptoBulkAll spare + 1
  | .agg parts => uptoBulkAll parts + 1
  | .iface _ d => uptoBulk d + 1
  | .map entries => uptoBulkEntries entries + 1
  | .held _ => 1
def uptoBulkAll {H : Type} : List (DataW H) → Nat
  | [] => 0
  | d :: r => uptoBulk d + uptoBulkAll r
def uptoBulkEntries {H : Type} : List (Lit × DataW H) → Nat
  | [] => 0
  | x :: r => uptoBulkEntry x + uptoBulkEntries r
def uptoBulkEntry {H : Type} : Lit × DataW H → Nat
  | (.string bytes, d) => bytes.length + uptoBulk d + 1
  | (_, d) => uptoBulk d + 1
 end
def uptoSmall : (H : Type) → List (DataW H) → Bool := fun _ ds => decide (uptoBulkAll ds ≤ 1048576)
def OpenSpec.upto (s : _root_.Go.ChangeSpec) : _root_.Go.OpenSpec := { _root_.Go.OpenSpec.ofChange s with cond := some uptoSmall }

/-- 'fieldfarelaw09.CellMakes', WHERE WHAT IT READS IS OF BULK AT MOST 1048576: true; the input reads as it did. -/
def cellMakesUptoRow : OpenClaim := { program := "ytlfdelobjbdimaadoor", sum := "f753b9478245bb3700c4935c4e9b1f969137c9aa53312da7170ac25c42b7d86f", func := "fieldfare/fieldfarelaw09.CellMakes", spec := "cellMakes", inPlace := ["internal/bytealg.IndexByteString", "math/bits.Add64", "math/bits.Sub64", "internal/bytealg.IndexString", "internal/bytealg.abigen_runtime_cmpstring"], named := ["math/bits.divideError", "math/bits.overflowError", "unicode/utf8.first", "unicode/utf8.acceptRanges", "internal/bytealg.MaxLen"], apart := false, laid := [("unicode/utf8.acceptRanges", laid_unicode_utf8_acceptRanges), ("unicode/utf8.first", laid_unicode_utf8_first)], narrowed := true }
def CellMakesUptoSaid : Prop := cellMakesUptoRow.holds Tryd.pinned (OpenSpec.upto cellMakesSpec)

/-- 'fieldfarelaw09.CellOrders', WHERE WHAT IT READS IS OF BULK AT MOST 1048576: true; the input reads as it did. -/
def cellOrdersUptoRow : OpenClaim := { program := "ytlfdelobjbdimaadoor", sum := "f753b9478245bb3700c4935c4e9b1f969137c9aa53312da7170ac25c42b7d86f", func := "fieldfare/fieldfarelaw09.CellOrders", spec := "cellOrders", inPlace := ["internal/bytealg.IndexByteString", "math/bits.Add64", "math/bits.Sub64", "internal/bytealg.IndexString", "internal/bytealg.abigen_runtime_cmpstring"], named := ["math/bits.divideError", "math/bits.overflowError", "unicode/utf8.first", "unicode/utf8.acceptRanges", "internal/bytealg.MaxLen"], apart := false, laid := [("unicode/utf8.acceptRanges", laid_unicode_utf8_acceptRanges), ("unicode/utf8.first", laid_unicode_utf8_first)], narrowed := true }
def CellOrdersUptoSaid : Prop := cellOrdersUptoRow.holds Tryd.pinned (OpenSpec.upto cellOrdersSpec)

/-- 'fieldfarelaw09.CellTexts', WHERE WHAT IT READS IS OF BULK AT MOST 1048576: true; the input reads as it did. -/
def cellTextsUptoRow : OpenClaim := { program := "ytlfdelobjbdimaadoor", sum := "f753b9478245bb3700c4935c4e9b1f969137c9aa53312da7170ac25c42b7d86f", func := "fieldfare/fieldfarelaw09.CellTexts", spec := "cellTexts", inPlace := ["internal/bytealg.IndexByteString", "math/bits.Add64", "math/bits.Sub64", "internal/bytealg.IndexString", "internal/bytealg.abigen_runtime_cmpstring"], named := ["math/bits.divideError", "math/bits.overflowError", "unicode/utf8.first", "unicode/utf8.acceptRanges", "internal/bytealg.MaxLen"], apart := false, laid := [("unicode/utf8.acceptRanges", laid_unicode_utf8_acceptRanges), ("unicode/utf8.first", laid_unicode_utf8_first)], narrowed := true }
def CellTextsUptoSaid : Prop := cellTextsUptoRow.holds Tryd.pinned (OpenSpec.upto cellTextsSpec)

/-- 'fieldfarelaw09.CellSizes', WHERE WHAT IT READS IS OF BULK AT MOST 1048576: true; the input reads as it did. -/
def cellSizesUptoRow : OpenClaim := { program := "ytlfdelobjbdimaadoor", sum := "f753b9478245bb3700c4935c4e9b1f969137c9aa53312da7170ac25c42b7d86f", func := "fieldfare/fieldfarelaw09.CellSizes", spec := "cellSizes", inPlace := ["internal/bytealg.IndexByteString", "math/bits.Add64", "math/bits.Sub64", "internal/bytealg.IndexString", "internal/bytealg.abigen_runtime_cmpstring"], named := ["math/bits.divideError", "math/bits.overflowError", "unicode/utf8.first", "unicode/utf8.acceptRanges", "internal/bytealg.MaxLen"], apart := false, laid := [("unicode/utf8.acceptRanges", laid_unicode_utf8_acceptRanges), ("unicode/utf8.first", laid_unicode_utf8_first)], narrowed := true }
def CellSizesUptoSaid : Prop := cellSizesUptoRow.holds Tryd.pinned (OpenSpec.upto cellSizesSpec)

/-- 'fieldfarelaw09.CellInputs', WHERE WHAT IT READS IS OF BULK AT MOST 1048576: true; the input reads as it did. -/
def cellInputsUptoRow : OpenClaim := { program := "ytlfdelobjbdimaadoor", sum := "f753b9478245bb3700c4935c4e9b1f969137c9aa53312da7170ac25c42b7d86f", func := "fieldfare/fieldfarelaw09.CellInputs", spec := "cellInputs", inPlace := ["internal/bytealg.IndexByteString", "math/bits.Add64", "math/bits.Sub64", "internal/bytealg.IndexString", "internal/bytealg.abigen_runtime_cmpstring", "internal/reflectlite.TypeOf"], unfollowed := true, recurses := true, named := ["math/bits.divideError", "math/bits.overflowError", "unicode/utf8.first", "unicode/utf8.acceptRanges", "internal/bytealg.MaxLen"], apart := false, laid := [("unicode/utf8.acceptRanges", laid_unicode_utf8_acceptRanges), ("unicode/utf8.first", laid_unicode_utf8_first)], narrowed := true }
def CellInputsUptoSaid : Prop := cellInputsUptoRow.holds Tryd.pinned (OpenSpec.upto cellInputsSpec)

end Rows
end Go.Proofs.YtlfdelobjbdimaaDoor
