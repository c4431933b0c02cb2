/-
  DERIVED. GIVEN WITH THE SEED: THE CARDS: each row of YtlfdelobjbdimaaDoorRows.lean that lists a variable, with what it lists TIED to the program's text (the seventh form; the later family's looks); each row that meets fmt, with fmt's text TOLD by the authors' own Lean function (tested against real Go, not proved from fmt's source: count such statements apart). THE CARD IS WHAT COUNTS. Prove the row's statement (the work); the ties are given (YtlfdelobjbdimaaDoorTie.lean); close each card by the builder's one call (the guide's Derived/Test/ToyasCard.lean, 'card_holds'). Laid BY PROGRAM, IN A SANDBOX (cutbox-door.mjs). By AI agents, Wed Nov 11 2026. No macro, syntax, notation, axiom, sorry.
-/
import Derived.Test.YtlfdelobjbdimaaDoorRows
import GoSem.ClaimSeven
namespace Go.Proofs.YtlfdelobjbdimaaDoor
namespace Rows

/-- THE TIED CARD OF 'fieldfarelaw09.CellMakes'. -/
def cellMakesCard : Claim7 := { stood := { row := cellMakesRow, standIns := [], harness := (true, "40eb0bdc9eac643725827aa23e16a531a1cc7e44f9e29d5b225228093539ca4e"), looks := true }, kinds := [], alts := [], laidByText := true, laidKinds := [.data, .pinned], laidTests := true, laidLooks := .later }
def CellMakesCardSaid : Prop := Claim7.holds Tryd.pinned (.plain (OpenSpec.ofChange cellMakesSpec)) cellMakesCard

/-- THE TIED CARD OF 'fieldfarelaw09.CellOrders'. -/
def cellOrdersCard : Claim7 := { stood := { row := cellOrdersRow, standIns := [], harness := (true, "40eb0bdc9eac643725827aa23e16a531a1cc7e44f9e29d5b225228093539ca4e"), looks := true }, kinds := [], alts := [], laidByText := true, laidKinds := [.data, .pinned], laidTests := true, laidLooks := .later }
def CellOrdersCardSaid : Prop := Claim7.holds Tryd.pinned (.plain (OpenSpec.ofChange cellOrdersSpec)) cellOrdersCard

/-- THE TIED CARD OF 'fieldfarelaw09.CellTexts'. -/
def cellTextsCard : Claim7 := { stood := { row := cellTextsRow, standIns := [], harness := (true, "40eb0bdc9eac643725827aa23e16a531a1cc7e44f9e29d5b225228093539ca4e"), looks := true }, kinds := [], alts := [], laidByText := true, laidKinds := [.data, .pinned], laidTests := true, laidLooks := .later }
def CellTextsCardSaid : Prop := Claim7.holds Tryd.pinned (.plain (OpenSpec.ofChange cellTextsSpec)) cellTextsCard

/-- THE TIED CARD OF 'fieldfarelaw09.CellSizes'. -/
def cellSizesCard : Claim7 := { stood := { row := cellSizesRow, standIns := [], harness := (true, "40eb0bdc9eac643725827aa23e16a531a1cc7e44f9e29d5b225228093539ca4e"), looks := true }, kinds := [], alts := [], laidByText := true, laidKinds := [.data, .pinned], laidTests := true, laidLooks := .later }
def CellSizesCardSaid : Prop := Claim7.holds Tryd.pinned (.plain (OpenSpec.ofChange cellSizesSpec)) cellSizesCard

/-- THE TIED CARD OF 'fieldfarelaw09.CellInputs'. -/
def cellInputsCard : Claim7 := { stood := { row := cellInputsRow, standIns := [], harness := (true, "40eb0bdc9eac643725827aa23e16a531a1cc7e44f9e29d5b225228093539ca4e"), looks := true }, kinds := [], alts := [], laidByText := true, laidKinds := [.data, .pinned], laidTests := true, laidLooks := .later }
def CellInputsCardSaid : Prop := Claim7.holds Tryd.pinned (.plain (OpenSpec.ofChange cellInputsSpec)) cellInputsCard

/-- THE SECOND FORM's CARD OF 'fieldfarelaw09.CellMakes'. -/
def cellMakesUptoCard : Claim7 := { stood := { row := cellMakesUptoRow, standIns := [], harness := (true, "40eb0bdc9eac643725827aa23e16a531a1cc7e44f9e29d5b225228093539ca4e"), looks := true }, kinds := [], alts := [], laidByText := true, laidKinds := [.data, .pinned], laidTests := true, laidLooks := .later }
def CellMakesUptoCardSaid : Prop := Claim7.holds Tryd.pinned (.plain (OpenSpec.upto cellMakesSpec)) cellMakesUptoCard

/-- THE SECOND FORM's CARD OF 'fieldfarelaw09.CellOrders'. -/
def cellOrdersUptoCard : Claim7 := { stood := { row := cellOrdersUptoRow, standIns := [], harness := (true, "40eb0bdc9eac643725827aa23e16a531a1cc7e44f9e29d5b225228093539ca4e"), looks := true }, kinds := [], alts := [], laidByText := true, laidKinds := [.data, .pinned], laidTests := true, laidLooks := .later }
def CellOrdersUptoCardSaid : Prop := Claim7.holds Tryd.pinned (.plain (OpenSpec.upto cellOrdersSpec)) cellOrdersUptoCard

/-- THE SECOND FORM's CARD OF 'fieldfarelaw09.CellTexts'. -/
def cellTextsUptoCard : Claim7 := { stood := { row := cellTextsUptoRow, standIns := [], harness := (true, "40eb0bdc9eac643725827aa23e16a531a1cc7e44f9e29d5b225228093539ca4e"), looks := true }, kinds := [], alts := [], laidByText := true, laidKinds := [.data, .pinned], laidTests := true, laidLooks := .later }
def CellTextsUptoCardSaid : Prop := Claim7.holds Tryd.pinned (.plain (OpenSpec.upto cellTextsSpec)) cellTextsUptoCard

/-- THE SECOND FORM's CARD OF 'fieldfarelaw09.CellSizes'. -/
def cellSizesUptoCard : Claim7 := { stood := { row := cellSizesUptoRow, standIns := [], harness := (true, "40eb0bdc9eac643725827aa23e16a531a1cc7e44f9e29d5b225228093539ca4e"), looks := true }, kinds := [], alts := [], laidByText := true, laidKinds := [.data, .pinned], laidTests := true, laidLooks := .later }
def CellSizesUptoCardSaid : Prop := Claim7.holds Tryd.pinned (.plain (OpenSpec.upto cellSizesSpec)) cellSizesUptoCard

/-- THE SECOND FORM's CARD OF 'fieldfarelaw09.CellInputs'. -/
def cellInputsUptoCard : Claim7 := { stood := { row := cellInputsUptoRow, standIns := [], harness := (true, "40eb0bdc9eac643725827aa23e16a531a1cc7e44f9e29d5b225228093539ca4e"), looks := true }, kinds := [], alts := [], laidByText := true, laidKinds := [.data, .pinned], laidTests := true, laidLooks := .later }
def CellInputsUptoCardSaid : Prop := Claim7.holds Tryd.pinned (.plain (OpenSpec.upto cellInputsSpec)) cellInputsUptoCard
end Rows
end Go.Proofs.YtlfdelobjbdimaaDoor
