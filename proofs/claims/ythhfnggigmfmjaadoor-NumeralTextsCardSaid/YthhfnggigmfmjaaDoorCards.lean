/-
  DERIVED. GIVEN WITH THE SEED: THE CARDS: each row of YthhfnggigmfmjaaDoorRows.lean that lists a variable, with what it lists TIED to the program's text (the seventh form; the later family's looks); each row that meets fmt, with fmt's text TOLD by the authors' own Lean function (tested against real Go, not proved from fmt's source: count such statements apart). THE CARD IS WHAT COUNTS. Prove the row's statement (the work); the ties are given (YthhfnggigmfmjaaDoorTie.lean); close each card by the builder's one call (the guide's Derived/Test/ToyasCard.lean, 'card_holds'). Laid BY PROGRAM, IN A SANDBOX (cutbox-door.mjs). By AI agents, Wed Nov 11 2026. No macro, syntax, notation, axiom, sorry.
-/
import Derived.Test.YthhfnggigmfmjaaDoorRows
import GoSem.ClaimSeven
namespace Go.Proofs.YthhfnggigmfmjaaDoor
namespace Rows

/-- THE TIED CARD OF 'fieldfarelaw02.NumeralTexts'. -/
def numeralTextsCard : Claim7 := { stood := { row := numeralTextsRow, standIns := [], harness := (true, "365c579e706c90ba6cde6234c126f1af3265ae33d989b0233398bee457fbd5b0"), looks := true }, kinds := [], alts := [], laidByText := true, laidKinds := [.data, .pinned], laidTests := true, laidLooks := .later }
def NumeralTextsCardSaid : Prop := Claim7.holds Tryd.pinned (.plain (OpenSpec.ofChange numeralTextsSpec)) numeralTextsCard

/-- THE TIED CARD OF 'fieldfarelaw02.NumeralLooks'. -/
def numeralLooksCard : Claim7 := { stood := { row := numeralLooksRow, standIns := [], harness := (true, "365c579e706c90ba6cde6234c126f1af3265ae33d989b0233398bee457fbd5b0"), looks := true }, kinds := [], alts := [], laidByText := true, laidKinds := [.data, .pinned], laidTests := true, laidLooks := .later }
def NumeralLooksCardSaid : Prop := Claim7.holds Tryd.pinned (.plain (OpenSpec.ofChange numeralLooksSpec)) numeralLooksCard

/-- THE TIED CARD OF 'fieldfarelaw02.NumeralSums'. -/
def numeralSumsCard : Claim7 := { stood := { row := numeralSumsRow, standIns := [], harness := (true, "365c579e706c90ba6cde6234c126f1af3265ae33d989b0233398bee457fbd5b0"), looks := true }, kinds := [], alts := [], laidByText := true, laidKinds := [.data, .pinned], laidTests := true, laidLooks := .later }
def NumeralSumsCardSaid : Prop := Claim7.holds Tryd.pinned (.plain (OpenSpec.ofChange numeralSumsSpec)) numeralSumsCard

/-- THE TIED CARD OF 'fieldfarelaw02.NumeralInts'. -/
def numeralIntsCard : Claim7 := { stood := { row := numeralIntsRow, standIns := [], harness := (true, "365c579e706c90ba6cde6234c126f1af3265ae33d989b0233398bee457fbd5b0"), looks := true }, kinds := [], alts := [], laidByText := true, laidKinds := [.data, .pinned], laidTests := true, laidLooks := .later }
def NumeralIntsCardSaid : Prop := Claim7.holds Tryd.pinned (.plain (OpenSpec.ofChange numeralIntsSpec)) numeralIntsCard

/-- THE TIED CARD OF 'fieldfarelaw02.NumeralReads'. -/
def numeralReadsCard : Claim7 := { stood := { row := numeralReadsRow, standIns := [], harness := (true, "365c579e706c90ba6cde6234c126f1af3265ae33d989b0233398bee457fbd5b0"), looks := true }, kinds := [], alts := [], laidByText := true, laidKinds := [.data, .pinned], laidTests := true, laidLooks := .later }
def NumeralReadsCardSaid : Prop := Claim7.holds Tryd.pinned (.plain (OpenSpec.ofChange numeralReadsSpec)) numeralReadsCard

/-- THE TIED CARD OF 'fieldfarelaw02.NumeralBlanks'. -/
def numeralBlanksCard : Claim7 := { stood := { row := numeralBlanksRow, standIns := [], harness := (true, "365c579e706c90ba6cde6234c126f1af3265ae33d989b0233398bee457fbd5b0"), looks := true }, kinds := [], alts := [], laidByText := true, laidKinds := [.data, .pinned], laidTests := true, laidLooks := .later }
def NumeralBlanksCardSaid : Prop := Claim7.holds Tryd.pinned (.plain (OpenSpec.ofChange numeralBlanksSpec)) numeralBlanksCard

/-- THE SECOND FORM's CARD OF 'fieldfarelaw02.NumeralTexts'. -/
def numeralTextsUptoCard : Claim7 := { stood := { row := numeralTextsUptoRow, standIns := [], harness := (true, "365c579e706c90ba6cde6234c126f1af3265ae33d989b0233398bee457fbd5b0"), looks := true }, kinds := [], alts := [], laidByText := true, laidKinds := [.data, .pinned], laidTests := true, laidLooks := .later }
def NumeralTextsUptoCardSaid : Prop := Claim7.holds Tryd.pinned (.plain (OpenSpec.upto numeralTextsSpec)) numeralTextsUptoCard

/-- THE SECOND FORM's CARD OF 'fieldfarelaw02.NumeralLooks'. -/
def numeralLooksUptoCard : Claim7 := { stood := { row := numeralLooksUptoRow, standIns := [], harness := (true, "365c579e706c90ba6cde6234c126f1af3265ae33d989b0233398bee457fbd5b0"), looks := true }, kinds := [], alts := [], laidByText := true, laidKinds := [.data, .pinned], laidTests := true, laidLooks := .later }
def NumeralLooksUptoCardSaid : Prop := Claim7.holds Tryd.pinned (.plain (OpenSpec.upto numeralLooksSpec)) numeralLooksUptoCard

/-- THE SECOND FORM's CARD OF 'fieldfarelaw02.NumeralSums'. -/
def numeralSumsUptoCard : Claim7 := { stood := { row := numeralSumsUptoRow, standIns := [], harness := (true, "365c579e706c90ba6cde6234c126f1af3265ae33d989b0233398bee457fbd5b0"), looks := true }, kinds := [], alts := [], laidByText := true, laidKinds := [.data, .pinned], laidTests := true, laidLooks := .later }
def NumeralSumsUptoCardSaid : Prop := Claim7.holds Tryd.pinned (.plain (OpenSpec.upto numeralSumsSpec)) numeralSumsUptoCard

/-- THE SECOND FORM's CARD OF 'fieldfarelaw02.NumeralInts'. -/
def numeralIntsUptoCard : Claim7 := { stood := { row := numeralIntsUptoRow, standIns := [], harness := (true, "365c579e706c90ba6cde6234c126f1af3265ae33d989b0233398bee457fbd5b0"), looks := true }, kinds := [], alts := [], laidByText := true, laidKinds := [.data, .pinned], laidTests := true, laidLooks := .later }
def NumeralIntsUptoCardSaid : Prop := Claim7.holds Tryd.pinned (.plain (OpenSpec.upto numeralIntsSpec)) numeralIntsUptoCard

/-- THE SECOND FORM's CARD OF 'fieldfarelaw02.NumeralReads'. -/
def numeralReadsUptoCard : Claim7 := { stood := { row := numeralReadsUptoRow, standIns := [], harness := (true, "365c579e706c90ba6cde6234c126f1af3265ae33d989b0233398bee457fbd5b0"), looks := true }, kinds := [], alts := [], laidByText := true, laidKinds := [.data, .pinned], laidTests := true, laidLooks := .later }
def NumeralReadsUptoCardSaid : Prop := Claim7.holds Tryd.pinned (.plain (OpenSpec.upto numeralReadsSpec)) numeralReadsUptoCard

/-- THE SECOND FORM's CARD OF 'fieldfarelaw02.NumeralBlanks'. -/
def numeralBlanksUptoCard : Claim7 := { stood := { row := numeralBlanksUptoRow, standIns := [], harness := (true, "365c579e706c90ba6cde6234c126f1af3265ae33d989b0233398bee457fbd5b0"), looks := true }, kinds := [], alts := [], laidByText := true, laidKinds := [.data, .pinned], laidTests := true, laidLooks := .later }
def NumeralBlanksUptoCardSaid : Prop := Claim7.holds Tryd.pinned (.plain (OpenSpec.upto numeralBlanksSpec)) numeralBlanksUptoCard
end Rows
end Go.Proofs.YthhfnggigmfmjaaDoor
