/-
  NARROWER THAN 'FOR EVERY INPUT', by the rows' own cells (each row's printed sentence says how): NumeralTexts: laid · NumeralLooks: laid · NumeralSums: laid · NumeralInts: laid · NumeralReads: laid · NumeralBlanks: laid.
  DERIVED. THE GIVEN ROWS OF THIS SEAT. 6 by the template 'for every input the law returns true; each argument reads behind the call as it read before'; 0 by the template 'total and deterministic' (their statements: YthhfnggigmfmjaaDoorTotals.lean).
  GIVEN WITH THE SEED: the statements are not yours to turn. If you find one false, say at which input.
  Laid BY PROGRAM, IN A SANDBOX (cutbox-rows.mjs): the forced cells as the released guide's own fill.sh prints them over the translation 7c982fa8f1fc981f… (all of the seat's roots in one cut). By AI agents, Wed Nov 11 2026. No macro, syntax, notation, axiom, sorry.
-/
import Derived.Test.YthhfnggigmfmjaaDoorChecked
import GoSem.PinnedTables
import GoSem.Claim
import GoSem.ClaimJoined
import GoSem.ClaimMapViews
import Derived.JoinedTies
import Derived.KernelRfl
namespace Go.Proofs.YthhfnggigmfmjaaDoor
/- THE CELL 'sum', in the pinned program and in every row, IS THE sha256 OF THE DUMP (.gsa) THAT YthhfnggigmfmjaaDoorProg.lean LOADS. Nothing in Lean hashes anything: it is a label: what it is worth is what the hold of that sum in a sandbox is worth. -/
noncomputable def Tryd.pinned : Pinned := { name := "ythhfnggigmfmjaadoor", sum := "7c982fa8f1fc981f68224c2eacef9941c690798a378e7727f041a39e7e9ac77f", checked := Tryd.checked }
namespace Rows
def none {H : Type} : Left H := { results := [], args := [] }

/- WHAT THE LISTED PACKAGE-LEVEL VARIABLES READ AS WHEN THE CALL BEGINS. Each datum BY PROGRAM (the guide's laid-datum.mjs) off the statement by which the dump's own 'gosem.cut.vars' lays the variable. In a bare row this is a premise. The card (YthhfnggigmfmjaaDoorCards.lean) ties it to the program's text. -/
def laid_unicode_utf8_acceptRanges {H : Type} : DataW H := .agg [.agg [.lit (.int .u8 128), .lit (.int .u8 191)], .agg [.lit (.int .u8 160), .lit (.int .u8 191)], .agg [.lit (.int .u8 128), .lit (.int .u8 159)], .agg [.lit (.int .u8 144), .lit (.int .u8 191)], .agg [.lit (.int .u8 128), .lit (.int .u8 143)], .agg [.lit (.int .u8 0), .lit (.int .u8 0)], .agg [.lit (.int .u8 0), .lit (.int .u8 0)], .agg [.lit (.int .u8 0), .lit (.int .u8 0)], .agg [.lit (.int .u8 0), .lit (.int .u8 0)], .agg [.lit (.int .u8 0), .lit (.int .u8 0)], .agg [.lit (.int .u8 0), .lit (.int .u8 0)], .agg [.lit (.int .u8 0), .lit (.int .u8 0)], .agg [.lit (.int .u8 0), .lit (.int .u8 0)], .agg [.lit (.int .u8 0), .lit (.int .u8 0)], .agg [.lit (.int .u8 0), .lit (.int .u8 0)], .agg [.lit (.int .u8 0), .lit (.int .u8 0)]]
/-- One of Go's own tables, pinned by name: the form's constant. -/
def laid_unicode_utf8_first : DataW Unit := Go.Pinned.utf8First

/-- 'fieldfarelaw02.NumeralTexts': WHATEVER THE INPUT: true; the input reads as it did. -/
def numeralTextsSpec : ChangeSpec := { name := "numeralTexts", fn := fun _ => fun
  | [d1, d2] => { results := [.lit (.bool true)], args := [d1, d2] }
  | _ => none }
def numeralTextsRow : OpenClaim := { program := "ythhfnggigmfmjaadoor", sum := "7c982fa8f1fc981f68224c2eacef9941c690798a378e7727f041a39e7e9ac77f", func := "fieldfare/fieldfarelaw02.NumeralTexts", spec := "numeralTexts", inPlace := ["internal/bytealg.IndexByteString", "math/bits.Add64", "math/bits.Sub64", "internal/bytealg.IndexString"], named := ["math/bits.divideError", "math/bits.overflowError", "unicode/utf8.first", "unicode/utf8.acceptRanges", "internal/bytealg.MaxLen"], apart := false, laid := [("unicode/utf8.acceptRanges", laid_unicode_utf8_acceptRanges), ("unicode/utf8.first", laid_unicode_utf8_first)] }
def NumeralTextsSaid : Prop := numeralTextsRow.holds Tryd.pinned (OpenSpec.ofChange numeralTextsSpec)

/-- ITS FALSE NEIGHBOUR: 'it returns false'. Refute it at one input. -/
def numeralTextsWrong : ChangeSpec := { name := "numeralTexts", fn := fun _ => fun
  | [d1, d2] => { results := [.lit (.bool false)], args := [d1, d2] }
  | _ => none }
def NumeralTextsWrongFalsely : Prop := numeralTextsRow.holds Tryd.pinned (OpenSpec.ofChange numeralTextsWrong)

/-- 'fieldfarelaw02.NumeralLooks': WHATEVER THE INPUT: true; the input reads as it did. -/
def numeralLooksSpec : ChangeSpec := { name := "numeralLooks", fn := fun _ => fun
  | [d] => { results := [.lit (.bool true)], args := [d] }
  | _ => none }
def numeralLooksRow : OpenClaim := { program := "ythhfnggigmfmjaadoor", sum := "7c982fa8f1fc981f68224c2eacef9941c690798a378e7727f041a39e7e9ac77f", func := "fieldfare/fieldfarelaw02.NumeralLooks", spec := "numeralLooks", inPlace := ["internal/bytealg.IndexByteString", "math/bits.Add64", "math/bits.Sub64", "internal/bytealg.IndexString"], named := ["math/bits.divideError", "math/bits.overflowError", "unicode/utf8.first", "unicode/utf8.acceptRanges", "internal/bytealg.MaxLen"], apart := false, laid := [("unicode/utf8.acceptRanges", laid_unicode_utf8_acceptRanges), ("unicode/utf8.first", laid_unicode_utf8_first)] }
def NumeralLooksSaid : Prop := numeralLooksRow.holds Tryd.pinned (OpenSpec.ofChange numeralLooksSpec)

/-- ITS FALSE NEIGHBOUR: 'it returns false'. Refute it at one input. -/
def numeralLooksWrong : ChangeSpec := { name := "numeralLooks", fn := fun _ => fun
  | [d] => { results := [.lit (.bool false)], args := [d] }
  | _ => none }
def NumeralLooksWrongFalsely : Prop := numeralLooksRow.holds Tryd.pinned (OpenSpec.ofChange numeralLooksWrong)

/-- 'fieldfarelaw02.NumeralSums': WHATEVER THE INPUT: true; the input reads as it did. -/
def numeralSumsSpec : ChangeSpec := { name := "numeralSums", fn := fun _ => fun
  | [d1, d2, d3] => { results := [.lit (.bool true)], args := [d1, d2, d3] }
  | _ => none }
def numeralSumsRow : OpenClaim := { program := "ythhfnggigmfmjaadoor", sum := "7c982fa8f1fc981f68224c2eacef9941c690798a378e7727f041a39e7e9ac77f", func := "fieldfare/fieldfarelaw02.NumeralSums", spec := "numeralSums", inPlace := ["internal/bytealg.IndexByteString", "math/bits.Add64", "math/bits.Sub64", "internal/bytealg.IndexString"], named := ["math/bits.divideError", "math/bits.overflowError", "unicode/utf8.first", "unicode/utf8.acceptRanges", "internal/bytealg.MaxLen"], apart := false, laid := [("unicode/utf8.acceptRanges", laid_unicode_utf8_acceptRanges), ("unicode/utf8.first", laid_unicode_utf8_first)] }
def NumeralSumsSaid : Prop := numeralSumsRow.holds Tryd.pinned (OpenSpec.ofChange numeralSumsSpec)

/-- ITS FALSE NEIGHBOUR: 'it returns false'. Refute it at one input. -/
def numeralSumsWrong : ChangeSpec := { name := "numeralSums", fn := fun _ => fun
  | [d1, d2, d3] => { results := [.lit (.bool false)], args := [d1, d2, d3] }
  | _ => none }
def NumeralSumsWrongFalsely : Prop := numeralSumsRow.holds Tryd.pinned (OpenSpec.ofChange numeralSumsWrong)

/-- 'fieldfarelaw02.NumeralInts': WHATEVER THE INPUT: true; the input reads as it did. -/
def numeralIntsSpec : ChangeSpec := { name := "numeralInts", fn := fun _ => fun
  | [d] => { results := [.lit (.bool true)], args := [d] }
  | _ => none }
def numeralIntsRow : OpenClaim := { program := "ythhfnggigmfmjaadoor", sum := "7c982fa8f1fc981f68224c2eacef9941c690798a378e7727f041a39e7e9ac77f", func := "fieldfare/fieldfarelaw02.NumeralInts", spec := "numeralInts", inPlace := ["internal/bytealg.IndexByteString", "math/bits.Add64", "math/bits.Sub64", "internal/bytealg.IndexString"], named := ["math/bits.divideError", "math/bits.overflowError", "unicode/utf8.first", "unicode/utf8.acceptRanges", "internal/bytealg.MaxLen"], apart := false, laid := [("unicode/utf8.acceptRanges", laid_unicode_utf8_acceptRanges), ("unicode/utf8.first", laid_unicode_utf8_first)] }
def NumeralIntsSaid : Prop := numeralIntsRow.holds Tryd.pinned (OpenSpec.ofChange numeralIntsSpec)

/-- ITS FALSE NEIGHBOUR: 'it returns false'. Refute it at one input. -/
def numeralIntsWrong : ChangeSpec := { name := "numeralInts", fn := fun _ => fun
  | [d] => { results := [.lit (.bool false)], args := [d] }
  | _ => none }
def NumeralIntsWrongFalsely : Prop := numeralIntsRow.holds Tryd.pinned (OpenSpec.ofChange numeralIntsWrong)

/-- 'fieldfarelaw02.NumeralReads': WHATEVER THE INPUT: true; the input reads as it did. -/
def numeralReadsSpec : ChangeSpec := { name := "numeralReads", fn := fun _ => fun
  | [d] => { results := [.lit (.bool true)], args := [d] }
  | _ => none }
def numeralReadsRow : OpenClaim := { program := "ythhfnggigmfmjaadoor", sum := "7c982fa8f1fc981f68224c2eacef9941c690798a378e7727f041a39e7e9ac77f", func := "fieldfare/fieldfarelaw02.NumeralReads", spec := "numeralReads", inPlace := ["internal/bytealg.IndexByteString", "math/bits.Add64", "math/bits.Sub64", "internal/bytealg.IndexString", "internal/reflectlite.TypeOf"], unfollowed := true, recurses := true, named := ["math/bits.divideError", "math/bits.overflowError", "unicode/utf8.first", "unicode/utf8.acceptRanges", "internal/bytealg.MaxLen"], apart := false, laid := [("unicode/utf8.acceptRanges", laid_unicode_utf8_acceptRanges), ("unicode/utf8.first", laid_unicode_utf8_first)] }
def NumeralReadsSaid : Prop := numeralReadsRow.holds Tryd.pinned (OpenSpec.ofChange numeralReadsSpec)

/-- ITS FALSE NEIGHBOUR: 'it returns false'. Refute it at one input. -/
def numeralReadsWrong : ChangeSpec := { name := "numeralReads", fn := fun _ => fun
  | [d] => { results := [.lit (.bool false)], args := [d] }
  | _ => none }
def NumeralReadsWrongFalsely : Prop := numeralReadsRow.holds Tryd.pinned (OpenSpec.ofChange numeralReadsWrong)

/-- 'fieldfarelaw02.NumeralBlanks': WHATEVER THE INPUT: true; the input reads as it did. -/
def numeralBlanksSpec : ChangeSpec := { name := "numeralBlanks", fn := fun _ => fun
  | [d1, d2] => { results := [.lit (.bool true)], args := [d1, d2] }
  | _ => none }
def numeralBlanksRow : OpenClaim := { program := "ythhfnggigmfmjaadoor", sum := "7c982fa8f1fc981f68224c2eacef9941c690798a378e7727f041a39e7e9ac77f", func := "fieldfare/fieldfarelaw02.NumeralBlanks", spec := "numeralBlanks", inPlace := ["internal/bytealg.IndexByteString", "math/bits.Add64", "math/bits.Sub64", "internal/bytealg.IndexString", "internal/reflectlite.TypeOf"], unfollowed := true, recurses := true, named := ["math/bits.divideError", "math/bits.overflowError", "unicode/utf8.first", "unicode/utf8.acceptRanges", "internal/bytealg.MaxLen"], apart := false, laid := [("unicode/utf8.acceptRanges", laid_unicode_utf8_acceptRanges), ("unicode/utf8.first", laid_unicode_utf8_first)] }
def NumeralBlanksSaid : Prop := numeralBlanksRow.holds Tryd.pinned (OpenSpec.ofChange numeralBlanksSpec)

/-- ITS FALSE NEIGHBOUR: 'it returns false'. Refute it at one input. -/
def numeralBlanksWrong : ChangeSpec := { name := "numeralBlanks", fn := fun _ => fun
  | [d1, d2] => { results := [.lit (.bool false)], args := [d1, d2] }
  | _ => none }
def NumeralBlanksWrongFalsely : Prop := numeralBlanksRow.holds Tryd.pinned (OpenSpec.ofChange numeralBlanksWrong)

/- THE SECOND FORM. 'bulk': how many values and letters a reading holds, each counted each time it is reached (what is shared counts as often as it is met; a slice's spare places count too). A statement '..UptoSaid' is the law's where the arguments, and the package variables that the reading takes, are together of bulk at most 1048576: NARROWER than '..Said'. Prove '..Said' where nothing that the law and all that it calls make is longer than what came in: it says more and counts as full. Else prove '..UptoSaid'. A law counts once. -/
mutual
def uptoBulk {H : Type} : DataW H → Nat
  | .lit (.string bytes) => bytes.length + 1
  | .lit _ => 1
  | .nil => 1
  | .ptr d => uptoBulk d + 1
  | .slice elems spare => uptoBulkAll elems + uptoBulkAll spare + 1
  | .agg parts => uptoBulkAll parts + 1
  | .iface _ d => uptoBulk d + 1
  | .map entries => uptoBulkEntries entries + 1
  | .held _ => 1
def uptoBulkAll {H : Type} : List (DataW H) → Nat
  | [] => 0
  | d :: r => uptoBulk d + uptoBulkAll r
def uptoBulkEntries {H : Type} : List (Lit × DataW H) → Nat
  | [] => 0
  | x :: r => uptoBulkEntry x + uptoBulkEntries r
def uptoBulkEntry {H : Type} : Lit × DataW H → Nat
  | (.string bytes, d) => bytes.length + uptoBulk d + 1
  | (_, d) => uptoBulk d + 1
 end
def uptoSmall : (H : Type) → List (DataW H) → Bool := fun _ ds => decide (uptoBulkAll ds ≤ 1048576)
def OpenSpec.upto (s : _root_.Go.ChangeSpec) : _root_.Go.OpenSpec := { _root_.Go.OpenSpec.ofChange s with cond := some uptoSmall }

/-- 'fieldfarelaw02.NumeralTexts', WHERE WHAT IT READS IS OF BULK AT MOST 1048576: true; the input reads as it did. -/
def numeralTextsUptoRow : OpenClaim := { program := "ythhfnggigmfmjaadoor", sum := "7c982fa8f1fc981f68224c2eacef9941c690798a378e7727f041a39e7e9ac77f", func := "fieldfare/fieldfarelaw02.NumeralTexts", spec := "numeralTexts", inPlace := ["internal/bytealg.IndexByteString", "math/bits.Add64", "math/bits.Sub64", "internal/bytealg.IndexString"], named := ["math/bits.divideError", "math/bits.overflowError", "unicode/utf8.first", "unicode/utf8.acceptRanges", "internal/bytealg.MaxLen"], apart := false, laid := [("unicode/utf8.acceptRanges", laid_unicode_utf8_acceptRanges), ("unicode/utf8.first", laid_unicode_utf8_first)], narrowed := true }
def NumeralTextsUptoSaid : Prop := numeralTextsUptoRow.holds Tryd.pinned (OpenSpec.upto numeralTextsSpec)

/-- 'fieldfarelaw02.NumeralLooks', WHERE WHAT IT READS IS OF BULK AT MOST 1048576: true; the input reads as it did. -/
def numeralLooksUptoRow : OpenClaim := { program := "ythhfnggigmfmjaadoor", sum := "7c982fa8f1fc981f68224c2eacef9941c690798a378e7727f041a39e7e9ac77f", func := "fieldfare/fieldfarelaw02.NumeralLooks", spec := "numeralLooks", inPlace := ["internal/bytealg.IndexByteString", "math/bits.Add64", "math/bits.Sub64", "internal/bytealg.IndexString"], named := ["math/bits.divideError", "math/bits.overflowError", "unicode/utf8.first", "unicode/utf8.acceptRanges", "internal/bytealg.MaxLen"], apart := false, laid := [("unicode/utf8.acceptRanges", laid_unicode_utf8_acceptRanges), ("unicode/utf8.first", laid_unicode_utf8_first)], narrowed := true }
def NumeralLooksUptoSaid : Prop := numeralLooksUptoRow.holds Tryd.pinned (OpenSpec.upto numeralLooksSpec)

/-- 'fieldfarelaw02.NumeralSums', WHERE WHAT IT READS IS OF BULK AT MOST 1048576: true; the input reads as it did. -/
def numeralSumsUptoRow : OpenClaim := { program := "ythhfnggigmfmjaadoor", sum := "7c982fa8f1fc981f68224c2eacef9941c690798a378e7727f041a39e7e9ac77f", func := "fieldfare/fieldfarelaw02.NumeralSums", spec := "numeralSums", inPlace := ["internal/bytealg.IndexByteString", "math/bits.Add64", "math/bits.Sub64", "internal/bytealg.IndexString"], named := ["math/bits.divideError", "math/bits.overflowError", "unicode/utf8.first", "unicode/utf8.acceptRanges", "internal/bytealg.MaxLen"], apart := false, laid := [("unicode/utf8.acceptRanges", laid_unicode_utf8_acceptRanges), ("unicode/utf8.first", laid_unicode_utf8_first)], narrowed := true }
def NumeralSumsUptoSaid : Prop := numeralSumsUptoRow.holds Tryd.pinned (OpenSpec.upto numeralSumsSpec)

/-- 'fieldfarelaw02.NumeralInts', WHERE WHAT IT READS IS OF BULK AT MOST 1048576: true; the input reads as it did. -/
def numeralIntsUptoRow : OpenClaim := { program := "ythhfnggigmfmjaadoor", sum := "7c982fa8f1fc981f68224c2eacef9941c690798a378e7727f041a39e7e9ac77f", func := "fieldfare/fieldfarelaw02.NumeralInts", spec := "numeralInts", inPlace := ["internal/bytealg.IndexByteString", "math/bits.Add64", "math/bits.Sub64", "internal/bytealg.IndexString"], named := ["math/bits.divideError", "math/bits.overflowError", "unicode/utf8.first", "unicode/utf8.acceptRanges", "internal/bytealg.MaxLen"], apart := false, laid := [("unicode/utf8.acceptRanges", laid_unicode_utf8_acceptRanges), ("unicode/utf8.first", laid_unicode_utf8_first)], narrowed := true }
def NumeralIntsUptoSaid : Prop := numeralIntsUptoRow.holds Tryd.pinned (OpenSpec.upto numeralIntsSpec)

/-- 'fieldfarelaw02.NumeralReads', WHERE WHAT IT READS IS OF BULK AT MOST 1048576: true; the input reads as it did. -/
def numeralReadsUptoRow : OpenClaim := { program := "ythhfnggigmfmjaadoor", sum := "7c982fa8f1fc981f68224c2eacef9941c690798a378e7727f041a39e7e9ac77f", func := "fieldfare/fieldfarelaw02.NumeralReads", spec := "numeralReads", inPlace := ["internal/bytealg.IndexByteString", "math/bits.Add64", "math/bits.Sub64", "internal/bytealg.IndexString", "internal/reflectlite.TypeOf"], unfollowed := true, recurses := true, named := ["math/bits.divideError", "math/bits.overflowError", "unicode/utf8.first", "unicode/utf8.acceptRanges", "internal/bytealg.MaxLen"], apart := false, laid := [("unicode/utf8.acceptRanges", laid_unicode_utf8_acceptRanges), ("unicode/utf8.first", laid_unicode_utf8_first)], narrowed := true }
def NumeralReadsUptoSaid : Prop := numeralReadsUptoRow.holds Tryd.pinned (OpenSpec.upto numeralReadsSpec)

/-- 'fieldfarelaw02.NumeralBlanks', WHERE WHAT IT READS IS OF BULK AT MOST 1048576: true; the input reads as it did. -/
def numeralBlanksUptoRow : OpenClaim := { program := "ythhfnggigmfmjaadoor", sum := "7c982fa8f1fc981f68224c2eacef9941c690798a378e7727f041a39e7e9ac77f", func := "fieldfare/fieldfarelaw02.NumeralBlanks", spec := "numeralBlanks", inPlace := ["internal/bytealg.IndexByteString", "math/bits.Add64", "math/bits.Sub64", "internal/bytealg.IndexString", "internal/reflectlite.TypeOf"], unfollowed := true, recurses := true, named := ["math/bits.divideError", "math/bits.overflowError", "unicode/utf8.first", "unicode/utf8.acceptRanges", "internal/bytealg.MaxLen"], apart := false, laid := [("unicode/utf8.acceptRanges", laid_unicode_utf8_acceptRanges), ("unicode/utf8.first", laid_unicode_utf8_first)], narrowed := true }
def NumeralBlanksUptoSaid : Prop := numeralBlanksUptoRow.holds Tryd.pinned (OpenSpec.upto numeralBlanksSpec)

end Rows
end Go.Proofs.YthhfnggigmfmjaaDoor
