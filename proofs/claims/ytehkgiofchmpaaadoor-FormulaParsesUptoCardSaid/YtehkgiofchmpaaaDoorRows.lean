/-
  NARROWER THAN 'FOR EVERY INPUT', by the rows' own cells (each row's printed sentence says how): FormulaValid: loops, laid · FormulaTexts: loops, laid · FormulaParses: laid · FormulaOffsets: laid · FormulaShifts: loops, laid · FormulaSubstitutes: loops, laid · FormulaCloses: loops, laid · FormulaCancels: loops, laid · FormulaWalks: loops, laid · FormulaCompares: loops, laid.
  DERIVED. THE GIVEN ROWS OF THIS SEAT. 10 by the template 'for every input the law returns true; each argument reads behind the call as it read before'; 0 by the template 'total and deterministic' (their statements: YtehkgiofchmpaaaDoorTotals.lean).
  GIVEN WITH THE SEED: the statements are not yours to turn. If you find one false, say at which input.
  Laid BY PROGRAM, IN A SANDBOX (cutbox-rows.mjs): the forced cells as the released guide's own fill.sh prints them over the translation 4490e577c3aa3eac… (all of the seat's roots in one cut). By AI agents, Wed Nov 11 2026. No macro, syntax, notation, axiom, sorry.
-/
import Derived.Test.YtehkgiofchmpaaaDoorChecked
import GoSem.Claim
import GoSem.ClaimJoined
import GoSem.ClaimMapViews
import Derived.JoinedTies
import Derived.KernelRfl
namespace Go.Proofs.YtehkgiofchmpaaaDoor
/- THE CELL 'sum', in the pinned program and in every row, IS THE sha256 OF THE DUMP (.gsa) THAT YtehkgiofchmpaaaDoorProg.lean LOADS. Nothing in Lean hashes anything: it is a label: what it is worth is what the hold of that sum in a sandbox is worth. -/
noncomputable def Tryd.pinned : Pinned := { name := "ytehkgiofchmpaaadoor", sum := "4490e577c3aa3eac14e5d492f974bfb04302e8a0f2f3819fbffef0d803e44d56", checked := Tryd.checked }
namespace Rows
def none {H : Type} : Left H := { results := [], args := [] }

/- WHAT THE LISTED PACKAGE-LEVEL VARIABLES READ AS WHEN THE CALL BEGINS. Each datum BY PROGRAM (the guide's laid-datum.mjs) off the statement by which the dump's own 'gosem.cut.vars' lays the variable. In a bare row this is a premise. The card (YtehkgiofchmpaaaDoorCards.lean) ties it to the program's text. -/
def laid_math_bits_deBruijn32tab {H : Type} : DataW H := .agg [.lit (.int .u8 0), .lit (.int .u8 1), .lit (.int .u8 28), .lit (.int .u8 2), .lit (.int .u8 29), .lit (.int .u8 14), .lit (.int .u8 24), .lit (.int .u8 3), .lit (.int .u8 30), .lit (.int .u8 22), .lit (.int .u8 20), .lit (.int .u8 15), .lit (.int .u8 25), .lit (.int .u8 17), .lit (.int .u8 4), .lit (.int .u8 8), .lit (.int .u8 31), .lit (.int .u8 27), .lit (.int .u8 13), .lit (.int .u8 23), .lit (.int .u8 21), .lit (.int .u8 19), .lit (.int .u8 16), .lit (.int .u8 7), .lit (.int .u8 26), .lit (.int .u8 12), .lit (.int .u8 18), .lit (.int .u8 6), .lit (.int .u8 11), .lit (.int .u8 5), .lit (.int .u8 10), .lit (.int .u8 9)]
def laid_math_bits_deBruijn64tab {H : Type} : DataW H := .agg [.lit (.int .u8 0), .lit (.int .u8 1), .lit (.int .u8 56), .lit (.int .u8 2), .lit (.int .u8 57), .lit (.int .u8 49), .lit (.int .u8 28), .lit (.int .u8 3), .lit (.int .u8 61), .lit (.int .u8 58), .lit (.int .u8 42), .lit (.int .u8 50), .lit (.int .u8 38), .lit (.int .u8 29), .lit (.int .u8 17), .lit (.int .u8 4), .lit (.int .u8 62), .lit (.int .u8 47), .lit (.int .u8 59), .lit (.int .u8 36), .lit (.int .u8 45), .lit (.int .u8 43), .lit (.int .u8 51), .lit (.int .u8 22), .lit (.int .u8 53), .lit (.int .u8 39), .lit (.int .u8 33), .lit (.int .u8 30), .lit (.int .u8 24), .lit (.int .u8 18), .lit (.int .u8 12), .lit (.int .u8 5), .lit (.int .u8 63), .lit (.int .u8 55), .lit (.int .u8 48), .lit (.int .u8 27), .lit (.int .u8 60), .lit (.int .u8 41), .lit (.int .u8 37), .lit (.int .u8 16), .lit (.int .u8 46), .lit (.int .u8 35), .lit (.int .u8 44), .lit (.int .u8 21), .lit (.int .u8 52), .lit (.int .u8 32), .lit (.int .u8 23), .lit (.int .u8 11), .lit (.int .u8 54), .lit (.int .u8 26), .lit (.int .u8 40), .lit (.int .u8 15), .lit (.int .u8 34), .lit (.int .u8 20), .lit (.int .u8 31), .lit (.int .u8 10), .lit (.int .u8 25), .lit (.int .u8 14), .lit (.int .u8 19), .lit (.int .u8 9), .lit (.int .u8 13), .lit (.int .u8 8), .lit (.int .u8 7), .lit (.int .u8 6)]
def laid_internal_strconv_uint64pow10 {H : Type} : DataW H := .agg [.lit (.int .u64 1), .lit (.int .u64 10), .lit (.int .u64 100), .lit (.int .u64 1000), .lit (.int .u64 10000), .lit (.int .u64 100000), .lit (.int .u64 1000000), .lit (.int .u64 10000000), .lit (.int .u64 100000000), .lit (.int .u64 1000000000), .lit (.int .u64 10000000000), .lit (.int .u64 100000000000), .lit (.int .u64 1000000000000), .lit (.int .u64 10000000000000), .lit (.int .u64 100000000000000), .lit (.int .u64 1000000000000000), .lit (.int .u64 10000000000000000), .lit (.int .u64 100000000000000000), .lit (.int .u64 1000000000000000000), .lit (.int .u64 10000000000000000000)]

/-- 'pentaglotlaw22.FormulaValid': WHATEVER THE INPUT: true; the input reads as it did. -/
def formulaValidSpec : ChangeSpec := { name := "formulaValid", fn := fun _ => fun
  | [d1, d2] => { results := [.lit (.bool true)], args := [d1, d2] }
  | _ => none }
def formulaValidRow : OpenClaim := { program := "ytehkgiofchmpaaadoor", sum := "4490e577c3aa3eac14e5d492f974bfb04302e8a0f2f3819fbffef0d803e44d56", func := "pentaglot/pentaglotlaw22.FormulaValid", spec := "formulaValid", inPlace := ["internal/abi.NoEscape"], unfollowed := true, recurses := true, named := ["internal/strconv.uint64pow10", "math/bits.deBruijn32tab", "math/bits.deBruijn64tab"], loops := true, apart := false, laid := [("math/bits.deBruijn32tab", laid_math_bits_deBruijn32tab), ("math/bits.deBruijn64tab", laid_math_bits_deBruijn64tab), ("internal/strconv.uint64pow10", laid_internal_strconv_uint64pow10)] }
def FormulaValidSaid : Prop := formulaValidRow.holds Tryd.pinned (OpenSpec.ofChange formulaValidSpec)

/-- ITS FALSE NEIGHBOUR: 'it returns false'. Refute it at one input. -/
def formulaValidWrong : ChangeSpec := { name := "formulaValid", fn := fun _ => fun
  | [d1, d2] => { results := [.lit (.bool false)], args := [d1, d2] }
  | _ => none }
def FormulaValidWrongFalsely : Prop := formulaValidRow.holds Tryd.pinned (OpenSpec.ofChange formulaValidWrong)

/-- 'pentaglotlaw22.FormulaTexts': WHATEVER THE INPUT: true; the input reads as it did. -/
def formulaTextsSpec : ChangeSpec := { name := "formulaTexts", fn := fun _ => fun
  | [d] => { results := [.lit (.bool true)], args := [d] }
  | _ => none }
def formulaTextsRow : OpenClaim := { program := "ytehkgiofchmpaaadoor", sum := "4490e577c3aa3eac14e5d492f974bfb04302e8a0f2f3819fbffef0d803e44d56", func := "pentaglot/pentaglotlaw22.FormulaTexts", spec := "formulaTexts", inPlace := ["internal/abi.NoEscape"], unfollowed := true, recurses := true, named := ["internal/strconv.uint64pow10", "math/bits.deBruijn32tab", "math/bits.deBruijn64tab"], loops := true, apart := false, laid := [("math/bits.deBruijn32tab", laid_math_bits_deBruijn32tab), ("math/bits.deBruijn64tab", laid_math_bits_deBruijn64tab), ("internal/strconv.uint64pow10", laid_internal_strconv_uint64pow10)] }
def FormulaTextsSaid : Prop := formulaTextsRow.holds Tryd.pinned (OpenSpec.ofChange formulaTextsSpec)

/-- ITS FALSE NEIGHBOUR: 'it returns false'. Refute it at one input. -/
def formulaTextsWrong : ChangeSpec := { name := "formulaTexts", fn := fun _ => fun
  | [d] => { results := [.lit (.bool false)], args := [d] }
  | _ => none }
def FormulaTextsWrongFalsely : Prop := formulaTextsRow.holds Tryd.pinned (OpenSpec.ofChange formulaTextsWrong)

/-- 'pentaglotlaw22.FormulaParses': WHATEVER THE INPUT: true; the input reads as it did. -/
def formulaParsesSpec : ChangeSpec := { name := "formulaParses", fn := fun _ => fun
  | [d] => { results := [.lit (.bool true)], args := [d] }
  | _ => none }
def formulaParsesRow : OpenClaim := { program := "ytehkgiofchmpaaadoor", sum := "4490e577c3aa3eac14e5d492f974bfb04302e8a0f2f3819fbffef0d803e44d56", func := "pentaglot/pentaglotlaw22.FormulaParses", spec := "formulaParses", inPlace := ["internal/abi.NoEscape"], unfollowed := true, recurses := true, named := ["internal/strconv.uint64pow10", "math/bits.deBruijn32tab", "math/bits.deBruijn64tab"], apart := false, laid := [("math/bits.deBruijn32tab", laid_math_bits_deBruijn32tab), ("math/bits.deBruijn64tab", laid_math_bits_deBruijn64tab), ("internal/strconv.uint64pow10", laid_internal_strconv_uint64pow10)] }
def FormulaParsesSaid : Prop := formulaParsesRow.holds Tryd.pinned (OpenSpec.ofChange formulaParsesSpec)

/-- ITS FALSE NEIGHBOUR: 'it returns false'. Refute it at one input. -/
def formulaParsesWrong : ChangeSpec := { name := "formulaParses", fn := fun _ => fun
  | [d] => { results := [.lit (.bool false)], args := [d] }
  | _ => none }
def FormulaParsesWrongFalsely : Prop := formulaParsesRow.holds Tryd.pinned (OpenSpec.ofChange formulaParsesWrong)

/-- 'pentaglotlaw22.FormulaOffsets': WHATEVER THE INPUT: true; the input reads as it did. -/
def formulaOffsetsSpec : ChangeSpec := { name := "formulaOffsets", fn := fun _ => fun
  | [d1, d2] => { results := [.lit (.bool true)], args := [d1, d2] }
  | _ => none }
def formulaOffsetsRow : OpenClaim := { program := "ytehkgiofchmpaaadoor", sum := "4490e577c3aa3eac14e5d492f974bfb04302e8a0f2f3819fbffef0d803e44d56", func := "pentaglot/pentaglotlaw22.FormulaOffsets", spec := "formulaOffsets", inPlace := ["internal/abi.NoEscape"], unfollowed := true, recurses := true, named := ["internal/strconv.uint64pow10", "math/bits.deBruijn32tab", "math/bits.deBruijn64tab"], apart := false, laid := [("math/bits.deBruijn32tab", laid_math_bits_deBruijn32tab), ("math/bits.deBruijn64tab", laid_math_bits_deBruijn64tab), ("internal/strconv.uint64pow10", laid_internal_strconv_uint64pow10)] }
def FormulaOffsetsSaid : Prop := formulaOffsetsRow.holds Tryd.pinned (OpenSpec.ofChange formulaOffsetsSpec)

/-- ITS FALSE NEIGHBOUR: 'it returns false'. Refute it at one input. -/
def formulaOffsetsWrong : ChangeSpec := { name := "formulaOffsets", fn := fun _ => fun
  | [d1, d2] => { results := [.lit (.bool false)], args := [d1, d2] }
  | _ => none }
def FormulaOffsetsWrongFalsely : Prop := formulaOffsetsRow.holds Tryd.pinned (OpenSpec.ofChange formulaOffsetsWrong)

/-- 'pentaglotlaw22.FormulaShifts': WHATEVER THE INPUT: true; the input reads as it did. -/
def formulaShiftsSpec : ChangeSpec := { name := "formulaShifts", fn := fun _ => fun
  | [d1, d2, d3] => { results := [.lit (.bool true)], args := [d1, d2, d3] }
  | _ => none }
def formulaShiftsRow : OpenClaim := { program := "ytehkgiofchmpaaadoor", sum := "4490e577c3aa3eac14e5d492f974bfb04302e8a0f2f3819fbffef0d803e44d56", func := "pentaglot/pentaglotlaw22.FormulaShifts", spec := "formulaShifts", inPlace := ["internal/abi.NoEscape"], unfollowed := true, recurses := true, named := ["internal/strconv.uint64pow10", "math/bits.deBruijn32tab", "math/bits.deBruijn64tab"], loops := true, apart := false, laid := [("math/bits.deBruijn32tab", laid_math_bits_deBruijn32tab), ("math/bits.deBruijn64tab", laid_math_bits_deBruijn64tab), ("internal/strconv.uint64pow10", laid_internal_strconv_uint64pow10)] }
def FormulaShiftsSaid : Prop := formulaShiftsRow.holds Tryd.pinned (OpenSpec.ofChange formulaShiftsSpec)

/-- ITS FALSE NEIGHBOUR: 'it returns false'. Refute it at one input. -/
def formulaShiftsWrong : ChangeSpec := { name := "formulaShifts", fn := fun _ => fun
  | [d1, d2, d3] => { results := [.lit (.bool false)], args := [d1, d2, d3] }
  | _ => none }
def FormulaShiftsWrongFalsely : Prop := formulaShiftsRow.holds Tryd.pinned (OpenSpec.ofChange formulaShiftsWrong)

/-- 'pentaglotlaw22.FormulaSubstitutes': WHATEVER THE INPUT: true; the input reads as it did. -/
def formulaSubstitutesSpec : ChangeSpec := { name := "formulaSubstitutes", fn := fun _ => fun
  | [d1, d2] => { results := [.lit (.bool true)], args := [d1, d2] }
  | _ => none }
def formulaSubstitutesRow : OpenClaim := { program := "ytehkgiofchmpaaadoor", sum := "4490e577c3aa3eac14e5d492f974bfb04302e8a0f2f3819fbffef0d803e44d56", func := "pentaglot/pentaglotlaw22.FormulaSubstitutes", spec := "formulaSubstitutes", inPlace := ["internal/abi.NoEscape"], unfollowed := true, recurses := true, named := ["internal/strconv.uint64pow10", "math/bits.deBruijn32tab", "math/bits.deBruijn64tab"], loops := true, apart := false, laid := [("math/bits.deBruijn32tab", laid_math_bits_deBruijn32tab), ("math/bits.deBruijn64tab", laid_math_bits_deBruijn64tab), ("internal/strconv.uint64pow10", laid_internal_strconv_uint64pow10)] }
def FormulaSubstitutesSaid : Prop := formulaSubstitutesRow.holds Tryd.pinned (OpenSpec.ofChange formulaSubstitutesSpec)

/-- ITS FALSE NEIGHBOUR: 'it returns false'. Refute it at one input. -/
def formulaSubstitutesWrong : ChangeSpec := { name := "formulaSubstitutes", fn := fun _ => fun
  | [d1, d2] => { results := [.lit (.bool false)], args := [d1, d2] }
  | _ => none }
def FormulaSubstitutesWrongFalsely : Prop := formulaSubstitutesRow.holds Tryd.pinned (OpenSpec.ofChange formulaSubstitutesWrong)

/-- 'pentaglotlaw22.FormulaCloses': WHATEVER THE INPUT: true; the input reads as it did. -/
def formulaClosesSpec : ChangeSpec := { name := "formulaCloses", fn := fun _ => fun
  | [d1, d2, d3] => { results := [.lit (.bool true)], args := [d1, d2, d3] }
  | _ => none }
def formulaClosesRow : OpenClaim := { program := "ytehkgiofchmpaaadoor", sum := "4490e577c3aa3eac14e5d492f974bfb04302e8a0f2f3819fbffef0d803e44d56", func := "pentaglot/pentaglotlaw22.FormulaCloses", spec := "formulaCloses", inPlace := ["internal/abi.NoEscape"], unfollowed := true, recurses := true, named := ["internal/strconv.uint64pow10", "math/bits.deBruijn32tab", "math/bits.deBruijn64tab"], loops := true, apart := false, laid := [("math/bits.deBruijn32tab", laid_math_bits_deBruijn32tab), ("math/bits.deBruijn64tab", laid_math_bits_deBruijn64tab), ("internal/strconv.uint64pow10", laid_internal_strconv_uint64pow10)] }
def FormulaClosesSaid : Prop := formulaClosesRow.holds Tryd.pinned (OpenSpec.ofChange formulaClosesSpec)

/-- ITS FALSE NEIGHBOUR: 'it returns false'. Refute it at one input. -/
def formulaClosesWrong : ChangeSpec := { name := "formulaCloses", fn := fun _ => fun
  | [d1, d2, d3] => { results := [.lit (.bool false)], args := [d1, d2, d3] }
  | _ => none }
def FormulaClosesWrongFalsely : Prop := formulaClosesRow.holds Tryd.pinned (OpenSpec.ofChange formulaClosesWrong)

/-- 'pentaglotlaw22.FormulaCancels': WHATEVER THE INPUT: true; the input reads as it did. -/
def formulaCancelsSpec : ChangeSpec := { name := "formulaCancels", fn := fun _ => fun
  | [d1, d2, d3, d4] => { results := [.lit (.bool true)], args := [d1, d2, d3, d4] }
  | _ => none }
def formulaCancelsRow : OpenClaim := { program := "ytehkgiofchmpaaadoor", sum := "4490e577c3aa3eac14e5d492f974bfb04302e8a0f2f3819fbffef0d803e44d56", func := "pentaglot/pentaglotlaw22.FormulaCancels", spec := "formulaCancels", inPlace := ["internal/abi.NoEscape"], unfollowed := true, recurses := true, named := ["internal/strconv.uint64pow10", "math/bits.deBruijn32tab", "math/bits.deBruijn64tab"], loops := true, apart := false, laid := [("math/bits.deBruijn32tab", laid_math_bits_deBruijn32tab), ("math/bits.deBruijn64tab", laid_math_bits_deBruijn64tab), ("internal/strconv.uint64pow10", laid_internal_strconv_uint64pow10)] }
def FormulaCancelsSaid : Prop := formulaCancelsRow.holds Tryd.pinned (OpenSpec.ofChange formulaCancelsSpec)

/-- ITS FALSE NEIGHBOUR: 'it returns false'. Refute it at one input. -/
def formulaCancelsWrong : ChangeSpec := { name := "formulaCancels", fn := fun _ => fun
  | [d1, d2, d3, d4] => { results := [.lit (.bool false)], args := [d1, d2, d3, d4] }
  | _ => none }
def FormulaCancelsWrongFalsely : Prop := formulaCancelsRow.holds Tryd.pinned (OpenSpec.ofChange formulaCancelsWrong)

/-- 'pentaglotlaw22.FormulaWalks': WHATEVER THE INPUT: true; the input reads as it did. -/
def formulaWalksSpec : ChangeSpec := { name := "formulaWalks", fn := fun _ => fun
  | [d1, d2] => { results := [.lit (.bool true)], args := [d1, d2] }
  | _ => none }
def formulaWalksRow : OpenClaim := { program := "ytehkgiofchmpaaadoor", sum := "4490e577c3aa3eac14e5d492f974bfb04302e8a0f2f3819fbffef0d803e44d56", func := "pentaglot/pentaglotlaw22.FormulaWalks", spec := "formulaWalks", inPlace := ["internal/abi.NoEscape"], unfollowed := true, recurses := true, named := ["internal/strconv.uint64pow10", "math/bits.deBruijn32tab", "math/bits.deBruijn64tab"], loops := true, apart := false, laid := [("math/bits.deBruijn32tab", laid_math_bits_deBruijn32tab), ("math/bits.deBruijn64tab", laid_math_bits_deBruijn64tab), ("internal/strconv.uint64pow10", laid_internal_strconv_uint64pow10)] }
def FormulaWalksSaid : Prop := formulaWalksRow.holds Tryd.pinned (OpenSpec.ofChange formulaWalksSpec)

/-- ITS FALSE NEIGHBOUR: 'it returns false'. Refute it at one input. -/
def formulaWalksWrong : ChangeSpec := { name := "formulaWalks", fn := fun _ => fun
  | [d1, d2] => { results := [.lit (.bool false)], args := [d1, d2] }
  | _ => none }
def FormulaWalksWrongFalsely : Prop := formulaWalksRow.holds Tryd.pinned (OpenSpec.ofChange formulaWalksWrong)

/-- 'pentaglotlaw22.FormulaCompares': WHATEVER THE INPUT: true; the input reads as it did. -/
def formulaComparesSpec : ChangeSpec := { name := "formulaCompares", fn := fun _ => fun
  | [d1, d2, d3] => { results := [.lit (.bool true)], args := [d1, d2, d3] }
  | _ => none }
def formulaComparesRow : OpenClaim := { program := "ytehkgiofchmpaaadoor", sum := "4490e577c3aa3eac14e5d492f974bfb04302e8a0f2f3819fbffef0d803e44d56", func := "pentaglot/pentaglotlaw22.FormulaCompares", spec := "formulaCompares", inPlace := ["internal/abi.NoEscape"], unfollowed := true, recurses := true, named := ["internal/strconv.uint64pow10", "math/bits.deBruijn32tab", "math/bits.deBruijn64tab"], loops := true, apart := false, laid := [("math/bits.deBruijn32tab", laid_math_bits_deBruijn32tab), ("math/bits.deBruijn64tab", laid_math_bits_deBruijn64tab), ("internal/strconv.uint64pow10", laid_internal_strconv_uint64pow10)] }
def FormulaComparesSaid : Prop := formulaComparesRow.holds Tryd.pinned (OpenSpec.ofChange formulaComparesSpec)

/-- ITS FALSE NEIGHBOUR: 'it returns false'. Refute it at one input. -/
def formulaComparesWrong : ChangeSpec := { name := "formulaCompares", fn := fun _ => fun
  | [d1, d2, d3] => { results := [.lit (.bool false)], args := [d1, d2, d3] }
  | _ => none }
def FormulaComparesWrongFalsely : Prop := formulaComparesRow.holds Tryd.pinned (OpenSpec.ofChange formulaComparesWrong)

/- THE SECOND FORM. 'bulk': how many values and letters a reading holds, each counted each time it is reached (what is shared counts as often as it is met; a slice's spare places count too). A statement '..UptoSaid' is the law's where the arguments, and the package variables that the reading takes, are together of bulk at most 1048576: NARROWER than '..Said'. Prove '..Said' where nothing that the law and all that it calls make is longer than what came in: it says more and counts as full. Else prove '..UptoSaid'. A law counts once. -/
mutual
def uptoBulk {H : Type} : DataW H → Nat
  | .lit (.string bytes) => bytes.length + 1
  | .lit _ => 1
  | .nil => 1
  | .ptr d => uptoBulk d + 1
  | .slice elems spare => uptoBulkAll elems + uptoBulkAll spare + 1
  | .agg parts => uptoBulkAll parts + 1
  | .iface _ d => uptoBulk d + 1
  | .map entries => uptoBulkEntries entries + 1
  | .held _ => 1
def uptoBulkAll {H : Type} : List (DataW H) → Nat
  | [] => 0
  | d :: r => uptoBulk d + uptoBulkAll r
def uptoBulkEntries {H : Type} : List (Lit × DataW H) → Nat
  | [] => 0
  | x :: r => uptoBulkEntry x + uptoBulkEntries r
def uptoBulkEntry {H : Type} : Lit × DataW H → Nat
  | (.string bytes, d) => bytes.length + uptoBulk d + 1
  | (_, d) => uptoBulk d + 1
 end
def uptoSmall : (H : Type) → List (DataW H) → Bool := fun _ ds => decide (uptoBulkAll ds ≤ 1048576)
def OpenSpec.upto (s : _root_.Go.ChangeSpec) : _root_.Go.OpenSpec := { _root_.Go.OpenSpec.ofChange s with cond := some uptoSmall }

/-- 'pentaglotlaw22.FormulaValid', WHERE WHAT IT READS IS OF BULK AT MOST 1048576: true; the input reads as it did. -/
def formulaValidUptoRow : OpenClaim := { program := "ytehkgiofchmpaaadoor", sum := "4490e577c3aa3eac14e5d492f974bfb04302e8a0f2f3819fbffef0d803e44d56", func := "pentaglot/pentaglotlaw22.FormulaValid", spec := "formulaValid", inPlace := ["internal/abi.NoEscape"], unfollowed := true, recurses := true, named := ["internal/strconv.uint64pow10", "math/bits.deBruijn32tab", "math/bits.deBruijn64tab"], loops := true, apart := false, laid := [("math/bits.deBruijn32tab", laid_math_bits_deBruijn32tab), ("math/bits.deBruijn64tab", laid_math_bits_deBruijn64tab), ("internal/strconv.uint64pow10", laid_internal_strconv_uint64pow10)], narrowed := true }
def FormulaValidUptoSaid : Prop := formulaValidUptoRow.holds Tryd.pinned (OpenSpec.upto formulaValidSpec)

/-- 'pentaglotlaw22.FormulaTexts', WHERE WHAT IT READS IS OF BULK AT MOST 1048576: true; the input reads as it did. -/
def formulaTextsUptoRow : OpenClaim := { program := "ytehkgiofchmpaaadoor", sum := "4490e577c3aa3eac14e5d492f974bfb04302e8a0f2f3819fbffef0d803e44d56", func := "pentaglot/pentaglotlaw22.FormulaTexts", spec := "formulaTexts", inPlace := ["internal/abi.NoEscape"], unfollowed := true, recurses := true, named := ["internal/strconv.uint64pow10", "math/bits.deBruijn32tab", "math/bits.deBruijn64tab"], loops := true, apart := false, laid := [("math/bits.deBruijn32tab", laid_math_bits_deBruijn32tab), ("math/bits.deBruijn64tab", laid_math_bits_deBruijn64tab), ("internal/strconv.uint64pow10", laid_internal_strconv_uint64pow10)], narrowed := true }
def FormulaTextsUptoSaid : Prop := formulaTextsUptoRow.holds Tryd.pinned (OpenSpec.upto formulaTextsSpec)

/-- 'pentaglotlaw22.FormulaParses', WHERE WHAT IT READS IS OF BULK AT MOST 1048576: true; the input reads as it did. -/
def formulaParsesUptoRow : OpenClaim := { program := "ytehkgiofchmpaaadoor", sum := "4490e577c3aa3eac14e5d492f974bfb04302e8a0f2f3819fbffef0d803e44d56", func := "pentaglot/pentaglotlaw22.FormulaParses", spec := "formulaParses", inPlace := ["internal/abi.NoEscape"], unfollowed := true, recurses := true, named := ["internal/strconv.uint64pow10", "math/bits.deBruijn32tab", "math/bits.deBruijn64tab"], apart := false, laid := [("math/bits.deBruijn32tab", laid_math_bits_deBruijn32tab), ("math/bits.deBruijn64tab", laid_math_bits_deBruijn64tab), ("internal/strconv.uint64pow10", laid_internal_strconv_uint64pow10)], narrowed := true }
def FormulaParsesUptoSaid : Prop := formulaParsesUptoRow.holds Tryd.pinned (OpenSpec.upto formulaParsesSpec)

/-- 'pentaglotlaw22.FormulaOffsets', WHERE WHAT IT READS IS OF BULK AT MOST 1048576: true; the input reads as it did. -/
def formulaOffsetsUptoRow : OpenClaim := { program := "ytehkgiofchmpaaadoor", sum := "4490e577c3aa3eac14e5d492f974bfb04302e8a0f2f3819fbffef0d803e44d56", func := "pentaglot/pentaglotlaw22.FormulaOffsets", spec := "formulaOffsets", inPlace := ["internal/abi.NoEscape"], unfollowed := true, recurses := true, named := ["internal/strconv.uint64pow10", "math/bits.deBruijn32tab", "math/bits.deBruijn64tab"], apart := false, laid := [("math/bits.deBruijn32tab", laid_math_bits_deBruijn32tab), ("math/bits.deBruijn64tab", laid_math_bits_deBruijn64tab), ("internal/strconv.uint64pow10", laid_internal_strconv_uint64pow10)], narrowed := true }
def FormulaOffsetsUptoSaid : Prop := formulaOffsetsUptoRow.holds Tryd.pinned (OpenSpec.upto formulaOffsetsSpec)

/-- 'pentaglotlaw22.FormulaShifts', WHERE WHAT IT READS IS OF BULK AT MOST 1048576: true; the input reads as it did. -/
def formulaShiftsUptoRow : OpenClaim := { program := "ytehkgiofchmpaaadoor", sum := "4490e577c3aa3eac14e5d492f974bfb04302e8a0f2f3819fbffef0d803e44d56", func := "pentaglot/pentaglotlaw22.FormulaShifts", spec := "formulaShifts", inPlace := ["internal/abi.NoEscape"], unfollowed := true, recurses := true, named := ["internal/strconv.uint64pow10", "math/bits.deBruijn32tab", "math/bits.deBruijn64tab"], loops := true, apart := false, laid := [("math/bits.deBruijn32tab", laid_math_bits_deBruijn32tab), ("math/bits.deBruijn64tab", laid_math_bits_deBruijn64tab), ("internal/strconv.uint64pow10", laid_internal_strconv_uint64pow10)], narrowed := true }
def FormulaShiftsUptoSaid : Prop := formulaShiftsUptoRow.holds Tryd.pinned (OpenSpec.upto formulaShiftsSpec)

/-- 'pentaglotlaw22.FormulaSubstitutes', WHERE WHAT IT READS IS OF BULK AT MOST 1048576: true; the input reads as it did. -/
def formulaSubstitutesUptoRow : OpenClaim := { program := "ytehkgiofchmpaaadoor", sum := "4490e577c3aa3eac14e5d492f974bfb04302e8a0f2f3819fbffef0d803e44d56", func := "pentaglot/pentaglotlaw22.FormulaSubstitutes", spec := "formulaSubstitutes", inPlace := ["internal/abi.NoEscape"], unfollowed := true, recurses := true, named := ["internal/strconv.uint64pow10", "math/bits.deBruijn32tab", "math/bits.deBruijn64tab"], loops := true, apart := false, laid := [("math/bits.deBruijn32tab", laid_math_bits_deBruijn32tab), ("math/bits.deBruijn64tab", laid_math_bits_deBruijn64tab), ("internal/strconv.uint64pow10", laid_internal_strconv_uint64pow10)], narrowed := true }
def FormulaSubstitutesUptoSaid : Prop := formulaSubstitutesUptoRow.holds Tryd.pinned (OpenSpec.upto formulaSubstitutesSpec)

/-- 'pentaglotlaw22.FormulaCloses', WHERE WHAT IT READS IS OF BULK AT MOST 1048576: true; the input reads as it did. -/
def formulaClosesUptoRow : OpenClaim := { program := "ytehkgiofchmpaaadoor", sum := "4490e577c3aa3eac14e5d492f974bfb04302e8a0f2f3819fbffef0d803e44d56", func := "pentaglot/pentaglotlaw22.FormulaCloses", spec := "formulaCloses", inPlace := ["internal/abi.NoEscape"], unfollowed := true, recurses := true, named := ["internal/strconv.uint64pow10", "math/bits.deBruijn32tab", "math/bits.deBruijn64tab"], loops := true, apart := false, laid := [("math/bits.deBruijn32tab", laid_math_bits_deBruijn32tab), ("math/bits.deBruijn64tab", laid_math_bits_deBruijn64tab), ("internal/strconv.uint64pow10", laid_internal_strconv_uint64pow10)], narrowed := true }
def FormulaClosesUptoSaid : Prop := formulaClosesUptoRow.holds Tryd.pinned (OpenSpec.upto formulaClosesSpec)

/-- 'pentaglotlaw22.FormulaCancels', WHERE WHAT IT READS IS OF BULK AT MOST 1048576: true; the input reads as it did. -/
def formulaCancelsUptoRow : OpenClaim := { program := "ytehkgiofchmpaaadoor", sum := "4490e577c3aa3eac14e5d492f974bfb04302e8a0f2f3819fbffef0d803e44d56", func := "pentaglot/pentaglotlaw22.FormulaCancels", spec := "formulaCancels", inPlace := ["internal/abi.NoEscape"], unfollowed := true, recurses := true, named := ["internal/strconv.uint64pow10", "math/bits.deBruijn32tab", "math/bits.deBruijn64tab"], loops := true, apart := false, laid := [("math/bits.deBruijn32tab", laid_math_bits_deBruijn32tab), ("math/bits.deBruijn64tab", laid_math_bits_deBruijn64tab), ("internal/strconv.uint64pow10", laid_internal_strconv_uint64pow10)], narrowed := true }
def FormulaCancelsUptoSaid : Prop := formulaCancelsUptoRow.holds Tryd.pinned (OpenSpec.upto formulaCancelsSpec)

/-- 'pentaglotlaw22.FormulaWalks', WHERE WHAT IT READS IS OF BULK AT MOST 1048576: true; the input reads as it did. -/
def formulaWalksUptoRow : OpenClaim := { program := "ytehkgiofchmpaaadoor", sum := "4490e577c3aa3eac14e5d492f974bfb04302e8a0f2f3819fbffef0d803e44d56", func := "pentaglot/pentaglotlaw22.FormulaWalks", spec := "formulaWalks", inPlace := ["internal/abi.NoEscape"], unfollowed := true, recurses := true, named := ["internal/strconv.uint64pow10", "math/bits.deBruijn32tab", "math/bits.deBruijn64tab"], loops := true, apart := false, laid := [("math/bits.deBruijn32tab", laid_math_bits_deBruijn32tab), ("math/bits.deBruijn64tab", laid_math_bits_deBruijn64tab), ("internal/strconv.uint64pow10", laid_internal_strconv_uint64pow10)], narrowed := true }
def FormulaWalksUptoSaid : Prop := formulaWalksUptoRow.holds Tryd.pinned (OpenSpec.upto formulaWalksSpec)

/-- 'pentaglotlaw22.FormulaCompares', WHERE WHAT IT READS IS OF BULK AT MOST 1048576: true; the input reads as it did. -/
def formulaComparesUptoRow : OpenClaim := { program := "ytehkgiofchmpaaadoor", sum := "4490e577c3aa3eac14e5d492f974bfb04302e8a0f2f3819fbffef0d803e44d56", func := "pentaglot/pentaglotlaw22.FormulaCompares", spec := "formulaCompares", inPlace := ["internal/abi.NoEscape"], unfollowed := true, recurses := true, named := ["internal/strconv.uint64pow10", "math/bits.deBruijn32tab", "math/bits.deBruijn64tab"], loops := true, apart := false, laid := [("math/bits.deBruijn32tab", laid_math_bits_deBruijn32tab), ("math/bits.deBruijn64tab", laid_math_bits_deBruijn64tab), ("internal/strconv.uint64pow10", laid_internal_strconv_uint64pow10)], narrowed := true }
def FormulaComparesUptoSaid : Prop := formulaComparesUptoRow.holds Tryd.pinned (OpenSpec.upto formulaComparesSpec)

end Rows
end Go.Proofs.YtehkgiofchmpaaaDoor
