/-
  NARROWER THAN 'FOR EVERY INPUT', by the rows' own cells (each row's printed sentence says how): AggregationMerge: loops, laid · AggregationMoves: loops, laid · AggregationShorter: loops, laid · AggregationFrame: loops, laid · AggregationSplit: loops, laid · AggregationParts: loops, laid · AggregationInverts: loops, laid · AggregationFinds: loops, laid.
  DERIVED. THE GIVEN ROWS OF THIS SEAT. 8 by the template 'for every input the law returns true; each argument reads behind the call as it read before'; 0 by the template 'total and deterministic' (their statements: YtfiefcfjedmhaaaDoorTotals.lean).
  GIVEN WITH THE SEED: the statements are not yours to turn. If you find one false, say at which input.
  Laid BY PROGRAM, IN A SANDBOX (cutbox-rows.mjs): the forced cells as the released guide's own fill.sh prints them over the translation 7a33b90913322807… (all of the seat's roots in one cut). By AI agents, Wed Nov 11 2026. No macro, syntax, notation, axiom, sorry.
-/
import Derived.Test.YtfiefcfjedmhaaaDoorChecked
import GoSem.Claim
import GoSem.ClaimJoined
import GoSem.ClaimMapViews
import Derived.JoinedTies
import Derived.KernelRfl
namespace Go.Proofs.YtfiefcfjedmhaaaDoor
/- THE CELL 'sum', in the pinned program and in every row, IS THE sha256 OF THE DUMP (.gsa) THAT YtfiefcfjedmhaaaDoorProg.lean LOADS. Nothing in Lean hashes anything: it is a label: what it is worth is what the hold of that sum in a sandbox is worth. -/
noncomputable def Tryd.pinned : Pinned := { name := "ytfiefcfjedmhaaadoor", sum := "7a33b909133228077003b087b55609af4474b5c7a0a0ec10722a78d4342660f2", checked := Tryd.checked }
namespace Rows
def none {H : Type} : Left H := { results := [], args := [] }

/- WHAT THE LISTED PACKAGE-LEVEL VARIABLES READ AS WHEN THE CALL BEGINS. Each datum BY PROGRAM (the guide's laid-datum.mjs) off the statement by which the dump's own 'gosem.cut.vars' lays the variable. In a bare row this is a premise. The card (YtfiefcfjedmhaaaDoorCards.lean) ties it to the program's text. -/
def laid_math_bits_deBruijn32tab {H : Type} : DataW H := .agg [.lit (.int .u8 0), .lit (.int .u8 1), .lit (.int .u8 28), .lit (.int .u8 2), .lit (.int .u8 29), .lit (.int .u8 14), .lit (.int .u8 24), .lit (.int .u8 3), .lit (.int .u8 30), .lit (.int .u8 22), .lit (.int .u8 20), .lit (.int .u8 15), .lit (.int .u8 25), .lit (.int .u8 17), .lit (.int .u8 4), .lit (.int .u8 8), .lit (.int .u8 31), .lit (.int .u8 27), .lit (.int .u8 13), .lit (.int .u8 23), .lit (.int .u8 21), .lit (.int .u8 19), .lit (.int .u8 16), .lit (.int .u8 7), .lit (.int .u8 26), .lit (.int .u8 12), .lit (.int .u8 18), .lit (.int .u8 6), .lit (.int .u8 11), .lit (.int .u8 5), .lit (.int .u8 10), .lit (.int .u8 9)]
def laid_math_bits_deBruijn64tab {H : Type} : DataW H := .agg [.lit (.int .u8 0), .lit (.int .u8 1), .lit (.int .u8 56), .lit (.int .u8 2), .lit (.int .u8 57), .lit (.int .u8 49), .lit (.int .u8 28), .lit (.int .u8 3), .lit (.int .u8 61), .lit (.int .u8 58), .lit (.int .u8 42), .lit (.int .u8 50), .lit (.int .u8 38), .lit (.int .u8 29), .lit (.int .u8 17), .lit (.int .u8 4), .lit (.int .u8 62), .lit (.int .u8 47), .lit (.int .u8 59), .lit (.int .u8 36), .lit (.int .u8 45), .lit (.int .u8 43), .lit (.int .u8 51), .lit (.int .u8 22), .lit (.int .u8 53), .lit (.int .u8 39), .lit (.int .u8 33), .lit (.int .u8 30), .lit (.int .u8 24), .lit (.int .u8 18), .lit (.int .u8 12), .lit (.int .u8 5), .lit (.int .u8 63), .lit (.int .u8 55), .lit (.int .u8 48), .lit (.int .u8 27), .lit (.int .u8 60), .lit (.int .u8 41), .lit (.int .u8 37), .lit (.int .u8 16), .lit (.int .u8 46), .lit (.int .u8 35), .lit (.int .u8 44), .lit (.int .u8 21), .lit (.int .u8 52), .lit (.int .u8 32), .lit (.int .u8 23), .lit (.int .u8 11), .lit (.int .u8 54), .lit (.int .u8 26), .lit (.int .u8 40), .lit (.int .u8 15), .lit (.int .u8 34), .lit (.int .u8 20), .lit (.int .u8 31), .lit (.int .u8 10), .lit (.int .u8 25), .lit (.int .u8 14), .lit (.int .u8 19), .lit (.int .u8 9), .lit (.int .u8 13), .lit (.int .u8 8), .lit (.int .u8 7), .lit (.int .u8 6)]
def laid_internal_strconv_uint64pow10 {H : Type} : DataW H := .agg [.lit (.int .u64 1), .lit (.int .u64 10), .lit (.int .u64 100), .lit (.int .u64 1000), .lit (.int .u64 10000), .lit (.int .u64 100000), .lit (.int .u64 1000000), .lit (.int .u64 10000000), .lit (.int .u64 100000000), .lit (.int .u64 1000000000), .lit (.int .u64 10000000000), .lit (.int .u64 100000000000), .lit (.int .u64 1000000000000), .lit (.int .u64 10000000000000), .lit (.int .u64 100000000000000), .lit (.int .u64 1000000000000000), .lit (.int .u64 10000000000000000), .lit (.int .u64 100000000000000000), .lit (.int .u64 1000000000000000000), .lit (.int .u64 10000000000000000000)]

/-- 'pentaglotlaw41.AggregationMerge': WHATEVER THE INPUT: true; the input reads as it did. -/
def aggregationMergeSpec : ChangeSpec := { name := "aggregationMerge", fn := fun _ => fun
  | [d1, d2] => { results := [.lit (.bool true)], args := [d1, d2] }
  | _ => none }
def aggregationMergeRow : OpenClaim := { program := "ytfiefcfjedmhaaadoor", sum := "7a33b909133228077003b087b55609af4474b5c7a0a0ec10722a78d4342660f2", func := "pentaglot/pentaglotlaw41.AggregationMerge", spec := "aggregationMerge", inPlace := ["internal/abi.NoEscape", "internal/bytealg.MakeNoZero"], unfollowed := true, recurses := true, named := ["internal/strconv.uint64pow10", "math/bits.deBruijn32tab", "math/bits.deBruijn64tab"], loops := true, apart := false, laid := [("math/bits.deBruijn32tab", laid_math_bits_deBruijn32tab), ("math/bits.deBruijn64tab", laid_math_bits_deBruijn64tab), ("internal/strconv.uint64pow10", laid_internal_strconv_uint64pow10)] }
def AggregationMergeSaid : Prop := aggregationMergeRow.holds Tryd.pinned (OpenSpec.ofChange aggregationMergeSpec)

/-- ITS FALSE NEIGHBOUR: 'it returns false'. Refute it at one input. -/
def aggregationMergeWrong : ChangeSpec := { name := "aggregationMerge", fn := fun _ => fun
  | [d1, d2] => { results := [.lit (.bool false)], args := [d1, d2] }
  | _ => none }
def AggregationMergeWrongFalsely : Prop := aggregationMergeRow.holds Tryd.pinned (OpenSpec.ofChange aggregationMergeWrong)

/-- 'pentaglotlaw41.AggregationMoves': WHATEVER THE INPUT: true; the input reads as it did. -/
def aggregationMovesSpec : ChangeSpec := { name := "aggregationMoves", fn := fun _ => fun
  | [d] => { results := [.lit (.bool true)], args := [d] }
  | _ => none }
def aggregationMovesRow : OpenClaim := { program := "ytfiefcfjedmhaaadoor", sum := "7a33b909133228077003b087b55609af4474b5c7a0a0ec10722a78d4342660f2", func := "pentaglot/pentaglotlaw41.AggregationMoves", spec := "aggregationMoves", inPlace := ["internal/abi.NoEscape", "internal/bytealg.MakeNoZero"], unfollowed := true, recurses := true, named := ["internal/strconv.uint64pow10", "math/bits.deBruijn32tab", "math/bits.deBruijn64tab"], loops := true, apart := false, laid := [("math/bits.deBruijn32tab", laid_math_bits_deBruijn32tab), ("math/bits.deBruijn64tab", laid_math_bits_deBruijn64tab), ("internal/strconv.uint64pow10", laid_internal_strconv_uint64pow10)] }
def AggregationMovesSaid : Prop := aggregationMovesRow.holds Tryd.pinned (OpenSpec.ofChange aggregationMovesSpec)

/-- ITS FALSE NEIGHBOUR: 'it returns false'. Refute it at one input. -/
def aggregationMovesWrong : ChangeSpec := { name := "aggregationMoves", fn := fun _ => fun
  | [d] => { results := [.lit (.bool false)], args := [d] }
  | _ => none }
def AggregationMovesWrongFalsely : Prop := aggregationMovesRow.holds Tryd.pinned (OpenSpec.ofChange aggregationMovesWrong)

/-- 'pentaglotlaw41.AggregationShorter': WHATEVER THE INPUT: true; the input reads as it did. -/
def aggregationShorterSpec : ChangeSpec := { name := "aggregationShorter", fn := fun _ => fun
  | [d] => { results := [.lit (.bool true)], args := [d] }
  | _ => none }
def aggregationShorterRow : OpenClaim := { program := "ytfiefcfjedmhaaadoor", sum := "7a33b909133228077003b087b55609af4474b5c7a0a0ec10722a78d4342660f2", func := "pentaglot/pentaglotlaw41.AggregationShorter", spec := "aggregationShorter", inPlace := ["internal/abi.NoEscape", "internal/bytealg.MakeNoZero"], unfollowed := true, recurses := true, named := ["internal/strconv.uint64pow10", "math/bits.deBruijn32tab", "math/bits.deBruijn64tab"], loops := true, apart := false, laid := [("math/bits.deBruijn32tab", laid_math_bits_deBruijn32tab), ("math/bits.deBruijn64tab", laid_math_bits_deBruijn64tab), ("internal/strconv.uint64pow10", laid_internal_strconv_uint64pow10)] }
def AggregationShorterSaid : Prop := aggregationShorterRow.holds Tryd.pinned (OpenSpec.ofChange aggregationShorterSpec)

/-- ITS FALSE NEIGHBOUR: 'it returns false'. Refute it at one input. -/
def aggregationShorterWrong : ChangeSpec := { name := "aggregationShorter", fn := fun _ => fun
  | [d] => { results := [.lit (.bool false)], args := [d] }
  | _ => none }
def AggregationShorterWrongFalsely : Prop := aggregationShorterRow.holds Tryd.pinned (OpenSpec.ofChange aggregationShorterWrong)

/-- 'pentaglotlaw41.AggregationFrame': WHATEVER THE INPUT: true; the input reads as it did. -/
def aggregationFrameSpec : ChangeSpec := { name := "aggregationFrame", fn := fun _ => fun
  | [d] => { results := [.lit (.bool true)], args := [d] }
  | _ => none }
def aggregationFrameRow : OpenClaim := { program := "ytfiefcfjedmhaaadoor", sum := "7a33b909133228077003b087b55609af4474b5c7a0a0ec10722a78d4342660f2", func := "pentaglot/pentaglotlaw41.AggregationFrame", spec := "aggregationFrame", inPlace := ["internal/abi.NoEscape", "internal/bytealg.MakeNoZero"], unfollowed := true, recurses := true, named := ["internal/strconv.uint64pow10", "math/bits.deBruijn32tab", "math/bits.deBruijn64tab"], loops := true, apart := false, laid := [("math/bits.deBruijn32tab", laid_math_bits_deBruijn32tab), ("math/bits.deBruijn64tab", laid_math_bits_deBruijn64tab), ("internal/strconv.uint64pow10", laid_internal_strconv_uint64pow10)] }
def AggregationFrameSaid : Prop := aggregationFrameRow.holds Tryd.pinned (OpenSpec.ofChange aggregationFrameSpec)

/-- ITS FALSE NEIGHBOUR: 'it returns false'. Refute it at one input. -/
def aggregationFrameWrong : ChangeSpec := { name := "aggregationFrame", fn := fun _ => fun
  | [d] => { results := [.lit (.bool false)], args := [d] }
  | _ => none }
def AggregationFrameWrongFalsely : Prop := aggregationFrameRow.holds Tryd.pinned (OpenSpec.ofChange aggregationFrameWrong)

/-- 'pentaglotlaw41.AggregationSplit': WHATEVER THE INPUT: true; the input reads as it did. -/
def aggregationSplitSpec : ChangeSpec := { name := "aggregationSplit", fn := fun _ => fun
  | [d] => { results := [.lit (.bool true)], args := [d] }
  | _ => none }
def aggregationSplitRow : OpenClaim := { program := "ytfiefcfjedmhaaadoor", sum := "7a33b909133228077003b087b55609af4474b5c7a0a0ec10722a78d4342660f2", func := "pentaglot/pentaglotlaw41.AggregationSplit", spec := "aggregationSplit", inPlace := ["internal/abi.NoEscape", "internal/bytealg.MakeNoZero"], unfollowed := true, recurses := true, named := ["internal/strconv.uint64pow10", "math/bits.deBruijn32tab", "math/bits.deBruijn64tab"], loops := true, apart := false, laid := [("math/bits.deBruijn32tab", laid_math_bits_deBruijn32tab), ("math/bits.deBruijn64tab", laid_math_bits_deBruijn64tab), ("internal/strconv.uint64pow10", laid_internal_strconv_uint64pow10)] }
def AggregationSplitSaid : Prop := aggregationSplitRow.holds Tryd.pinned (OpenSpec.ofChange aggregationSplitSpec)

/-- ITS FALSE NEIGHBOUR: 'it returns false'. Refute it at one input. -/
def aggregationSplitWrong : ChangeSpec := { name := "aggregationSplit", fn := fun _ => fun
  | [d] => { results := [.lit (.bool false)], args := [d] }
  | _ => none }
def AggregationSplitWrongFalsely : Prop := aggregationSplitRow.holds Tryd.pinned (OpenSpec.ofChange aggregationSplitWrong)

/-- 'pentaglotlaw41.AggregationParts': WHATEVER THE INPUT: true; the input reads as it did. -/
def aggregationPartsSpec : ChangeSpec := { name := "aggregationParts", fn := fun _ => fun
  | [d] => { results := [.lit (.bool true)], args := [d] }
  | _ => none }
def aggregationPartsRow : OpenClaim := { program := "ytfiefcfjedmhaaadoor", sum := "7a33b909133228077003b087b55609af4474b5c7a0a0ec10722a78d4342660f2", func := "pentaglot/pentaglotlaw41.AggregationParts", spec := "aggregationParts", inPlace := ["internal/abi.NoEscape", "internal/bytealg.MakeNoZero"], unfollowed := true, recurses := true, named := ["internal/strconv.uint64pow10", "math/bits.deBruijn32tab", "math/bits.deBruijn64tab"], loops := true, apart := false, laid := [("math/bits.deBruijn32tab", laid_math_bits_deBruijn32tab), ("math/bits.deBruijn64tab", laid_math_bits_deBruijn64tab), ("internal/strconv.uint64pow10", laid_internal_strconv_uint64pow10)] }
def AggregationPartsSaid : Prop := aggregationPartsRow.holds Tryd.pinned (OpenSpec.ofChange aggregationPartsSpec)

/-- ITS FALSE NEIGHBOUR: 'it returns false'. Refute it at one input. -/
def aggregationPartsWrong : ChangeSpec := { name := "aggregationParts", fn := fun _ => fun
  | [d] => { results := [.lit (.bool false)], args := [d] }
  | _ => none }
def AggregationPartsWrongFalsely : Prop := aggregationPartsRow.holds Tryd.pinned (OpenSpec.ofChange aggregationPartsWrong)

/-- 'pentaglotlaw41.AggregationInverts': WHATEVER THE INPUT: true; the input reads as it did. -/
def aggregationInvertsSpec : ChangeSpec := { name := "aggregationInverts", fn := fun _ => fun
  | [d1, d2, d3, d4] => { results := [.lit (.bool true)], args := [d1, d2, d3, d4] }
  | _ => none }
def aggregationInvertsRow : OpenClaim := { program := "ytfiefcfjedmhaaadoor", sum := "7a33b909133228077003b087b55609af4474b5c7a0a0ec10722a78d4342660f2", func := "pentaglot/pentaglotlaw41.AggregationInverts", spec := "aggregationInverts", inPlace := ["internal/abi.NoEscape", "internal/bytealg.MakeNoZero"], unfollowed := true, recurses := true, named := ["internal/strconv.uint64pow10", "math/bits.deBruijn32tab", "math/bits.deBruijn64tab"], loops := true, apart := false, laid := [("math/bits.deBruijn32tab", laid_math_bits_deBruijn32tab), ("math/bits.deBruijn64tab", laid_math_bits_deBruijn64tab), ("internal/strconv.uint64pow10", laid_internal_strconv_uint64pow10)] }
def AggregationInvertsSaid : Prop := aggregationInvertsRow.holds Tryd.pinned (OpenSpec.ofChange aggregationInvertsSpec)

/-- ITS FALSE NEIGHBOUR: 'it returns false'. Refute it at one input. -/
def aggregationInvertsWrong : ChangeSpec := { name := "aggregationInverts", fn := fun _ => fun
  | [d1, d2, d3, d4] => { results := [.lit (.bool false)], args := [d1, d2, d3, d4] }
  | _ => none }
def AggregationInvertsWrongFalsely : Prop := aggregationInvertsRow.holds Tryd.pinned (OpenSpec.ofChange aggregationInvertsWrong)

/-- 'pentaglotlaw41.AggregationFinds': WHATEVER THE INPUT: true; the input reads as it did. -/
def aggregationFindsSpec : ChangeSpec := { name := "aggregationFinds", fn := fun _ => fun
  | [d1, d2, d3, d4] => { results := [.lit (.bool true)], args := [d1, d2, d3, d4] }
  | _ => none }
def aggregationFindsRow : OpenClaim := { program := "ytfiefcfjedmhaaadoor", sum := "7a33b909133228077003b087b55609af4474b5c7a0a0ec10722a78d4342660f2", func := "pentaglot/pentaglotlaw41.AggregationFinds", spec := "aggregationFinds", inPlace := ["internal/abi.NoEscape", "internal/bytealg.MakeNoZero"], unfollowed := true, recurses := true, named := ["internal/strconv.uint64pow10", "math/bits.deBruijn32tab", "math/bits.deBruijn64tab"], loops := true, apart := false, laid := [("math/bits.deBruijn32tab", laid_math_bits_deBruijn32tab), ("math/bits.deBruijn64tab", laid_math_bits_deBruijn64tab), ("internal/strconv.uint64pow10", laid_internal_strconv_uint64pow10)] }
def AggregationFindsSaid : Prop := aggregationFindsRow.holds Tryd.pinned (OpenSpec.ofChange aggregationFindsSpec)

/-- ITS FALSE NEIGHBOUR: 'it returns false'. Refute it at one input. -/
def aggregationFindsWrong : ChangeSpec := { name := "aggregationFinds", fn := fun _ => fun
  | [d1, d2, d3, d4] => { results := [.lit (.bool false)], args := [d1, d2, d3, d4] }
  | _ => none }
def AggregationFindsWrongFalsely : Prop := aggregationFindsRow.holds Tryd.pinned (OpenSpec.ofChange aggregationFindsWrong)

/- THE SECOND FORM. 'bulk': how many values and letters a reading holds, each counted each time it is reached (what is shared counts as often as it is met; a slice's spare places count too). A statement '..UptoSaid' is the law's where the arguments, and the package variables that the reading takes, are together of bulk at most 1048576: NARROWER than '..Said'. Prove '..Said' where nothing that the law and all that it calls make is longer than what came in: it says more and counts as full. Else prove '..UptoSaid'. A law counts once. -/
mutual
def uptoBulk {H : Type} : DataW H → Nat
  | .lit (.string bytes) => bytes.length + 1
  | .lit _ => 1
  | .nil => 1
  | .ptr d => uptoBulk d + 1
  | .slice elems spare => uptoBulkAll elems + uptoBulkAll spare + 1
  | .agg parts => uptoBulkAll parts + 1
  | .iface _ d => uptoBulk d + 1
  | .map entries => uptoBulkEntries entries + 1
  | .held _ => 1
def uptoBulkAll {H : Type} : List (DataW H) → Nat
  | [] => 0
  | d :: r => uptoBulk d + uptoBulkAll r
def uptoBulkEntries {H : Type} : List (Lit × DataW H) → Nat
  | [] => 0
  | x :: r => uptoBulkEntry x + uptoBulkEntries r
def uptoBulkEntry {H : Type} : Lit × DataW H → Nat
  | (.string bytes, d) => bytes.length + uptoBulk d + 1
  | (_, d) => uptoBulk d + 1
 end
def uptoSmall : (H : Type) → List (DataW H) → Bool := fun _ ds => decide (uptoBulkAll ds ≤ 1048576)
def OpenSpec.upto (s : _root_.Go.ChangeSpec) : _root_.Go.OpenSpec := { _root_.Go.OpenSpec.ofChange s with cond := some uptoSmall }

/-- 'pentaglotlaw41.AggregationMerge', WHERE WHAT IT READS IS OF BULK AT MOST 1048576: true; the input reads as it did. -/
def aggregationMergeUptoRow : OpenClaim := { program := "ytfiefcfjedmhaaadoor", sum := "7a33b909133228077003b087b55609af4474b5c7a0a0ec10722a78d4342660f2", func := "pentaglot/pentaglotlaw41.AggregationMerge", spec := "aggregationMerge", inPlace := ["internal/abi.NoEscape", "internal/bytealg.MakeNoZero"], unfollowed := true, recurses := true, named := ["internal/strconv.uint64pow10", "math/bits.deBruijn32tab", "math/bits.deBruijn64tab"], loops := true, apart := false, laid := [("math/bits.deBruijn32tab", laid_math_bits_deBruijn32tab), ("math/bits.deBruijn64tab", laid_math_bits_deBruijn64tab), ("internal/strconv.uint64pow10", laid_internal_strconv_uint64pow10)], narrowed := true }
def AggregationMergeUptoSaid : Prop := aggregationMergeUptoRow.holds Tryd.pinned (OpenSpec.upto aggregationMergeSpec)

/-- 'pentaglotlaw41.AggregationMoves', WHERE WHAT IT READS IS OF BULK AT MOST 1048576: true; the input reads as it did. -/
def aggregationMovesUptoRow : OpenClaim := { program := "ytfiefcfjedmhaaadoor", sum := "7a33b909133228077003b087b55609af4474b5c7a0a0ec10722a78d4342660f2", func := "pentaglot/pentaglotlaw41.AggregationMoves", spec := "aggregationMoves", inPlace := ["internal/abi.NoEscape", "internal/bytealg.MakeNoZero"], unfollowed := true, recurses := true, named := ["internal/strconv.uint64pow10", "math/bits.deBruijn32tab", "math/bits.deBruijn64tab"], loops := true, apart := false, laid := [("math/bits.deBruijn32tab", laid_math_bits_deBruijn32tab), ("math/bits.deBruijn64tab", laid_math_bits_deBruijn64tab), ("internal/strconv.uint64pow10", laid_internal_strconv_uint64pow10)], narrowed := true }
def AggregationMovesUptoSaid : Prop := aggregationMovesUptoRow.holds Tryd.pinned (OpenSpec.upto aggregationMovesSpec)

/-- 'pentaglotlaw41.AggregationShorter', WHERE WHAT IT READS IS OF BULK AT MOST 1048576: true; the input reads as it did. -/
def aggregationShorterUptoRow : OpenClaim := { program := "ytfiefcfjedmhaaadoor", sum := "7a33b909133228077003b087b55609af4474b5c7a0a0ec10722a78d4342660f2", func := "pentaglot/pentaglotlaw41.AggregationShorter", spec := "aggregationShorter", inPlace := ["internal/abi.NoEscape", "internal/bytealg.MakeNoZero"], unfollowed := true, recurses := true, named := ["internal/strconv.uint64pow10", "math/bits.deBruijn32tab", "math/bits.deBruijn64tab"], loops := true, apart := false, laid := [("math/bits.deBruijn32tab", laid_math_bits_deBruijn32tab), ("math/bits.deBruijn64tab", laid_math_bits_deBruijn64tab), ("internal/strconv.uint64pow10", laid_internal_strconv_uint64pow10)], narrowed := true }
def AggregationShorterUptoSaid : Prop := aggregationShorterUptoRow.holds Tryd.pinned (OpenSpec.upto aggregationShorterSpec)

/-- 'pentaglotlaw41.AggregationFrame', WHERE WHAT IT READS IS OF BULK AT MOST 1048576: true; the input reads as it did. -/
def aggregationFrameUptoRow : OpenClaim := { program := "ytfiefcfjedmhaaadoor", sum := "7a33b909133228077003b087b55609af4474b5c7a0a0ec10722a78d4342660f2", func := "pentaglot/pentaglotlaw41.AggregationFrame", spec := "aggregationFrame", inPlace := ["internal/abi.NoEscape", "internal/bytealg.MakeNoZero"], unfollowed := true, recurses := true, named := ["internal/strconv.uint64pow10", "math/bits.deBruijn32tab", "math/bits.deBruijn64tab"], loops := true, apart := false, laid := [("math/bits.deBruijn32tab", laid_math_bits_deBruijn32tab), ("math/bits.deBruijn64tab", laid_math_bits_deBruijn64tab), ("internal/strconv.uint64pow10", laid_internal_strconv_uint64pow10)], narrowed := true }
def AggregationFrameUptoSaid : Prop := aggregationFrameUptoRow.holds Tryd.pinned (OpenSpec.upto aggregationFrameSpec)

/-- 'pentaglotlaw41.AggregationSplit', WHERE WHAT IT READS IS OF BULK AT MOST 1048576: true; the input reads as it did. -/
def aggregationSplitUptoRow : OpenClaim := { program := "ytfiefcfjedmhaaadoor", sum := "7a33b909133228077003b087b55609af4474b5c7a0a0ec10722a78d4342660f2", func := "pentaglot/pentaglotlaw41.AggregationSplit", spec := "aggregationSplit", inPlace := ["internal/abi.NoEscape", "internal/bytealg.MakeNoZero"], unfollowed := true, recurses := true, named := ["internal/strconv.uint64pow10", "math/bits.deBruijn32tab", "math/bits.deBruijn64tab"], loops := true, apart := false, laid := [("math/bits.deBruijn32tab", laid_math_bits_deBruijn32tab), ("math/bits.deBruijn64tab", laid_math_bits_deBruijn64tab), ("internal/strconv.uint64pow10", laid_internal_strconv_uint64pow10)], narrowed := true }
def AggregationSplitUptoSaid : Prop := aggregationSplitUptoRow.holds Tryd.pinned (OpenSpec.upto aggregationSplitSpec)

/-- 'pentaglotlaw41.AggregationParts', WHERE WHAT IT READS IS OF BULK AT MOST 1048576: true; the input reads as it did. -/
def aggregationPartsUptoRow : OpenClaim := { program := "ytfiefcfjedmhaaadoor", sum := "7a33b909133228077003b087b55609af4474b5c7a0a0ec10722a78d4342660f2", func := "pentaglot/pentaglotlaw41.AggregationParts", spec := "aggregationParts", inPlace := ["internal/abi.NoEscape", "internal/bytealg.MakeNoZero"], unfollowed := true, recurses := true, named := ["internal/strconv.uint64pow10", "math/bits.deBruijn32tab", "math/bits.deBruijn64tab"], loops := true, apart := false, laid := [("math/bits.deBruijn32tab", laid_math_bits_deBruijn32tab), ("math/bits.deBruijn64tab", laid_math_bits_deBruijn64tab), ("internal/strconv.uint64pow10", laid_internal_strconv_uint64pow10)], narrowed := true }
def AggregationPartsUptoSaid : Prop := aggregationPartsUptoRow.holds Tryd.pinned (OpenSpec.upto aggregationPartsSpec)

/-- 'pentaglotlaw41.AggregationInverts', WHERE WHAT IT READS IS OF BULK AT MOST 1048576: true; the input reads as it did. -/
def aggregationInvertsUptoRow : OpenClaim := { program := "ytfiefcfjedmhaaadoor", sum := "7a33b909133228077003b087b55609af4474b5c7a0a0ec10722a78d4342660f2", func := "pentaglot/pentaglotlaw41.AggregationInverts", spec := "aggregationInverts", inPlace := ["internal/abi.NoEscape", "internal/bytealg.MakeNoZero"], unfollowed := true, recurses := true, named := ["internal/strconv.uint64pow10", "math/bits.deBruijn32tab", "math/bits.deBruijn64tab"], loops := true, apart := false, laid := [("math/bits.deBruijn32tab", laid_math_bits_deBruijn32tab), ("math/bits.deBruijn64tab", laid_math_bits_deBruijn64tab), ("internal/strconv.uint64pow10", laid_internal_strconv_uint64pow10)], narrowed := true }
def AggregationInvertsUptoSaid : Prop := aggregationInvertsUptoRow.holds Tryd.pinned (OpenSpec.upto aggregationInvertsSpec)

/-- 'pentaglotlaw41.AggregationFinds', WHERE WHAT IT READS IS OF BULK AT MOST 1048576: true; the input reads as it did. -/
def aggregationFindsUptoRow : OpenClaim := { program := "ytfiefcfjedmhaaadoor", sum := "7a33b909133228077003b087b55609af4474b5c7a0a0ec10722a78d4342660f2", func := "pentaglot/pentaglotlaw41.AggregationFinds", spec := "aggregationFinds", inPlace := ["internal/abi.NoEscape", "internal/bytealg.MakeNoZero"], unfollowed := true, recurses := true, named := ["internal/strconv.uint64pow10", "math/bits.deBruijn32tab", "math/bits.deBruijn64tab"], loops := true, apart := false, laid := [("math/bits.deBruijn32tab", laid_math_bits_deBruijn32tab), ("math/bits.deBruijn64tab", laid_math_bits_deBruijn64tab), ("internal/strconv.uint64pow10", laid_internal_strconv_uint64pow10)], narrowed := true }
def AggregationFindsUptoSaid : Prop := aggregationFindsUptoRow.holds Tryd.pinned (OpenSpec.upto aggregationFindsSpec)

end Rows
end Go.Proofs.YtfiefcfjedmhaaaDoor
