/-
  NARROWER THAN 'FOR EVERY INPUT', by the rows' own cells (each row's printed sentence says how): EllipsisExpands: loops · EllipsisRemoves: loops · EllipsisIntroduces: loops · EllipsisElided: loops · EllipsisParallel: loops · EllipsisBack: loops · EllipsisParallels: loops · EllipsisRoots: loops.
  DERIVED. THE GIVEN ROWS OF THIS SEAT. 8 by the template 'for every input the law returns true; each argument reads behind the call as it read before'; 0 by the template 'total and deterministic' (their statements: YtfkfcjdoebjlfaaTotals.lean).
  GIVEN WITH THE SEED: the statements are not yours to turn. If you find one false, say at which input.
  Laid BY PROGRAM, IN A SANDBOX (cutbox-rows.mjs): the forced cells as the released guide's own fill.sh prints them over the translation 05f9df516601cf6d… (all of the seat's roots in one cut). By AI agents, Wed Nov 11 2026. No macro, syntax, notation, axiom, sorry.
-/
import Derived.Test.YtfkfcjdoebjlfaaChecked
import GoSem.Claim
import GoSem.ClaimJoined
import GoSem.ClaimMapViews
import Derived.JoinedTies
import Derived.KernelRfl
namespace Go.Proofs.Ytfkfcjdoebjlfaa
/- THE CELL 'sum', in the pinned program and in every row, IS THE sha256 OF THE DUMP (.gsa) THAT YtfkfcjdoebjlfaaProg.lean LOADS. Nothing in Lean hashes anything: it is a label: what it is worth is what the hold of that sum in a sandbox is worth. -/
noncomputable def Try.pinned : Pinned := { name := "ytfkfcjdoebjlfaa", sum := "05f9df516601cf6d9295f43cd0e319f9ef09041dbb2096ba800891c1eff5987c", checked := Try.checked }
namespace Rows
def none {H : Type} : Left H := { results := [], args := [] }

/-- 'pentaglotlaw39.EllipsisExpands': WHATEVER THE INPUT: true; the input reads as it did. -/
def ellipsisExpandsSpec : ChangeSpec := { name := "ellipsisExpands", fn := fun _ => fun
  | [d] => { results := [.lit (.bool true)], args := [d] }
  | _ => none }
def ellipsisExpandsRow : OpenClaim := { program := "ytfkfcjdoebjlfaa", sum := "05f9df516601cf6d9295f43cd0e319f9ef09041dbb2096ba800891c1eff5987c", func := "pentaglot/pentaglotlaw39.EllipsisExpands", spec := "ellipsisExpands", unfollowed := true, recurses := true, loops := true, apart := false }
def EllipsisExpandsSaid : Prop := ellipsisExpandsRow.holds Try.pinned (OpenSpec.ofChange ellipsisExpandsSpec)

/-- ITS FALSE NEIGHBOUR: 'it returns false'. Refute it at one input. -/
def ellipsisExpandsWrong : ChangeSpec := { name := "ellipsisExpands", fn := fun _ => fun
  | [d] => { results := [.lit (.bool false)], args := [d] }
  | _ => none }
def EllipsisExpandsWrongFalsely : Prop := ellipsisExpandsRow.holds Try.pinned (OpenSpec.ofChange ellipsisExpandsWrong)

/-- 'pentaglotlaw39.EllipsisRemoves': WHATEVER THE INPUT: true; the input reads as it did. -/
def ellipsisRemovesSpec : ChangeSpec := { name := "ellipsisRemoves", fn := fun _ => fun
  | [d] => { results := [.lit (.bool true)], args := [d] }
  | _ => none }
def ellipsisRemovesRow : OpenClaim := { program := "ytfkfcjdoebjlfaa", sum := "05f9df516601cf6d9295f43cd0e319f9ef09041dbb2096ba800891c1eff5987c", func := "pentaglot/pentaglotlaw39.EllipsisRemoves", spec := "ellipsisRemoves", unfollowed := true, recurses := true, loops := true, apart := false }
def EllipsisRemovesSaid : Prop := ellipsisRemovesRow.holds Try.pinned (OpenSpec.ofChange ellipsisRemovesSpec)

/-- ITS FALSE NEIGHBOUR: 'it returns false'. Refute it at one input. -/
def ellipsisRemovesWrong : ChangeSpec := { name := "ellipsisRemoves", fn := fun _ => fun
  | [d] => { results := [.lit (.bool false)], args := [d] }
  | _ => none }
def EllipsisRemovesWrongFalsely : Prop := ellipsisRemovesRow.holds Try.pinned (OpenSpec.ofChange ellipsisRemovesWrong)

/-- 'pentaglotlaw39.EllipsisIntroduces': WHATEVER THE INPUT: true; the input reads as it did. -/
def ellipsisIntroducesSpec : ChangeSpec := { name := "ellipsisIntroduces", fn := fun _ => fun
  | [d] => { results := [.lit (.bool true)], args := [d] }
  | _ => none }
def ellipsisIntroducesRow : OpenClaim := { program := "ytfkfcjdoebjlfaa", sum := "05f9df516601cf6d9295f43cd0e319f9ef09041dbb2096ba800891c1eff5987c", func := "pentaglot/pentaglotlaw39.EllipsisIntroduces", spec := "ellipsisIntroduces", unfollowed := true, recurses := true, loops := true, apart := false }
def EllipsisIntroducesSaid : Prop := ellipsisIntroducesRow.holds Try.pinned (OpenSpec.ofChange ellipsisIntroducesSpec)

/-- ITS FALSE NEIGHBOUR: 'it returns false'. Refute it at one input. -/
def ellipsisIntroducesWrong : ChangeSpec := { name := "ellipsisIntroduces", fn := fun _ => fun
  | [d] => { results := [.lit (.bool false)], args := [d] }
  | _ => none }
def EllipsisIntroducesWrongFalsely : Prop := ellipsisIntroducesRow.holds Try.pinned (OpenSpec.ofChange ellipsisIntroducesWrong)

/-- 'pentaglotlaw39.EllipsisElided': WHATEVER THE INPUT: true; the input reads as it did. -/
def ellipsisElidedSpec : ChangeSpec := { name := "ellipsisElided", fn := fun _ => fun
  | [d] => { results := [.lit (.bool true)], args := [d] }
  | _ => none }
def ellipsisElidedRow : OpenClaim := { program := "ytfkfcjdoebjlfaa", sum := "05f9df516601cf6d9295f43cd0e319f9ef09041dbb2096ba800891c1eff5987c", func := "pentaglot/pentaglotlaw39.EllipsisElided", spec := "ellipsisElided", unfollowed := true, recurses := true, loops := true, apart := false }
def EllipsisElidedSaid : Prop := ellipsisElidedRow.holds Try.pinned (OpenSpec.ofChange ellipsisElidedSpec)

/-- ITS FALSE NEIGHBOUR: 'it returns false'. Refute it at one input. -/
def ellipsisElidedWrong : ChangeSpec := { name := "ellipsisElided", fn := fun _ => fun
  | [d] => { results := [.lit (.bool false)], args := [d] }
  | _ => none }
def EllipsisElidedWrongFalsely : Prop := ellipsisElidedRow.holds Try.pinned (OpenSpec.ofChange ellipsisElidedWrong)

/-- 'pentaglotlaw39.EllipsisParallel': WHATEVER THE INPUT: true; the input reads as it did. -/
def ellipsisParallelSpec : ChangeSpec := { name := "ellipsisParallel", fn := fun _ => fun
  | [d1, d2] => { results := [.lit (.bool true)], args := [d1, d2] }
  | _ => none }
def ellipsisParallelRow : OpenClaim := { program := "ytfkfcjdoebjlfaa", sum := "05f9df516601cf6d9295f43cd0e319f9ef09041dbb2096ba800891c1eff5987c", func := "pentaglot/pentaglotlaw39.EllipsisParallel", spec := "ellipsisParallel", unfollowed := true, recurses := true, loops := true, apart := false }
def EllipsisParallelSaid : Prop := ellipsisParallelRow.holds Try.pinned (OpenSpec.ofChange ellipsisParallelSpec)

/-- ITS FALSE NEIGHBOUR: 'it returns false'. Refute it at one input. -/
def ellipsisParallelWrong : ChangeSpec := { name := "ellipsisParallel", fn := fun _ => fun
  | [d1, d2] => { results := [.lit (.bool false)], args := [d1, d2] }
  | _ => none }
def EllipsisParallelWrongFalsely : Prop := ellipsisParallelRow.holds Try.pinned (OpenSpec.ofChange ellipsisParallelWrong)

/-- 'pentaglotlaw39.EllipsisBack': WHATEVER THE INPUT: true; the input reads as it did. -/
def ellipsisBackSpec : ChangeSpec := { name := "ellipsisBack", fn := fun _ => fun
  | [d] => { results := [.lit (.bool true)], args := [d] }
  | _ => none }
def ellipsisBackRow : OpenClaim := { program := "ytfkfcjdoebjlfaa", sum := "05f9df516601cf6d9295f43cd0e319f9ef09041dbb2096ba800891c1eff5987c", func := "pentaglot/pentaglotlaw39.EllipsisBack", spec := "ellipsisBack", unfollowed := true, recurses := true, loops := true, apart := false }
def EllipsisBackSaid : Prop := ellipsisBackRow.holds Try.pinned (OpenSpec.ofChange ellipsisBackSpec)

/-- ITS FALSE NEIGHBOUR: 'it returns false'. Refute it at one input. -/
def ellipsisBackWrong : ChangeSpec := { name := "ellipsisBack", fn := fun _ => fun
  | [d] => { results := [.lit (.bool false)], args := [d] }
  | _ => none }
def EllipsisBackWrongFalsely : Prop := ellipsisBackRow.holds Try.pinned (OpenSpec.ofChange ellipsisBackWrong)

/-- 'pentaglotlaw39.EllipsisParallels': WHATEVER THE INPUT: true; the input reads as it did. -/
def ellipsisParallelsSpec : ChangeSpec := { name := "ellipsisParallels", fn := fun _ => fun
  | [d1, d2] => { results := [.lit (.bool true)], args := [d1, d2] }
  | _ => none }
def ellipsisParallelsRow : OpenClaim := { program := "ytfkfcjdoebjlfaa", sum := "05f9df516601cf6d9295f43cd0e319f9ef09041dbb2096ba800891c1eff5987c", func := "pentaglot/pentaglotlaw39.EllipsisParallels", spec := "ellipsisParallels", unfollowed := true, recurses := true, loops := true, apart := false }
def EllipsisParallelsSaid : Prop := ellipsisParallelsRow.holds Try.pinned (OpenSpec.ofChange ellipsisParallelsSpec)

/-- ITS FALSE NEIGHBOUR: 'it returns false'. Refute it at one input. -/
def ellipsisParallelsWrong : ChangeSpec := { name := "ellipsisParallels", fn := fun _ => fun
  | [d1, d2] => { results := [.lit (.bool false)], args := [d1, d2] }
  | _ => none }
def EllipsisParallelsWrongFalsely : Prop := ellipsisParallelsRow.holds Try.pinned (OpenSpec.ofChange ellipsisParallelsWrong)

/-- 'pentaglotlaw39.EllipsisRoots': WHATEVER THE INPUT: true; the input reads as it did. -/
def ellipsisRootsSpec : ChangeSpec := { name := "ellipsisRoots", fn := fun _ => fun
  | [d] => { results := [.lit (.bool true)], args := [d] }
  | _ => none }
def ellipsisRootsRow : OpenClaim := { program := "ytfkfcjdoebjlfaa", sum := "05f9df516601cf6d9295f43cd0e319f9ef09041dbb2096ba800891c1eff5987c", func := "pentaglot/pentaglotlaw39.EllipsisRoots", spec := "ellipsisRoots", unfollowed := true, recurses := true, loops := true, apart := false }
def EllipsisRootsSaid : Prop := ellipsisRootsRow.holds Try.pinned (OpenSpec.ofChange ellipsisRootsSpec)

/-- ITS FALSE NEIGHBOUR: 'it returns false'. Refute it at one input. -/
def ellipsisRootsWrong : ChangeSpec := { name := "ellipsisRoots", fn := fun _ => fun
  | [d] => { results := [.lit (.bool false)], args := [d] }
  | _ => none }
def EllipsisRootsWrongFalsely : Prop := ellipsisRootsRow.holds Try.pinned (OpenSpec.ofChange ellipsisRootsWrong)

/- THE SECOND FORM. 'bulk': how many values and letters a reading holds, each counted each time it is reached (what is shared counts as often as it is met; a slice's spare places count too). A statement '..UptoSaid' is the law's where the arguments, and the package variables that the reading takes, are together of bulk at most 1048576: NARROWER than '..Said'. Prove '..Said' where nothing that the law and all that it calls make is longer than what came in: it says more and counts as full. Else prove '..UptoSaid'. A law counts once. -/
mutual
def uptoBulk {H : Type} : DataW H → Nat
  | .lit (.string bytes) => bytes.length + 1
  | .lit _ => 1
  | .nil => 1
  | .ptr d => uptoBulk d + 1
  | .slice elems spare => uptoBulkAll elems + uptoBulkAll spare + 1
  | .agg parts => uptoBulkAll parts + 1
  | .iface _ d => uptoBulk d + 1
  | .map entries => uptoBulkEntries entries + 1
  | .held _ => 1
def uptoBulkAll {H : Type} : List (DataW H) → Nat
  | [] => 0
  | d :: r => uptoBulk d + uptoBulkAll r
def uptoBulkEntries {H : Type} : List (Lit × DataW H) → Nat
  | [] => 0
  | x :: r => uptoBulkEntry x + uptoBulkEntries r
def uptoBulkEntry {H : Type} : Lit × DataW H → Nat
  | (.string bytes, d) => bytes.length + uptoBulk d + 1
  | (_, d) => uptoBulk d + 1
 end
def uptoSmall : (H : Type) → List (DataW H) → Bool := fun _ ds => decide (uptoBulkAll ds ≤ 1048576)
def OpenSpec.upto (s : _root_.Go.ChangeSpec) : _root_.Go.OpenSpec := { _root_.Go.OpenSpec.ofChange s with cond := some uptoSmall }

/-- 'pentaglotlaw39.EllipsisExpands', WHERE WHAT IT READS IS OF BULK AT MOST 1048576: true; the input reads as it did. -/
def ellipsisExpandsUptoRow : OpenClaim := { program := "ytfkfcjdoebjlfaa", sum := "05f9df516601cf6d9295f43cd0e319f9ef09041dbb2096ba800891c1eff5987c", func := "pentaglot/pentaglotlaw39.EllipsisExpands", spec := "ellipsisExpands", unfollowed := true, recurses := true, loops := true, apart := false, narrowed := true }
def EllipsisExpandsUptoSaid : Prop := ellipsisExpandsUptoRow.holds Try.pinned (OpenSpec.upto ellipsisExpandsSpec)

/-- 'pentaglotlaw39.EllipsisRemoves', WHERE WHAT IT READS IS OF BULK AT MOST 1048576: true; the input reads as it did. -/
def ellipsisRemovesUptoRow : OpenClaim := { program := "ytfkfcjdoebjlfaa", sum := "05f9df516601cf6d9295f43cd0e319f9ef09041dbb2096ba800891c1eff5987c", func := "pentaglot/pentaglotlaw39.EllipsisRemoves", spec := "ellipsisRemoves", unfollowed := true, recurses := true, loops := true, apart := false, narrowed := true }
def EllipsisRemovesUptoSaid : Prop := ellipsisRemovesUptoRow.holds Try.pinned (OpenSpec.upto ellipsisRemovesSpec)

/-- 'pentaglotlaw39.EllipsisIntroduces', WHERE WHAT IT READS IS OF BULK AT MOST 1048576: true; the input reads as it did. -/
def ellipsisIntroducesUptoRow : OpenClaim := { program := "ytfkfcjdoebjlfaa", sum := "05f9df516601cf6d9295f43cd0e319f9ef09041dbb2096ba800891c1eff5987c", func := "pentaglot/pentaglotlaw39.EllipsisIntroduces", spec := "ellipsisIntroduces", unfollowed := true, recurses := true, loops := true, apart := false, narrowed := true }
def EllipsisIntroducesUptoSaid : Prop := ellipsisIntroducesUptoRow.holds Try.pinned (OpenSpec.upto ellipsisIntroducesSpec)

/-- 'pentaglotlaw39.EllipsisElided', WHERE WHAT IT READS IS OF BULK AT MOST 1048576: true; the input reads as it did. -/
def ellipsisElidedUptoRow : OpenClaim := { program := "ytfkfcjdoebjlfaa", sum := "05f9df516601cf6d9295f43cd0e319f9ef09041dbb2096ba800891c1eff5987c", func := "pentaglot/pentaglotlaw39.EllipsisElided", spec := "ellipsisElided", unfollowed := true, recurses := true, loops := true, apart := false, narrowed := true }
def EllipsisElidedUptoSaid : Prop := ellipsisElidedUptoRow.holds Try.pinned (OpenSpec.upto ellipsisElidedSpec)

/-- 'pentaglotlaw39.EllipsisParallel', WHERE WHAT IT READS IS OF BULK AT MOST 1048576: true; the input reads as it did. -/
def ellipsisParallelUptoRow : OpenClaim := { program := "ytfkfcjdoebjlfaa", sum := "05f9df516601cf6d9295f43cd0e319f9ef09041dbb2096ba800891c1eff5987c", func := "pentaglot/pentaglotlaw39.EllipsisParallel", spec := "ellipsisParallel", unfollowed := true, recurses := true, loops := true, apart := false, narrowed := true }
def EllipsisParallelUptoSaid : Prop := ellipsisParallelUptoRow.holds Try.pinned (OpenSpec.upto ellipsisParallelSpec)

/-- 'pentaglotlaw39.EllipsisBack', WHERE WHAT IT READS IS OF BULK AT MOST 1048576: true; the input reads as it did. -/
def ellipsisBackUptoRow : OpenClaim := { program := "ytfkfcjdoebjlfaa", sum := "05f9df516601cf6d9295f43cd0e319f9ef09041dbb2096ba800891c1eff5987c", func := "pentaglot/pentaglotlaw39.EllipsisBack", spec := "ellipsisBack", unfollowed := true, recurses := true, loops := true, apart := false, narrowed := true }
def EllipsisBackUptoSaid : Prop := ellipsisBackUptoRow.holds Try.pinned (OpenSpec.upto ellipsisBackSpec)

/-- 'pentaglotlaw39.EllipsisParallels', WHERE WHAT IT READS IS OF BULK AT MOST 1048576: true; the input reads as it did. -/
def ellipsisParallelsUptoRow : OpenClaim := { program := "ytfkfcjdoebjlfaa", sum := "05f9df516601cf6d9295f43cd0e319f9ef09041dbb2096ba800891c1eff5987c", func := "pentaglot/pentaglotlaw39.EllipsisParallels", spec := "ellipsisParallels", unfollowed := true, recurses := true, loops := true, apart := false, narrowed := true }
def EllipsisParallelsUptoSaid : Prop := ellipsisParallelsUptoRow.holds Try.pinned (OpenSpec.upto ellipsisParallelsSpec)

/-- 'pentaglotlaw39.EllipsisRoots', WHERE WHAT IT READS IS OF BULK AT MOST 1048576: true; the input reads as it did. -/
def ellipsisRootsUptoRow : OpenClaim := { program := "ytfkfcjdoebjlfaa", sum := "05f9df516601cf6d9295f43cd0e319f9ef09041dbb2096ba800891c1eff5987c", func := "pentaglot/pentaglotlaw39.EllipsisRoots", spec := "ellipsisRoots", unfollowed := true, recurses := true, loops := true, apart := false, narrowed := true }
def EllipsisRootsUptoSaid : Prop := ellipsisRootsUptoRow.holds Try.pinned (OpenSpec.upto ellipsisRootsSpec)

end Rows
end Go.Proofs.Ytfkfcjdoebjlfaa
