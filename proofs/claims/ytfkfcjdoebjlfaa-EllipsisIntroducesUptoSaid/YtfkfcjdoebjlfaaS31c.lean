/- Functions, and the categories of trees. No program. -/
import Derived.Test.YtfkfcjdoebjlfaaS31
namespace Go.Abs
open Go
set_option linter.unusedVariables false
set_option linter.unusedSimpArgs false

structure Fun where
  name : ByteArray
  args : List ByteArray
  res : ByteArray
  vals : Int

def strs (l : List ByteArray) : List (List D) := l.map fun s => [.str s]
def Fun.cells (f : Fun) : List D := [.str f.name, .sl 1 (strs f.args), .str f.res, .int .i64 f.vals]
def funs (l : List Fun) : List (List D) := l.map Fun.cells

theorem funs_len (l : List Fun) : (funs l).length = l.length := by simp [funs]
theorem strs_len (l : List ByteArray) : (strs l).length = l.length := by simp [strs]
theorem funs_get {l : List Fun} {i : Nat} {f : Fun} (h : l[i]? = some f) : (funs l)[i]? = some [.str f.name, .sl 1 (strs f.args), .str f.res, .int .i64 f.vals] := by
  rw [funs, List.getElem?_map, h]; rfl
theorem strs_get {l : List ByteArray} {i : Nat} {s : ByteArray} (h : l[i]? = some s) : (strs l)[i]? = some [.str s] := by
  rw [strs, List.getElem?_map, h]; rfl

/-- The place of the first function with a name. -/
def idxF : List Fun → ByteArray → Nat
  | [], _ => 0
  | f :: fs, n => if f.name = n then 0 else idxF fs n + 1

theorem idxF_le : ∀ (l : List Fun) (n : ByteArray), idxF l n ≤ l.length
  | [], _ => Nat.le_refl _
  | f :: fs, n => by simp only [idxF, List.length_cons]; have := idxF_le fs n; split <;> omega

def okValue (n : Int) : Bool := decide (0 ≤ n) && decide (n ≤ 1439999999)

mutual
  /-- The category of a tree that is well formed. -/
  def Tree.well (l : List Fun) : Tree → Option ByteArray
    | .node f vs ks => match l[idxF l f]? with
      | none => none
      | some g => if ks.length = g.args.length ∧ (vs.length : Int) = g.vals ∧ vs.all okValue = true ∧ wells l ks g.args = true then some g.res else none
  def wells (l : List Fun) : List Tree → List ByteArray → Bool
    | [], _ => true
    | t :: ts, a :: as' => decide (t.well l = some a) && wells l ts as'
    | _ :: _, [] => false
end

theorem well_eq (l : List Fun) (t : Tree) : t.well l = match l[idxF l t.fn]? with
    | none => none
    | some g => if t.ks.length = g.args.length ∧ (t.vs.length : Int) = g.vals ∧ t.vs.all okValue = true ∧ wells l t.ks g.args = true then some g.res else none := by
  cases t; simp only [Tree.well, Tree.fn, Tree.vs, Tree.ks]; rfl

/-- What Category hands back. -/
def catR (l : List Fun) (t : Tree) : ByteArray × Int := if 60 < t.size then (ByteArray.mk #[], 2) else match t.well l with
  | none => (ByteArray.mk #[], 6)
  | some c => (c, 0)
def wellR (l : List Fun) (t : Tree) : ByteArray × Bool := match t.well l with
  | none => (ByteArray.mk #[], false)
  | some c => (c, true)
end Go.Abs
