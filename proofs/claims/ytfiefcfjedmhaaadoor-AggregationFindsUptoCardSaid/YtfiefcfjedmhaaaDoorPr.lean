/- The program as the interpreter takes it: its tables, its contracts. -/
import Derived.Test.YtfiefcfjedmhaaaDoorTab
import Derived.Test.YtfiefcfjedmhaaaDoorAbsE
namespace Go.Proofs.YtfiefcfjedmhaaaDoor
open Go Go.Abs Go.Abs.Asks
set_option linter.unusedVariables false
/-- slices.Clone: a row of one's own with the same elements. -/
def kClone (sz bytes : Nat) (ds : List D) : Option Out := match ds with
  | [x] => match AV.row sz (.d x) with
    | some es => match Nat.ble (es.length * (bytes + 1)) most with
      | true => some (.ret [.own (.res 0) sz es])
      | false => none
    | none => none
  | _ => none
theorem kClone_sl {sz b : Nat} {es : List (List D)} (h : es.length * (b + 1) ≤ 1099511627776) : kClone sz b [.sl sz es] = some (.ret [.own (.res 0) sz es]) := by
  have h2 : Nat.ble (es.length * (b + 1)) most = true := Nat.ble_eq_true_of_le h
  have h1 : AV.row sz (.d (.sl sz es)) = some es := by simp only [AV.row, Nat.beq_refl, if_true]
  simp only [kClone, h1, h2]
/-- strings.Join. -/
def strsOf : List (List D) → Option (List ByteArray)
  | [] => some []
  | [.str s] :: es => match strsOf es with
    | some l => some (s :: l)
    | none => none
  | _ => none
def joinL (xs : List ByteArray) (sep : ByteArray) : List UInt8 := sep.data.toList.intercalate (xs.map (·.data.toList))
def joinS (xs : List ByteArray) (sep : ByteArray) : ByteArray := ⟨(joinL xs sep).toArray⟩
def kJoin (ds : List D) : Option Out := match ds with
  | [x, .str sep] => match AV.row 1 (.d x) with
    | some es => match strsOf es with
      | some xs => match Nat.ble (joinL xs sep).length 140737488355328 && Nat.ble es.length 140737488355328 with
        | true => some (.ret [.d (.str (joinS xs sep))])
        | false => none
      | none => none
    | none => none
  | _ => none
def kK (f : Nat) : Option (List D → Option Out) := match f with
  | 42 => some kJoin
  | 46 => some (kClone 1 8)
  | _ => none
/-- Without contracts. -/
noncomputable def pr0 (m : Nat) : Pr := { T := tT, F := fF, H := hH, K := fun _ => none, fuel := m }
noncomputable def pr (m : Nat) : Pr := { T := tT, F := fF, H := hH, K := kK, fuel := m }
end Go.Proofs.YtfiefcfjedmhaaaDoor
