/- The program as the interpreter takes it: its tables, its contracts. -/
import Derived.Test.YtehkgiofchmpaaaDoorTab
import Derived.Test.YtehkgiofchmpaaaDoorAbsKe
import Derived.Test.YtehkgiofchmpaaaDoorAbsKd
import Derived.Lib.AppendIntMem
import Derived.Lib.ItoaNum
import Derived.KernelRfl
namespace Go.Proofs.YtehkgiofchmpaaaDoor
open Go Go.Abs Go.Abs.Asks
set_option linter.unusedVariables false
/-- slices.Clone: a row of one's own with the same elements. -/
def kClone (sz bytes : Nat) (ds : List D) : Option Out := match ds with
  | [x] => match AV.row sz (.d x) with
    | some es => match Nat.ble (es.length * (bytes + 1)) most with
      | true => some (.ret [.own (.res 0) sz es])
      | false => none
    | none => none
  | _ => none
theorem kClone_sl {sz b : Nat} {es : List (List D)} (h : es.length * (b + 1) ≤ 1099511627776) : kClone sz b [.sl sz es] = some (.ret [.own (.res 0) sz es]) := by
  have h2 : Nat.ble (es.length * (b + 1)) most = true := Nat.ble_eq_true_of_le h
  have h1 : AV.row sz (.d (.sl sz es)) = some es := by simp only [AV.row, Nat.beq_refl, if_true]
  simp only [kClone, h1, h2]
/-- strings.Join. -/
def strsOf : List (List D) → Option (List ByteArray)
  | [] => some []
  | [.str s] :: es => match strsOf es with
    | some l => some (s :: l)
    | none => none
  | _ => none
def joinL (xs : List ByteArray) (sep : ByteArray) : List UInt8 := sep.data.toList.intercalate (xs.map (·.data.toList))
def joinS (xs : List ByteArray) (sep : ByteArray) : ByteArray := ⟨(joinL xs sep).toArray⟩
def kJoin (ds : List D) : Option Out := match ds with
  | [x, .str sep] => match AV.row 1 (.d x) with
    | some es => match strsOf es with
      | some xs => match Nat.ble (joinL xs sep).length 140737488355328 && Nat.ble es.length 140737488355328 with
        | true => some (.ret [.d (.str (joinS xs sep))])
        | false => none
      | none => none
    | none => none
  | _ => none
def bldFit (n m : Nat) : Bool := Nat.ble ((n + m) * 2) most
def bytesOf : List (List D) → List UInt8
  | [.int _ n] :: es => UInt8.ofNat n.toNat :: bytesOf es
  | _ => []
/-- The box that a builder's pointer names. -/
def bldAt (a : AV) (g : G) : Option (Nat × Nat × Box × Abs.Id × List (List D)) := match a with
  | .ptr d t off => match g.bx d t with
    | some b => match !b.frz && Nat.beq off 0 && Nat.beq b.ty.1 56 && Nat.beq b.ty.2 5 with
      | true => match bldIn d t b with
        | some (i, es) => some (d, t, b, i, es)
        | none => none
      | false => none
    | none => none
  | _ => none
def xWriteS (args : List AV) (g : G) : Option (Bool × Out × G) := match args with
  | [a, .d (.str s)] => match bldAt a g with
    | some (d, t, b, i, es) => some (bldFit es.length s.data.toList.length, .ret [.d (.int .i64 s.data.toList.length), .d .nili], { g with bx := bldBx d t i b (es ++ byteRow s.data.toList) g.bx })
    | none => none
  | _ => none
def xWriteB (args : List AV) (g : G) : Option (Bool × Out × G) := match args with
  | [a, .d (.int .u8 c)] => match bldAt a g with
    | some (d, t, b, i, es) => some (bldFit es.length 1 && decide (c = (UInt8.ofNat c.toNat).toNat), .ret [.d .nili], { g with bx := bldBx d t i b (es ++ byteRow [UInt8.ofNat c.toNat]) g.bx })
    | none => none
  | _ => none
def xString (args : List AV) (g : G) : Option (Bool × Out × G) := match args with
  | [a] => match bldAt a g with
    | some (d, t, b, i, es) => match es with
      | [] => none
      | _ :: _ => some (bldFit es.length 0, .ret [.d (.str ⟨(bytesOf es).toArray⟩)], { g with bx := demBx i g.bx })
    | none => none
  | _ => none
def dig2 (n : Nat) : List UInt8 := match Nat.blt n 10 with
  | true => [UInt8.ofNat (48 + n)]
  | false => [UInt8.ofNat (48 + n / 10), UInt8.ofNat (48 + n % 10)]
/-- strconv.Itoa. -/
def kItoa (ds : List D) : Option Out := match ds with
  | [.int .i64 n] => match decide (0 ≤ n) && decide (n < 100) with
    | true => some (.ret [.d (.str ⟨(dig2 n.toNat).toArray⟩)])
    | false => match decide (-9223372036854775808 ≤ n) && decide (n ≤ 9223372036854775807) with
      | true => some (.ret [.d (.str ⟨(Lib.itoa n).toArray⟩)])
      | false => none
  | _ => none
/-- What all calls find: the table of the powers of ten. -/
instance : Tabs where
  p w := Lib.TabIs Tryd.prog w "internal/strconv.uint64pow10" .u64 Lib.pow10Tab
  bs := [0]
  lt w h b hb := by
    simp only [List.mem_singleton] at hb
    subst hb
    unfold Lib.TabIs World.var? at h
    rw [show Tryd.prog.globalNamed "internal/strconv.uint64pow10" = some 0 by kernel_rfl] at h
    by_cases hlt : 0 < w.heap.size
    · exact hlt
    · simp only [Option.bind_some, Array.getElem?_eq_none (Nat.le_of_not_lt hlt)] at h
      cases h
  loc w w' he h := by
    have e := he 0 (by simp)
    unfold Lib.TabIs World.var? at h ⊢
    rw [show Tryd.prog.globalNamed "internal/strconv.uint64pow10" = some 0 by kernel_rfl] at h ⊢
    simp only [Option.bind_some] at h ⊢
    rw [e]
    exact h
def kX (f : Nat) : Option (List AV → G → Option (Bool × Out × G)) := match f with
  | 71 => some xWriteS
  | 74 => some xWriteB
  | 41 => some xString
  | _ => none
def kK (f : Nat) : Option (List D → Option Out) := match f with
  | 73 => some kItoa
  | _ => none
/-- Without contracts. -/
noncomputable def pr0 (m : Nat) : Pr := { T := tT, F := fF, H := hH, K := fun _ => none, fuel := m }
noncomputable def pr (m : Nat) : Pr := { T := tT, F := fF, H := hH, K := kK, X := kX, fuel := m }
end Go.Proofs.YtehkgiofchmpaaaDoor
