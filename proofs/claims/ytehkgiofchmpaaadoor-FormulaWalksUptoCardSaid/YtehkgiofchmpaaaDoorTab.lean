/- Tables of the seat, by program: types, functions, hints. -/
import Derived.Test.YtehkgiofchmpaaaDoorAbsKa
import Derived.Test.YtehkgiofchmpaaaDoorProg
namespace Go.Proofs.YtehkgiofchmpaaaDoor
open Go Go.Abs
set_option linter.unusedVariables false
def ty1 : TI := { size := 1, agg := false, bytes := 8, zero := [.nilf], fields := [], elem := 0, kind := 9 }
def ty2 : TI := { size := 1, agg := false, bytes := 8, zero := [.int .i64 0], fields := [], elem := 0, kind := 4, int := some .i64 }
def ty3 : TI := { size := 1, agg := false, bytes := 8, zero := [.int .i64 0], fields := [], elem := 0, kind := 4, int := some .i64 }
def ty4 : TI := { size := 1, agg := false, bytes := 1, zero := [.bool false], fields := [], elem := 0, kind := 5 }
def ty5 : TI := { size := 1, agg := false, bytes := 1, zero := [.int .u8 0], fields := [], elem := 0, kind := 4, int := some .u8 }
def ty6 : TI := { size := 1, agg := false, bytes := 1, zero := [.int .u8 0], fields := [], elem := 0, kind := 4, int := some .u8 }
def ty9 : TI := { size := 1, agg := false, bytes := 16, zero := [.str (ByteArray.mk #[])], fields := [], elem := 0, kind := 3 }
def ty12 : TI := { size := 1, agg := false, bytes := 8, zero := [.int .u64 0], fields := [], elem := 0, kind := 4, int := some .u64 }
def ty20 : TI := { size := 1, agg := false, bytes := 16, zero := [.nili], fields := [], elem := 0, kind := 8 }
def ty22 : TI := { size := 1, agg := false, bytes := 24, zero := [.nils], fields := [], elem := 40, kind := 2 }
def ty23 : TI := { size := 1, agg := false, bytes := 24, zero := [.nils], fields := [], elem := 25, kind := 2 }
def ty25 : TI := { size := 6, agg := true, bytes := 88, zero := [.int .i64 0, .str (ByteArray.mk #[]), .nils, .int .i64 0, .int .i64 0, .nils], fields := [(0, 1), (1, 1), (2, 1), (3, 1), (4, 1), (5, 1)], elem := 0, kind := 1, sls := [0, 0, 3, 0, 0, 6] }
def ty28 : TI := { size := 1, agg := false, bytes := 8, zero := [.nilf], fields := [], elem := 0, kind := 9 }
def ty30 : TI := { size := 1, agg := false, bytes := 8, zero := [.int .i64 0], fields := [], elem := 0, kind := 4, int := some .i64 }
def ty40 : TI := { size := 3, agg := true, bytes := 32, zero := [.int .i64 0, .int .i64 0, .str (ByteArray.mk #[])], fields := [(0, 1), (1, 1), (2, 1)], elem := 0, kind := 1 }
def ty51 : TI := { size := 1, agg := false, bytes := 8, zero := [.nilf], fields := [], elem := 0, kind := 9 }
def ty53 : TI := { size := 1, agg := false, bytes := 8, zero := [.nilp], fields := [], elem := 56, kind := 7 }
def ty54 : TI := { size := 1, agg := false, bytes := 24, zero := [.nils], fields := [], elem := 5, kind := 2 }
def ty56 : TI := { size := 2, agg := true, bytes := 32, zero := [.nilp, .nils], fields := [(0, 1), (1, 1)], elem := 0, kind := 1, sls := [0, 1], mark := (56, 5) }
def ty60 : TI := { size := 1, agg := true, bytes := 8, zero := [.int .i64 0], fields := [(0, 1)], elem := 0, kind := 1 }
def ty62 : TI := { size := 1, agg := false, bytes := 8, zero := [.nilp], fields := [], elem := 64, kind := 7 }
def ty64 : TI := { size := 2, agg := true, bytes := 24, zero := [.str (ByteArray.mk #[]), .int .i64 0], fields := [(0, 1), (1, 1)], elem := 0, kind := 1 }
def ty67 : TI := { size := 1, agg := false, bytes := 8, zero := [.nilp], fields := [], elem := 69, kind := 7 }
def ty69 : TI := { size := 4, agg := true, bytes := 40, zero := [.str (ByteArray.mk #[]), .int .i64 0, .int .i64 0, .bool false], fields := [(0, 1), (1, 1), (2, 1), (3, 1)], elem := 0, kind := 1 }
def ty72 : TI := { size := 1, agg := false, bytes := 8, zero := [.nilf], fields := [], elem := 0, kind := 9 }
def ty79 : TI := { size := 1, agg := false, bytes := 8, zero := [.nilf], fields := [], elem := 0, kind := 9 }
def ty89 : TI := { size := 1, agg := false, bytes := 8, zero := [.nilp], fields := [], elem := 5, kind := 7 }
def ty95 : TI := { size := 1, agg := false, bytes := 24, zero := [.nils], fields := [], elem := 3, kind := 2 }
def ty98 : TI := { size := 1, agg := false, bytes := 24, zero := [.nils], fields := [], elem := 9, kind := 2 }
def ty100 : TI := { size := 1, agg := false, bytes := 8, zero := [.nilp], fields := [], elem := 0, kind := 0 }
def ty103 : TI := { size := 24, agg := true, bytes := 24, zero := [.int .u8 0, .int .u8 0, .int .u8 0, .int .u8 0, .int .u8 0, .int .u8 0, .int .u8 0, .int .u8 0, .int .u8 0, .int .u8 0, .int .u8 0, .int .u8 0, .int .u8 0, .int .u8 0, .int .u8 0, .int .u8 0, .int .u8 0, .int .u8 0, .int .u8 0, .int .u8 0, .int .u8 0, .int .u8 0, .int .u8 0, .int .u8 0], fields := [], elem := 5, kind := 6 }
def ty104 : TI := { size := 1, agg := false, bytes := 8, zero := [.int .u64 0], fields := [], elem := 0, kind := 4, int := some .u64 }
def ty110 : TI := { size := 20, agg := true, bytes := 160, zero := [.int .u64 0, .int .u64 0, .int .u64 0, .int .u64 0, .int .u64 0, .int .u64 0, .int .u64 0, .int .u64 0, .int .u64 0, .int .u64 0, .int .u64 0, .int .u64 0, .int .u64 0, .int .u64 0, .int .u64 0, .int .u64 0, .int .u64 0, .int .u64 0, .int .u64 0, .int .u64 0], fields := [], elem := 104, kind := 6 }
def ty111 : TI := { size := 1, agg := false, bytes := 4, zero := [.int .u32 0], fields := [], elem := 0, kind := 4, int := some .u32 }
def ty112 : TI := { size := 65, agg := true, bytes := 65, zero := [.int .u8 0, .int .u8 0, .int .u8 0, .int .u8 0, .int .u8 0, .int .u8 0, .int .u8 0, .int .u8 0, .int .u8 0, .int .u8 0, .int .u8 0, .int .u8 0, .int .u8 0, .int .u8 0, .int .u8 0, .int .u8 0, .int .u8 0, .int .u8 0, .int .u8 0, .int .u8 0, .int .u8 0, .int .u8 0, .int .u8 0, .int .u8 0, .int .u8 0, .int .u8 0, .int .u8 0, .int .u8 0, .int .u8 0, .int .u8 0, .int .u8 0, .int .u8 0, .int .u8 0, .int .u8 0, .int .u8 0, .int .u8 0, .int .u8 0, .int .u8 0, .int .u8 0, .int .u8 0, .int .u8 0, .int .u8 0, .int .u8 0, .int .u8 0, .int .u8 0, .int .u8 0, .int .u8 0, .int .u8 0, .int .u8 0, .int .u8 0, .int .u8 0, .int .u8 0, .int .u8 0, .int .u8 0, .int .u8 0, .int .u8 0, .int .u8 0, .int .u8 0, .int .u8 0, .int .u8 0, .int .u8 0, .int .u8 0, .int .u8 0, .int .u8 0, .int .u8 0], fields := [], elem := 5, kind := 6 }
def ty113 : TI := { size := 1, agg := false, bytes := 8, zero := [.int .u64 0], fields := [], elem := 0, kind := 4, int := some .u64 }
def ty116 : TI := { size := 32, agg := true, bytes := 32, zero := [.int .u8 0, .int .u8 0, .int .u8 0, .int .u8 0, .int .u8 0, .int .u8 0, .int .u8 0, .int .u8 0, .int .u8 0, .int .u8 0, .int .u8 0, .int .u8 0, .int .u8 0, .int .u8 0, .int .u8 0, .int .u8 0, .int .u8 0, .int .u8 0, .int .u8 0, .int .u8 0, .int .u8 0, .int .u8 0, .int .u8 0, .int .u8 0, .int .u8 0, .int .u8 0, .int .u8 0, .int .u8 0, .int .u8 0, .int .u8 0, .int .u8 0, .int .u8 0], fields := [], elem := 5, kind := 6 }
def ty117 : TI := { size := 64, agg := true, bytes := 64, zero := [.int .u8 0, .int .u8 0, .int .u8 0, .int .u8 0, .int .u8 0, .int .u8 0, .int .u8 0, .int .u8 0, .int .u8 0, .int .u8 0, .int .u8 0, .int .u8 0, .int .u8 0, .int .u8 0, .int .u8 0, .int .u8 0, .int .u8 0, .int .u8 0, .int .u8 0, .int .u8 0, .int .u8 0, .int .u8 0, .int .u8 0, .int .u8 0, .int .u8 0, .int .u8 0, .int .u8 0, .int .u8 0, .int .u8 0, .int .u8 0, .int .u8 0, .int .u8 0, .int .u8 0, .int .u8 0, .int .u8 0, .int .u8 0, .int .u8 0, .int .u8 0, .int .u8 0, .int .u8 0, .int .u8 0, .int .u8 0, .int .u8 0, .int .u8 0, .int .u8 0, .int .u8 0, .int .u8 0, .int .u8 0, .int .u8 0, .int .u8 0, .int .u8 0, .int .u8 0, .int .u8 0, .int .u8 0, .int .u8 0, .int .u8 0, .int .u8 0, .int .u8 0, .int .u8 0, .int .u8 0, .int .u8 0, .int .u8 0, .int .u8 0, .int .u8 0], fields := [], elem := 5, kind := 6 }
def tT (t : Nat) : Option TI := match t with
  | 1 => some ty1
  | 2 => some ty2
  | 3 => some ty3
  | 4 => some ty4
  | 5 => some ty5
  | 6 => some ty6
  | 9 => some ty9
  | 12 => some ty12
  | 20 => some ty20
  | 22 => some ty22
  | 23 => some ty23
  | 25 => some ty25
  | 28 => some ty28
  | 30 => some ty30
  | 40 => some ty40
  | 51 => some ty51
  | 53 => some ty53
  | 54 => some ty54
  | 56 => some ty56
  | 60 => some ty60
  | 62 => some ty62
  | 64 => some ty64
  | 67 => some ty67
  | 69 => some ty69
  | 72 => some ty72
  | 79 => some ty79
  | 89 => some ty89
  | 95 => some ty95
  | 98 => some ty98
  | 100 => some ty100
  | 103 => some ty103
  | 104 => some ty104
  | 110 => some ty110
  | 111 => some ty111
  | 112 => some ty112
  | 113 => some ty113
  | 116 => some ty116
  | 117 => some ty117
  | _ => none
noncomputable def fF (f : FuncId) : Option Func := match f with
  | 3 => some Tryd.f3
  | 4 => some Tryd.f4
  | 5 => some Tryd.f5
  | 6 => some Tryd.f6
  | 7 => some Tryd.f7
  | 8 => some Tryd.f8
  | 9 => some Tryd.f9
  | 10 => some Tryd.f10
  | 11 => some Tryd.f11
  | 12 => some Tryd.f12
  | 13 => some Tryd.f13
  | 14 => some Tryd.f14
  | 15 => some Tryd.f15
  | 16 => some Tryd.f16
  | 17 => some Tryd.f17
  | 18 => some Tryd.f18
  | 19 => some Tryd.f19
  | 20 => some Tryd.f20
  | 21 => some Tryd.f21
  | 22 => some Tryd.f22
  | 23 => some Tryd.f23
  | 24 => some Tryd.f24
  | 25 => some Tryd.f25
  | 26 => some Tryd.f26
  | 27 => some Tryd.f27
  | 28 => some Tryd.f28
  | 29 => some Tryd.f29
  | 30 => some Tryd.f30
  | 31 => some Tryd.f31
  | 32 => some Tryd.f32
  | 33 => some Tryd.f33
  | 34 => some Tryd.f34
  | 35 => some Tryd.f35
  | 36 => some Tryd.f36
  | 37 => some Tryd.f37
  | 38 => some Tryd.f38
  | 39 => some Tryd.f39
  | 40 => some Tryd.f40
  | 42 => some Tryd.f42
  | 43 => some Tryd.f43
  | 44 => some Tryd.f44
  | 45 => some Tryd.f45
  | 46 => some Tryd.f46
  | 47 => some Tryd.f47
  | 48 => some Tryd.f48
  | 49 => some Tryd.f49
  | 50 => some Tryd.f50
  | 51 => some Tryd.f51
  | 52 => some Tryd.f52
  | 53 => some Tryd.f53
  | 54 => some Tryd.f54
  | 55 => some Tryd.f55
  | 56 => some Tryd.f56
  | 57 => some Tryd.f57
  | 58 => some Tryd.f58
  | 59 => some Tryd.f59
  | 60 => some Tryd.f60
  | 61 => some Tryd.f61
  | 62 => some Tryd.f62
  | 63 => some Tryd.f63
  | 64 => some Tryd.f64
  | 65 => some Tryd.f65
  | 66 => some Tryd.f66
  | 67 => some Tryd.f67
  | 68 => some Tryd.f68
  | 69 => some Tryd.f69
  | 70 => some Tryd.f70
  | 71 => some Tryd.f71
  | 72 => some Tryd.f72
  | 74 => some Tryd.f74
  | 75 => some Tryd.f75
  | 76 => some Tryd.f76
  | 77 => some Tryd.f77
  | 78 => some Tryd.f78
  | 79 => some Tryd.f79
  | 80 => some Tryd.f80
  | 81 => some Tryd.f81
  | 82 => some Tryd.f82
  | 83 => some Tryd.f83
  | 84 => some Tryd.f84
  | 85 => some Tryd.f85
  | 86 => some Tryd.f86
  | 87 => some Tryd.f87
  | 88 => some Tryd.f88
  | 89 => some Tryd.f89
  | 90 => some Tryd.f90
  | 91 => some Tryd.f91
  | 92 => some Tryd.f92
  | 93 => some Tryd.f93
  | 94 => some Tryd.f94
  | 95 => some Tryd.f95
  | 96 => some Tryd.f96
  | 97 => some Tryd.f97
  | 100 => some Tryd.f100
  | 101 => some Tryd.f101
  | 102 => some Tryd.f102
  | 103 => some Tryd.f103
  | 104 => some Tryd.f104
  | 105 => some Tryd.f105
  | 108 => some Tryd.f108
  | 109 => some Tryd.f109
  | 115 => some Tryd.f115
  | 118 => some Tryd.f118
  | 119 => some Tryd.f119
  | 120 => some Tryd.f120
  | _ => none
/- pentaglot/pentaglotlaw22.FormulaValid -/
def hint3 : Hint :=
  { loops := fun n => match n with
      | _ => none
    freeze := []
    eff := fun r i => match r, i with
      | 1, 0 => true
      | 1, 7 => true
      | _, _ => false }
/- pentaglot/pentaglotlaw22.FormulaShifts -/
def hint7 : Hint :=
  { loops := fun n => match n with
      | _ => none
    freeze := []
    eff := fun r i => match r, i with
      | 3, 1 => true
      | 3, 5 => true
      | 3, 10 => true
      | 3, 21 => true
      | 3, 22 => true
      | _, _ => false }
/- pentaglot/pentaglotlaw22.FormulaSubstitutes -/
def hint8 : Hint :=
  { loops := fun n => match n with
      | _ => none
    freeze := []
    eff := fun r i => match r, i with
      | 3, 1 => true
      | 3, 5 => true
      | 3, 14 => true
      | 3, 15 => true
      | _, _ => false }
/- pentaglot/pentaglotlaw22.FormulaCloses -/
def hint9 : Hint :=
  { loops := fun n => match n with
      | _ => none
    freeze := []
    eff := fun r i => match r, i with
      | 6, 2 => true
      | 6, 7 => true
      | 6, 14 => true
      | _, _ => false }
/- pentaglot/pentaglotlaw22.FormulaCancels -/
def hint10 : Hint :=
  { loops := fun n => match n with
      | _ => none
    freeze := []
    eff := fun r i => match r, i with
      | 5, 5 => true
      | 5, 16 => true
      | 5, 17 => true
      | _, _ => false }
/- pentaglot/pentaglotlaw22.FormulaWalks -/
def hint11 : Hint :=
  { loops := fun n => match n with
      | _ => none
    freeze := []
    eff := fun r i => match r, i with
      | 9, 10 => true
      | _, _ => false }
/- pentaglot/pentaglotlaw22.FormulaCompares -/
def hint12 : Hint :=
  { loops := fun n => match n with
      | _ => none
    freeze := []
    eff := fun r i => match r, i with
      | 3, 8 => true
      | _, _ => false }
/- pentaglot/formula.Parse -/
def hint18 : Hint :=
  { loops := fun n => match n with
      | _ => none
    freeze := []
    eff := fun _ _ => false
    dfr := true
    flat := true }
/- pentaglot/pentaglotref22.Text -/
def hint19 : Hint :=
  { loops := fun n => match n with
      | 6 => some ([(1, none), (3, none), (4, none)], [(1, [])])
      | 12 => some ([(1, none), (3, none), (5, none)], [(1, [])])
      | _ => none
    freeze := []
    eff := fun _ _ => false }
/- pentaglot/pentaglotref22.Parse -/
def hint21 : Hint :=
  { loops := fun n => match n with
      | _ => none
    freeze := []
    eff := fun _ _ => false
    ord := fun n => match n with
      | 4 => some ([(4, 5)], [[0, 1, 2, 3, 4, 5, 6, 7], [0, 1, 2, 3, 5, 4, 6, 7]])
      | _ => none }
/- pentaglot/formula.Shift -/
def hint23 : Hint :=
  { loops := fun n => match n with
      | _ => none
    freeze := [8]
    eff := fun _ _ => false }
/- pentaglot/formula.Substitute -/
def hint26 : Hint :=
  { loops := fun n => match n with
      | _ => none
    freeze := [6]
    eff := fun _ _ => false }
/- pentaglot/pentaglotref22.Symbol -/
def hint28 : Hint :=
  { loops := fun n => match n with
      | 2 => some ([(0, none), (3, none)], [])
      | _ => none
    freeze := []
    eff := fun _ _ => false }
/- pentaglot/formula.Size -/
def hint29 : Hint :=
  { loops := fun n => match n with
      | 3 => some ([(3, none), (7, none), (8, none), (9, none)], [])
      | _ => none
    freeze := []
    eff := fun _ _ => false }
/- pentaglot/formula.Depth -/
def hint30 : Hint :=
  { loops := fun n => match n with
      | 3 => some ([(3, none), (7, none), (8, none), (9, none)], [])
      | _ => none
    freeze := []
    eff := fun _ _ => false }
/- pentaglot/pentaglotref22.Walk -/
def hint31 : Hint :=
  { loops := fun n => match n with
      | 3 => some ([(1, none), (3, some 6), (4, none)], [(1, [])])
      | _ => none
    freeze := []
    eff := fun _ _ => false }
/- pentaglot/formula.Compare -/
def hint33 : Hint :=
  { loops := fun n => match n with
      | _ => none
    freeze := []
    eff := fun r i => match r, i with
      | 1, 29 => true
      | 1, 31 => true
      | _, _ => false }
/- pentaglot/pentaglotref22.Compare -/
def hint34 : Hint :=
  { loops := fun n => match n with
      | 3 => some ([(2, none), (3, none), (5, none), (6, none)], [(2, []), (3, [])])
      | _ => none
    freeze := []
    eff := fun r i => match r, i with
      | 1, 24 => true
      | 1, 26 => true
      | 5, 10 => true
      | _, _ => false }
/- pentaglot/formula.formed -/
def hint36 : Hint :=
  { loops := fun n => match n with
      | 6 => some ([(1, none), (17, none), (18, none), (19, none)], [])
      | _ => none
    freeze := []
    eff := fun _ _ => false }
/- pentaglot/pentaglotref22.Size -/
def hint37 : Hint :=
  { loops := fun n => match n with
      | 3 => some ([(1, none), (3, none), (4, none)], [(1, [])])
      | _ => none
    freeze := []
    eff := fun _ _ => false }
/- pentaglot/pentaglotref22.Depth -/
def hint38 : Hint :=
  { loops := fun n => match n with
      | 3 => some ([(1, none), (3, none), (4, none)], [(1, [])])
      | _ => none
    freeze := []
    eff := fun _ _ => false }
/- pentaglot/pentaglotref22.Formed -/
def hint39 : Hint :=
  { loops := fun n => match n with
      | 2 => some ([(1, none), (2, none), (5, none)], [(2, [])])
      | _ => none
    freeze := []
    eff := fun r i => match r, i with
      | 4, 8 => true
      | _, _ => false }
/- pentaglot/formula.write -/
def hint40 : Hint :=
  { loops := fun n => match n with
      | 14 => some ([(0, none), (3, none), (66, none), (67, none), (68, none)], [(3, [])])
      | 28 => some ([(0, none), (108, none), (109, none), (110, none)], [])
      | _ => none
    freeze := []
    eff := fun r i => match r, i with
      | 9, 8 => true
      | 11, 12 => true
      | 11, 14 => true
      | _, _ => false
    hide := true }
/- pentaglot/formula.Parse$1 -/
def hint42 : Hint :=
  { loops := fun n => match n with
      | _ => none
    freeze := []
    eff := fun _ _ => false
    flat := true }
/- (*pentaglot/formula.parser).formula -/
def hint43 : Hint :=
  { loops := fun n => match n with
      | 29 => some ([(0, none), (1, none), (4, none), (5, none), (59, none), (60, none)], [(4, []), (5, [(5, 6)])])
      | _ => none
    freeze := []
    eff := fun r i => match r, i with
      | 33, 1 => true
      | 33, 4 => true
      | _, _ => false
    keep := true }
/- (*pentaglot/formula.parser).fail -/
def hint44 : Hint :=
  { loops := fun n => match n with
      | _ => none
    freeze := []
    eff := fun _ _ => false
    hide := true }
/- pentaglot/pentaglotref22.Head -/
def hint45 : Hint :=
  { loops := fun n => match n with
      | _ => none
    freeze := []
    eff := fun r i => match r, i with
      | 8, 11 => true
      | _, _ => false }
/- (*pentaglot/pentaglotref22.scan).formula -/
def hint47 : Hint :=
  { loops := fun n => match n with
      | _ => none
    freeze := []
    eff := fun r i => match r, i with
      | 1, 20 => true
      | 25, 6 => true
      | _, _ => false
    hide := true }
/- pentaglot/formula.rebuild -/
def hint48 : Hint :=
  { loops := fun n => match n with
      | 4 => some ([(1, none), (2, none), (3, none), (6, none), (7, none), (16, none), (17, none), (18, none)], [(3, []), (6, []), (7, [(2, 3), (5, 6)])])
      | 11 => some ([(1, none), (2, none), (6, none), (7, none), (38, none), (39, none), (40, none)], [(6, []), (7, [(2, 3), (5, 6)])])
      | _ => none
    freeze := []
    eff := fun _ _ => false }
/- pentaglot/pentaglotref22.shift -/
def hint50 : Hint :=
  { loops := fun n => match n with
      | 4 => some ([(1, none), (2, none), (3, none), (6, none), (7, none), (8, none)], [(3, []), (6, []), (7, [(2, 3), (5, 6)])])
      | 11 => some ([(1, none), (2, none), (3, none), (6, none), (7, none), (10, none)], [(3, []), (6, []), (7, [(2, 3), (5, 6)])])
      | _ => none
    freeze := []
    eff := fun _ _ => false }
/- pentaglot/pentaglotref22.replace -/
def hint52 : Hint :=
  { loops := fun n => match n with
      | 4 => some ([(2, none), (3, none), (4, none), (6, none), (7, none), (8, none)], [(3, []), (4, []), (6, []), (7, [(2, 3), (5, 6)])])
      | 15 => some ([(2, none), (3, none), (4, none), (6, none), (7, none), (10, none)], [(3, []), (4, []), (6, []), (7, [(2, 3), (5, 6)])])
      | _ => none
    freeze := []
    eff := fun _ _ => false }
/- pentaglot/formula.Subformulas$1 -/
def hint55 : Hint :=
  { loops := fun n => match n with
      | _ => none
    freeze := []
    eff := fun _ _ => false
    hide := true }
/- pentaglot/formula.Subformulas$1$1 -/
def hint56 : Hint :=
  { loops := fun n => match n with
      | 4 => some ([(2, none), (13, none), (14, none), (15, none)], [])
      | _ => none
    freeze := []
    eff := fun r i => match r, i with
      | 1, 3 => true
      | _, _ => false
    hide := true }
/- cmp.Or[int] -/
def hint57 : Hint :=
  { loops := fun n => match n with
      | 3 => some ([(3, none), (6, none), (7, none), (8, none)], [])
      | _ => none
    freeze := []
    eff := fun _ _ => false }
/- slices.CompareFunc[[]pentaglot/api.Ref,[]pentaglot/api.Ref,pentaglot/api.Ref,pentaglot/api.Ref] -/
def hint60 : Hint :=
  { loops := fun n => match n with
      | 2 => some ([(0, none), (1, none), (2, none), (11, none), (12, none), (13, none)], [])
      | _ => none
    freeze := []
    eff := fun _ _ => false }
/- pentaglot/formula.compareRefs -/
def hint61 : Hint :=
  { loops := fun n => match n with
      | _ => none
    freeze := []
    eff := fun r i => match r, i with
      | 1, 14 => true
      | 1, 16 => true
      | _, _ => false }
/- slices.CompareFunc[[]pentaglot/api.Formula,[]pentaglot/api.Formula,pentaglot/api.Formula,pentaglot/api.Formula] -/
def hint62 : Hint :=
  { loops := fun n => match n with
      | 2 => some ([(0, none), (1, none), (2, none), (11, none), (12, none), (13, none)], [])
      | _ => none
    freeze := []
    eff := fun _ _ => false }
/- pentaglot/pentaglotref22.first -/
def hint63 : Hint :=
  { loops := fun n => match n with
      | 2 => some ([(0, none), (3, none)], [])
      | _ => none
    freeze := []
    eff := fun _ _ => false }
/- pentaglot/pentaglotref22.args -/
def hint66 : Hint :=
  { loops := fun n => match n with
      | 2 => some ([(0, none), (1, none), (5, none)], [])
      | _ => none
    freeze := []
    eff := fun r i => match r, i with
      | 4, 32 => true
      | 4, 34 => true
      | _, _ => false }
/- pentaglot/formula.fields -/
def hint67 : Hint :=
  { loops := fun n => match n with
      | 13 => some ([(1, none), (2, none), (55, none), (56, none), (57, none)], [(2, [])])
      | _ => none
    freeze := []
    eff := fun _ _ => false }
/- pentaglot/pentaglotref22.fields -/
def hint70 : Hint :=
  { loops := fun n => match n with
      | 9 => some ([(1, none), (2, none), (5, none)], [(2, [])])
      | _ => none
    freeze := []
    eff := fun _ _ => false }
/- (*pentaglot/formula.parser).peek -/
def hint76 : Hint :=
  { loops := fun n => match n with
      | _ => none
    freeze := []
    eff := fun _ _ => false
    hide := true }
/- (*pentaglot/formula.parser).atom -/
def hint77 : Hint :=
  { loops := fun n => match n with
      | 3 => some ([(0, none), (1, none), (4, none), (5, none)], [(4, []), (5, [(2, 3)])])
      | _ => none
    freeze := []
    eff := fun r i => match r, i with
      | 3, 1 => true
      | 3, 4 => true
      | _, _ => false
    keep := true }
/- (*pentaglot/formula.parser).operator -/
def hint78 : Hint :=
  { loops := fun n => match n with
      | 3 => some ([(0, none), (3, none), (4, none)], [])
      | 7 => some ([(0, none), (3, none), (4, none), (5, none), (6, none)], [])
      | _ => none
    freeze := []
    eff := fun _ _ => false
    hide := true }
/- (*pentaglot/formula.parser).expect -/
def hint79 : Hint :=
  { loops := fun n => match n with
      | 1 => some ([(0, none), (1, none), (6, none), (7, none)], [])
      | _ => none
    freeze := []
    eff := fun _ _ => false
    hide := true }
/- (*pentaglot/formula.parser).symbol -/
def hint80 : Hint :=
  { loops := fun n => match n with
      | 4 => some ([(0, none), (3, none)], [])
      | _ => none
    freeze := []
    eff := fun _ _ => false
    hide := true }
/- (*pentaglot/formula.parser).end -/
def hint81 : Hint :=
  { loops := fun n => match n with
      | _ => none
    freeze := []
    eff := fun _ _ => false
    hide := true }
/- (*pentaglot/formula.parser).list -/
def hint82 : Hint :=
  { loops := fun n => match n with
      | 5 => some ([(0, none), (1, none), (5, some 6)], [])
      | _ => none
    freeze := []
    eff := fun _ _ => false
    hide := true }
/- (*pentaglot/pentaglotref22.scan).atom -/
def hint85 : Hint :=
  { loops := fun n => match n with
      | 3 => some ([(0, none), (2, none), (3, none)], [(2, []), (3, [(2, 3)])])
      | _ => none
    freeze := []
    eff := fun r i => match r, i with
      | 4, 1 => true
      | 4, 3 => true
      | _, _ => false
    keep := true }
/- (*pentaglot/pentaglotref22.scan).operator -/
def hint86 : Hint :=
  { loops := fun n => match n with
      | 3 => some ([(0, none), (3, none), (4, none)], [])
      | 7 => some ([(0, none), (3, none), (4, none), (5, none), (6, none)], [])
      | _ => none
    freeze := []
    eff := fun _ _ => false
    hide := true }
/- (*pentaglot/pentaglotref22.scan).literal -/
def hint87 : Hint :=
  { loops := fun n => match n with
      | 1 => some ([(0, none), (1, none), (4, none)], [])
      | _ => none
    freeze := []
    eff := fun _ _ => false
    hide := true }
/- (*pentaglot/pentaglotref22.scan).symbol -/
def hint88 : Hint :=
  { loops := fun n => match n with
      | 5 => some ([(0, none), (3, none)], [])
      | _ => none
    freeze := []
    eff := fun r i => match r, i with
      | 2, 26 => true
      | 5, 20 => true
      | _, _ => false
    hide := true }
/- (*pentaglot/pentaglotref22.scan).end -/
def hint89 : Hint :=
  { loops := fun n => match n with
      | _ => none
    freeze := []
    eff := fun _ _ => false
    hide := true }
/- (*pentaglot/pentaglotref22.scan).kids -/
def hint90 : Hint :=
  { loops := fun n => match n with
      | 4 => some ([(0, none), (1, none), (2, none), (7, some 6)], [])
      | _ => none
    freeze := []
    eff := fun _ _ => false
    hide := true }
/- pentaglot/formula.symbol -/
def hint95 : Hint :=
  { loops := fun n => match n with
      | 2 => some ([(0, none), (3, none)], [])
      | _ => none
    freeze := []
    eff := fun _ _ => false }
/- (*pentaglot/formula.parser).reference -/
def hint100 : Hint :=
  { loops := fun n => match n with
      | _ => none
    freeze := []
    eff := fun _ _ => false
    hide := true }
/- (*pentaglot/formula.parser).number -/
def hint102 : Hint :=
  { loops := fun n => match n with
      | 6 => some ([(1, none), (2, none), (5, none), (6, none), (7, none)], [(2, [])])
      | _ => none
    freeze := []
    eff := fun _ _ => false
    hide := true }
/- (*pentaglot/pentaglotref22.scan).reference -/
def hint103 : Hint :=
  { loops := fun n => match n with
      | _ => none
    freeze := []
    eff := fun _ _ => false
    hide := true }
/- (*pentaglot/pentaglotref22.scan).next -/
def hint104 : Hint :=
  { loops := fun n => match n with
      | _ => none
    freeze := []
    eff := fun _ _ => false
    hide := true }
/- (*pentaglot/pentaglotref22.scan).number -/
def hint105 : Hint :=
  { loops := fun n => match n with
      | 6 => some ([(0, none), (1, none), (5, none)], [])
      | _ => none
    freeze := []
    eff := fun _ _ => false
    hide := true }
/- (*pentaglot/formula.parser).number$1 -/
def hint108 : Hint :=
  { loops := fun n => match n with
      | _ => none
    freeze := []
    eff := fun _ _ => false
    hide := true }
/- (*pentaglot/pentaglotref22.scan).digit -/
def hint109 : Hint :=
  { loops := fun n => match n with
      | _ => none
    freeze := []
    eff := fun _ _ => false
    hide := true }
def hH (f : FuncId) : Hint := match f with
  | 3 => hint3
  | 7 => hint7
  | 8 => hint8
  | 9 => hint9
  | 10 => hint10
  | 11 => hint11
  | 12 => hint12
  | 18 => hint18
  | 19 => hint19
  | 21 => hint21
  | 23 => hint23
  | 26 => hint26
  | 28 => hint28
  | 29 => hint29
  | 30 => hint30
  | 31 => hint31
  | 33 => hint33
  | 34 => hint34
  | 36 => hint36
  | 37 => hint37
  | 38 => hint38
  | 39 => hint39
  | 40 => hint40
  | 42 => hint42
  | 43 => hint43
  | 44 => hint44
  | 45 => hint45
  | 47 => hint47
  | 48 => hint48
  | 50 => hint50
  | 52 => hint52
  | 55 => hint55
  | 56 => hint56
  | 57 => hint57
  | 60 => hint60
  | 61 => hint61
  | 62 => hint62
  | 63 => hint63
  | 66 => hint66
  | 67 => hint67
  | 70 => hint70
  | 76 => hint76
  | 77 => hint77
  | 78 => hint78
  | 79 => hint79
  | 80 => hint80
  | 81 => hint81
  | 82 => hint82
  | 85 => hint85
  | 86 => hint86
  | 87 => hint87
  | 88 => hint88
  | 89 => hint89
  | 90 => hint90
  | 95 => hint95
  | 100 => hint100
  | 102 => hint102
  | 103 => hint103
  | 104 => hint104
  | 105 => hint105
  | 108 => hint108
  | 109 => hint109
  | _ => { loops := fun _ => none, freeze := [], eff := fun _ _ => false }
end Go.Proofs.YtehkgiofchmpaaaDoor
