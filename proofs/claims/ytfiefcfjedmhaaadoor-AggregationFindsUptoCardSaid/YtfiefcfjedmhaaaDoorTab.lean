/- Tables of the seat, by program: types, functions, hints. -/
import Derived.Test.YtfiefcfjedmhaaaDoorAbsDef
import Derived.Test.YtfiefcfjedmhaaaDoorProg
namespace Go.Proofs.YtfiefcfjedmhaaaDoor
open Go Go.Abs
set_option linter.unusedVariables false
def ty1 : TI := { size := 1, agg := false, bytes := 8, zero := [.nilf], fields := [], elem := 0, kind := 9 }
def ty2 : TI := { size := 1, agg := false, bytes := 8, zero := [.int .i64 0], fields := [], elem := 0, kind := 4 }
def ty3 : TI := { size := 1, agg := false, bytes := 8, zero := [.int .i64 0], fields := [], elem := 0, kind := 4 }
def ty4 : TI := { size := 1, agg := false, bytes := 1, zero := [.bool false], fields := [], elem := 0, kind := 5 }
def ty5 : TI := { size := 1, agg := false, bytes := 1, zero := [.int .u8 0], fields := [], elem := 0, kind := 4 }
def ty9 : TI := { size := 1, agg := false, bytes := 16, zero := [.str (ByteArray.mk #[])], fields := [], elem := 0, kind := 3 }
def ty22 : TI := { size := 1, agg := false, bytes := 24, zero := [.nils], fields := [], elem := 3, kind := 2 }
def ty23 : TI := { size := 1, agg := false, bytes := 24, zero := [.nils], fields := [], elem := 25, kind := 2 }
def ty25 : TI := { size := 3, agg := true, bytes := 64, zero := [.str (ByteArray.mk #[]), .nils, .nils], fields := [(0, 1), (1, 1), (2, 1)], elem := 0, kind := 1, sls := [0, 1, 3] }
def ty30 : TI := { size := 1, agg := false, bytes := 8, zero := [.nilf], fields := [], elem := 0, kind := 9 }
def ty31 : TI := { size := 1, agg := false, bytes := 24, zero := [.nils], fields := [], elem := 23, kind := 2 }
def ty37 : TI := { size := 1, agg := false, bytes := 8, zero := [.nilf], fields := [], elem := 0, kind := 9 }
def ty45 : TI := { size := 1, agg := false, bytes := 8, zero := [.nilf], fields := [], elem := 0, kind := 9 }
def ty51 : TI := { size := 1, agg := false, bytes := 8, zero := [.nilf], fields := [], elem := 0, kind := 9 }
def ty55 : TI := { size := 1, agg := false, bytes := 24, zero := [.nils], fields := [], elem := 9, kind := 2 }
def ty61 : TI := { size := 1, agg := false, bytes := 8, zero := [.nilp], fields := [], elem := 64, kind := 7 }
def ty62 : TI := { size := 1, agg := false, bytes := 24, zero := [.nils], fields := [], elem := 5, kind := 2 }
def ty64 : TI := { size := 2, agg := true, bytes := 32, zero := [.nilp, .nils], fields := [(0, 1), (1, 1)], elem := 0, kind := 1, sls := [0, 1] }
def ty72 : TI := { size := 1, agg := false, bytes := 8, zero := [.nilp], fields := [], elem := 5, kind := 7 }
def ty73 : TI := { size := 24, agg := true, bytes := 24, zero := [.int .u8 0, .int .u8 0, .int .u8 0, .int .u8 0, .int .u8 0, .int .u8 0, .int .u8 0, .int .u8 0, .int .u8 0, .int .u8 0, .int .u8 0, .int .u8 0, .int .u8 0, .int .u8 0, .int .u8 0, .int .u8 0, .int .u8 0, .int .u8 0, .int .u8 0, .int .u8 0, .int .u8 0, .int .u8 0, .int .u8 0, .int .u8 0], fields := [], elem := 5, kind := 6 }
def ty74 : TI := { size := 1, agg := false, bytes := 8, zero := [.int .u64 0], fields := [], elem := 0, kind := 4 }
def ty79 : TI := { size := 1, agg := false, bytes := 8, zero := [.nilp], fields := [], elem := 0, kind := 0 }
def ty84 : TI := { size := 20, agg := true, bytes := 160, zero := [.int .u64 0, .int .u64 0, .int .u64 0, .int .u64 0, .int .u64 0, .int .u64 0, .int .u64 0, .int .u64 0, .int .u64 0, .int .u64 0, .int .u64 0, .int .u64 0, .int .u64 0, .int .u64 0, .int .u64 0, .int .u64 0, .int .u64 0, .int .u64 0, .int .u64 0, .int .u64 0], fields := [], elem := 74, kind := 6 }
def ty85 : TI := { size := 1, agg := false, bytes := 4, zero := [.int .u32 0], fields := [], elem := 0, kind := 4 }
def ty86 : TI := { size := 65, agg := true, bytes := 65, zero := [.int .u8 0, .int .u8 0, .int .u8 0, .int .u8 0, .int .u8 0, .int .u8 0, .int .u8 0, .int .u8 0, .int .u8 0, .int .u8 0, .int .u8 0, .int .u8 0, .int .u8 0, .int .u8 0, .int .u8 0, .int .u8 0, .int .u8 0, .int .u8 0, .int .u8 0, .int .u8 0, .int .u8 0, .int .u8 0, .int .u8 0, .int .u8 0, .int .u8 0, .int .u8 0, .int .u8 0, .int .u8 0, .int .u8 0, .int .u8 0, .int .u8 0, .int .u8 0, .int .u8 0, .int .u8 0, .int .u8 0, .int .u8 0, .int .u8 0, .int .u8 0, .int .u8 0, .int .u8 0, .int .u8 0, .int .u8 0, .int .u8 0, .int .u8 0, .int .u8 0, .int .u8 0, .int .u8 0, .int .u8 0, .int .u8 0, .int .u8 0, .int .u8 0, .int .u8 0, .int .u8 0, .int .u8 0, .int .u8 0, .int .u8 0, .int .u8 0, .int .u8 0, .int .u8 0, .int .u8 0, .int .u8 0, .int .u8 0, .int .u8 0, .int .u8 0, .int .u8 0], fields := [], elem := 5, kind := 6 }
def ty88 : TI := { size := 1, agg := false, bytes := 8, zero := [.int .u64 0], fields := [], elem := 0, kind := 4 }
def ty91 : TI := { size := 32, agg := true, bytes := 32, zero := [.int .u8 0, .int .u8 0, .int .u8 0, .int .u8 0, .int .u8 0, .int .u8 0, .int .u8 0, .int .u8 0, .int .u8 0, .int .u8 0, .int .u8 0, .int .u8 0, .int .u8 0, .int .u8 0, .int .u8 0, .int .u8 0, .int .u8 0, .int .u8 0, .int .u8 0, .int .u8 0, .int .u8 0, .int .u8 0, .int .u8 0, .int .u8 0, .int .u8 0, .int .u8 0, .int .u8 0, .int .u8 0, .int .u8 0, .int .u8 0, .int .u8 0, .int .u8 0], fields := [], elem := 5, kind := 6 }
def ty92 : TI := { size := 64, agg := true, bytes := 64, zero := [.int .u8 0, .int .u8 0, .int .u8 0, .int .u8 0, .int .u8 0, .int .u8 0, .int .u8 0, .int .u8 0, .int .u8 0, .int .u8 0, .int .u8 0, .int .u8 0, .int .u8 0, .int .u8 0, .int .u8 0, .int .u8 0, .int .u8 0, .int .u8 0, .int .u8 0, .int .u8 0, .int .u8 0, .int .u8 0, .int .u8 0, .int .u8 0, .int .u8 0, .int .u8 0, .int .u8 0, .int .u8 0, .int .u8 0, .int .u8 0, .int .u8 0, .int .u8 0, .int .u8 0, .int .u8 0, .int .u8 0, .int .u8 0, .int .u8 0, .int .u8 0, .int .u8 0, .int .u8 0, .int .u8 0, .int .u8 0, .int .u8 0, .int .u8 0, .int .u8 0, .int .u8 0, .int .u8 0, .int .u8 0, .int .u8 0, .int .u8 0, .int .u8 0, .int .u8 0, .int .u8 0, .int .u8 0, .int .u8 0, .int .u8 0, .int .u8 0, .int .u8 0, .int .u8 0, .int .u8 0, .int .u8 0, .int .u8 0, .int .u8 0, .int .u8 0], fields := [], elem := 5, kind := 6 }
def tT (t : Nat) : Option TI := match t with
  | 1 => some ty1
  | 2 => some ty2
  | 3 => some ty3
  | 4 => some ty4
  | 5 => some ty5
  | 9 => some ty9
  | 22 => some ty22
  | 23 => some ty23
  | 25 => some ty25
  | 30 => some ty30
  | 31 => some ty31
  | 37 => some ty37
  | 45 => some ty45
  | 51 => some ty51
  | 55 => some ty55
  | 61 => some ty61
  | 62 => some ty62
  | 64 => some ty64
  | 72 => some ty72
  | 73 => some ty73
  | 74 => some ty74
  | 79 => some ty79
  | 84 => some ty84
  | 85 => some ty85
  | 86 => some ty86
  | 88 => some ty88
  | 91 => some ty91
  | 92 => some ty92
  | _ => none
noncomputable def fF (f : FuncId) : Option Func := match f with
  | 3 => some Tryd.f3
  | 4 => some Tryd.f4
  | 5 => some Tryd.f5
  | 6 => some Tryd.f6
  | 7 => some Tryd.f7
  | 8 => some Tryd.f8
  | 9 => some Tryd.f9
  | 10 => some Tryd.f10
  | 11 => some Tryd.f11
  | 12 => some Tryd.f12
  | 13 => some Tryd.f13
  | 14 => some Tryd.f14
  | 15 => some Tryd.f15
  | 16 => some Tryd.f16
  | 17 => some Tryd.f17
  | 18 => some Tryd.f18
  | 19 => some Tryd.f19
  | 20 => some Tryd.f20
  | 21 => some Tryd.f21
  | 22 => some Tryd.f22
  | 23 => some Tryd.f23
  | 24 => some Tryd.f24
  | 25 => some Tryd.f25
  | 26 => some Tryd.f26
  | 27 => some Tryd.f27
  | 28 => some Tryd.f28
  | 29 => some Tryd.f29
  | 30 => some Tryd.f30
  | 31 => some Tryd.f31
  | 32 => some Tryd.f32
  | 33 => some Tryd.f33
  | 34 => some Tryd.f34
  | 35 => some Tryd.f35
  | 36 => some Tryd.f36
  | 37 => some Tryd.f37
  | 38 => some Tryd.f38
  | 39 => some Tryd.f39
  | 40 => some Tryd.f40
  | 43 => some Tryd.f43
  | 44 => some Tryd.f44
  | 45 => some Tryd.f45
  | 46 => some Tryd.f46
  | 47 => some Tryd.f47
  | 48 => some Tryd.f48
  | 49 => some Tryd.f49
  | 64 => some Tryd.f64
  | 67 => some Tryd.f67
  | 68 => some Tryd.f68
  | 69 => some Tryd.f69
  | _ => none
/- pentaglot/pentaglotlaw41.AggregationMerge -/
def hint3 : Hint :=
  { loops := fun n => match n with
      | _ => none
    freeze := []
    eff := fun r i => match r, i with
      | 3, 5 => true
      | 3, 6 => true
      | _, _ => false }
/- pentaglot/pentaglotlaw41.AggregationMoves -/
def hint4 : Hint :=
  { loops := fun n => match n with
      | 7 => some ([(3, none), (4, none), (24, none), (25, none)], [])
      | _ => none
    freeze := []
    eff := fun r i => match r, i with
      | 9, 8 => true
      | _, _ => false }
/- pentaglot/pentaglotlaw41.AggregationShorter -/
def hint5 : Hint :=
  { loops := fun n => match n with
      | 5 => some ([(0, none), (3, none), (4, none)], [])
      | 9 => some ([(0, none), (3, none), (31, none), (32, none), (33, none)], [])
      | 13 => some ([(0, none), (3, none), (6, none), (7, none), (8, none), (31, none), (32, none), (33, none)], [])
      | _ => none
    freeze := []
    eff := fun _ _ => false }
/- pentaglot/pentaglotlaw41.AggregationParts -/
def hint8 : Hint :=
  { loops := fun n => match n with
      | 5 => some ([(3, none), (4, none)], [])
      | _ => none
    freeze := []
    eff := fun r i => match r, i with
      | 8, 11 => true
      | _, _ => false }
/- pentaglot/pentaglotlaw41.AggregationInverts -/
def hint9 : Hint :=
  { loops := fun n => match n with
      | _ => none
    freeze := []
    eff := fun r i => match r, i with
      | 6, 7 => true
      | 6, 8 => true
      | 7, 12 => true
      | 7, 13 => true
      | _, _ => false
    ord := fun n => match n with
      | 7 => some ([(0, 5), (0, 6), (5, 11), (6, 11)], [[0, 1, 2, 3, 4, 5, 6, 7, 8, 9, 10, 11, 12, 13, 14, 15], [0, 1, 2, 3, 4, 5, 8, 9, 10, 11, 6, 7, 12, 13, 14, 15], [0, 1, 2, 3, 4, 8, 9, 10, 11, 5, 6, 7, 12, 13, 14, 15], [1, 2, 3, 4, 5, 0, 6, 7, 8, 9, 10, 11, 12, 13, 14, 15], [1, 2, 3, 4, 5, 0, 8, 9, 10, 11, 6, 7, 12, 13, 14, 15], [1, 2, 3, 4, 5, 6, 0, 7, 8, 9, 10, 11, 12, 13, 14, 15], [1, 2, 3, 4, 5, 8, 9, 10, 11, 6, 0, 7, 12, 13, 14, 15], [1, 2, 3, 4, 8, 9, 10, 11, 5, 0, 6, 7, 12, 13, 14, 15], [1, 2, 3, 4, 8, 9, 10, 11, 5, 6, 0, 7, 12, 13, 14, 15]])
      | _ => none }
/- pentaglot/pentaglotlaw41.AggregationFinds -/
def hint10 : Hint :=
  { loops := fun n => match n with
      | _ => none
    freeze := []
    eff := fun r i => match r, i with
      | 8, 5 => true
      | _, _ => false
    ord := fun n => match n with
      | 3 => some ([(4, 8), (10, 11)], [[0, 1, 2, 3, 4, 5, 6, 7, 8, 9, 10, 11, 12, 13], [0, 1, 2, 3, 4, 5, 6, 7, 8, 9, 11, 10, 12, 13], [0, 1, 2, 3, 5, 6, 7, 8, 4, 9, 10, 11, 12, 13], [0, 1, 2, 3, 5, 6, 7, 8, 4, 9, 11, 10, 12, 13]])
      | 8 => some ([(0, 2)], [[0, 1, 2, 3, 4, 5, 6, 7], [1, 2, 0, 3, 4, 5, 6, 7]])
      | _ => none }
/- pentaglot/pentaglotlaw41.few -/
def hint12 : Hint :=
  { loops := fun n => match n with
      | 2 => some ([(0, none), (3, none)], [])
      | _ => none
    freeze := []
    eff := fun _ _ => false }
/- pentaglot/pentaglotref31.SameAll -/
def hint13 : Hint :=
  { loops := fun n => match n with
      | 4 => some ([(0, none), (1, none), (5, none)], [])
      | _ => none
    freeze := []
    eff := fun r i => match r, i with
      | 6, 8 => true
      | _, _ => false }
/- pentaglot/aggregation.Merge -/
def hint14 : Hint :=
  { loops := fun n => match n with
      | 17 => some ([(5, some 3), (12, none), (101, none), (102, none), (103, none)], [])
      | _ => none
    freeze := []
    eff := fun r i => match r, i with
      | 8, 9 => true
      | 10, 9 => true
      | 16, 8 => true
      | _, _ => false }
/- pentaglot/pentaglotref41.Merge -/
def hint15 : Hint :=
  { loops := fun n => match n with
      | 11 => some ([(2, none), (5, some 3), (87, none), (88, none), (89, none)], [(2, [])])
      | _ => none
    freeze := []
    eff := fun r i => match r, i with
      | 6, 8 => true
      | 8, 8 => true
      | 10, 8 => true
      | _, _ => false }
/- pentaglot/aggregation.Moves -/
def hint16 : Hint :=
  { loops := fun n => match n with
      | 3 => some ([(0, none), (3, some 1), (4, none)], [])
      | 6 => some ([(0, none), (3, some 1), (4, none), (26, none), (27, none), (28, none)], [])
      | 10 => some ([(0, none), (3, some 1), (4, none), (6, none), (7, some 3), (26, none), (27, none), (28, none), (32, none), (33, none), (34, none)], [(6, [])])
      | _ => none
    freeze := []
    eff := fun r i => match r, i with
      | 5, 9 => true
      | _, _ => false }
/- pentaglot/pentaglotref41.Moves -/
def hint17 : Hint :=
  { loops := fun n => match n with
      | 3 => some ([(0, none), (3, some 1), (4, none)], [])
      | 6 => some ([(0, none), (3, some 1), (4, none), (24, none), (25, none), (26, none)], [])
      | _ => none
    freeze := []
    eff := fun r i => match r, i with
      | 5, 9 => true
      | _, _ => false }
/- pentaglot/pentaglotref41.Frame -/
def hint20 : Hint :=
  { loops := fun n => match n with
      | _ => none
    freeze := []
    eff := fun _ _ => false
    ord := fun n => match n with
      | 7 => some ([(7, 11), (9, 11)], [[0, 1, 2, 3, 4, 5, 6, 7, 8, 9, 10, 11, 12, 13], [0, 1, 2, 3, 4, 5, 6, 7, 8, 10, 11, 9, 12, 13], [0, 1, 2, 3, 4, 5, 6, 10, 11, 7, 8, 9, 12, 13]])
      | _ => none }
/- pentaglot/pentaglotref31.Same -/
def hint21 : Hint :=
  { loops := fun n => match n with
      | 4 => some ([(2, none), (3, none), (5, none)], [(2, []), (3, [])])
      | 9 => some ([(2, none), (3, none), (6, none)], [(2, []), (3, [])])
      | _ => none
    freeze := []
    eff := fun r i => match r, i with
      | 11, 10 => true
      | _, _ => false }
/- pentaglot/pentaglotref41.Split -/
def hint23 : Hint :=
  { loops := fun n => match n with
      | 9 => some ([(1, none), (7, some 3), (95, none), (96, none), (97, none)], [(1, [])])
      | _ => none
    freeze := []
    eff := fun r i => match r, i with
      | 3, 14 => true
      | 3, 15 => true
      | 5, 14 => true
      | 5, 15 => true
      | _, _ => false }
/- pentaglot/abstract.Text -/
def hint26 : Hint :=
  { loops := fun n => match n with
      | 5 => some ([(1, none), (3, some 1), (4, some 1), (23, none), (24, none), (25, none)], [(1, [])])
      | 10 => some ([(1, none), (3, some 1), (4, some 1), (36, none), (37, none), (38, none)], [(1, [])])
      | _ => none
    freeze := []
    eff := fun _ _ => false }
/- pentaglot/pentaglotref31.Size -/
def hint27 : Hint :=
  { loops := fun n => match n with
      | 3 => some ([(1, none), (3, none), (4, none)], [(1, [])])
      | _ => none
    freeze := []
    eff := fun _ _ => false }
/- pentaglot/aggregation.frame -/
def hint28 : Hint :=
  { loops := fun n => match n with
      | _ => none
    freeze := []
    eff := fun _ _ => false
    ord := fun n => match n with
      | 7 => some ([(5, 8), (7, 8)], [[0, 1, 2, 3, 4, 5, 6, 7, 8, 9, 10], [0, 1, 2, 3, 4, 5, 6, 8, 7, 9, 10], [0, 1, 2, 3, 4, 8, 5, 6, 7, 9, 10]])
      | _ => none }
/- pentaglot/aggregation.node -/
def hint30 : Hint :=
  { loops := fun n => match n with
      | 3 => some ([(4, none), (5, none), (10, none), (11, none), (12, none)], [(4, []), (5, [(2, 3)])])
      | _ => none
    freeze := []
    eff := fun _ _ => false }
/- slices.Equal[[]int,int] -/
def hint32 : Hint :=
  { loops := fun n => match n with
      | 4 => some ([(0, none), (1, none), (12, none), (13, none)], [])
      | _ => none
    freeze := []
    eff := fun _ _ => false }
/- pentaglot/aggregation.copied -/
def hint37 : Hint :=
  { loops := fun n => match n with
      | 3 => some ([(2, none), (3, none), (14, none), (15, none), (16, none)], [(2, []), (3, [(2, 3)])])
      | _ => none
    freeze := []
    eff := fun _ _ => false }
/- slices.EqualFunc[[]pentaglot/api.Tree,[]pentaglot/api.Tree,pentaglot/api.Tree,pentaglot/api.Tree] -/
def hint43 : Hint :=
  { loops := fun n => match n with
      | 4 => some ([(1, none), (2, none), (15, none), (16, none), (17, none)], [])
      | _ => none
    freeze := []
    eff := fun _ _ => false }
/- pentaglot/aggregation.wrapper$1 -/
def hint44 : Hint :=
  { loops := fun n => match n with
      | _ => none
    freeze := []
    eff := fun _ _ => false
    ord := fun n => match n with
      | 1 => some ([(4, 7), (5, 7)], [[0, 1, 2, 3, 4, 5, 6, 7, 8, 9], [0, 1, 2, 3, 4, 6, 7, 5, 8, 9], [0, 1, 2, 3, 6, 7, 4, 5, 8, 9]])
      | _ => none }
/- pentaglot/aggregation.parts$1 -/
def hint47 : Hint :=
  { loops := fun n => match n with
      | 16 => some ([(2, none), (117, none), (118, none), (119, none), (125, none)], [(2, [])])
      | _ => none
    freeze := []
    eff := fun r i => match r, i with
      | 8, 13 => true
      | 10, 13 => true
      | 14, 4 => true
      | 6, 3 => true
      | _, _ => false
    hide := true }
/- slices.AppendSeq[[]pentaglot/api.Tree,pentaglot/api.Tree] -/
def hint49 : Hint :=
  { loops := fun n => match n with
      | _ => none
    freeze := []
    eff := fun _ _ => false
    raw := [12]
    cook := fun n => match n with
      | 3 => [(2, some 0)]
      | _ => []
    ord := fun n => match n with
      | 3 => some ([(6, 7)], [[0, 1, 2, 3, 4, 5, 6, 7], [0, 1, 2, 3, 4, 5, 7, 6]])
      | _ => none }
def hH (f : FuncId) : Hint := match f with
  | 3 => hint3
  | 4 => hint4
  | 5 => hint5
  | 8 => hint8
  | 9 => hint9
  | 10 => hint10
  | 12 => hint12
  | 13 => hint13
  | 14 => hint14
  | 15 => hint15
  | 16 => hint16
  | 17 => hint17
  | 20 => hint20
  | 21 => hint21
  | 23 => hint23
  | 26 => hint26
  | 27 => hint27
  | 28 => hint28
  | 30 => hint30
  | 32 => hint32
  | 37 => hint37
  | 43 => hint43
  | 44 => hint44
  | 47 => hint47
  | 49 => hint49
  | _ => { loops := fun _ => none, freeze := [], eff := fun _ _ => false }
end Go.Proofs.YtfiefcfjedmhaaaDoor
