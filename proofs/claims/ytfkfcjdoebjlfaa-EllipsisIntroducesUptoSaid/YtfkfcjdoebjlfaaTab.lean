/- Tables of the seat, by program: types, functions, hints. -/
import Derived.Test.YtfkfcjdoebjlfaaAbsDef
import Derived.Test.YtfkfcjdoebjlfaaProg
namespace Go.Proofs.Ytfkfcjdoebjlfaa
open Go Go.Abs
set_option linter.unusedVariables false
def ty1 : TI := { size := 1, agg := false, bytes := 8, zero := [.nilf], fields := [], elem := 0, kind := 9 }
def ty2 : TI := { size := 1, agg := false, bytes := 8, zero := [.int .i64 0], fields := [], elem := 0, kind := 4 }
def ty3 : TI := { size := 1, agg := false, bytes := 8, zero := [.int .i64 0], fields := [], elem := 0, kind := 4 }
def ty4 : TI := { size := 1, agg := false, bytes := 1, zero := [.bool false], fields := [], elem := 0, kind := 5 }
def ty9 : TI := { size := 1, agg := false, bytes := 16, zero := [.str (ByteArray.mk #[])], fields := [], elem := 0, kind := 3 }
def ty22 : TI := { size := 1, agg := false, bytes := 24, zero := [.nils], fields := [], elem := 3, kind := 2 }
def ty23 : TI := { size := 1, agg := false, bytes := 24, zero := [.nils], fields := [], elem := 25, kind := 2 }
def ty25 : TI := { size := 3, agg := true, bytes := 64, zero := [.str (ByteArray.mk #[]), .nils, .nils], fields := [(0, 1), (1, 1), (2, 1)], elem := 0, kind := 1, sls := [0, 1, 3] }
def ty28 : TI := { size := 1, agg := false, bytes := 8, zero := [.int .i64 0], fields := [], elem := 0, kind := 4 }
def ty35 : TI := { size := 1, agg := false, bytes := 24, zero := [.nils], fields := [], elem := 23, kind := 2 }
def ty38 : TI := { size := 1, agg := false, bytes := 8, zero := [.nilf], fields := [], elem := 0, kind := 9 }
def ty43 : TI := { size := 1, agg := false, bytes := 24, zero := [.nils], fields := [], elem := 60, kind := 2 }
def ty58 : TI := { size := 1, agg := false, bytes := 24, zero := [.nils], fields := [], elem := 9, kind := 2 }
def ty60 : TI := { size := 4, agg := true, bytes := 64, zero := [.str (ByteArray.mk #[]), .nils, .str (ByteArray.mk #[]), .int .i64 0], fields := [(0, 1), (1, 1), (2, 1), (3, 1)], elem := 0, kind := 1, sls := [0, 1, 0, 0] }
def ty61 : TI := { size := 1, agg := false, bytes := 8, zero := [.nilf], fields := [], elem := 0, kind := 9 }
def ty65 : TI := { size := 1, agg := false, bytes := 8, zero := [.nilf], fields := [], elem := 0, kind := 9 }
def tT (t : Nat) : Option TI := match t with
  | 1 => some ty1
  | 2 => some ty2
  | 3 => some ty3
  | 4 => some ty4
  | 9 => some ty9
  | 22 => some ty22
  | 23 => some ty23
  | 25 => some ty25
  | 28 => some ty28
  | 35 => some ty35
  | 38 => some ty38
  | 43 => some ty43
  | 58 => some ty58
  | 60 => some ty60
  | 61 => some ty61
  | 65 => some ty65
  | _ => none
noncomputable def fF (f : FuncId) : Option Func := match f with
  | 3 => some Try.f3
  | 4 => some Try.f4
  | 5 => some Try.f5
  | 6 => some Try.f6
  | 7 => some Try.f7
  | 8 => some Try.f8
  | 9 => some Try.f9
  | 10 => some Try.f10
  | 11 => some Try.f11
  | 12 => some Try.f12
  | 13 => some Try.f13
  | 14 => some Try.f14
  | 15 => some Try.f15
  | 16 => some Try.f16
  | 17 => some Try.f17
  | 18 => some Try.f18
  | 19 => some Try.f19
  | 20 => some Try.f20
  | 21 => some Try.f21
  | 22 => some Try.f22
  | 23 => some Try.f23
  | 24 => some Try.f24
  | 25 => some Try.f25
  | 26 => some Try.f26
  | 27 => some Try.f27
  | 28 => some Try.f28
  | 29 => some Try.f29
  | 30 => some Try.f30
  | 31 => some Try.f31
  | 32 => some Try.f32
  | 33 => some Try.f33
  | 34 => some Try.f34
  | 35 => some Try.f35
  | 36 => some Try.f36
  | 37 => some Try.f37
  | 38 => some Try.f38
  | 39 => some Try.f39
  | 40 => some Try.f40
  | 41 => some Try.f41
  | 42 => some Try.f42
  | 43 => some Try.f43
  | 44 => some Try.f44
  | 45 => some Try.f45
  | 46 => some Try.f46
  | 47 => some Try.f47
  | 48 => some Try.f48
  | 49 => some Try.f49
  | 50 => some Try.f50
  | 51 => some Try.f51
  | 52 => some Try.f52
  | 53 => some Try.f53
  | 54 => some Try.f54
  | 55 => some Try.f55
  | 56 => some Try.f56
  | 57 => some Try.f57
  | 58 => some Try.f58
  | 59 => some Try.f59
  | _ => none
/- pentaglot/pentaglotlaw39.EllipsisRemoves -/
def hint4 : Hint :=
  { loops := fun n => match n with
      | 6 => some ([(0, none), (3, none), (4, none), (5, some 3), (6, none)], [])
      | _ => none
    freeze := []
    eff := fun _ _ => false }
/- pentaglot/pentaglotlaw39.EllipsisIntroduces -/
def hint5 : Hint :=
  { loops := fun n => match n with
      | 7 => some ([(3, none), (4, none), (5, none)], [])
      | _ => none
    freeze := []
    eff := fun r i => match r, i with
      | 9, 8 => true
      | _, _ => false }
/- pentaglot/pentaglotlaw39.EllipsisElided -/
def hint6 : Hint :=
  { loops := fun n => match n with
      | _ => none
    freeze := []
    eff := fun r i => match r, i with
      | 3, 0 => true
      | 3, 5 => true
      | _, _ => false }
/- pentaglot/pentaglotlaw39.EllipsisParallel -/
def hint7 : Hint :=
  { loops := fun n => match n with
      | _ => none
    freeze := []
    eff := fun r i => match r, i with
      | 3, 0 => true
      | 3, 7 => true
      | 3, 16 => true
      | _, _ => false }
/- pentaglot/pentaglotlaw39.EllipsisBack -/
def hint8 : Hint :=
  { loops := fun n => match n with
      | 7 => some ([(0, none), (3, none), (4, none), (5, none), (6, none), (7, none), (8, none)], [])
      | 12 => some ([(0, none), (3, none), (4, none), (5, none), (6, none), (7, none), (9, none)], [])
      | 17 => some ([(0, none), (3, none), (4, none), (5, none), (6, none), (7, none), (9, none), (10, none), (11, none), (12, none), (13, none), (14, none)], [])
      | _ => none
    freeze := []
    eff := fun _ _ => false }
/- pentaglot/pentaglotlaw39.EllipsisParallels -/
def hint9 : Hint :=
  { loops := fun n => match n with
      | _ => none
    freeze := []
    eff := fun r i => match r, i with
      | 2, 2 => true
      | 10, 0 => true
      | 10, 8 => true
      | 10, 21 => true
      | _, _ => false }
/- pentaglot/pentaglotlaw39.EllipsisRoots -/
def hint10 : Hint :=
  { loops := fun n => match n with
      | 7 => some ([(3, none), (5, none), (6, none)], [(6, [])])
      | 10 => some ([(3, none), (5, none), (6, none), (7, none)], [(6, [])])
      | _ => none
    freeze := []
    eff := fun r i => match r, i with
      | 12, 5 => true
      | 15, 0 => true
      | 15, 12 => true
      | _, _ => false }
/- pentaglot/pentaglotlaw39.few -/
def hint11 : Hint :=
  { loops := fun n => match n with
      | 2 => some ([(0, none), (1, none), (5, none)], [])
      | _ => none
    freeze := []
    eff := fun _ _ => false }
/- pentaglot/pentaglotlaw39.awake -/
def hint12 : Hint :=
  { loops := fun n => match n with
      | _ => none
    freeze := []
    eff := fun r i => match r, i with
      | 6, 11 => true
      | 6, 24 => true
      | 6, 32 => true
      | 6, 36 => true
      | 6, 42 => true
      | 6, 47 => true
      | _, _ => false }
/- pentaglot/pentaglotref31.SameAll -/
def hint15 : Hint :=
  { loops := fun n => match n with
      | 4 => some ([(0, none), (1, none), (5, none)], [])
      | _ => none
    freeze := []
    eff := fun r i => match r, i with
      | 6, 8 => true
      | _, _ => false }
/- pentaglot/ellipsis.Remove -/
def hint16 : Hint :=
  { loops := fun n => match n with
      | 4 => some ([(4, some 3), (5, none), (10, none), (11, none), (12, none)], [])
      | _ => none
    freeze := []
    eff := fun _ _ => false }
/- pentaglot/ellipsis.Introduce -/
def hint17 : Hint :=
  { loops := fun n => match n with
      | 3 => some ([(0, none), (3, some 1), (4, none)], [])
      | 11 => some ([(0, none), (3, some 1), (4, none), (7, none), (8, some 3), (48, none), (49, none), (50, none)], [(7, [])])
      | _ => none
    freeze := []
    eff := fun r i => match r, i with
      | 5, 9 => true
      | _, _ => false }
/- pentaglot/pentaglotref39.Introduce -/
def hint18 : Hint :=
  { loops := fun n => match n with
      | 3 => some ([(0, none), (3, some 1), (4, none)], [])
      | _ => none
    freeze := []
    eff := fun r i => match r, i with
      | 5, 9 => true
      | _, _ => false }
/- pentaglot/pentaglotref39.Elided -/
def hint20 : Hint :=
  { loops := fun n => match n with
      | 5 => some ([(1, none), (3, none), (4, none)], [(1, [])])
      | _ => none
    freeze := []
    eff := fun _ _ => false }
/- pentaglot/pentaglotref39.Parallel -/
def hint22 : Hint :=
  { loops := fun n => match n with
      | _ => none
    freeze := []
    eff := fun r i => match r, i with
      | 3, 8 => true
      | 3, 9 => true
      | 3, 18 => true
      | _, _ => false }
/- pentaglot/pentaglotlaw39.sentences -/
def hint23 : Hint :=
  { loops := fun n => match n with
      | 2 => some ([(0, none), (1, none), (5, none)], [])
      | _ => none
    freeze := []
    eff := fun _ _ => false }
/- pentaglot/pentaglotref31.Size -/
def hint24 : Hint :=
  { loops := fun n => match n with
      | 3 => some ([(1, none), (3, none), (4, none)], [(1, [])])
      | _ => none
    freeze := []
    eff := fun _ _ => false }
/- pentaglot/pentaglotref39.Sentence -/
def hint28 : Hint :=
  { loops := fun n => match n with
      | _ => none
    freeze := []
    eff := fun r i => match r, i with
      | 1, 2 => true
      | _, _ => false }
/- pentaglot/pentaglotref39.Depth -/
def hint35 : Hint :=
  { loops := fun n => match n with
      | 2 => some ([(1, none), (3, none)], [(1, [])])
      | _ => none
    freeze := []
    eff := fun _ _ => false }
/- pentaglot/pentaglotref39.expansion -/
def hint36 : Hint :=
  { loops := fun n => match n with
      | _ => none
    freeze := []
    eff := fun r i => match r, i with
      | 3, 13 => true
      | 3, 14 => true
      | _, _ => false }
/- pentaglot/pentaglotref31.Same -/
def hint37 : Hint :=
  { loops := fun n => match n with
      | 4 => some ([(2, none), (3, none), (5, none)], [(2, []), (3, [])])
      | 9 => some ([(2, none), (3, none), (6, none)], [(2, []), (3, [])])
      | _ => none
    freeze := []
    eff := fun r i => match r, i with
      | 11, 10 => true
      | _, _ => false }
/- pentaglot/abstract.Size -/
def hint42 : Hint :=
  { loops := fun n => match n with
      | 3 => some ([(3, none), (7, none), (8, none), (9, none)], [])
      | _ => none
    freeze := []
    eff := fun _ _ => false }
/- pentaglot/semantics.WithSubject -/
def hint44 : Hint :=
  { loops := fun n => match n with
      | _ => none
    freeze := []
    eff := fun r i => match r, i with
      | 11, 5 => true
      | _, _ => false }
/- pentaglot/pentaglotref31.Well -/
def hint45 : Hint :=
  { loops := fun n => match n with
      | 5 => some ([(0, none), (3, none), (6, none), (7, none)], [(3, [])])
      | 10 => some ([(0, none), (3, none), (6, none), (8, none)], [(3, [])])
      | _ => none
    freeze := []
    eff := fun _ _ => false }
/- pentaglot/pentaglotref31.Replace -/
def hint46 : Hint :=
  { loops := fun n => match n with
      | _ => none
    freeze := []
    eff := fun _ _ => false
    raw := [48]
    cook := fun n => match n with
      | 9 => [(3, some 2)]
      | _ => [] }
/- slices.Equal[[]int,int] -/
def hint47 : Hint :=
  { loops := fun n => match n with
      | 4 => some ([(0, none), (1, none), (12, none), (13, none)], [])
      | _ => none
    freeze := []
    eff := fun _ _ => false }
/- slices.EqualFunc[[]pentaglot/api.Tree,[]pentaglot/api.Tree,pentaglot/api.Tree,pentaglot/api.Tree] -/
def hint48 : Hint :=
  { loops := fun n => match n with
      | 4 => some ([(1, none), (2, none), (15, none), (16, none), (17, none)], [])
      | _ => none
    freeze := []
    eff := fun _ _ => false }
/- pentaglot/pentaglotref31.At -/
def hint49 : Hint :=
  { loops := fun n => match n with
      | 2 => some ([(1, none), (2, none), (4, none), (6, none)], [(2, []), (4, [])])
      | _ => none
    freeze := []
    eff := fun _ _ => false }
/- pentaglot/abstract.formed -/
def hint50 : Hint :=
  { loops := fun n => match n with
      | 8 => some ([(0, none), (3, none), (7, none), (42, none), (43, none), (44, none)], [(3, []), (7, [])])
      | 14 => some ([(0, none), (7, none), (53, none), (54, none), (55, none)], [(7, [])])
      | _ => none
    freeze := []
    eff := fun _ _ => false }
/- pentaglot/abstract.At -/
def hint51 : Hint :=
  { loops := fun n => match n with
      | 2 => some ([(2, none), (4, none), (8, none), (9, none), (10, none)], [(2, []), (4, [])])
      | _ => none
    freeze := []
    eff := fun _ _ => false }
/- pentaglot/abstract.Nodes$1 -/
def hint52 : Hint :=
  { loops := fun n => match n with
      | _ => none
    freeze := []
    eff := fun _ _ => false
    hide := true }
/- pentaglot/abstract.Nodes$1$1 -/
def hint53 : Hint :=
  { loops := fun n => match n with
      | 4 => some ([(0, none), (3, none), (17, none), (18, none), (19, none)], [])
      | _ => none
    freeze := []
    eff := fun r i => match r, i with
      | 1, 5 => true
      | 6, 11 => true
      | _, _ => false
    hide := true }
/- pentaglot/abstract.clone -/
def hint55 : Hint :=
  { loops := fun n => match n with
      | 3 => some ([(2, none), (3, none), (13, none), (14, none), (15, none)], [(2, []), (3, [(2, 3)])])
      | _ => none
    freeze := []
    eff := fun _ _ => false }
/- pentaglot/pentaglotref31.Index -/
def hint56 : Hint :=
  { loops := fun n => match n with
      | 2 => some ([(0, none), (1, none), (5, none)], [])
      | _ => none
    freeze := []
    eff := fun _ _ => false }
/- pentaglot/abstract.index -/
def hint58 : Hint :=
  { loops := fun n => match n with
      | 2 => some ([(0, none), (1, none), (7, none), (8, none), (9, none)], [])
      | _ => none
    freeze := []
    eff := fun _ _ => false }
def hH (f : FuncId) : Hint := match f with
  | 4 => hint4
  | 5 => hint5
  | 6 => hint6
  | 7 => hint7
  | 8 => hint8
  | 9 => hint9
  | 10 => hint10
  | 11 => hint11
  | 12 => hint12
  | 15 => hint15
  | 16 => hint16
  | 17 => hint17
  | 18 => hint18
  | 20 => hint20
  | 22 => hint22
  | 23 => hint23
  | 24 => hint24
  | 28 => hint28
  | 35 => hint35
  | 36 => hint36
  | 37 => hint37
  | 42 => hint42
  | 44 => hint44
  | 45 => hint45
  | 46 => hint46
  | 47 => hint47
  | 48 => hint48
  | 49 => hint49
  | 50 => hint50
  | 51 => hint51
  | 52 => hint52
  | 53 => hint53
  | 55 => hint55
  | 56 => hint56
  | 58 => hint58
  | _ => { loops := fun _ => none, freeze := [], eff := fun _ _ => false }
end Go.Proofs.Ytfkfcjdoebjlfaa
