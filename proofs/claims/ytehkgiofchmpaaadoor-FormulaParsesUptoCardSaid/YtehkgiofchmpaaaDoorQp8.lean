/- FormulaParses returns true for every string, where what it reads is of the bulk that the statement names; what it reads lies behind the call as before. -/
import Derived.Test.YtehkgiofchmpaaaDoorQp7
import Derived.Shelf.Strings.Builder1
import Derived.Shelf.Strconv.Itoa0
import Derived.Shelf.Strconv.Itoa1
import Derived.Shelf.LaysM
import Derived.Shelf.Strconv.Itoa2
import Derived.Shelf.Strconv.Itoa3
import Derived.Test.YtehkgiofchmpaaaDoorProg
import Derived.Lib.Builder
import Derived.Lib.AppendStr
import Derived.Lib.UnsafeStr
import Derived.Lib.MakeNoZero
import Derived.WalkKit
import Derived.ProofKit
import Derived.KernelRfl
import Derived.Laws.Externs
import Derived.Laws.IdiomCopy
import Derived.Shelf.Strings.BuilderX
import Derived.Shelf.RegionOpenPlain
import Derived.OpenShut
import Derived.JoinedCond
import Derived.Test.YtehkgiofchmpaaaDoorCards
import Derived.Test.YtehkgiofchmpaaaDoorTie
import Derived.Deep.DeepHandedRow
import Derived.LaidMore
import Derived.Stop.LaidErr
import Derived.SevenTiedAt
namespace Go.Proofs
open Go.Shelf
def Tryd.laysM171_ren : Go.Shelf.Ren := ⟨fun | 171 => 73 | 243 => 99 | 246 => 107 | 283 => 110 | 284 => 111 | 285 => 112 | 286 => 113 | 129 => 115 | 317 => 114 | 318 => 116 | 319 => 117 | 320 => 118 | 337 => 119 | 338 => 120 | n => n, fun | 3 => 3 | 9 => 9 | 2 => 2 | 4 => 4 | 171 => 103 | 0 => 0 | 53 => 104 | 37 => 54 | 5 => 5 | 173 => 107 | 212 => 110 | 51 => 111 | 20 => 20 | 213 => 112 | 46 => 113 | 232 => 116 | 233 => 117 | n => n, fun | 17 => 0 | 18 => 1 | 19 => 2 | n => n⟩
theorem Tryd.laysM171 : Go.Proofs.LaysM.n171 Tryd.prog Tryd.laysM171_ren := {
 mixed := by kernel_rfl
 f129 := Tryd.func115.trans (congrArg some (by kernel_rfl))
 f171 := Tryd.func73.trans (congrArg some (by kernel_rfl))
 f243 := Tryd.func99.trans (congrArg some (by kernel_rfl))
 f246 := Tryd.func107.trans (congrArg some (by kernel_rfl))
 f283 := Tryd.func110.trans (congrArg some (by kernel_rfl))
 f284 := Tryd.func111.trans (congrArg some (by kernel_rfl))
 f285 := Tryd.func112.trans (congrArg some (by kernel_rfl))
 f286 := Tryd.func113.trans (congrArg some (by kernel_rfl))
 f317 := Tryd.func114.trans (congrArg some (by kernel_rfl))
 f318 := Tryd.func116.trans (congrArg some (by kernel_rfl))
 f319 := Tryd.func117.trans (congrArg some (by kernel_rfl))
 f320 := Tryd.func118.trans (congrArg some (by kernel_rfl))
 f337 := Tryd.func119.trans (congrArg some (by kernel_rfl))
 f338 := Tryd.func120.trans (congrArg some (by kernel_rfl))
 t0 := Tryd.underlying0
 a0 := Tryd.isAgg0
 z0 := Tryd.sizeOf0
 v0 := Tryd.zeroValue0
 t2 := Tryd.underlying2
 a2 := Tryd.isAgg2
 z2 := Tryd.sizeOf2
 v2 := Tryd.zeroValue2
 t3 := Tryd.underlying3
 a3 := Tryd.isAgg3
 z3 := Tryd.sizeOf3
 v3 := Tryd.zeroValue3
 t4 := Tryd.underlying4
 a4 := Tryd.isAgg4
 z4 := Tryd.sizeOf4
 v4 := Tryd.zeroValue4
 t5 := Tryd.underlying5
 a5 := Tryd.isAgg5
 z5 := Tryd.sizeOf5
 v5 := Tryd.zeroValue5
 t9 := Tryd.underlying9
 a9 := Tryd.isAgg9
 z9 := Tryd.sizeOf9
 v9 := Tryd.zeroValue9
 t20 := Tryd.underlying20
 a20 := Tryd.isAgg20
 z20 := Tryd.sizeOf20
 v20 := Tryd.zeroValue20
 t37 := Tryd.underlying54
 a37 := Tryd.isAgg54
 z37 := Tryd.sizeOf54
 v37 := Tryd.zeroValue54
 t46 := Tryd.underlying113
 a46 := Tryd.isAgg113
 z46 := Tryd.sizeOf113
 v46 := Tryd.zeroValue113
 t51 := Tryd.underlying111
 a51 := Tryd.isAgg111
 z51 := Tryd.sizeOf111
 v51 := Tryd.zeroValue111
 t53 := Tryd.underlying104
 a53 := Tryd.isAgg104
 z53 := Tryd.sizeOf104
 v53 := Tryd.zeroValue104
 t171 := Tryd.underlying103
 a171 := Tryd.isAgg103
 z171 := Tryd.sizeOf103
 v171 := Tryd.zeroValue103
 t173 := Tryd.underlying107
 a173 := Tryd.isAgg107
 z173 := Tryd.sizeOf107
 v173 := Tryd.zeroValue107
 t212 := Tryd.underlying110
 a212 := Tryd.isAgg110
 z212 := Tryd.sizeOf110
 v212 := Tryd.zeroValue110
 t213 := Tryd.underlying112
 a213 := Tryd.isAgg112
 z213 := Tryd.sizeOf112
 t232 := Tryd.underlying116
 a232 := Tryd.isAgg116
 z232 := Tryd.sizeOf116
 v232 := Tryd.zeroValue116
 t233 := Tryd.underlying117
 a233 := Tryd.isAgg117
 z233 := Tryd.sizeOf117
 v233 := Tryd.zeroValue117
 g17 := by kernel_rfl
 g18 := by kernel_rfl
 g19 := by kernel_rfl
 i0 := by kernel_rfl
 i2 := by kernel_rfl
 i3 := by kernel_rfl
 i4 := by kernel_rfl
 i5 := by kernel_rfl
 i9 := by kernel_rfl
 i20 := by kernel_rfl
 i37 := by kernel_rfl
 i46 := by kernel_rfl
 i51 := by kernel_rfl
 i53 := by kernel_rfl
 i171 := by kernel_rfl
 i173 := by kernel_rfl
 i212 := by kernel_rfl
 i232 := by kernel_rfl
 i233 := by kernel_rfl
 m17 := by kernel_rfl
 m18 := by kernel_rfl
 m19 := by kernel_rfl }
open Go.RowKit Go.Sort Go.Lib in
theorem Tryd.strconv_Itoa (n : Int) (h0 : -9223372036854775808 ≤ n) (h1 : n ≤ 9223372036854775807) (w : World) (htab : Lib.TabIs Tryd.prog w "internal/strconv.uint64pow10" .u64 Lib.pow10Tab) :
  Calls Tryd.prog 73 #[.int .i64 n] w fun e w' => e = .returned (.string ⟨(Lib.itoa n).toArray⟩) ∧ ∃ k os, w' = grow (w.drewN k) os := Any.strconv_Itoa Tryd.laysM171 n h0 h1 w htab
def Tryd.lays171_ren : Go.Shelf.Ren := ⟨fun | 171 => 73 | 243 => 99 | 246 => 107 | 283 => 110 | 284 => 111 | 285 => 112 | 286 => 113 | 129 => 115 | 317 => 114 | 318 => 116 | 319 => 117 | 320 => 118 | 337 => 119 | 338 => 120 | n => n, fun | 3 => 3 | 9 => 9 | 2 => 2 | 4 => 4 | 171 => 103 | 0 => 0 | 53 => 104 | 37 => 54 | 5 => 5 | 173 => 107 | 212 => 110 | 51 => 111 | 20 => 20 | 213 => 112 | 46 => 113 | 232 => 116 | 233 => 117 | n => n, fun | 17 => 0 | 18 => 1 | 19 => 2 | n => n⟩
theorem Tryd.lays171 : Go.Proofs.Lays.n171 Tryd.prog Tryd.lays171_ren := {
 mixed := by kernel_rfl
 f129 := Tryd.func115.trans (congrArg some (by kernel_rfl))
 f171 := Tryd.func73.trans (congrArg some (by kernel_rfl))
 f243 := Tryd.func99.trans (congrArg some (by kernel_rfl))
 f246 := Tryd.func107.trans (congrArg some (by kernel_rfl))
 f283 := Tryd.func110.trans (congrArg some (by kernel_rfl))
 f284 := Tryd.func111.trans (congrArg some (by kernel_rfl))
 f285 := Tryd.func112.trans (congrArg some (by kernel_rfl))
 f286 := Tryd.func113.trans (congrArg some (by kernel_rfl))
 f317 := Tryd.func114.trans (congrArg some (by kernel_rfl))
 f318 := Tryd.func116.trans (congrArg some (by kernel_rfl))
 f319 := Tryd.func117.trans (congrArg some (by kernel_rfl))
 f320 := Tryd.func118.trans (congrArg some (by kernel_rfl))
 f337 := Tryd.func119.trans (congrArg some (by kernel_rfl))
 f338 := Tryd.func120.trans (congrArg some (by kernel_rfl))
 t0 := Tryd.underlying0
 a0 := Tryd.isAgg0
 z0 := Tryd.sizeOf0
 v0 := Tryd.zeroValue0
 t2 := Tryd.underlying2
 a2 := Tryd.isAgg2
 z2 := Tryd.sizeOf2
 v2 := Tryd.zeroValue2
 t3 := Tryd.underlying3
 a3 := Tryd.isAgg3
 z3 := Tryd.sizeOf3
 v3 := Tryd.zeroValue3
 t4 := Tryd.underlying4
 a4 := Tryd.isAgg4
 z4 := Tryd.sizeOf4
 v4 := Tryd.zeroValue4
 t5 := Tryd.underlying5
 a5 := Tryd.isAgg5
 z5 := Tryd.sizeOf5
 v5 := Tryd.zeroValue5
 t9 := Tryd.underlying9
 a9 := Tryd.isAgg9
 z9 := Tryd.sizeOf9
 v9 := Tryd.zeroValue9
 t20 := Tryd.underlying20
 a20 := Tryd.isAgg20
 z20 := Tryd.sizeOf20
 v20 := Tryd.zeroValue20
 t37 := Tryd.underlying54
 a37 := Tryd.isAgg54
 z37 := Tryd.sizeOf54
 v37 := Tryd.zeroValue54
 t46 := Tryd.underlying113
 a46 := Tryd.isAgg113
 z46 := Tryd.sizeOf113
 v46 := Tryd.zeroValue113
 t51 := Tryd.underlying111
 a51 := Tryd.isAgg111
 z51 := Tryd.sizeOf111
 v51 := Tryd.zeroValue111
 t53 := Tryd.underlying104
 a53 := Tryd.isAgg104
 z53 := Tryd.sizeOf104
 v53 := Tryd.zeroValue104
 t171 := Tryd.underlying103
 a171 := Tryd.isAgg103
 z171 := Tryd.sizeOf103
 v171 := Tryd.zeroValue103
 t173 := Tryd.underlying107
 a173 := Tryd.isAgg107
 z173 := Tryd.sizeOf107
 v173 := Tryd.zeroValue107
 t212 := Tryd.underlying110
 a212 := Tryd.isAgg110
 z212 := Tryd.sizeOf110
 v212 := Tryd.zeroValue110
 t213 := Tryd.underlying112
 a213 := Tryd.isAgg112
 z213 := Tryd.sizeOf112
 t232 := Tryd.underlying116
 a232 := Tryd.isAgg116
 z232 := Tryd.sizeOf116
 v232 := Tryd.zeroValue116
 t233 := Tryd.underlying117
 a233 := Tryd.isAgg117
 z233 := Tryd.sizeOf117
 v233 := Tryd.zeroValue117
 g17 := by kernel_rfl
 g18 := by kernel_rfl
 g19 := by kernel_rfl }
open Go.RowKit Go.Sort Go.Lib in
theorem Tryd.strconv_Itoa_small (i : Nat) (hi : i < 100) (w : World) :
  Calls Tryd.prog 73 #[.int .i64 i] w fun e w' => e = .returned (.string ⟨(Lib.decDigits i).toArray⟩) ∧ w' = w := Any.strconv_Itoa_small Tryd.lays171 i hi w
end Go.Proofs
set_option linter.unusedVariables false
set_option linter.unusedSimpArgs false
namespace Go.Proofs.YtehkgiofchmpaaaDoor
open Go Go.RowKit Go.Abs
theorem setCell_row {w : World} {b j : Nat} {c : Array Value} {e : TypeId} {fz : Nat × Nat} (v : Value) (hb : w.heap[b]? = some (.cells c e fz)) : w.setCell ⟨b, j, none⟩ v = w.setRow b (c.setIfInBounds j v) := by
 unfold World.setCell World.setRow
 congr 1
 apply Array.ext_getElem?
 intro i
 simp only [Array.getElem?_modify]
 by_cases hi : b = i
 ·subst hi
  simp [hb]
 ·simp [hi]
theorem builder_info : ∃ j, Tryd.prog.info? 56 = some j ∧ j.size = 2 := by
 obtain ⟨j, z, h1, h2, _⟩ := ty56ok.info
 exact ⟨j, h1, h2⟩
set_option maxHeartbeats 1000000 in
set_option maxRecDepth 100000 in
theorem cc_used (b : Nat) (w : World) (h0 : w.cell? ⟨b, 0, none⟩ = some (.pointer (some ⟨b, 0, none⟩))) :
  Calls Tryd.prog 98 #[.pointer (some ⟨b, 0, none⟩)] w fun e w' => e = .returned (.tuple #[]) ∧ w' = w := by
 obtain ⟨j, hj⟩ := builder_info
 go_enter Tryd.func98, Tryd.ntmps98
 go_wp2
 rw [Lib.run_neq_ptr_same w _ Tryd.underlying53 hj.1]
 go_wp2
 go_end0
 exact ⟨rfl, rfl⟩
set_option maxHeartbeats 1000000 in
set_option maxRecDepth 100000 in
theorem cc_fresh (b : Nat) (w : World) (h0 : w.cell? ⟨b, 0, none⟩ = some (.pointer none)) (hsh : w.shape? b = some (56, 2)) (hfz : w.frozen? ⟨b, 0, none⟩ = false) :
  Calls Tryd.prog 98 #[.pointer (some ⟨b, 0, none⟩)] w fun e w' => e = .returned (.tuple #[]) ∧ w' = w.setCell ⟨b, 0, none⟩ (.pointer (some ⟨b, 0, none⟩)) := by
 obtain ⟨j, hj, hjs⟩ := builder_info
 go_enter Tryd.func98, Tryd.ntmps98
 go_wp2
 rw [Lib.run_to_unsafe w ⟨b, 0, none⟩ Tryd.underlying53 Tryd.underlying100 hj (by rw [hjs]; decide) hsh (Nat.zero_lt_succ 1)]
 simp only [Result.andThen]
 rw [Oper.upon_value]
 go_wp2
 rw [run_callFunc_extern Tryd.func106 (by kernel_rfl) (by kernel_rfl) (by kernel_rfl) (e := Extern.AbiNoEscape.same) (by kernel_rfl)]
 rw [Lib.run_noEscape]
 simp only [Result.andThen]
 rw [Oper.upon_value]
 go_wp2
 rw [Lib.run_from_unsafe w ⟨b, 0, none⟩ Tryd.underlying100 Tryd.underlying53 hj hsh (by kernel_rfl)]
 simp only [Result.andThen]
 rw [Oper.upon_value]
 go_wp2
 go_end0
 exact ⟨rfl, rfl⟩
theorem copyCheck (b : Nat) (p v1 : Value) (w : World) (hb : w.heap[b]? = some (.cells #[p, v1] 56 (0, 0))) (hp : p = .pointer none ∨ p = .pointer (some ⟨b, 0, none⟩)) :
  Calls Tryd.prog 98 #[.pointer (some ⟨b, 0, none⟩)] w fun e w' => e = .returned (.tuple #[]) ∧ w' = w.setRow b #[.pointer (some ⟨b, 0, none⟩), v1] := by
 rcases hp with rfl | rfl
 ·refine (cc_fresh b w (by simp [World.cell?, hb]) (by simp [World.shape?, hb]) (by simp [World.frozen?, hb])).mono ?_
  rintro e w' ⟨rfl, rfl⟩
  exact ⟨rfl, setCell_row _ hb⟩
 ·refine (cc_used b w (by simp [World.cell?, hb])).mono ?_
  rintro e w' ⟨rfl, rfl⟩
  exact ⟨rfl, (setRow_same w' b _ _ hb).symm⟩
theorem wpList_append_run {P : Program} (w : World) {ops : Array Oper} {rest : List Oper} {o : Oper} {a : Act} {Q : Exit → Act → World → Prop} (hg : o.guard = none) (s x : Operand) (t t2 : TypeId)
  (hop : o.op = Op.call { callee := Callee.builtin Builtin.append, args := #[s, x], argTypes := #[t, t2] }) {sv xv v : Value} {w' : World} (hs : a.eval s = sv) (hx : a.eval x = xv) (hrun : (Builtin.append_ #[t, t2] o.type #[sv, xv]).run P w = .ok v w')
  (hK : wpList P ops Q rest (a.put o.dst v) w') : wpList P ops Q (o :: rest) a w := by
 refine wpList_plain hg fun K hK' => ?_
 unfold Oper.wp
 simp [execOp, hop, resolve, invoke, builtin, hs, hx, hrun, Result.andThen]
 exact hK' _ _ hK
set_option maxHeartbeats 1000000 in
set_option maxRecDepth 100000 in
theorem writeString_call (b : Nat) (p v1 : Value) (ao : Option Addr) (n2 k2 : Nat) (s : ByteArray) (w w2 : World) (hb : w.heap[b]? = some (.cells #[p, v1] 56 (0, 0))) (hp : p = .pointer none ∨ p = .pointer (some ⟨b, 0, none⟩))
  (happ : (Builtin.append_ #[54, 9] 54 #[v1, .string s]).run Tryd.prog (w.setRow b #[.pointer (some ⟨b, 0, none⟩), v1]) = .ok (.slice ao n2 k2) w2) (hb2 : w2.heap[b]? = some (.cells #[.pointer (some ⟨b, 0, none⟩), v1] 56 (0, 0))) :
  Calls Tryd.prog 71 #[.pointer (some ⟨b, 0, none⟩), .string s] w fun e w' => e = .returned (.tuple #[.int .i64 s.size, .nilIface]) ∧ w' = w2.setRow b #[.pointer (some ⟨b, 0, none⟩), .slice ao n2 k2] := by
 have ecc : ∀ args w, (callFunc 98 args).run Tryd.prog w = .ok (.enter 98 args) w := enters_of Tryd.func98 (by kernel_rfl) rfl
 go_enter Tryd.func71, Tryd.ntmps71
 go_wp2_with (go_at_fn 98; refine (copyCheck b p v1 _ hb hp).mono ?_)
 rintro e w1 ⟨rfl, rfl⟩
 have hb1 := setRow_heap w b #[p, v1] #[.pointer (some ⟨b, 0, none⟩), v1] 56 (0, 0) hb
 have c1 : (w.setRow b #[.pointer (some ⟨b, 0, none⟩), v1]).cell? ⟨b, 1, none⟩ = some v1 := by simp [World.cell?, hb1]
 have f1 : w2.frozen? ⟨b, 1, none⟩ = false := by simp [World.frozen?, hb2]
 have d1 : w2.cell? ⟨b, 1, none⟩ = some v1 := by simp [World.cell?, hb2]
 go_wp2_with (at_builtin; refine wpList_append_run _ rfl _ _ _ _ rfl rfl rfl happ ?_)
 go_ret2
 exact ⟨rfl, setCell_row _ hb2⟩
set_option maxHeartbeats 1000000 in
set_option maxRecDepth 100000 in
theorem writeByte_call (b : Nat) (p v1 : Value) (ao : Option Addr) (n2 k2 : Nat) (c : Int) (w w2 : World) (hb : w.heap[b]? = some (.cells #[p, v1] 56 (0, 0))) (hp : p = .pointer none ∨ p = .pointer (some ⟨b, 0, none⟩))
  (happ : (Builtin.append_ #[54, 54] 54 #[v1, .slice (some ⟨w.heap.size, 0, none⟩) 1 1]).run Tryd.prog ((w.setRow b #[.pointer (some ⟨b, 0, none⟩), v1]).alloc (.cells #[.int .u8 c] 5 (0, 0))) = .ok (.slice ao n2 k2) w2) (hb2 : w2.heap[b]? = some (.cells #[.pointer (some ⟨b, 0, none⟩), v1] 56 (0, 0))) :
  Calls Tryd.prog 74 #[.pointer (some ⟨b, 0, none⟩), .int .u8 c] w fun e w' => e = .returned .nilIface ∧ w' = w2.setRow b #[.pointer (some ⟨b, 0, none⟩), .slice ao n2 k2] := by
 have ecc : ∀ args w, (callFunc 98 args).run Tryd.prog w = .ok (.enter 98 args) w := enters_of Tryd.func98 (by kernel_rfl) rfl
 go_enter Tryd.func74, Tryd.ntmps74
 go_wp2_with (go_at_fn 98; refine (copyCheck b p v1 _ hb hp).mono ?_)
 rintro e w1 ⟨rfl, rfl⟩
 have hb1 := setRow_heap w b #[p, v1] #[.pointer (some ⟨b, 0, none⟩), v1] 56 (0, 0) hb
 have c1 : (w.setRow b #[.pointer (some ⟨b, 0, none⟩), v1]).cell? ⟨b, 1, none⟩ = some v1 := by simp [World.cell?, hb1]
 have hsz : (w.setRow b #[.pointer (some ⟨b, 0, none⟩), v1]).heap.size = w.heap.size := by simp
 have f1 : w2.frozen? ⟨b, 1, none⟩ = false := by simp [World.frozen?, hb2]
 have d1 : w2.cell? ⟨b, 1, none⟩ = some v1 := by simp [World.cell?, hb2]
 go_wp2_with (at_builtin; refine wpList_append_run _ rfl _ _ _ _ rfl rfl rfl happ ?_)
 go_ret
 exact ⟨rfl, setCell_row _ hb2⟩
set_option maxHeartbeats 1000000 in
set_option maxRecDepth 100000 in
theorem string_call (b g cap : Nat) (p : Value) (l : List UInt8) (cur : Array Value) (w : World) (hb : w.heap[b]? = some (.cells #[p, .slice (some ⟨g, 0, none⟩) l.length cap] 56 (0, 0))) (h0 : l ≠ [])
  (hg : w.heap[g]? = some (.cells cur 5 (0, 0))) (hnc : l.length ≤ cap) (hcs : cap ≤ cur.size) (hmax : l.length ≤ 9223372036854775807) (hl : ∀ (j : Nat) x, l[j]? = some x → cur[j]? = some (.int .u8 x.toNat)) :
  Calls Tryd.prog 41 #[.pointer (some ⟨b, 0, none⟩)] w fun e w' => e = .returned (.string ⟨l.toArray⟩) ∧ w' = w.drew.freeze ⟨g, 0, none⟩ l.length := by
 have hl0 : l.length ≠ 0 := by simpa using h0
 have hbk : w.drew.heap[b]? = some (.cells #[p, .slice (some ⟨g, 0, none⟩) l.length cap] 56 (0, 0)) := hb
 have hgk : w.drew.heap[g]? = some (.cells cur 5 (0, 0)) := hg
 have c1 : w.drew.cell? ⟨b, 1, none⟩ = some (.slice (some ⟨g, 0, none⟩) l.length cap) := by simp [World.cell?, hbk]
 have hSD : (Builtin.unsafeSliceData_ #[54] 89 #[.slice (some ⟨g, 0, none⟩) l.length cap]).run Tryd.prog w.drew = .ok (.pointer (some ⟨g, 0, none⟩)) w.drew :=
  Lib.run_unsafeSliceData_row _ _ _ _ _ _ (by omega)
 have hUS : (Builtin.unsafeString_ #[89, 3] 9 #[.pointer (some ⟨g, 0, none⟩), .int .i64 l.length]).run Tryd.prog w.drew = .ok (.string ⟨l.toArray⟩) (w.drew.freeze ⟨g, 0, none⟩ l.length) := by
  refine Lib.run_unsafeString_row w.drew 89 3 9 5 Tryd.underlying89 (by kernel_rfl) g cur.size (by simp [World.shape?, hgk]) l h0 (by omega) hmax ?_
  intro j x hx
  have := hl j x hx
  simp [World.cell?, Addr.add_lit, hgk, this]
 have mixed := mixok
 go_enter Tryd.func41, Tryd.ntmps41
 go_wp2
 go_region_o
 all_goals (go_wp2; go_ret; exact ⟨rfl, rfl⟩)
theorem uint8_info : ∃ i z, Tryd.prog.info? 5 = some i ∧ i.size = 1 ∧ i.bytes = 1 ∧ i.zero = some z ∧ z.cells.size = 1 := by
 obtain ⟨i, z, h1, h2, h3, h4, h5⟩ := ty5ok.info
 refine ⟨i, z, h1, h2, h3, h4, ?_⟩
 rw [← Array.length_toList, h5, List.length_map]
 rfl
theorem bldAt_inv {a : AV} {g : G} {d t : Nat} {bo : Box} {i : Abs.Id} {es : List (List D)} (h : bldAt a g = some (d, t, bo, i, es)) :
  a = .ptr d t 0 ∧ g.bx d t = some bo ∧ bo.frz = false ∧ bo.ty = (56, 5) ∧ bldIn d t bo = some (i, es) := by
 unfold bldAt at h
 split at h
 case h_2 => cases h
 rename_i d' t' off
 split at h
 case h_2 => cases h
 rename_i b hb
 split at h
 case h_2 => cases h
 rename_i hc
 split at h
 case h_2 => cases h
 rename_i i' es' hin
 cases h
 simp only [Bool.and_eq_true, Nat.beq_eq, Bool.not_eq_true'] at hc
 obtain ⟨⟨⟨h1, rfl⟩, h3⟩, h4⟩ := hc
 exact ⟨rfl, hb, h1, by rw [← h3, ← h4], hin⟩
theorem ret_pair {g : G} {w : World} {h : Gh} (n : Int) : OutM g w h (.ret [.d (.int .i64 n), .d .nili]) (.returned (.tuple #[.int .i64 n, .nilIface])) := by
 refine ⟨[.int .i64 n, .nilIface], rfl, ?_, ⟨(fun i sz es e => by cases e), (fun i sz es e => by cases e), trivial⟩, rfl, by simp [AV.oks, AV.ok]⟩
 simp only [RepAs, RepA, RepV]
 exact ⟨_, _, rfl, rfl, _, _, rfl, rfl, rfl⟩
theorem ret_one {g : G} {w : World} {h : Gh} {x : D} {v : Value} (hv : RepV w h.L x v) : OutM g w h (.ret [.d x]) (.returned v) := by
 refine ⟨[v], rfl, ?_, ⟨(fun i sz es e => by cases e), trivial⟩, rfl, by simp [AV.oks, AV.ok]⟩
 simp only [RepAs, RepA]
 exact ⟨_, _, rfl, hv, rfl⟩
theorem sizeS (s : ByteArray) : s.data.toList.length = s.size := Array.length_toList
theorem writeS_ok : XSound Tryd.prog 71 xWriteS := by
 intro args g out g' hx w h vs hg hv ho htb
 unfold xWriteS at hx
 split at hx
 case h_2 => cases hx
 rename_i a s
 split at hx
 case h_2 => cases hx
 rename_i d t bo i es hat
 obtain ⟨rfl, hbo, hfrz, hty, hin⟩ := bldAt_inv hat
 simp only [Option.some.injEq, Prod.mk.injEq] at hx
 obtain ⟨hfit, rfl, rfl⟩ := hx
 obtain ⟨hd, hib, b, p, v1, l, hbe, hheap, hp, rfl, hbuf, h1, hne⟩ := bld_box hg hbo hty (by decide) hin
 obtain ⟨st, a, f1, r1, q1, q2, q3, q4, q5, q6, hbuf3, q7⟩ := bld_begin hg htb hbo hfrz hty (by decide) hib hbe hheap rfl hbuf h1 hne
 have hh3 := setRow_heap w b #[p, v1] #[.pointer (some ⟨b, 0, none⟩), v1] 56 (0, 0) hheap
 simp only [RepAs, RepA, RepV] at hv
 obtain ⟨_, _, rfl, ⟨b', hb', rfl⟩, _, _, rfl, rfl, rfl⟩ := hv
 rw [hbe] at hb'; cases hb'
 have hsrc : Src Tryd.prog (w.setRow b #[.pointer (some ⟨b, 0, none⟩), v1]) 54 9 1 (.string s) s.data.toList.length (Lib.byteCells s.data.toList) := by
  refine .inr ⟨Tryd.underlying9, rfl, s, rfl, sizeS s, ?_⟩
  rfl
 obtain ⟨ui, uz, u1, u2, u3, u4, u5⟩ := uint8_info
 obtain ⟨ao, n2, k2, w2, hrun, hb2, h2, f2, r2⟩ := bld_append f1 r1 (by omega) (by decide) q2 (bt := 5) q4 hfrz (by rw [hty]) hbe (p := .pointer (some ⟨b, 0, none⟩)) rfl hh3 (c0 := .ptr d t 0)
  (by simp only [RepA]; exact ⟨b, hbe, rfl⟩) ⟨d, t, rfl, Nat.le_refl _, by rw [q4]; rfl⟩ q5 hib q6 hbuf3 Tryd.underlying54 u1 u2 u3 u4 u5 hsrc
  (by
   have := Nat.le_of_ble_eq_true hfit
   rw [byteRow_len] at this
   exact this) 54
 refine ⟨⟨_, _, Tryd.func71, rfl, by kernel_rfl⟩, callsIn_wide.2 ((writeString_call b p v1 ao n2 k2 s w w2 hheap hp hrun hb2).mono ?_)⟩
 rintro e w' ⟨rfl, rfl⟩
 obtain ⟨h', g1, g2⟩ := bld_end hg f2 r2 q1 q3 (fun t' => by
  dsimp only
  rw [q7, putBx_twice]
  exact bldBx_top hg hd _ _ _ _)
 have hbx : putBx st.g.bx d t { bo with cells := [.ptr d t 0, .own (.box d t 1) 1 (byteRow (l ++ s.data.toList))] } = bldBx d t i bo (byteRow l ++ byteRow s.data.toList) g.bx := by
  rw [q7, putBx_twice, byteRow_append]; rfl
 dsimp only at g1 g2
 rw [hbx] at g1 g2
 refine ⟨h', ?_, g1, g2, rfl, rfl⟩
 rw [← sizeS s]
 exact ret_pair _
theorem writeB_ok : XSound Tryd.prog 74 xWriteB := by
 intro args g out g' hx w h vs hg hv ho htb
 unfold xWriteB at hx
 split at hx
 case h_2 => cases hx
 rename_i a c
 split at hx
 case h_2 => cases hx
 rename_i d t bo i es hat
 obtain ⟨rfl, hbo, hfrz, hty, hin⟩ := bldAt_inv hat
 simp only [Option.some.injEq, Prod.mk.injEq, Bool.and_eq_true, decide_eq_true_eq] at hx
 obtain ⟨⟨hfit, hc⟩, rfl, rfl⟩ := hx
 obtain ⟨hd, hib, b, p, v1, l, hbe, hheap, hp, rfl, hbuf, h1, hne⟩ := bld_box hg hbo hty (by decide) hin
 obtain ⟨st, a, f1, r1, q1, q2, q3, q4, q5, q6, hbuf3, q7⟩ := bld_begin hg htb hbo hfrz hty (by decide) hib hbe hheap rfl hbuf h1 hne
 have hh3 := setRow_heap w b #[p, v1] #[.pointer (some ⟨b, 0, none⟩), v1] 56 (0, 0) hheap
 simp only [RepAs, RepA, RepV] at hv
 obtain ⟨_, _, rfl, ⟨b', hb', rfl⟩, _, _, rfl, rfl, rfl⟩ := hv
 rw [hbe] at hb'; cases hb'
 obtain ⟨f3, r3⟩ := f1.alloc1 r1 (.cells #[.int .u8 c] 5 (0, 0))
 have hnew : ((w.setRow b #[.pointer (some ⟨b, 0, none⟩), v1]).alloc (.cells #[.int .u8 c] 5 (0, 0))).heap[w.heap.size]? = some (.cells #[.int .u8 c] 5 (0, 0)) := by
  have := heap_new (w.setRow b #[.pointer (some ⟨b, 0, none⟩), v1]) (.cells #[.int .u8 c] 5 (0, 0))
  rw [size_setRow] at this
  exact this
 have hb3 := below_alloc (w.setRow b #[.pointer (some ⟨b, 0, none⟩), v1]) (.cells #[.int .u8 c] 5 (0, 0))
 have hold : ∀ k x, (w.setRow b #[.pointer (some ⟨b, 0, none⟩), v1]).heap[k]? = some x → ((w.setRow b #[.pointer (some ⟨b, 0, none⟩), v1]).alloc (.cells #[.int .u8 c] 5 (0, 0))).heap[k]? = (w.setRow b #[.pointer (some ⟨b, 0, none⟩), v1]).heap[k]? := fun k x hk => hb3.block k (lt_of_heap hk)
 have hbuf4 : Buf ((w.setRow b #[.pointer (some ⟨b, 0, none⟩), v1]).alloc (.cells #[.int .u8 c] 5 (0, 0))) { h with df := [], flat := true } 5 i v1 l := by
  refine hbuf3.mono rfl fun b' hb' => ⟨rfl, ?_⟩
  obtain ⟨cc, e, hcc⟩ := f1.gi.gaC _ _ hb'
  exact hold _ _ hcc
 have hsrc : Src Tryd.prog ((w.setRow b #[.pointer (some ⟨b, 0, none⟩), v1]).alloc (.cells #[.int .u8 c] 5 (0, 0))) 54 54 1 (.slice (some ⟨w.heap.size, 0, none⟩) 1 1) [UInt8.ofNat c.toNat].length (Lib.byteCells [UInt8.ofNat c.toNat]) := by
  refine .inl ⟨rfl, some ⟨w.heap.size, 0, none⟩, 1, rfl, rfl, .inr ⟨_, rfl, ?_⟩⟩
  intro j u hj
  cases j with
  | zero =>
   simp only [Lib.byteCells, List.map_cons, List.map_nil, List.getElem?_cons_zero, Option.some.injEq] at hj
   subst hj
   simp only [World.cell?, Addr.add_lit, hnew, ← hc, Nat.add_zero]
   rfl
  | succ j => simp [Lib.byteCells] at hj
 obtain ⟨ui, uz, u1, u2, u3, u4, u5⟩ := uint8_info
 obtain ⟨ao, n2, k2, w2, hrun, hb2, h2, f2, r2⟩ := bld_append f3 r3 (by omega) (by decide) q2 (bt := 5) q4 hfrz (by rw [hty]) hbe (p := .pointer (some ⟨b, 0, none⟩)) rfl (by rw [hold _ _ hh3, hh3]) (c0 := .ptr d t 0)
  (by simp only [RepA]; exact ⟨b, hbe, rfl⟩) ⟨d, t, rfl, Nat.le_refl _, by rw [q4]; rfl⟩ q5 hib q6 hbuf4 Tryd.underlying54 u1 u2 u3 u4 u5 hsrc
  (by
   have := Nat.le_of_ble_eq_true hfit
   rw [byteRow_len] at this
   exact this) 54
 refine ⟨⟨_, _, Tryd.func74, rfl, by kernel_rfl⟩, callsIn_wide.2 ((writeByte_call b p v1 ao n2 k2 c w w2 hheap hp hrun hb2).mono ?_)⟩
 rintro e w' ⟨rfl, rfl⟩
 obtain ⟨h', g1, g2⟩ := bld_end hg f2 r2 q1 q3 (fun t' => by
  dsimp only
  rw [q7, putBx_twice]
  exact bldBx_top hg hd _ _ _ _)
 have hbx : putBx st.g.bx d t { bo with cells := [.ptr d t 0, .own (.box d t 1) 1 (byteRow (l ++ [UInt8.ofNat c.toNat]))] } = bldBx d t i bo (byteRow l ++ byteRow [UInt8.ofNat c.toNat]) g.bx := by
  rw [q7, putBx_twice, byteRow_append]; rfl
 dsimp only at g1 g2
 rw [hbx] at g1 g2
 refine ⟨h', ?_, g1, g2, rfl, rfl⟩
 exact ret_one (by simp only [RepV])
theorem bytesOf_byteRow : ∀ l : List UInt8, bytesOf (byteRow l) = l
 | [] => rfl
 | c :: l => by
  show UInt8.ofNat (Int.toNat (c.toNat : Int)) :: bytesOf (byteRow l) = _
  rw [bytesOf_byteRow l, Int.toNat_natCast]
  simp
theorem freeze_facts {w : World} {gb n : Nat} {cc : Array Value} {e : TypeId} (hn : n ≠ 0) (hgk : w.heap[gb]? = some (.cells cc e (0, 0))) :
  (w.drew.freeze ⟨gb, 0, none⟩ n).os = w.os ∧ (w.drew.freeze ⟨gb, 0, none⟩ n).tape = w.tape ∧ (w.drew.freeze ⟨gb, 0, none⟩ n).output = w.output ∧ (w.drew.freeze ⟨gb, 0, none⟩ n).heap.size = w.heap.size ∧
   (∀ k, k ≠ gb → (w.drew.freeze ⟨gb, 0, none⟩ n).heap[k]? = w.heap[k]?) ∧ (w.drew.freeze ⟨gb, 0, none⟩ n).heap[gb]? = some (.cells cc e (0, n)) := by
 unfold World.freeze
 rw [if_neg hn]
 have hh : w.drew.heap = w.heap := rfl
 refine ⟨rfl, rfl, rfl, ?_, ?_, ?_⟩
 ·show (Array.modify _ _ _).size = _
  rw [Array.size_modify, hh]
 ·intro k hk
  show (Array.modify _ _ _)[k]? = _
  rw [Array.getElem?_modify, if_neg (fun e => hk e.symm), hh]
 ·show (Array.modify _ _ _)[gb]? = _
  rw [Array.getElem?_modify, if_pos rfl, hh, hgk]
  simp
theorem string_ok : XSound Tryd.prog 41 xString := by
 intro args g out g' hx w h vs hg hv ho htb
 unfold xString at hx
 split at hx
 case h_2 => cases hx
 rename_i a
 split at hx
 case h_2 => cases hx
 rename_i d t bo i es hat
 obtain ⟨rfl, hbo, hfrz, hty, hin⟩ := bldAt_inv hat
 split at hx
 case h_1 => cases hx
 rename_i e0 es0
 simp only [Option.some.injEq, Prod.mk.injEq] at hx
 obtain ⟨hfit, rfl, rfl⟩ := hx
 obtain ⟨hd, hib, b, p, v1, l, hbe, hheap, hp, hes, hbuf, h1, hne⟩ := bld_box hg hbo hty (by decide) hin
 have hl0 : l ≠ [] := by rintro rfl; cases hes
 rcases hbuf with ⟨_, rfl⟩ | ⟨gb, cap, cc, rfl, k1, k2, k3, k4, k5, k6, k7⟩
 ·exact absurd rfl hl0
 simp only [RepAs, RepA, RepV] at hv
 obtain ⟨_, _, rfl, ⟨b', hb', rfl⟩, rfl⟩ := hv
 rw [hbe] at hb'; cases hb'
 have hmax : l.length ≤ 9223372036854775807 := by
  have := Nat.le_of_ble_eq_true hfit
  rw [hes, byteRow_len] at this
  have h2 : most ≤ 1099511627776 := Nat.le_refl _
  omega
 refine ⟨⟨_, _, Tryd.func41, rfl, by kernel_rfl⟩, callsIn_wide.2 ((string_call b gb cap p l cc w hheap hl0 k3 k4 k5 hmax k7).mono ?_)⟩
 rintro e w' ⟨rfl, rfl⟩
 have hg' := hg.base [] true
 have si := SI.enter (h := { h with df := [], flat := true }) rfl hg' (args := []) (vs := []) (by simp [RepAs]) (by simp [AV.oks]) (n := 1) (Nat.zero_le _) htb
 obtain ⟨f1, n1⟩ := si.fi.dem i
 have r1 := Rel.dem (s := { tm := argTm [], fr := fun _ => false, g := { g with dp := g.dp + 1 } }) si.rel i
 have hgk : w.drew.heap[gb]? = some (.cells cc 5 (0, 0)) := k3
 obtain ⟨z1, z2, z3, z4, z5, z6⟩ := freeze_facts (w := w) (n := l.length) (by simpa using hl0) k3
 obtain ⟨f2, r2⟩ := f1.lose r1 n1 hib k1 k3 z1 z2 z3 z4 z5 z6
 obtain ⟨h', g1, g2⟩ := bld_end hg f2 r2 rfl rfl (fun t' => by
  show demBx i g.bx (g.dp + 1) t' = none
  have : g.bx (g.dp + 1) t' = none := by
   cases hb : g.bx (g.dp + 1) t' with
   | none => rfl
   | some b => have := (hg.bx _ _ b hb).1; omega
  simp only [demBx, this])
 refine ⟨h', ?_, g1, g2, rfl, rfl⟩
 rw [hes, bytesOf_byteRow]
 exact ret_one (by simp only [RepV])
end Go.Proofs.YtehkgiofchmpaaaDoor
namespace Go.Proofs.YtehkgiofchmpaaaDoor
open Go Go.Abs Go.Abs.Asks
set_option linter.unusedVariables false
set_option linter.unusedSimpArgs false
set_option linter.unusedSectionVars false
theorem Ev_pcall {q : Nat → Pr} {f : FuncId} {ds : List D} {o : Out} (h : @Ev plainAsks q f ds o) : ∃ i, pcall (q i) i f ds = some o := by
 obtain ⟨N, h⟩ := h 0
 refine ⟨N, ?_⟩
 have := h N (Nat.le_refl _)
 dsimp only at this
 rw [@runQ_eq plainAsks] at this
 exact this
theorem rel_below {w w' : World} {L : Nat → Nat} (hL : ∀ b, w.heap.size ≤ b → L b = 0) (hb : RowKit.Below w.heap.size w w') : GI G0 w' (H0 L) ∧ Rel G0 (H0 L) w G0 w' (H0 L) := by
 refine ⟨GI.start fun b h => hL b (Nat.le_trans hb.size h), ?_⟩
 exact
  {os := hb.os, tape := hb.tape, output := hb.output, size := hb.size
   ext := ext_grow hb (fun _ _ => rfl) hL
   keep := fun b h _ => ⟨hb.block b h, rfl⟩
   bxs := fun d t h => by cases h
   ro := fun l h => rfl
   ga := fun _ _ _ _ => rfl
   bxMay := fun d t b h => by cases h
   gaMay := fun i b _ h => by cases h
   lpMay := fun l h => by cases h
   lpLen := Nat.le_refl _ }
theorem dig2_eq (n : Nat) (h : n < 100) : dig2 n = Lib.decDigits n := by
 unfold dig2
 by_cases h0 : n < 10
 ·rw [Lib.decDigits, dif_pos h0, show Nat.blt n 10 = true by simpa [Nat.blt_eq] using h0]
 ·rw [Lib.decDigits, dif_neg h0, Lib.decDigits, dif_pos (by omega), show Nat.blt n 10 = false by
   cases hb : Nat.blt n 10 with
   | false => rfl
   | true => exact absurd (by simpa [Nat.blt_eq] using hb) h0]
  rfl
theorem itoa_ok : KSound Tryd.prog 73 kItoa := by
 intro ds out h w L vs hL hv htp
 unfold kItoa at h
 split at h
 case h_2 => cases h
 rename_i n
 simp only [RepVs, RepV] at hv
 obtain ⟨_, _, rfl, rfl, rfl⟩ := hv
 split at h
 ·rename_i hn
  cases h
  simp only [Bool.and_eq_true, decide_eq_true_eq] at hn
  refine ⟨⟨_, _, Tryd.func73, rfl, by kernel_rfl⟩, callsIn_wide.2 ?_⟩
  have := Tryd.strconv_Itoa_small n.toNat (by omega) w
  rw [Int.toNat_of_nonneg hn.1] at this
  refine this.mono ?_
  rintro e w' ⟨rfl, rfl⟩
  obtain ⟨g1, g2⟩ := rel_below hL (RowKit.Below.refl w'.heap.size w')
  refine ⟨G0, H0 L, ⟨[_], rfl, ?_, ⟨(fun i sz es e => by cases e), trivial⟩, rfl, by simp [AV.oks, AV.ok]⟩, rfl, g1, g2⟩
  simp only [RepAs, RepA, RepV]
  rw [dig2_eq _ (by omega)]
  exact ⟨_, _, rfl, rfl, rfl⟩
 ·split at h
  case h_2 => cases h
  rename_i hn
  cases h
  simp only [Bool.and_eq_true, decide_eq_true_eq] at hn
  refine ⟨⟨_, _, Tryd.func73, rfl, by kernel_rfl⟩, callsIn_wide.2 ?_⟩
  refine (Tryd.strconv_Itoa n hn.1 hn.2 w htp).mono ?_
  rintro e w' ⟨rfl, k, os, rfl⟩
  obtain ⟨g1, g2⟩ := rel_below hL (Lib.below_grow w.heap.size w (Nat.le_refl _) k os)
  refine ⟨G0, H0 L, ⟨[_], rfl, ?_, ⟨(fun i sz es e => by cases e), trivial⟩, rfl, by simp [AV.oks, AV.ok]⟩, rfl, g1, g2⟩
  simp only [RepAs, RepA, RepV]
  exact ⟨_, _, rfl, rfl, rfl⟩
theorem prok (m : Nat) : PrOk Tryd.prog (pr m) where
 mix := mixok
 T := tyok
 F := fok
 H := hok
 K := fun f kf h => by
  unfold pr kK at h
  dsimp only at h
  split at h
  ·cases h; exact itoa_ok
  ·cases h
 X := fun f x h => by
  unfold pr kX at h
  dsimp only at h
  split at h
  ·cases h; exact writeS_ok
  ·cases h; exact writeB_ok
  ·cases h; exact string_ok
  ·cases h
  all_goals cases h
theorem law_calls {f : FuncId} {ds : List D} (h : @Ev plainAsks pr f ds (.ret [.d (.bool true)])) {w : World} {vs : List Value} (hv : RepVs w (LW w) ds vs) (htp : Tabs.p w) :
  Calls Tryd.prog f vs.toArray w fun e w' => e = .returned (.bool true) ∧ RowKit.Below w.heap.size w w' := by
 obtain ⟨i, hp⟩ := Ev_pcall h
 exact pcall_bool (prok i) hp (LW_lim w) hv htp
end Go.Proofs.YtehkgiofchmpaaaDoor
namespace Go.Proofs.YtehkgiofchmpaaaDoor.formulaParses
open Go Go.Abs Go.Abs.Asks Go.ChangeShapes Go.WideShapes Go.ChangeAt Go.RowKit
set_option linter.unusedVariables false
set_option linter.unusedSimpArgs false
theorem own : ownKnob Tryd.prog.godebug = none := by kernel_rfl
theorem laid : laidOutB Tryd.prog = true := by kernel_rfl
set_option maxRecDepth 100000 in
theorem contract (H : Type) (enc : TypeId × Value → H) (W : World) (base : Nat) (args : Array Value) (ds gs : List (DataW H)) (before : List MemPlace)
  (hval : ∀ (j : Nat) t v, Tryd.f5.params[j]? = some t → args[j]? = some v → Value.okWide Tryd.prog W .any base t v)
  (hW : DataW.Whole enc Tryd.prog Tryd.f5.params.toList Rows.formulaParsesSpec.vars false W args.toList ds gs before) (hk : Rows.uptoSmall H (ds ++ gs) = true) (htp : Tabs.p W) :
  Calls Tryd.prog 5 args W fun e W' => ∃ v, e = .returned v ∧ Rows.formulaParsesSpec.post enc Tryd.prog Tryd.f5 false true false false W args v W' := by
 have hW' := hW
 obtain ⟨p, q, hA0, hV, rfl, hfz, hnd⟩ := hW
 have hA : DataW.TrodAll enc Tryd.prog W 0 (fun _ => true) true Tryd.f5.params.toList args.toList ds p := hA0
 rw [Tryd.params5] at hA hval
 obtain ⟨v0, vs0, d0, ds0, p0, q0, hargs, rfl, rfl, h0, r0⟩ := trodAll_cons hA
 obtain ⟨rfl, rfl, rfl⟩ := trodAll_nil r0
 obtain rfl : args = #[v0] := by cases args; simp_all
 obtain ⟨rfl, rfl⟩ := trodVars_none hV
 have hb := of_decide_eq_true hk
 simp only [List.append_nil, Rows.uptoBulkAll] at hb
 obtain ⟨t0, hr0, hbk0⟩ := arg_string (hval 0 9 v0 rfl rfl) h0
 have hc := law_calls (@parsesLaw_ev plainAsks t0 (by first | exact Fm.ok_of (by omega) | omega | assumption)) (w := W) (vs := [v0]) ⟨v0, [], rfl, hr0, rfl⟩ htp
 refine hc.mono fun e W' ⟨he, hbelow⟩ => ⟨_, he, ?_⟩
 exact post_true laid Tryd.underlying4 (by kernel_rfl) rfl (by rw [Tryd.params5]; intro t ht; simp at ht; rcases ht with rfl <;> exact ⟨by kernel_rfl, of_decide_eq_true (by kernel_rfl)⟩) rfl rfl rfl hW' hbelow
set_option maxRecDepth 100000 in
theorem laid_met (os : Os) : laidMet Tryd.prog Rows.formulaParsesUptoRow.laid (((World.doorLaid Tryd.prog 1000 os)).forCall (fun _ _ => 0) ⟨#[], #[.string (ByteArray.mk #[])], []⟩).memory :=
 laidMet_of_run' 8 (by kernel_rfl) (by kernel_rfl)
set_option maxRecDepth 100000 in
theorem reads (os : Os) {H : Type} (enc : TypeId × Value → H) : ∃ places, DataW.whole enc Tryd.prog ((World.doorLaid Tryd.prog 1000 os).forCall (fun _ _ => 0) ⟨#[], #[.string (ByteArray.mk #[])], []⟩).memory Tryd.f5.params.toList Rows.formulaParsesSpec.vars false (#[.string (ByteArray.mk #[])] : Array Value).toList 8 = some ([.lit (.string [])], [], places) :=
 ⟨[], by kernel_rfl⟩
set_option maxRecDepth 100000 in
theorem lifted (os : Os) (started : os.Started) (H : Type) (enc : TypeId × Value → H) (F : Stop.Interp) :
  ReturnsInHanded {} Tryd.checked os 5 .any ((Rows.OpenSpec.upto Rows.formulaParsesSpec).preRow enc Tryd.prog Tryd.f5 Rows.formulaParsesUptoRow.domain false Rows.formulaParsesUptoRow.laid) (((Rows.OpenSpec.upto Rows.formulaParsesSpec).at F).post enc Tryd.prog Tryd.f5 false true false false) := by
 obtain ⟨places, hx⟩ := reads os enc
 refine returnsInHanded_of_row (C := Tryd.checked) (s := Rows.OpenSpec.upto Rows.formulaParsesSpec) own started (by kernel_rfl) Tryd.func5
  (witness_row_at (enc := enc) (C := Tryd.checked) false (World.doorLaid Tryd.prog 1000 os) #[.string (ByteArray.mk #[])] rfl (by kernel_rfl) (by kernel_rfl) (by kernel_rfl)
   (OpenSpec.preRow_of_cond 8 hx (by kernel_rfl) (fun k hk => by cases hk; kernel_rfl) (by kernel_rfl) (laid_met os))) ?_
 intro W base args ds gs before hval hW _ hcond _ hL _ _
 have htp : Tabs.p W := Lib.tabIs_of_head (g := 0) (t := 110) (e := 104) (n := 20) (by kernel_rfl) (by kernel_rfl) (by kernel_rfl) Tryd.underlying104 (by kernel_rfl) (by kernel_rfl) hL.tail.tail
 exact contract H enc W base args ds gs before hval hW (hcond _ rfl) htp
theorem over : Rows.formulaParsesUptoRow.holds Tryd.pinned (Rows.OpenSpec.upto Rows.formulaParsesSpec) :=
 OpenClaim.holds_of_cond 5 Tryd.f5 rfl rfl rfl rfl rfl rfl rfl ⟨rfl, rfl, rfl, rfl, rfl⟩ rfl rfl rfl rfl rfl (by kernel_rfl) Tryd.func5 (by kernel_rfl)
  (of_decide_eq_true (by kernel_rfl)) (by unfold Func.isWrapper; first | (rw [if_pos (by decide +kernel)]; kernel_rfl) | (rw [if_neg (by decide +kernel)]; exact ⟨rfl, rfl⟩))
  (fun os started H enc _ F => by rw [OpenClaim.pre_eq_preRow]; exact lifted os started H enc F)
theorem plain (f : FuncId) (fn : Func) (hf : Tryd.pinned.checked.prog.funcNamed "pentaglot/pentaglotlaw22.FormulaParses" = some f) (hfn : Tryd.pinned.checked.prog.funcs[f]? = some fn) :
  true = Tryd.pinned.checked.prog.looks [] ∧ ∀ (j : Nat) t, fn.params[j]? = some t → Tryd.pinned.checked.prog.wantsStandIn t = false := by
 obtain rfl : f = 5 := Option.some.inj ((show Tryd.prog.funcNamed "pentaglot/pentaglotlaw22.FormulaParses" = some 5 by kernel_rfl).symm.trans hf) |>.symm
 obtain rfl : fn = Tryd.f5 := (Option.some.inj (Tryd.func5.symm.trans hfn)).symm
 refine ⟨by kernel_rfl, fun j t ht => ?_⟩
 rw [Tryd.params5] at ht
 have hm : t ∈ [9] := by simpa using Array.mem_of_getElem? ht
 have hall : ([9].all fun u => !Tryd.prog.wantsStandIn u) = true := by kernel_rfl
 exact (show Tryd.prog.wantsStandIn t = false by simpa using List.all_eq_true.1 hall t hm)
theorem proved : Rows.FormulaParsesUptoCardSaid :=
 Claim7.holds_tied_plain_at .later [] _ _ _ _ over (fun _ h => by cases h) (by kernel_rfl) (fun _ h => by cases h) formulaParsesUpto_row_tie rfl ⟨rfl, rfl⟩ (by kernel_rfl) rfl plain (by kernel_rfl)
end Go.Proofs.YtehkgiofchmpaaaDoor.formulaParses
