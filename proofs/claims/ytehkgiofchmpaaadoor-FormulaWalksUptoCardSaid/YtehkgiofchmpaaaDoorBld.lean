/- The contracts of strings.Builder, at this program. -/
import Derived.Test.YtehkgiofchmpaaaDoorOk
import Derived.Test.YtehkgiofchmpaaaDoorPr
import Derived.Lib.Builder
import Derived.Lib.AppendStr
import Derived.Lib.UnsafeStr
import Derived.Lib.MakeNoZero
import Derived.WalkKit
import Derived.ProofKit
import Derived.KernelRfl
import Derived.Laws.Externs
import Derived.Laws.IdiomCopy
import Derived.Shelf.Strings.BuilderX
import Derived.Shelf.RegionOpenPlain
set_option linter.unusedVariables false
set_option linter.unusedSimpArgs false
namespace Go.Proofs.YtehkgiofchmpaaaDoor
open Go Go.RowKit Go.Abs

theorem setCell_row {w : World} {b j : Nat} {c : Array Value} {e : TypeId} {fz : Nat × Nat} (v : Value) (hb : w.heap[b]? = some (.cells c e fz)) : w.setCell ⟨b, j, none⟩ v = w.setRow b (c.setIfInBounds j v) := by
  unfold World.setCell World.setRow
  congr 1
  apply Array.ext_getElem?
  intro i
  simp only [Array.getElem?_modify]
  by_cases hi : b = i
  · subst hi
    simp [hb]
  · simp [hi]

theorem setRow_twice {w : World} {b : Nat} {c c' c'' : Array Value} {e : TypeId} {fz : Nat × Nat} (hb : w.heap[b]? = some (.cells c e fz)) : (w.setRow b c').setRow b c'' = w.setRow b c'' := by
  unfold World.setRow
  congr 1
  apply Array.ext_getElem?
  intro i
  simp only [Array.getElem?_modify]
  by_cases hi : b = i
  · subst hi
    simp [hb]
  · simp [hi]

theorem builder_info : ∃ j, Tryd.prog.info? 56 = some j ∧ j.size = 2 := by
  obtain ⟨j, z, h1, h2, _⟩ := ty56ok.info
  exact ⟨j, h1, h2⟩

set_option maxHeartbeats 1000000 in
set_option maxRecDepth 100000 in
theorem cc_used (b : Nat) (w : World) (h0 : w.cell? ⟨b, 0, none⟩ = some (.pointer (some ⟨b, 0, none⟩))) :
    Calls Tryd.prog 98 #[.pointer (some ⟨b, 0, none⟩)] w fun e w' => e = .returned (.tuple #[]) ∧ w' = w := by
  obtain ⟨j, hj⟩ := builder_info
  go_enter Tryd.func98, Tryd.ntmps98
  go_wp2
  rw [Lib.run_neq_ptr_same w _ Tryd.underlying53 hj.1]
  go_wp2
  go_end0
  exact ⟨rfl, rfl⟩

set_option maxHeartbeats 1000000 in
set_option maxRecDepth 100000 in
theorem cc_fresh (b : Nat) (w : World) (h0 : w.cell? ⟨b, 0, none⟩ = some (.pointer none)) (hsh : w.shape? b = some (56, 2)) (hfz : w.frozen? ⟨b, 0, none⟩ = false) :
    Calls Tryd.prog 98 #[.pointer (some ⟨b, 0, none⟩)] w fun e w' => e = .returned (.tuple #[]) ∧ w' = w.setCell ⟨b, 0, none⟩ (.pointer (some ⟨b, 0, none⟩)) := by
  obtain ⟨j, hj, hjs⟩ := builder_info
  go_enter Tryd.func98, Tryd.ntmps98
  go_wp2
  rw [Lib.run_to_unsafe w ⟨b, 0, none⟩ Tryd.underlying53 Tryd.underlying100 hj (by rw [hjs]; decide) hsh (Nat.zero_lt_succ 1)]
  simp only [Result.andThen]
  rw [Oper.upon_value]
  go_wp2
  rw [run_callFunc_extern Tryd.func106 (by kernel_rfl) (by kernel_rfl) (by kernel_rfl) (e := Extern.AbiNoEscape.same) (by kernel_rfl)]
  rw [Lib.run_noEscape]
  simp only [Result.andThen]
  rw [Oper.upon_value]
  go_wp2
  rw [Lib.run_from_unsafe w ⟨b, 0, none⟩ Tryd.underlying100 Tryd.underlying53 hj hsh (by kernel_rfl)]
  simp only [Result.andThen]
  rw [Oper.upon_value]
  go_wp2
  go_end0
  exact ⟨rfl, rfl⟩

/-- copyCheck: behind it the builder bears its own address. -/
theorem copyCheck (b : Nat) (p v1 : Value) (w : World) (hb : w.heap[b]? = some (.cells #[p, v1] 56 (0, 0))) (hp : p = .pointer none ∨ p = .pointer (some ⟨b, 0, none⟩)) :
    Calls Tryd.prog 98 #[.pointer (some ⟨b, 0, none⟩)] w fun e w' => e = .returned (.tuple #[]) ∧ w' = w.setRow b #[.pointer (some ⟨b, 0, none⟩), v1] := by
  rcases hp with rfl | rfl
  · refine (cc_fresh b w (by simp [World.cell?, hb]) (by simp [World.shape?, hb]) (by simp [World.frozen?, hb])).mono ?_
    rintro e w' ⟨rfl, rfl⟩
    exact ⟨rfl, setCell_row _ hb⟩
  · refine (cc_used b w (by simp [World.cell?, hb])).mono ?_
    rintro e w' ⟨rfl, rfl⟩
    exact ⟨rfl, (setRow_same w' b _ _ hb).symm⟩

theorem wpList_append_run {P : Program} (w : World) {ops : Array Oper} {rest : List Oper} {o : Oper} {a : Act} {Q : Exit → Act → World → Prop} (hg : o.guard = none) (s x : Operand) (t t2 : TypeId)
    (hop : o.op = Op.call { callee := Callee.builtin Builtin.append, args := #[s, x], argTypes := #[t, t2] }) {sv xv v : Value} {w' : World} (hs : a.eval s = sv) (hx : a.eval x = xv) (hrun : (Builtin.append_ #[t, t2] o.type #[sv, xv]).run P w = .ok v w')
    (hK : wpList P ops Q rest (a.put o.dst v) w') : wpList P ops Q (o :: rest) a w := by
  refine wpList_plain hg fun K hK' => ?_
  unfold Oper.wp
  simp [execOp, hop, resolve, invoke, builtin, hs, hx, hrun, Result.andThen]
  exact hK' _ _ hK

set_option maxHeartbeats 1000000 in
set_option maxRecDepth 100000 in
theorem writeString_call (b : Nat) (p v1 : Value) (ao : Option Addr) (n2 k2 : Nat) (s : ByteArray) (w w2 : World) (hb : w.heap[b]? = some (.cells #[p, v1] 56 (0, 0))) (hp : p = .pointer none ∨ p = .pointer (some ⟨b, 0, none⟩))
    (happ : (Builtin.append_ #[54, 9] 54 #[v1, .string s]).run Tryd.prog (w.setRow b #[.pointer (some ⟨b, 0, none⟩), v1]) = .ok (.slice ao n2 k2) w2) (hb2 : w2.heap[b]? = some (.cells #[.pointer (some ⟨b, 0, none⟩), v1] 56 (0, 0))) :
    Calls Tryd.prog 71 #[.pointer (some ⟨b, 0, none⟩), .string s] w fun e w' => e = .returned (.tuple #[.int .i64 s.size, .nilIface]) ∧ w' = w2.setRow b #[.pointer (some ⟨b, 0, none⟩), .slice ao n2 k2] := by
  have ecc : ∀ args w, (callFunc 98 args).run Tryd.prog w = .ok (.enter 98 args) w := enters_of Tryd.func98 (by kernel_rfl) rfl
  go_enter Tryd.func71, Tryd.ntmps71
  go_wp2_with (go_at_fn 98; refine (copyCheck b p v1 _ hb hp).mono ?_)
  rintro e w1 ⟨rfl, rfl⟩
  have hb1 := setRow_heap w b #[p, v1] #[.pointer (some ⟨b, 0, none⟩), v1] 56 (0, 0) hb
  have c1 : (w.setRow b #[.pointer (some ⟨b, 0, none⟩), v1]).cell? ⟨b, 1, none⟩ = some v1 := by simp [World.cell?, hb1]
  have f1 : w2.frozen? ⟨b, 1, none⟩ = false := by simp [World.frozen?, hb2]
  have d1 : w2.cell? ⟨b, 1, none⟩ = some v1 := by simp [World.cell?, hb2]
  go_wp2_with (at_builtin; refine wpList_append_run _ rfl _ _ _ _ rfl rfl rfl happ ?_)
  go_ret2
  exact ⟨rfl, setCell_row _ hb2⟩

set_option maxHeartbeats 1000000 in
set_option maxRecDepth 100000 in
theorem writeByte_call (b : Nat) (p v1 : Value) (ao : Option Addr) (n2 k2 : Nat) (c : Int) (w w2 : World) (hb : w.heap[b]? = some (.cells #[p, v1] 56 (0, 0))) (hp : p = .pointer none ∨ p = .pointer (some ⟨b, 0, none⟩))
    (happ : (Builtin.append_ #[54, 54] 54 #[v1, .slice (some ⟨w.heap.size, 0, none⟩) 1 1]).run Tryd.prog ((w.setRow b #[.pointer (some ⟨b, 0, none⟩), v1]).alloc (.cells #[.int .u8 c] 5 (0, 0))) = .ok (.slice ao n2 k2) w2) (hb2 : w2.heap[b]? = some (.cells #[.pointer (some ⟨b, 0, none⟩), v1] 56 (0, 0))) :
    Calls Tryd.prog 74 #[.pointer (some ⟨b, 0, none⟩), .int .u8 c] w fun e w' => e = .returned .nilIface ∧ w' = w2.setRow b #[.pointer (some ⟨b, 0, none⟩), .slice ao n2 k2] := by
  have ecc : ∀ args w, (callFunc 98 args).run Tryd.prog w = .ok (.enter 98 args) w := enters_of Tryd.func98 (by kernel_rfl) rfl
  go_enter Tryd.func74, Tryd.ntmps74
  go_wp2_with (go_at_fn 98; refine (copyCheck b p v1 _ hb hp).mono ?_)
  rintro e w1 ⟨rfl, rfl⟩
  have hb1 := setRow_heap w b #[p, v1] #[.pointer (some ⟨b, 0, none⟩), v1] 56 (0, 0) hb
  have c1 : (w.setRow b #[.pointer (some ⟨b, 0, none⟩), v1]).cell? ⟨b, 1, none⟩ = some v1 := by simp [World.cell?, hb1]
  have hsz : (w.setRow b #[.pointer (some ⟨b, 0, none⟩), v1]).heap.size = w.heap.size := by simp
  have f1 : w2.frozen? ⟨b, 1, none⟩ = false := by simp [World.frozen?, hb2]
  have d1 : w2.cell? ⟨b, 1, none⟩ = some v1 := by simp [World.cell?, hb2]
  go_wp2_with (at_builtin; refine wpList_append_run _ rfl _ _ _ _ rfl rfl rfl happ ?_)
  go_ret
  exact ⟨rfl, setCell_row _ hb2⟩

set_option maxHeartbeats 1000000 in
set_option maxRecDepth 100000 in
/-- String, where a byte lies there. -/
theorem string_call (b g cap : Nat) (p : Value) (l : List UInt8) (cur : Array Value) (w : World) (hb : w.heap[b]? = some (.cells #[p, .slice (some ⟨g, 0, none⟩) l.length cap] 56 (0, 0))) (h0 : l ≠ [])
    (hg : w.heap[g]? = some (.cells cur 5 (0, 0))) (hnc : l.length ≤ cap) (hcs : cap ≤ cur.size) (hmax : l.length ≤ 9223372036854775807) (hl : ∀ (j : Nat) x, l[j]? = some x → cur[j]? = some (.int .u8 x.toNat)) :
    Calls Tryd.prog 41 #[.pointer (some ⟨b, 0, none⟩)] w fun e w' => e = .returned (.string ⟨l.toArray⟩) ∧ w' = w.drew.freeze ⟨g, 0, none⟩ l.length := by
  have hl0 : l.length ≠ 0 := by simpa using h0
  have hbk : w.drew.heap[b]? = some (.cells #[p, .slice (some ⟨g, 0, none⟩) l.length cap] 56 (0, 0)) := hb
  have hgk : w.drew.heap[g]? = some (.cells cur 5 (0, 0)) := hg
  have c1 : w.drew.cell? ⟨b, 1, none⟩ = some (.slice (some ⟨g, 0, none⟩) l.length cap) := by simp [World.cell?, hbk]
  have hSD : (Builtin.unsafeSliceData_ #[54] 89 #[.slice (some ⟨g, 0, none⟩) l.length cap]).run Tryd.prog w.drew = .ok (.pointer (some ⟨g, 0, none⟩)) w.drew :=
    Lib.run_unsafeSliceData_row _ _ _ _ _ _ (by omega)
  have hUS : (Builtin.unsafeString_ #[89, 3] 9 #[.pointer (some ⟨g, 0, none⟩), .int .i64 l.length]).run Tryd.prog w.drew = .ok (.string ⟨l.toArray⟩) (w.drew.freeze ⟨g, 0, none⟩ l.length) := by
    refine Lib.run_unsafeString_row w.drew 89 3 9 5 Tryd.underlying89 (by kernel_rfl) g cur.size (by simp [World.shape?, hgk]) l h0 (by omega) hmax ?_
    intro j x hx
    have := hl j x hx
    simp [World.cell?, Addr.add_lit, hgk, this]
  have mixed := mixok
  go_enter Tryd.func41, Tryd.ntmps41
  go_wp2
  go_region_o
  all_goals (go_wp2; go_ret; exact ⟨rfl, rfl⟩)

/-! ### As the interpreter takes them -/
theorem uint8_info : ∃ i z, Tryd.prog.info? 5 = some i ∧ i.size = 1 ∧ i.bytes = 1 ∧ i.zero = some z ∧ z.cells.size = 1 := by
  obtain ⟨i, z, h1, h2, h3, h4, h5⟩ := ty5ok.info
  refine ⟨i, z, h1, h2, h3, h4, ?_⟩
  rw [← Array.length_toList, h5, List.length_map]
  rfl
theorem bldAt_inv {a : AV} {g : G} {d t : Nat} {bo : Box} {i : Abs.Id} {es : List (List D)} (h : bldAt a g = some (d, t, bo, i, es)) :
    a = .ptr d t 0 ∧ g.bx d t = some bo ∧ bo.frz = false ∧ bo.ty = (56, 5) ∧ bldIn d t bo = some (i, es) := by
  unfold bldAt at h
  split at h
  case h_2 => cases h
  rename_i d' t' off
  split at h
  case h_2 => cases h
  rename_i b hb
  split at h
  case h_2 => cases h
  rename_i hc
  split at h
  case h_2 => cases h
  rename_i i' es' hin
  cases h
  simp only [Bool.and_eq_true, Nat.beq_eq, Bool.not_eq_true'] at hc
  obtain ⟨⟨⟨h1, rfl⟩, h3⟩, h4⟩ := hc
  exact ⟨rfl, hb, h1, by rw [← h3, ← h4], hin⟩

theorem ret_pair {g : G} {w : World} {h : Gh} (n : Int) : OutM g w h (.ret [.d (.int .i64 n), .d .nili]) (.returned (.tuple #[.int .i64 n, .nilIface])) := by
  refine ⟨[.int .i64 n, .nilIface], rfl, ?_, ⟨(fun i sz es e => by cases e), (fun i sz es e => by cases e), trivial⟩, rfl, by simp [AV.oks, AV.ok]⟩
  simp only [RepAs, RepA, RepV]
  exact ⟨_, _, rfl, rfl, _, _, rfl, rfl, rfl⟩
theorem ret_one {g : G} {w : World} {h : Gh} {x : D} {v : Value} (hv : RepV w h.L x v) : OutM g w h (.ret [.d x]) (.returned v) := by
  refine ⟨[v], rfl, ?_, ⟨(fun i sz es e => by cases e), trivial⟩, rfl, by simp [AV.oks, AV.ok]⟩
  simp only [RepAs, RepA]
  exact ⟨_, _, rfl, hv, rfl⟩

theorem sizeS (s : ByteArray) : s.data.toList.length = s.size := Array.length_toList
theorem writeS_ok : XSound Tryd.prog 71 xWriteS := by
  intro args g out g' hx w h vs hg hv ho htb
  unfold xWriteS at hx
  split at hx
  case h_2 => cases hx
  rename_i a s
  split at hx
  case h_2 => cases hx
  rename_i d t bo i es hat
  obtain ⟨rfl, hbo, hfrz, hty, hin⟩ := bldAt_inv hat
  simp only [Option.some.injEq, Prod.mk.injEq] at hx
  obtain ⟨hfit, rfl, rfl⟩ := hx
  obtain ⟨hd, hib, b, p, v1, l, hbe, hheap, hp, rfl, hbuf, h1, hne⟩ := bld_box hg hbo hty (by decide) hin
  obtain ⟨st, a, f1, r1, q1, q2, q3, q4, q5, q6, hbuf3, q7⟩ := bld_begin hg htb hbo hfrz hty (by decide) hib hbe hheap rfl hbuf h1 hne
  have hh3 := setRow_heap w b #[p, v1] #[.pointer (some ⟨b, 0, none⟩), v1] 56 (0, 0) hheap
  simp only [RepAs, RepA, RepV] at hv
  obtain ⟨_, _, rfl, ⟨b', hb', rfl⟩, _, _, rfl, rfl, rfl⟩ := hv
  rw [hbe] at hb'; cases hb'
  have hsrc : Src Tryd.prog (w.setRow b #[.pointer (some ⟨b, 0, none⟩), v1]) 54 9 1 (.string s) s.data.toList.length (Lib.byteCells s.data.toList) := by
    refine .inr ⟨Tryd.underlying9, rfl, s, rfl, sizeS s, ?_⟩
    rfl
  obtain ⟨ui, uz, u1, u2, u3, u4, u5⟩ := uint8_info
  obtain ⟨ao, n2, k2, w2, hrun, hb2, h2, f2, r2⟩ := bld_append f1 r1 (by omega) (by decide) q2 (bt := 5) q4 hfrz (by rw [hty]) hbe (p := .pointer (some ⟨b, 0, none⟩)) rfl hh3 (c0 := .ptr d t 0)
    (by simp only [RepA]; exact ⟨b, hbe, rfl⟩) ⟨d, t, rfl, Nat.le_refl _, by rw [q4]; rfl⟩ q5 hib q6 hbuf3 Tryd.underlying54 u1 u2 u3 u4 u5 hsrc
    (by
      have := Nat.le_of_ble_eq_true hfit
      rw [byteRow_len] at this
      exact this) 54
  refine ⟨⟨_, _, Tryd.func71, rfl, by kernel_rfl⟩, callsIn_wide.2 ((writeString_call b p v1 ao n2 k2 s w w2 hheap hp hrun hb2).mono ?_)⟩
  rintro e w' ⟨rfl, rfl⟩
  obtain ⟨h', g1, g2⟩ := bld_end hg f2 r2 q1 q3 (fun t' => by
    dsimp only
    rw [q7, putBx_twice]
    exact bldBx_top hg hd _ _ _ _)
  have hbx : putBx st.g.bx d t { bo with cells := [.ptr d t 0, .own (.box d t 1) 1 (byteRow (l ++ s.data.toList))] } = bldBx d t i bo (byteRow l ++ byteRow s.data.toList) g.bx := by
    rw [q7, putBx_twice, byteRow_append]; rfl
  dsimp only at g1 g2
  rw [hbx] at g1 g2
  refine ⟨h', ?_, g1, g2, rfl, rfl⟩
  rw [← sizeS s]
  exact ret_pair _

theorem writeB_ok : XSound Tryd.prog 74 xWriteB := by
  intro args g out g' hx w h vs hg hv ho htb
  unfold xWriteB at hx
  split at hx
  case h_2 => cases hx
  rename_i a c
  split at hx
  case h_2 => cases hx
  rename_i d t bo i es hat
  obtain ⟨rfl, hbo, hfrz, hty, hin⟩ := bldAt_inv hat
  simp only [Option.some.injEq, Prod.mk.injEq, Bool.and_eq_true, decide_eq_true_eq] at hx
  obtain ⟨⟨hfit, hc⟩, rfl, rfl⟩ := hx
  obtain ⟨hd, hib, b, p, v1, l, hbe, hheap, hp, rfl, hbuf, h1, hne⟩ := bld_box hg hbo hty (by decide) hin
  obtain ⟨st, a, f1, r1, q1, q2, q3, q4, q5, q6, hbuf3, q7⟩ := bld_begin hg htb hbo hfrz hty (by decide) hib hbe hheap rfl hbuf h1 hne
  have hh3 := setRow_heap w b #[p, v1] #[.pointer (some ⟨b, 0, none⟩), v1] 56 (0, 0) hheap
  simp only [RepAs, RepA, RepV] at hv
  obtain ⟨_, _, rfl, ⟨b', hb', rfl⟩, _, _, rfl, rfl, rfl⟩ := hv
  rw [hbe] at hb'; cases hb'
  obtain ⟨f3, r3⟩ := f1.alloc1 r1 (.cells #[.int .u8 c] 5 (0, 0))
  have hnew : ((w.setRow b #[.pointer (some ⟨b, 0, none⟩), v1]).alloc (.cells #[.int .u8 c] 5 (0, 0))).heap[w.heap.size]? = some (.cells #[.int .u8 c] 5 (0, 0)) := by
    have := heap_new (w.setRow b #[.pointer (some ⟨b, 0, none⟩), v1]) (.cells #[.int .u8 c] 5 (0, 0))
    rw [size_setRow] at this
    exact this
  have hb3 := below_alloc (w.setRow b #[.pointer (some ⟨b, 0, none⟩), v1]) (.cells #[.int .u8 c] 5 (0, 0))
  have hold : ∀ k x, (w.setRow b #[.pointer (some ⟨b, 0, none⟩), v1]).heap[k]? = some x → ((w.setRow b #[.pointer (some ⟨b, 0, none⟩), v1]).alloc (.cells #[.int .u8 c] 5 (0, 0))).heap[k]? = (w.setRow b #[.pointer (some ⟨b, 0, none⟩), v1]).heap[k]? := fun k x hk => hb3.block k (lt_of_heap hk)
  have hbuf4 : Buf ((w.setRow b #[.pointer (some ⟨b, 0, none⟩), v1]).alloc (.cells #[.int .u8 c] 5 (0, 0))) { h with df := [], flat := true } 5 i v1 l := by
    refine hbuf3.mono rfl fun b' hb' => ⟨rfl, ?_⟩
    obtain ⟨cc, e, hcc⟩ := f1.gi.gaC _ _ hb'
    exact hold _ _ hcc
  have hsrc : Src Tryd.prog ((w.setRow b #[.pointer (some ⟨b, 0, none⟩), v1]).alloc (.cells #[.int .u8 c] 5 (0, 0))) 54 54 1 (.slice (some ⟨w.heap.size, 0, none⟩) 1 1) [UInt8.ofNat c.toNat].length (Lib.byteCells [UInt8.ofNat c.toNat]) := by
    refine .inl ⟨rfl, some ⟨w.heap.size, 0, none⟩, 1, rfl, rfl, .inr ⟨_, rfl, ?_⟩⟩
    intro j u hj
    cases j with
    | zero =>
      simp only [Lib.byteCells, List.map_cons, List.map_nil, List.getElem?_cons_zero, Option.some.injEq] at hj
      subst hj
      simp only [World.cell?, Addr.add_lit, hnew, ← hc, Nat.add_zero]
      rfl
    | succ j => simp [Lib.byteCells] at hj
  obtain ⟨ui, uz, u1, u2, u3, u4, u5⟩ := uint8_info
  obtain ⟨ao, n2, k2, w2, hrun, hb2, h2, f2, r2⟩ := bld_append f3 r3 (by omega) (by decide) q2 (bt := 5) q4 hfrz (by rw [hty]) hbe (p := .pointer (some ⟨b, 0, none⟩)) rfl (by rw [hold _ _ hh3, hh3]) (c0 := .ptr d t 0)
    (by simp only [RepA]; exact ⟨b, hbe, rfl⟩) ⟨d, t, rfl, Nat.le_refl _, by rw [q4]; rfl⟩ q5 hib q6 hbuf4 Tryd.underlying54 u1 u2 u3 u4 u5 hsrc
    (by
      have := Nat.le_of_ble_eq_true hfit
      rw [byteRow_len] at this
      exact this) 54
  refine ⟨⟨_, _, Tryd.func74, rfl, by kernel_rfl⟩, callsIn_wide.2 ((writeByte_call b p v1 ao n2 k2 c w w2 hheap hp hrun hb2).mono ?_)⟩
  rintro e w' ⟨rfl, rfl⟩
  obtain ⟨h', g1, g2⟩ := bld_end hg f2 r2 q1 q3 (fun t' => by
    dsimp only
    rw [q7, putBx_twice]
    exact bldBx_top hg hd _ _ _ _)
  have hbx : putBx st.g.bx d t { bo with cells := [.ptr d t 0, .own (.box d t 1) 1 (byteRow (l ++ [UInt8.ofNat c.toNat]))] } = bldBx d t i bo (byteRow l ++ byteRow [UInt8.ofNat c.toNat]) g.bx := by
    rw [q7, putBx_twice, byteRow_append]; rfl
  dsimp only at g1 g2
  rw [hbx] at g1 g2
  refine ⟨h', ?_, g1, g2, rfl, rfl⟩
  exact ret_one (by simp only [RepV])

theorem bytesOf_byteRow : ∀ l : List UInt8, bytesOf (byteRow l) = l
  | [] => rfl
  | c :: l => by
    show UInt8.ofNat (Int.toNat (c.toNat : Int)) :: bytesOf (byteRow l) = _
    rw [bytesOf_byteRow l, Int.toNat_natCast]
    simp

theorem freeze_facts {w : World} {gb n : Nat} {cc : Array Value} {e : TypeId} (hn : n ≠ 0) (hgk : w.heap[gb]? = some (.cells cc e (0, 0))) :
    (w.drew.freeze ⟨gb, 0, none⟩ n).os = w.os ∧ (w.drew.freeze ⟨gb, 0, none⟩ n).tape = w.tape ∧ (w.drew.freeze ⟨gb, 0, none⟩ n).output = w.output ∧ (w.drew.freeze ⟨gb, 0, none⟩ n).heap.size = w.heap.size ∧
      (∀ k, k ≠ gb → (w.drew.freeze ⟨gb, 0, none⟩ n).heap[k]? = w.heap[k]?) ∧ (w.drew.freeze ⟨gb, 0, none⟩ n).heap[gb]? = some (.cells cc e (0, n)) := by
  unfold World.freeze
  rw [if_neg hn]
  have hh : w.drew.heap = w.heap := rfl
  refine ⟨rfl, rfl, rfl, ?_, ?_, ?_⟩
  · show (Array.modify _ _ _).size = _
    rw [Array.size_modify, hh]
  · intro k hk
    show (Array.modify _ _ _)[k]? = _
    rw [Array.getElem?_modify, if_neg (fun e => hk e.symm), hh]
  · show (Array.modify _ _ _)[gb]? = _
    rw [Array.getElem?_modify, if_pos rfl, hh, hgk]
    simp

theorem string_ok : XSound Tryd.prog 41 xString := by
  intro args g out g' hx w h vs hg hv ho htb
  unfold xString at hx
  split at hx
  case h_2 => cases hx
  rename_i a
  split at hx
  case h_2 => cases hx
  rename_i d t bo i es hat
  obtain ⟨rfl, hbo, hfrz, hty, hin⟩ := bldAt_inv hat
  split at hx
  case h_1 => cases hx
  rename_i e0 es0
  simp only [Option.some.injEq, Prod.mk.injEq] at hx
  obtain ⟨hfit, rfl, rfl⟩ := hx
  obtain ⟨hd, hib, b, p, v1, l, hbe, hheap, hp, hes, hbuf, h1, hne⟩ := bld_box hg hbo hty (by decide) hin
  have hl0 : l ≠ [] := by rintro rfl; cases hes
  rcases hbuf with ⟨_, rfl⟩ | ⟨gb, cap, cc, rfl, k1, k2, k3, k4, k5, k6, k7⟩
  · exact absurd rfl hl0
  simp only [RepAs, RepA, RepV] at hv
  obtain ⟨_, _, rfl, ⟨b', hb', rfl⟩, rfl⟩ := hv
  rw [hbe] at hb'; cases hb'
  have hmax : l.length ≤ 9223372036854775807 := by
    have := Nat.le_of_ble_eq_true hfit
    rw [hes, byteRow_len] at this
    have h2 : most ≤ 1099511627776 := Nat.le_refl _
    omega
  refine ⟨⟨_, _, Tryd.func41, rfl, by kernel_rfl⟩, callsIn_wide.2 ((string_call b gb cap p l cc w hheap hl0 k3 k4 k5 hmax k7).mono ?_)⟩
  rintro e w' ⟨rfl, rfl⟩
  have hg' := hg.base [] true
  have si := SI.enter (h := { h with df := [], flat := true }) rfl hg' (args := []) (vs := []) (by simp [RepAs]) (by simp [AV.oks]) (n := 1) (Nat.zero_le _) htb
  obtain ⟨f1, n1⟩ := si.fi.dem i
  have r1 := Rel.dem (s := { tm := argTm [], fr := fun _ => false, g := { g with dp := g.dp + 1 } }) si.rel i
  have hgk : w.drew.heap[gb]? = some (.cells cc 5 (0, 0)) := k3
  obtain ⟨z1, z2, z3, z4, z5, z6⟩ := freeze_facts (w := w) (n := l.length) (by simpa using hl0) k3
  obtain ⟨f2, r2⟩ := f1.lose r1 n1 hib k1 k3 z1 z2 z3 z4 z5 z6
  obtain ⟨h', g1, g2⟩ := bld_end hg f2 r2 rfl rfl (fun t' => by
    show demBx i g.bx (g.dp + 1) t' = none
    have : g.bx (g.dp + 1) t' = none := by
      cases hb : g.bx (g.dp + 1) t' with
      | none => rfl
      | some b => have := (hg.bx _ _ b hb).1; omega
    simp only [demBx, this])
  refine ⟨h', ?_, g1, g2, rfl, rfl⟩
  rw [hes, bytesOf_byteRow]
  exact ret_one (by simp only [RepV])
end Go.Proofs.YtehkgiofchmpaaaDoor
