/- A builder's buffer: what appending to it leaves behind. -/
import Derived.Test.YtehkgiofchmpaaaDoorAbsDfr
import Derived.Test.YtehkgiofchmpaaaDoorAbsYield
import Derived.Lib.UnsafeStr
namespace Go.Abs
open Go
set_option linter.unusedVariables false
set_option linter.unusedSimpArgs false
set_option linter.unnecessarySimpa false

section
variable {P : Program} {g0 : G} {h0 : Gh} {w0 : World} {nt : Nat}

theorem putBx_twice {bx : Nat → Nat → Option Box} {d u : Nat} {x y : Box} : putBx (putBx bx d u x) d u y = putBx bx d u y := by
  funext d' u'
  simp only [putBx_eq]
  split <;> rfl

theorem byteRow_len (l : List UInt8) : (byteRow l).length = l.length := by simp [byteRow]
theorem byteRow_one (l : List UInt8) : ∀ e ∈ byteRow l, e.length = 1 := by
  intro e he
  simp only [byteRow, List.mem_map] at he
  obtain ⟨c, _, rfl⟩ := he
  rfl
theorem byteRow_append (a b : List UInt8) : byteRow (a ++ b) = byteRow a ++ byteRow b := by simp [byteRow]
theorem byteRow_rep {w : World} {L : Nat → Nat} (l : List UInt8) : RepF w L (byteRow l) (Lib.byteCells l) := strRow_rep l
theorem byteCells_one (l : List UInt8) : ∀ u ∈ Lib.byteCells l, u.oneCell' = true := by
  intro u hu
  simp only [Lib.byteCells, List.mem_map] at hu
  obtain ⟨b, _, rfl⟩ := hu
  rfl

/-- A block more. -/
theorem FI.alloc1 {s : St} {a : Act} {w : World} {h : Gh} (hf : FI nt s a w h) (hr : Rel g0 h0 w0 s.g w h) (o : Obj) : FI nt s a (w.alloc o) h ∧ Rel g0 h0 w0 s.g (w.alloc o) h := by
  have hb := below_alloc w o
  have hlim : ∀ b, (w.alloc o).heap.size ≤ b → h.L b = 0 := fun b hh => hf.gi.lim b (by have : (w.alloc o).heap.size = w.heap.size + 1 := by simp
                                                                                        omega)
  refine ⟨⟨hf.size, hf.tm_grow hb (fun _ _ => rfl) (fun _ _ _ => rfl) (fun _ _ => rfl) (fun _ _ => rfl), ?_, dfr_grow hf.dfr hb⟩, ?_⟩
  · exact hf.gi.grow hb (fun _ _ => rfl) hlim (fun _ _ _ => rfl) (fun _ _ => rfl) (fun _ _ => rfl) hf.gi.gaBx hf.gi.gaInj (fun i b hi => by
      obtain ⟨c, e, hc⟩ := hf.gi.gaC i b hi
      exact ⟨c, e, by rw [hb.block b (lt_of_heap hc), hc]⟩) hf.gi.gaTop
  · exact hr.grow hf.gi hb (fun _ _ => rfl) (fun d t _ hs => ⟨hs, rfl⟩) (fun _ _ => rfl) (fun _ _ _ _ => rfl) (fun d t b hs hb' => .inr ⟨d, t, hs, hb'⟩) (fun i b hi => .inr hi) (fun l hl => .inr ⟨hl, rfl⟩) (Nat.le_refl _)

/-- A builder's buffer, as it lies. -/
def Buf (w : World) (h : Gh) (bt : TypeId) (i : Id) (v : Value) (l : List UInt8) : Prop :=
  (v = .slice none 0 0 ∧ l = []) ∨ ∃ gb c cc, v = .slice (some ⟨gb, 0, none⟩) l.length c ∧ h.ga i = some gb ∧ h.L gb = l.length ∧ w.heap[gb]? = some (.cells cc bt (0, 0)) ∧ l.length ≤ c ∧ c ≤ cc.size ∧ 0 < c ∧
    ∀ (k : Nat) x, l[k]? = some x → cc[k]? = some (.int .u8 x.toNat)

theorem Buf.own {w : World} {h : Gh} {bt : TypeId} {i : Id} {v : Value} {l : List UInt8} (hb : Buf w h bt i v l) : RepA w h (.own i 1 (byteRow l)) v := by
  simp only [RepA]
  rcases hb with ⟨rfl, rfl⟩ | ⟨gb, c, cc, rfl, h1, h2, h3, h4, h5, h6, h7⟩
  · exact .inl nils_full
  · refine .inr ⟨gb, l.length, c, Lib.byteCells l, cc, bt, rfl, (byteRow_len l).symm, h4, byteRow_one l, byteRow_rep l, h1, by rw [h2]; omega, h3, by omega, ?_⟩
    intro k u hk
    refine ⟨?_, byteCells_one l u (List.mem_of_getElem? hk)⟩
    simp only [Lib.byteCells, List.getElem?_map] at hk
    cases hx : l[k]? with
    | none => rw [hx] at hk; cases hk
    | some x =>
      rw [hx] at hk
      simp only [Option.map_some, Option.some.injEq] at hk
      simp only [World.cell?, h3, Nat.zero_add]
      rw [← hk]
      simpa using h7 k x hx

theorem Buf.strong {w : World} {h : Gh} {bt : TypeId} {i : Id} {v p : Value} {l : List UInt8} (hb : Buf w h bt i v l) (a : AV) : StrongL w h bt [a, .own i 1 (byteRow l)] [p, v] := by
  intro j sz es u hj hu
  simp only [List.getElem?_cons_succ, List.getElem?_cons_zero, Option.some.injEq, AV.own.injEq] at hj hu
  obtain ⟨rfl, rfl, rfl⟩ := hj
  subst hu
  rcases hb with ⟨rfl, rfl⟩ | ⟨gb, c, cc, rfl, h1, h2, h3, h4, h5, h6, h7⟩
  · exact .inl ⟨rfl, rfl⟩
  · exact .inr ⟨gb, l.length, c, cc, rfl, h1, h2, h3, h4, h5, h6, l, rfl⟩

/-- From what is known of the box. -/
theorem Buf.of {w : World} {h : Gh} {bt : TypeId} {i : Id} {v p : Value} {a : AV} {es : List (List D)} (hr : RepA w h (.own i 1 es) v) (hs : StrongL w h bt [a, .own i 1 es] [p, v]) : ∃ l, es = byteRow l ∧ Buf w h bt i v l := by
  rcases hs i 1 es v rfl rfl with ⟨rfl, rfl⟩ | ⟨gb, n, c, cc, rfl, h1, h2, h3, h4, h5, h6, l, rfl⟩
  · exact ⟨[], rfl, .inl ⟨rfl, rfl⟩⟩
  · refine ⟨l, rfl, .inr ⟨gb, c, cc, ?_⟩⟩
    have hn : n = l.length ∧ ∀ (k : Nat) x, l[k]? = some x → cc[k]? = some (.int .u8 x.toNat) := by
      have cells : ∀ {vs : List Value}, RepF w h.L (byteRow l) vs → cellsAt w gb 0 vs → ∀ (k : Nat) x, l[k]? = some x → cc[k]? = some (.int .u8 x.toNat) := by
        intro vs hrf hc k x hk
        have hg := hrf.get (byteRow_one l) (k := k) (e := [.int .u8 x.toNat]) (by simp [byteRow, hk])
        simp only [RepVs, RepV] at hg
        obtain ⟨u, us, h8, rfl, rfl⟩ := hg
        have h9 : vs[k]? = some (.int .u8 x.toNat) := by
          have := congrArg (fun (l : List Value) => l[0]?) h8
          simp only [Nat.mul_one, List.getElem?_take, List.getElem?_drop] at this
          simpa using this
        have := (hc k _ h9).1
        simp only [World.cell?, h3, Nat.zero_add] at this
        simpa using this
      simp only [RepA] at hr
      rcases hr with hr | ⟨b', n', c', vs, cc', e', h8, h9, h10, h11, h12, h13, h14, h15, h16, h17⟩
      · simp only [RepV] at hr
        obtain ⟨a', n', vs, h8, h9, h10, h11, h12⟩ := hr
        cases h8
        rw [byteRow_len] at h9
        refine ⟨h9, ?_⟩
        rcases h12 with h12 | ⟨b', o', h12, h13, h14⟩
        · intro k x hk
          have := (List.getElem?_eq_some_iff.1 hk).1
          omega
        · cases h12
          exact cells h11 h14
      · cases h8
        rw [byteRow_len] at h9
        exact ⟨h9, cells h12 h17⟩
    obtain ⟨rfl, hcells⟩ := hn
    exact ⟨rfl, h1, h2, h3, h4, h5, h6, hcells⟩

/-- Bytes appended to a builder's buffer. -/
theorem bld_append {s : St} {a : Act} {w : World} {h : Gh} (hf : FI nt s a w h) (hr : Rel g0 h0 w0 s.g w h) (hdp : g0.dp < s.g.dp) (hnt : 0 < nt) (hfr : ∀ t, s.fr t = false) {bt : TypeId} {d t b : Nat} {bo : Box} (hbo : s.g.bx d t = some bo) (hfrz : bo.frz = false) (hbt : bo.ty.2 = bt)
    (hbe : h.be d t = some b) {p v1 : Value} {e : TypeId} (hp : p.oneCell' = true) (hheap : w.heap[b]? = some (.cells #[p, v1] e (0, 0))) {c0 : AV} (hc0 : RepA w h c0 p) (hc0d : ∃ d' t', c0 = .ptr d' t' 0 ∧ KG s.g d d' t' )
    {i : Id} (hi : NoIn i s) (hib : IsBox i) (hj : NoIn (.box d t 1) s) {l : List UInt8} (hbuf : Buf w h bt i v1 l) {t1 t2 : TypeId} (hu : P.underlying t1 = some (.slice bt)) {inf : TypeInfo} {z : Value} (hinf : P.info? bt = some inf) (hsz : inf.size = 1) (hby : inf.bytes = 1) (hz : inf.zero = some z) (hz1 : z.cells.size = 1)
    {yv : Value} {ys : List UInt8} (hsrc : Src P w t1 t2 1 yv ys.length (Lib.byteCells ys)) (hbd : (l.length + ys.length) * 2 ≤ 1099511627776) (ty : TypeId) :
    ∃ ao n2 k2 w2, (Builtin.append_ #[t1, t2] ty #[v1, yv]).run P w = .ok (.slice ao n2 k2) w2 ∧ w2.heap[b]? = some (.cells #[p, v1] e (0, 0)) ∧
      ∃ h2, FI nt { tm := fun _ => none, fr := fun _ => true, g := { s.g with bx := putBx s.g.bx d t { bo with cells := [c0, .own (.box d t 1) 1 (byteRow (l ++ ys))] } } } a (w2.setRow b #[p, .slice ao n2 k2]) h2 ∧
        Rel g0 h0 w0 { s.g with bx := putBx s.g.bx d t { bo with cells := [c0, .own (.box d t 1) 1 (byteRow (l ++ ys))] } } (w2.setRow b #[p, .slice ao n2 k2]) h2 := by
  have hbnew : b < w.heap.size := lt_of_heap hheap
  -- once the buffer lies under its new name
  have fin : ∀ (ao : Option Addr) (n2 k2 : Nat) (w2 : World) (h2 : Gh) (a2 : Act), FI nt { tm := fun _ => none, fr := fun _ => true, g := s.g } a2 w2 h2 → a2.defers = a.defers → a2.tmps.size = a.tmps.size → Rel g0 h0 w0 s.g w2 h2 → Buf w2 h2 bt (.box d t 1) (.slice ao n2 k2) (l ++ ys) → h2.be d t = some b → w2.heap[b]? = some (.cells #[p, v1] e (0, 0)) → RepA w2 h2 c0 p →
      FI nt { tm := fun _ => none, fr := fun _ => true, g := { s.g with bx := putBx s.g.bx d t { bo with cells := [c0, .own (.box d t 1) 1 (byteRow (l ++ ys))] } } } a (w2.setRow b #[p, .slice ao n2 k2]) h2 ∧
        Rel g0 h0 w0 { s.g with bx := putBx s.g.bx d t { bo with cells := [c0, .own (.box d t 1) 1 (byteRow (l ++ ys))] } } (w2.setRow b #[p, .slice ao n2 k2]) h2 := by
    intro ao n2 k2 w2 h2 a2 f2 ha2 ha3 r2 hb2 hbe2 hh2 hc2
    have := f2.setBox (s := { tm := fun _ => none, fr := fun _ => true, g := s.g }) r2 hbo hfrz hbe2 (c' := #[p, .slice ao n2 k2]) hh2 (cs' := [c0, .own (.box d t 1) 1 (byteRow (l ++ ys))])
      ⟨by simp only [RepAs]; exact ⟨p, _, rfl, hc2, _, _, rfl, hb2.own, rfl⟩, fun _ => by rw [hbt]; exact hb2.strong c0⟩
      (by
        obtain ⟨d', t', rfl, hk⟩ := hc0d
        exact ⟨by simpa only [AV.ok] using hk, by simp only [AV.ok]; trivial, trivial⟩)
      (by
        intro u hu'
        simp only [List.mem_cons, List.not_mem_nil, or_false] at hu'
        rcases hu' with rfl | rfl
        · exact hp
        · rfl)
    refine ⟨⟨by rw [← this.1.size]; exact ha3.symm, fun t v hv => (by cases hv), this.1.gi, ?_⟩, this.2⟩
    intro x hx
    exact this.1.dfr x (by rw [ha2]; exact hx)
  have fnone : FI nt { tm := fun _ => none, fr := fun _ => true, g := s.g } a w h := ⟨hf.size, fun t v hv => (by cases hv), hf.gi, hf.dfr⟩
  have noI : ∀ i, NoIn i s → NoIn i { tm := fun _ => none, fr := fun _ => true, g := s.g } := fun i hi => ⟨fun t v hv => (by cases hv), hi.2⟩
  have hboxdef : ∀ d' t' k, Id.box d t 1 = .tmp d' t' k → d' ≤ s.g.dp := fun d' t' k e => by cases e
  have hsrc' := hsrc
  rw [← hsz] at hsrc'
  by_cases hy0 : ys.length = 0
  · -- nothing is appended
    have hys : ys = [] := List.length_eq_zero_iff.1 hy0
    subst hys
    have hsz0 : (sizeOf bt).run P w = .ok 1 w := by simp [sizeOf, typeInfo, hinf, hsz]
    have f2 := fnone.ren (noI _ hi) (noI _ hj) hboxdef
    have r2 := hr.ren (i := i) (j := .box d t 1) (fun d' t' k e => by subst e; exact hib.elim) (fun d' t' k e => by cases e)
    rcases hbuf with ⟨rfl, rfl⟩ | ⟨gb, c, cc, rfl, h1, h2, h3, h4, h5, h6, h7⟩
    · have hrun := run_append_none (P := P) (ty := ty) hu hsz0 none 0 0 (Nat.le_refl _) hsrc
      refine ⟨none, 0, 0, w, hrun, hheap, _, fin none 0 0 w _ a f2 rfl rfl r2 (.inl ⟨rfl, rfl⟩) hbe hheap ?_⟩
      obtain ⟨d', t', rfl, hk⟩ := hc0d
      simpa only [RepA] using hc0
    · have hrun := run_append_none (P := P) (ty := ty) hu hsz0 (some ⟨gb, 0, none⟩) l.length c h4 hsrc
      refine ⟨_, _, _, w, hrun, hheap, _, fin _ _ _ w _ a f2 rfl rfl r2 ?_ hbe hheap ?_⟩
      · rw [List.append_nil]
        exact .inr ⟨gb, c, cc, rfl, by simp [renGa, h1], h2, h3, h4, h5, h6, h7⟩
      · obtain ⟨d', t', rfl, hk⟩ := hc0d
        simpa only [RepA] using hc0
  · -- a new row
    have grown : ∀ (cap0 : Nat) (w2 : World) (cc : Array Value) (cap : Nat), RowKit.Below w.heap.size w w2 → w2.heap.size = w.heap.size + 1 → w2.heap[w.heap.size]? = some (.cells cc bt (0, 0)) → (l ++ ys).length ≤ cap → cap ≤ cc.size →
        (∀ (k : Nat) x, (l ++ ys)[k]? = some x → cc[k]? = some (.int .u8 x.toNat)) → (Builtin.append_ #[t1, t2] ty #[v1, yv]).run P w = .ok (.slice (some ⟨w.heap.size, 0, none⟩) (l ++ ys).length cap) w2 →
        ∃ ao n2 k2 w2, (Builtin.append_ #[t1, t2] ty #[v1, yv]).run P w = .ok (.slice ao n2 k2) w2 ∧ w2.heap[b]? = some (.cells #[p, v1] e (0, 0)) ∧
      ∃ h2, FI nt { tm := fun _ => none, fr := fun _ => true, g := { s.g with bx := putBx s.g.bx d t { bo with cells := [c0, .own (.box d t 1) 1 (byteRow (l ++ ys))] } } } a (w2.setRow b #[p, .slice ao n2 k2]) h2 ∧
        Rel g0 h0 w0 { s.g with bx := putBx s.g.bx d t { bo with cells := [c0, .own (.box d t 1) 1 (byteRow (l ++ ys))] } } (w2.setRow b #[p, .slice ao n2 k2]) h2 := by
      intro cap0 w2 cc cap hb hsize hnew hcap hroom hcells hrun
      have hlen : (l ++ ys).length = l.length + ys.length := List.length_append
      obtain ⟨n1, n2⟩ := hf.newRow hr (hfr 0) hnt hdp (sz := 1) (k := none) (es := byteRow (l ++ ys)) (vs := Lib.byteCells (l ++ ys)) (cc := cc) (e := bt) (cap := cap) (by simp [limK]) hb hsize hnew (byteRow_one _) (byteRow_rep _) (by rw [byteRow_len]; exact hcap) (by omega)
        (by
          intro k u hk
          refine ⟨?_, byteCells_one _ u (List.mem_of_getElem? hk)⟩
          simp only [Lib.byteCells, List.getElem?_map] at hk
          cases hx : (l ++ ys)[k]? with
          | none => rw [hx] at hk; cases hk
          | some x =>
            rw [hx] at hk
            simp only [Option.map_some, Option.some.injEq] at hk
            rw [← hk]; exact hcells k x hx)
      have f1 : FI nt { tm := fun _ => none, fr := fun _ => true, g := s.g } (a.put (some 0) (.slice (some ⟨w.heap.size, 0, none⟩) (byteRow (l ++ ys)).length cap)) w2 _ := ⟨n1.size, fun t v hv => (by cases hv), n1.gi, n1.dfr⟩
      have nt0 : NoIn (.tmp s.g.dp 0 0) { tm := fun _ => none, fr := fun _ => true, g := s.g } := noI _ (noIn_fresh hf (hfr 0))
      have f2 := f1.ren nt0 (noI _ hj) hboxdef
      have r2 := n2.ren (i := .tmp s.g.dp 0 0) (j := .box d t 1) (fun d' t' k e => by cases e; exact hdp) (fun d' t' k e => by cases e)
      refine ⟨_, _, _, w2, hrun, by rw [hb.block b hbnew, hheap], _, fin _ _ _ w2 _ _ f2 rfl (by simp [Act.put]) r2 ?_ ?_ (by rw [hb.block b hbnew, hheap]) ?_⟩
      · refine .inr ⟨w.heap.size, cap, cc, rfl, by simp [renGa, gaNew], ?_, hnew, hcap, hroom, by omega, hcells⟩
        show LNew h.L w.heap.size (limK none (byteRow (l ++ ys)).length * 1) w.heap.size = _
        simp [LNew, limK, byteRow_len]
      · exact hbe
      · obtain ⟨d', t', rfl, hk⟩ := hc0d
        simpa only [RepA] using hc0
    have hzc : ∀ n, (Builtin.zeroCells z.cells n).size = n := by intro n; rw [size_zeroCells, hz1, Nat.mul_one]
    have newcells : ∀ (n : Nat) (k : Nat) x, (l ++ ys)[k]? = some x → ((Lib.byteCells l).toArray ++ (Lib.byteCells ys).toArray ++ Builtin.zeroCells z.cells n)[k]? = some (.int .u8 x.toNat) := by
      intro n k x hk
      have hlt : k < (l ++ ys).length := (List.getElem?_eq_some_iff.1 hk).1
      have h1 : (Lib.byteCells l ++ Lib.byteCells ys)[k]? = some (.int .u8 x.toNat) := by
        rw [← Lib.byteCells_append]
        unfold Lib.byteCells
        rw [List.getElem?_map, hk]; rfl
      rw [Array.getElem?_append_left (by simp [Lib.byteCells_length]; simpa using hlt)]
      simpa using h1
    rcases hbuf with ⟨rfl, rfl⟩ | ⟨gb, c, cc, rfl, h1, h2, h3, h4, h5, h6, h7⟩
    · have hrun := run_append_nil' (P := P) (w := w) t1 t2 ty bt inf z hu hinf hz hsrc' (by omega) (by simp at hbd; omega) (by rw [hby]; simp at hbd; omega)
      have hge := grownCap_ge w ys.length 0 bt
      refine grown 0 _ _ _ ((below_drew w w.heap.size).alloc (by simp) _) (by simp) (by have := heap_new w.drew (.cells ((Lib.byteCells ys).toArray ++ Builtin.zeroCells z.cells (grownCap w ys.length 0 bt - ys.length)) bt (0, 0)); simpa using this) (by simpa using hge) ?_ ?_ (by simpa using hrun)
      · simp only [Array.size_append, List.size_toArray, Lib.byteCells_length, hzc]
        omega
      · have := newcells (grownCap w ys.length 0 bt - ys.length)
        simpa [Lib.byteCells] using this
    · have hlen : (l ++ ys).length = l.length + ys.length := List.length_append
      by_cases hcap : l.length + ys.length ≤ c
      · -- there is room
        have hrun := run_append_room' (P := P) t1 t2 ty bt bt inf hu hinf gb l.length c cc h3 hsrc' hy0 (byteCells_one ys) hcap (by rw [hsz, Lib.byteCells_length]; omega)
        rw [hsz, Nat.mul_one] at hrun
        have hgb : gb ≠ b := by
          rintro rfl
          exact hf.gi.gaBx i gb d t h1 (by rw [hbo]; rfl) hbe
        obtain ⟨f2, r2⟩ := fnone.extend (s := { tm := fun _ => none, fr := fun _ => true, g := s.g }) hr (i := i) (j := .box d t 1) (noI _ hi) (noI _ hj) (fun d' t' k e => by subst e; exact hib.elim) (fun d' t' k e => by cases e) hdp (b := gb) (m := l.length) (n := (l ++ ys).length)
          (cc' := (cc.toList.take l.length ++ Lib.byteCells ys ++ cc.toList.drop (l.length + (Lib.byteCells ys).length)).toArray) h1 h3 h2 (by rw [hlen]; omega)
          (by
            intro k hk
            simp only [List.append_assoc, List.getElem?_toArray]
            rw [List.getElem?_append_left (by simp; omega), List.getElem?_take, if_pos hk]
            simp)
        refine ⟨_, _, _, _, hrun, by rw [setRow_other w gb b _ (Ne.symm hgb), hheap], _, fin _ _ _ _ _ a f2 rfl rfl r2 ?_ hbe (by rw [setRow_other w gb b _ (Ne.symm hgb), hheap]) ?_⟩
        · rw [← hlen]
          refine .inr ⟨gb, c, _, rfl, by simp [renGa, h1], by simp [LNew], setRow_heap w gb cc _ bt (0, 0) h3, by rw [hlen]; exact hcap, ?_, h6, ?_⟩
          · simp [Lib.byteCells_length]; omega
          · intro k x hk
            simp only [List.append_assoc, List.getElem?_toArray]
            by_cases hlt : k < l.length
            · rw [List.getElem?_append_left hlt] at hk
              rw [List.getElem?_append_left (by simp; omega), List.getElem?_take, if_pos hlt]
              simpa using h7 k x hk
            · rw [List.getElem?_append_right (by omega)] at hk
              have hmin : (cc.toList.take l.length).length = l.length := by simp; omega
              rw [List.getElem?_append_right (by rw [hmin]; omega), hmin]
              have hlt2 : k - l.length < ys.length := (List.getElem?_eq_some_iff.1 hk).1
              rw [List.getElem?_append_left (by simpa [Lib.byteCells_length] using hlt2)]
              simp [Lib.byteCells, hk]
        · obtain ⟨d', t', rfl, hk⟩ := hc0d
          simpa only [RepA] using hc0
      · have hrun := run_append_grow' (P := P) (w := w) t1 t2 ty bt inf z hu hinf hz ⟨gb, 0, none⟩ l.length c (Lib.byteCells l) (by rw [hsz, Lib.byteCells_length, Nat.mul_one])
          (fun j v hj => by
            simp only [Lib.byteCells, List.getElem?_map] at hj
            cases hx : l[j]? with
            | none => rw [hx] at hj; cases hj
            | some x =>
              rw [hx] at hj
              simp only [Option.map_some, Option.some.injEq] at hj
              simp only [Addr.add_lit, World.cell?, h3, Nat.zero_add]
              rw [← hj]; simpa using h7 j x hx)
          hsrc' (by omega) (by omega) (by omega) (growslice_fits (by omega) (by rw [hby]; omega))
        have hge := grownCap_ge w (l.length + ys.length) c bt
        refine grown c _ _ _ ((below_drew w w.heap.size).alloc (by simp) _) (by simp) (heap_new w.drew (.cells ((Lib.byteCells l).toArray ++ (Lib.byteCells ys).toArray ++ Builtin.zeroCells z.cells (grownCap w (l.length + ys.length) c bt - (l.length + ys.length))) bt (0, 0))) (by rw [hlen]; exact hge) ?_ (newcells _) (by rw [hlen]; exact hrun)
        simp only [Array.size_append, List.size_toArray, Lib.byteCells_length, hzc]
        omega

/-- A row let go for good: its block may be frozen. -/
theorem FI.lose {s : St} {a : Act} {w w' : World} {h : Gh} (hf : FI nt s a w h) (hr : Rel g0 h0 w0 s.g w h) {i : Id} (hi : NoIn i s) (hib : IsBox i) {gb : Nat} (hga : h.ga i = some gb) {cc : Array Value} {e : TypeId} {fz : Nat × Nat} (hheap : w.heap[gb]? = some (.cells cc e (0, 0)))
    (hos : w'.os = w.os) (htape : w'.tape = w.tape) (hout : w'.output = w.output) (hsize : w'.heap.size = w.heap.size) (hoth : ∀ k, k ≠ gb → w'.heap[k]? = w.heap[k]?) (hgb : w'.heap[gb]? = some (.cells cc e fz)) :
    FI nt s a w' { h with ga := fun k => if k = i then none else h.ga k } ∧ Rel g0 h0 w0 s.g w' { h with ga := fun k => if k = i then none else h.ga k } := by
  have hE : Ext w h.L w' h.L := by
    refine ⟨fun _ => Nat.le_refl _, fun b k _ => ?_⟩
    by_cases hb : b = gb
    · subst hb; simp only [World.cell?, hgb, hheap]
    · simp only [World.cell?, hoth b hb]
  have hne : ∀ k b, k ≠ i → h.ga k = some b → b ≠ gb := fun k b hk hb e => by subst e; exact hk (hf.gi.gaInj k i b hb hga)
  have hg : ∀ k b, k ≠ i → h.ga k = some b → (if k = i then none else h.ga k) = some b ∧ h.L b = h.L b ∧ w'.heap[b]? = w.heap[b]? := fun k b hk hb => ⟨by rw [if_neg hk, hb], rfl, hoth b (hne k b hk hb)⟩
  have inv : ∀ k b, (if k = i then none else h.ga k) = some b → k ≠ i ∧ h.ga k = some b := by
    intro k b hk
    split at hk
    · cases hk
    · rename_i hki; exact ⟨hki, hk⟩
  have hdef : ∀ D : Nat, w.heap[D]? = some (Obj.deferred (some [])) → w'.heap[D]? = some (Obj.deferred (some [])) := fun D hD => by rw [hoth D (by rintro rfl; rw [hheap] at hD; cases hD), hD]
  refine ⟨⟨hf.size, ?_, ?_, ?_⟩, ?_⟩
  · intro t v hv
    obtain ⟨h1, h2⟩ := hf.tm t v hv
    exact ⟨RepA.ext (h := h) (h' := { h with ga := fun k => if k = i then none else h.ga k }) hE (fun _ _ _ _ h => h) (fun _ _ => rfl) hg v _ (hi.1 t v hv) h1, h2⟩
  · refine { bx := ?_, inj := hf.gi.inj, gaBx := ?_, gaInj := ?_, gaLt := ?_, gaC := ?_, lim := ?_, lp := ?_, roInj := hf.gi.roInj, gaTop := ?_ }
    · intro d t bo hb
      obtain ⟨h1, h2, b', c, e', h3, h4, h5, h6, h7⟩ := hf.gi.bx d t bo hb
      refine ⟨h1, h2, b', c, e', h3, ?_, ?_, h6, h7⟩
      · rw [hoth b' (by rintro rfl; exact hf.gi.gaBx i b' d t hga (by rw [hb]; rfl) h3), h4]
      · exact RepBx.ext (h := h) (h' := { h with ga := fun k => if k = i then none else h.ga k }) hE (fun _ _ _ _ h => h) (fun _ _ => rfl) hg _ _ (hi.2 d t bo hb) h5
    · intro k b d t hk hs
      exact hf.gi.gaBx k b d t (inv k b hk).2 hs
    · intro k k' b hk hk'
      exact hf.gi.gaInj k k' b (inv k b hk).2 (inv k' b hk').2
    · intro k b hk
      rw [hsize]; exact hf.gi.gaLt k b (inv k b hk).2
    · intro k b hk
      obtain ⟨k1, k2⟩ := inv k b hk
      obtain ⟨c, e', hc⟩ := hf.gi.gaC k b k2
      exact ⟨c, e', by rw [hoth b (hne k b k1 k2), hc]⟩
    · intro b hb
      rw [hsize] at hb; exact hf.gi.lim b hb
    · intro l r hl
      obtain ⟨hp, D, q, h1, h2, h3, h4⟩ := hf.gi.lp l r hl
      refine ⟨hp, D, q, ?_, hdef D h2, h3, fun t v hv => ⟨?_, (h4 t v hv).2⟩⟩
      · rw [hoth _ (by intro e; rw [e, hheap] at h1; cases h1), h1]
      · exact RepA.ext (h := h) (h' := { h with ga := fun k => if k = i then none else h.ga k }) hE (fun _ _ _ _ h => h) (fun _ _ => rfl) (fun _ _ hh => hh.elim) v _ (h4 t v hv).2 (h4 t v hv).1
    · intro d t j hd
      show (if Id.tmp d t j = i then none else h.ga (.tmp d t j)) = none
      split
      · rfl
      · exact hf.gi.gaTop d t j hd
  · intro x hx D hD
    exact hdef D (hf.dfr x hx D hD)
  · have hmay := hr.gaMay i gb (fun d t j e => by subst e; exact hib.elim) hga
    exact
      { os := hos.trans hr.os
        tape := htape.trans hr.tape
        output := hout.trans hr.output
        size := by rw [hsize]; exact hr.size
        ext := hr.ext.trans hE
        keep := fun b hb hm => by
          obtain ⟨a1, a2⟩ := hr.keep b hb hm
          refine ⟨(hoth b ?_).trans a1, a2⟩
          rintro rfl
          rcases hmay with h2 | h2
          · omega
          · exact hm h2
        bxs := hr.bxs
        ro := hr.ro
        ga := fun d t j hd => by
          show (if Id.tmp d t j = i then none else h.ga (.tmp d t j)) = _
          rw [if_neg (by rintro rfl; exact hib.elim)]
          exact hr.ga d t j hd
        bxMay := hr.bxMay
        gaMay := fun k b hk hb => hr.gaMay k b hk (inv k b hb).2
        lpMay := hr.lpMay
        lpLen := hr.lpLen }
end

/-! ### A call of a builder's function, from the caller's side -/
def selfOr (d t : Nat) : AV → Bool
  | .d .nilp => true
  | .ptr d' t' off => Nat.beq d' d && Nat.beq t' t && Nat.beq off 0
  | _ => false
/-- The name and the bytes of the buffer in a builder's box. -/
def bldIn (d t : Nat) (b : Box) : Option (Id × List (List D)) := match b.cells with
  | [c0, c1] => match selfOr d t c0 with
    | true => match c1 with
      | .d .nils => some (.box d t 1, [])
      | .own i sz es => match Nat.beq sz 1 with
        | true => some (i, es)
        | false => none
      | _ => none
    | false => none
  | _ => none
def bldBx (d t : Nat) (i : Id) (b : Box) (es : List (List D)) (bx : Nat → Nat → Option Box) : Nat → Nat → Option Box := putBx (demBx (.box d t 1) (demBx i bx)) d t { b with cells := [.ptr d t 0, .own (.box d t 1) 1 es] }

section
variable {P : Program}
theorem demBx_get {i : Id} {bx : Nat → Nat → Option Box} {d t : Nat} {bo : Box} (h : bx d t = some bo) : demBx i bx d t = some { bo with cells := dems i bo.cells } := by
  simp only [demBx, h]

theorem Buf.mono {w w' : World} {h h' : Gh} {bt : TypeId} {i : Id} {v : Value} {l : List UInt8} (hb : Buf w h bt i v l) (hga : h'.ga i = h.ga i) (hL : ∀ b, h.ga i = some b → h'.L b = h.L b ∧ w'.heap[b]? = w.heap[b]?) : Buf w' h' bt i v l := by
  rcases hb with hb | ⟨gb, c, cc, h0, h1, h2, h3, h4⟩
  · exact .inl hb
  · obtain ⟨q1, q2⟩ := hL gb h1
    exact .inr ⟨gb, c, cc, h0, by rw [hga, h1], by rw [q1, h2], by rw [q2, h3], h4⟩

theorem bldIn_inv {d t : Nat} {cells : List AV} {frz : Bool} {ty : Nat × Nat} {i : Id} {es : List (List D)} (h : bldIn d t ⟨cells, frz, ty⟩ = some (i, es)) :
    ∃ c0 c1, cells = [c0, c1] ∧ selfOr d t c0 = true ∧ ((c1 = .d .nils ∧ i = .box d t 1 ∧ es = []) ∨ c1 = .own i 1 es) := by
  unfold bldIn at h
  match cells, h with
  | [c0, c1], h =>
    dsimp only at h
    cases hs : selfOr d t c0 with
    | false => simp only [hs] at h; cases h
    | true =>
      simp only [hs] at h
      refine ⟨c0, c1, rfl, hs, ?_⟩
      split at h
      · cases h; exact .inl ⟨rfl, rfl, rfl⟩
      · split at h
        · rename_i hz
          cases h
          rw [Nat.eq_of_beq_eq_true hz]
          exact .inr rfl
        · cases h
      · cases h

theorem selfOr_sound {w : World} {h : Gh} {d t : Nat} {c0 : AV} {p : Value} {b : Nat} (hs : selfOr d t c0 = true) (hp : RepA w h c0 p) (hbe : h.be d t = some b) : p = .pointer none ∨ p = .pointer (some ⟨b, 0, none⟩) := by
  unfold selfOr at hs
  split at hs
  · simp only [RepA, RepV] at hp; exact .inl hp
  · rename_i d' t' off
    simp only [Bool.and_eq_true, Nat.beq_eq] at hs
    obtain ⟨⟨rfl, rfl⟩, rfl⟩ := hs
    simp only [RepA] at hp
    obtain ⟨b', hb', rfl⟩ := hp
    rw [hbe] at hb'; cases hb'
    exact .inr rfl
  · cases hs

/-- What is known of a builder's box. -/
theorem bld_box {g : G} {w : World} {h : Gh} (hg : GI g w h) {d t : Nat} {bo : Box} (hbo : g.bx d t = some bo) {ty bt : Nat} (hty : bo.ty = (ty, bt)) (hty0 : ty ≠ 0) {i : Id} {es : List (List D)} (hin : bldIn d t bo = some (i, es)) :
    d ≤ g.dp ∧ IsBox i ∧ ∃ b p v1 l, h.be d t = some b ∧ w.heap[b]? = some (.cells #[p, v1] ty (0, 0)) ∧ (p = .pointer none ∨ p = .pointer (some ⟨b, 0, none⟩)) ∧ es = byteRow l ∧ Buf w h bt i v1 l ∧ v1.oneCell' = true ∧ (h.ga i ≠ some b) := by
  obtain ⟨hd, hoks, b, c, e, hbe, hheap, hrep, hone, _⟩ := hg.bx d t bo hbo
  obtain ⟨cells, frz, bty⟩ := bo
  dsimp only at hty hoks hrep hheap hin
  subst hty
  have he : e.1 = ty := by
    rcases e.2 with h0 | h0
    · exact absurd h0 hty0
    · exact h0.symm
  obtain ⟨c0, c1, rfl, hself, hin⟩ := bldIn_inv hin
  obtain ⟨hreps, hstr⟩ := hrep
  have hreps' := hreps
  simp only [RepAs] at hreps
  obtain ⟨p, us, hc, hp, v1, us', rfl, hv1, rfl⟩ := hreps
  have hcc : c = #[p, v1] := by
    rw [← Array.toList_inj, hc]
  subst hcc
  have hp' := selfOr_sound hself hp hbe
  have hga : ∀ i, h.ga i ≠ some b := fun i hi => hg.gaBx i b d t hi (by rw [hbo]; rfl) hbe
  rw [he] at hheap
  have h1 : v1.oneCell' = true := hone v1 (by simp)
  refine ⟨hd, ?_⟩
  rcases hin with ⟨rfl, rfl, rfl⟩ | rfl
  · simp only [RepA, RepV] at hv1
    exact ⟨trivial, b, p, v1, [], hbe, hheap, hp', rfl, .inl ⟨hv1, rfl⟩, h1, hga _⟩
  · obtain ⟨l, hl, hbuf⟩ := Buf.of (a := c0) (p := p) hv1 (hstr hty0)
    simp only [AV.oks, AV.ok] at hoks
    exact ⟨hoks.2.1, b, p, v1, l, hbe, hheap, hp', hl, hbuf, h1, hga _⟩

/-- The builder bears its own address, and its buffer no name: as its functions begin. -/
theorem bld_begin {g : G} {w : World} {h : Gh} (hg : GI g w h) {d t : Nat} {bo : Box} (hbo : g.bx d t = some bo) (hfrz : bo.frz = false) {ty bt : Nat} (hty : bo.ty = (ty, bt)) (hty0 : ty ≠ 0) {i : Id} {es : List (List D)} (hib : IsBox i) {b : Nat} {p v1 : Value} {l : List UInt8}
    (hbe : h.be d t = some b) (hheap : w.heap[b]? = some (.cells #[p, v1] ty (0, 0))) (hes : es = byteRow l) (hbuf : Buf w h bt i v1 l) (h1 : v1.oneCell' = true) (hne : h.ga i ≠ some b) :
    ∃ s a, FI 1 s a (w.setRow b #[.pointer (some ⟨b, 0, none⟩), v1]) { h with df := [], flat := true } ∧ Rel g { h with df := [], flat := true } w s.g (w.setRow b #[.pointer (some ⟨b, 0, none⟩), v1]) { h with df := [], flat := true } ∧
      s.g.dp = g.dp + 1 ∧ (∀ t, s.fr t = false) ∧ s.g.lp = g.lp ∧ s.g.bx d t = some { bo with cells := [.ptr d t 0, .d (.sl 1 es)] } ∧ NoIn i s ∧ NoIn (.box d t 1) s ∧
      Buf (w.setRow b #[.pointer (some ⟨b, 0, none⟩), v1]) { h with df := [], flat := true } bt i v1 l ∧ s.g.bx = putBx (demBx (.box d t 1) (demBx i g.bx)) d t { bo with cells := [.ptr d t 0, .d (.sl 1 es)] } := by
  have hg' := hg.base [] true
  have si := SI.enter (h := { h with df := [], flat := true }) rfl hg' (args := []) (vs := []) (by simp [RepAs]) (by simp [AV.oks]) (n := 1) (Nat.zero_le _)
  have f0 := si.fi
  have r0 := si.rel
  obtain ⟨f1, n1⟩ := f0.dem i
  have r1 := r0.dem (s := { tm := argTm [], fr := fun _ => false, g := { g with dp := g.dp + 1 } }) i
  obtain ⟨f2, n2⟩ := f1.dem (.box d t 1)
  have r2 := Rel.dem (s := demSt i { tm := argTm [], fr := fun _ => false, g := { g with dp := g.dp + 1 } }) r1 (.box d t 1)
  have n1' := n1.dem (.box d t 1)
  have hbo2 : (demSt (.box d t 1) (demSt i { tm := argTm [], fr := fun _ => false, g := { g with dp := g.dp + 1 } })).g.bx d t = some { bo with cells := dems (.box d t 1) (dems i bo.cells) } := by
    show demBx (.box d t 1) (demBx i g.bx) d t = _
    rw [demBx_get (demBx_get hbo)]
  have hself : RepA w { h with df := [], flat := true } (.ptr d t 0) (.pointer (some ⟨b, 0, none⟩)) := by
    simp only [RepA]
    exact ⟨b, hbe, rfl⟩
  have hsl : RepA w { h with df := [], flat := true } (.d (.sl 1 es)) v1 := by
    have : RepA w { h with df := [], flat := true } (.own i 1 es) v1 := by
      rw [hes]
      exact (hbuf.mono (h' := { h with df := [], flat := true }) rfl (fun _ _ => ⟨rfl, rfl⟩)).own
    simp only [RepA]
    exact this.own_sl
  have hset := f2.setBox r2 hbo2 hfrz hbe (c' := #[.pointer (some ⟨b, 0, none⟩), v1]) hheap (cs' := [.ptr d t 0, .d (.sl 1 es)])
    ⟨by simp only [RepAs]; exact ⟨_, _, rfl, hself, _, _, rfl, hsl, rfl⟩, fun _ j sz es' u hj _ => by cases hj⟩
    (by
      refine ⟨?_, by simp only [AV.ok], trivial⟩
      simp only [AV.ok]
      exact ⟨Nat.le_refl _, by rw [hbo2]; rfl⟩)
    (by
      intro u hu
      simp only [List.mem_cons, List.not_mem_nil, or_false] at hu
      rcases hu with rfl | rfl
      · rfl
      · exact h1)
  refine ⟨_, _, hset.1, hset.2, rfl, fun _ => rfl, rfl, ?_, ?_, ?_, ?_, ?_⟩
  · show putBx _ d t _ d t = _
    rw [putBx_eq, if_pos ⟨rfl, rfl⟩]
  · refine ⟨n1'.1, ?_⟩
    intro d' t' bo' hb'
    have hq : putBx (demSt (.box d t 1) (demSt i { tm := argTm [], fr := fun _ => false, g := { g with dp := g.dp + 1 } })).g.bx d t _ d' t' = some bo' := hb'
    rw [putBx_eq] at hq
    split at hq
    · cases hq; simp [AV.oks, AV.ok]
    · exact n1'.2 d' t' bo' hq
  · refine ⟨n2.1, ?_⟩
    intro d' t' bo' hb'
    have hq : putBx (demSt (.box d t 1) (demSt i { tm := argTm [], fr := fun _ => false, g := { g with dp := g.dp + 1 } })).g.bx d t _ d' t' = some bo' := hb'
    rw [putBx_eq] at hq
    split at hq
    · cases hq; simp [AV.oks, AV.ok]
    · exact n2.2 d' t' bo' hq
  · refine hbuf.mono rfl fun b' hb' => ⟨rfl, setRow_other w b b' _ ?_⟩
    rintro rfl
    exact hne hb'
  · rfl

/-- Behind the call. -/
theorem bld_end {g : G} {w : World} {h : Gh} (hg : GI g w h) {s : St} {a : Act} {w' : World} {h2 : Gh} {nt : Nat} (hf : FI nt s a w' h2) (hr : Rel g { h with df := [], flat := true } w s.g w' h2) (hdp : s.g.dp = g.dp + 1) (hlp : s.g.lp = g.lp) (hbx : ∀ t, s.g.bx (g.dp + 1) t = none) :
    ∃ h', GI { g with bx := s.g.bx } w' h' ∧ Rel g h w { g with bx := s.g.bx } w' h' := by
  have hlpd : ∀ r ∈ s.g.lp, r.dp ≤ g.dp := by
    intro r hr'
    rw [hlp] at hr'
    obtain ⟨l, hl⟩ := List.getElem?_of_mem hr'
    exact (hg.lp l r hl).1.2.1
  have gi := hf.gi.pop hdp hlpd
  have rl := hr.pop (Nat.le_refl _) (fun d t hs => by
    obtain ⟨bo, hbo⟩ := Option.isSome_iff_exists.1 hs
    exact (hg.bx d t bo hbo).1)
  have he : popG s.g (g.dp + 1) = { g with bx := s.g.bx } := by
    unfold popG
    rw [hlp]
    congr 1
    funext d t
    split
    · rename_i e
      have e := Nat.eq_of_beq_eq_true e
      rw [e, hbx]
    · rfl
  rw [he] at gi rl
  exact ⟨_, gi, rl.based⟩

theorem bldBx_top {g : G} {w : World} {h : Gh} (hg : GI g w h) {d t : Nat} (hd : d ≤ g.dp) (i j : Id) (bo : Box) (t' : Nat) : putBx (demBx j (demBx i g.bx)) d t bo (g.dp + 1) t' = none := by
  rw [putBx_eq, if_neg (by omega)]
  have : g.bx (g.dp + 1) t' = none := by
    cases hb : g.bx (g.dp + 1) t' with
    | none => rfl
    | some b => have := (hg.bx _ _ b hb).1; omega
  simp only [demBx, this]
end
end Go.Abs
