/- append: sound. -/
import Derived.Test.YtehkgiofchmpaaaDoorAbsOps2
import Derived.Lib.AppendStr
namespace Go.Abs
open Go
set_option linter.unusedVariables false
set_option linter.unusedSimpArgs false

section
variable {P : Program} {T : Nat → Option TI} {g0 : G} {h0 : Gh} {w0 : World} {nt : Nat}

/-- No row bears the name of a temporary that has not taken one. -/
theorem noIn_fresh {s : St} {a : Act} {w : World} {h : Gh} (hf : FI nt s a w h) {dst j : Nat} (hfr : s.fr dst = false) : NoIn (.tmp s.g.dp dst j) s := by
  refine ⟨fun t v hv => ?_, fun d t bo hb => ?_⟩
  · refine AV.ok.mono ?_ (fun _ _ _ => trivial) (fun _ _ => trivial) v (hf.tm t v hv).2
    intro i hi e
    subst e
    have := hi.2
    rw [hfr] at this; cases this
  · obtain ⟨_, h2, _⟩ := hf.gi.bx d t bo hb
    refine AV.oks.mono ?_ (fun _ _ _ => trivial) (fun _ _ => trivial) _ h2
    intro i hi e
    subst e
    exact hi

/-- The frame takes a row under a name that is new. -/
theorem FI.take {s : St} {a : Act} {w : World} {h : Gh} (hf : FI nt s a w h) (hr : Rel g0 h0 w0 s.g w h) {dst : Nat} (hd : dst < nt) {k : Option Nat} {sz : Nat} {es : List (List D)} {u : Value}
    (hrep : RepA w h (rowAV k (.tmp s.g.dp dst 0) sz es) u) :
    FI nt { tm := upd s.tm dst (some (rowAV k (.tmp s.g.dp dst 0) sz es)), fr := setFr s.fr dst, g := s.g } (a.put (some dst) u) w h where
  size := by simp [Act.put, hf.size]
  tm := fun t v hv => by
    rw [getD_put a dst t u (by rw [hf.size]; exact hd)]
    rcases upd_some hv with ⟨rfl, rfl⟩ | ⟨hne, hv⟩
    · rw [if_pos rfl]
      exact ⟨hrep, rowAV_ok ⟨rfl, by simp [setFr]⟩⟩
    · rw [if_neg hne]
      obtain ⟨h1, h2⟩ := hf.tm t v hv
      exact ⟨h1, AV.ok.mono setFr_mono (fun _ _ h => h) (fun _ h => h) v h2⟩
  gi := hf.gi
  dfr := hf.dfr

/-- A row grows where it lies. -/
theorem FI.extend {s : St} {a : Act} {w : World} {h : Gh} (hf : FI nt s a w h) (hr : Rel g0 h0 w0 s.g w h) {i j : Id} (hi : NoIn i s) (hj : NoIn j s)
    (hid : ∀ d t k, i = .tmp d t k → g0.dp < d) (hjd : ∀ d t k, j = .tmp d t k → d = s.g.dp) (hdp : g0.dp < s.g.dp)
    {b m n : Nat} {cc cc' : Array Value} {e : TypeId} (hg : h.ga i = some b) (hheap : w.heap[b]? = some (.cells cc e (0, 0))) (hL : h.L b = m) (hmn : m ≤ n)
    (hsame : ∀ k, k < m → cc'[k]? = cc[k]?) :
    FI nt s a (w.setRow b cc') { h with ga := renGa h.ga i j, L := LNew h.L b n } ∧ Rel g0 h0 w0 s.g (w.setRow b cc') { h with ga := renGa h.ga i j, L := LNew h.L b n } := by
  have f1 := hf.ren hi hj (fun d t k e => by rw [hjd d t k e]; exact Nat.le_refl _)
  have r1 := hr.ren (i := i) (j := j) hid (fun d t k e => by rw [hjd d t k e]; exact hdp)
  have hE : Ext w h.L (w.setRow b cc') (LNew h.L b n) := by
    refine ⟨fun k => ?_, fun k q hq => ?_⟩
    · unfold LNew
      split
      · rename_i e; rw [e, hL]; exact hmn
      · exact Nat.le_refl _
    · by_cases hk : k = b
      · subst hk
        rw [hL] at hq
        rw [cell_setRow_same w k q cc cc' e (0, 0) hheap]
        simp only [World.cell?, hheap]
        simpa using hsame q hq
      · exact cell_setRow_other w b cc' ⟨k, q, none⟩ hk
  have hother : ∀ k, k ≠ b → (w.setRow b cc').heap[k]? = w.heap[k]? ∧ LNew h.L b n k = h.L k := fun k hk => ⟨setRow_other w b k cc' hk, by unfold LNew; rw [if_neg hk]⟩
  have hga : ∀ k b', (k ≠ i ∧ k ≠ j) → h.ga k = some b' → renGa h.ga i j k = some b' ∧ LNew h.L b n b' = h.L b' ∧ (w.setRow b cc').heap[b']? = w.heap[b']? := fun k b' hk hb => by
    have hne : b' ≠ b := by
      intro e; subst e
      exact hk.1 (hf.gi.gaInj k i b' hb hg)
    refine ⟨?_, (hother b' hne).2, (hother b' hne).1⟩
    unfold renGa
    rw [if_neg hk.2, if_neg hk.1, hb]
  have ext1 : ∀ {K : Nat → Nat → Prop} {Y : Nat → Prop} (v : AV) (x : Value), v.ok (fun k => k ≠ i ∧ k ≠ j) K Y → RepA w h v x → RepA (w.setRow b cc') { h with ga := renGa h.ga i j, L := LNew h.L b n } v x :=
    fun v x ho hh => RepA.ext (h := h) (h' := { h with ga := renGa h.ga i j, L := LNew h.L b n }) hE (fun _ _ _ _ h => h) (fun _ _ => rfl) hga v x ho hh
  have hdef : ∀ D : Nat, w.heap[D]? = some (Obj.deferred (some [])) → (w.setRow b cc').heap[D]? = some (Obj.deferred (some [])) := by
    intro D hD
    rw [(hother D (by intro e; rw [e, hheap] at hD; cases hD)).1, hD]
  refine ⟨⟨f1.size, ?_, ?_, ?_⟩, ?_⟩
  · intro t v hv
    obtain ⟨h1, h2⟩ := hf.tm t v hv
    exact ⟨ext1 v _ (AV.ok.and v (hi.1 t v hv) (hj.1 t v hv)) h1, h2⟩
  · refine { bx := ?_, inj := f1.gi.inj, gaBx := f1.gi.gaBx, gaInj := f1.gi.gaInj, gaLt := ?_, gaC := ?_, lim := ?_, lp := ?_, roInj := f1.gi.roInj, gaTop := f1.gi.gaTop }
    · intro d t bo hb
      obtain ⟨h1, h2, b', c, e', h3, h4, h5, h6, h7⟩ := hf.gi.bx d t bo hb
      have hne : b' ≠ b := by
        intro e; subst e
        exact hf.gi.gaBx i b' d t hg (by rw [hb]; rfl) h3
      refine ⟨h1, h2, b', c, e', h3, by rw [(hother b' hne).1, h4], ?_, h6, by show LNew h.L b n b' = _; rw [(hother b' hne).2, h7]⟩
      exact RepBx.ext (h := h) (h' := { h with ga := renGa h.ga i j, L := LNew h.L b n }) hE (fun _ _ _ _ h => h) (fun _ _ => rfl) hga _ _ (AV.oks.and _ (hi.2 d t bo hb) (hj.2 d t bo hb)) h5
    · intro k b' hk
      rw [size_setRow]; exact f1.gi.gaLt k b' hk
    · intro k b' hk
      obtain ⟨c, e, hc⟩ := f1.gi.gaC k b' hk
      by_cases hbb : b' = b
      · exact ⟨_, _, by rw [hbb]; exact setRow_heap w b cc cc' _ (0, 0) hheap⟩
      · exact ⟨c, e, by rw [(hother b' hbb).1, hc]⟩
    · intro b' hb'
      rw [size_setRow] at hb'
      show LNew h.L b n b' = 0
      rw [(hother b' (by intro e; subst e; have := lt_of_heap hheap; omega)).2]
      exact hf.gi.lim b' hb'
    · intro l r hl
      obtain ⟨hp, D, tmps, h1, h2, h3, h4⟩ := hf.gi.lp l r hl
      refine ⟨hp, D, tmps, ?_, hdef D h2, h3, fun t v hv => ?_⟩
      · rw [(hother _ (by intro e; rw [e, hheap] at h1; cases h1)).1, h1]
      · obtain ⟨h5, h6⟩ := h4 t v hv
        exact ⟨ext1 v _ (AV.ok.mono (fun _ h => h.elim) (fun _ _ h => h) (fun _ h => h) v h6) h5, h6⟩
  · intro x hx D hD
    exact hdef D (hf.dfr x hx D hD)
  · have hmay := hr.gaMay i b hid hg
    exact
      { os := hr.os
        tape := hr.tape
        output := hr.output
        size := by rw [size_setRow]; exact hr.size
        ext := hr.ext.trans hE
        keep := fun b' hb' hm => by
          obtain ⟨a1, a2⟩ := hr.keep b' hb' hm
          have hne : b' ≠ b := by
            intro e; subst e
            rcases hmay with h2 | h2
            · omega
            · exact hm h2
          exact ⟨(hother b' hne).1.trans a1, (hother b' hne).2.trans a2⟩
        bxs := r1.bxs
        ro := r1.ro
        ga := r1.ga
        bxMay := r1.bxMay
        gaMay := r1.gaMay
        lpMay := r1.lpMay
        lpLen := r1.lpLen }

theorem limK_len (rw : Bool) (es : List (List D)) : limK (rawK rw es.length) es.length = es.length := by cases rw <;> rfl
theorem rawC_nil {rw : Bool} {es : List (List D)} (h : rawC rw es.length ([] : List (List D)).length = true) : rawK rw es.length = none ∨ es = [] := by
  cases rw with
  | false => exact .inl rfl
  | true =>
    refine .inr ?_
    simp only [rawC, Bool.or_eq_true, Nat.beq_eq] at h
    rcases h with h | h
    · exact List.length_eq_zero_iff.1 h
    · simp [Nat.blt] at h

theorem exec_append {o : Oper} {c : Call} (ho : o.op = .call c) {x y : Operand} {t t2 : TypeId} (hcl : c.callee = .builtin .append) (hargs : c.args = #[x, y]) (htys : c.argTypes = #[t, t2]) {a : Act} {w w' : World} {v : Value}
    (hrun : (Builtin.append_ #[t, t2] o.type #[a.eval x, a.eval y]).run P w = .ok v w') : (execOp a.eval o).run P w = .ok (.value v) w' := by
  simp [execOp, ho, resolve, hcl, hargs, htys, invoke, builtin, hrun]

theorem le_of_ble_mul {n b : Nat} (h : Nat.ble (n * (b + 1)) most = true) : n * b ≤ 1099511627776 ∧ n ≤ 1099511627776 := by
  have h1 : n * (b + 1) ≤ 1099511627776 := by simpa [most] using h
  rw [Nat.mul_add] at h1
  omega

/-- What is appended: a row that lies there, or a string's bytes. -/
def Src (P : Program) (w : World) (t t2 : TypeId) (sz : Nat) (yv : Value) (m : Nat) (us : List Value) : Prop :=
  (t2 = t ∧ ∃ ay c, yv = .slice ay m c ∧ us.length = m * sz ∧ (m = 0 ∨ ∃ ad, ay = some ad ∧ ∀ (j : Nat) u, us[j]? = some u → w.cell? (ad.add j) = some u)) ∨
  (P.underlying t2 = some .string ∧ sz = 1 ∧ ∃ s, yv = .string s ∧ m = s.size ∧ us = Lib.strCells s)

/-- With room, whatever element type the block was made with. -/
theorem run_append_room' {w : World} (t t2 ty e e' : TypeId) (i : TypeInfo) (ht : P.underlying t = some (.slice e)) (hi : P.info? e = some i)
    (g sLen sCap : Nat) (cur : Array Value) (hg : w.heap[g]? = some (.cells cur e' (0, 0)))
    {yv : Value} {m : Nat} {news : List Value} (hsrc : Src P w t t2 i.size yv m news) (hm0 : m ≠ 0) (h1 : ∀ u ∈ news, u.oneCell' = true)
    (hroom : sLen + m ≤ sCap) (hfit : sLen * i.size + news.length ≤ cur.size) :
    (Builtin.append_ #[t, t2] ty #[.slice (some ⟨g, 0, none⟩) sLen sCap, yv]).run P w =
      .ok (.slice (some ⟨g, 0, none⟩) (sLen + m) sCap) (w.setRow g (cur.toList.take (sLen * i.size) ++ news ++ cur.toList.drop (sLen * i.size + news.length)).toArray) := by
  have hst := run_storeCells_at P g (sLen * i.size) e' news 0 cur w hg (by simpa using hfit) h1
  simp only [Nat.add_zero] at hst
  rcases hsrc with ⟨rfl, ay, c, rfl, hl, hm | ⟨a, rfl, hnews⟩⟩ | ⟨hu, hs1, s, rfl, rfl, rfl⟩
  · exact absurd hm hm0
  · have hf := run_firstCells_some (P := P) w i.size m a m c news hl hnews
    simp [Builtin.append_, run_underlying ht, sizeOf, typeInfo, hi, Builtin.lenOf, hroom, hf, Addr.add_lit, hst]
  · have hf := Lib.run_firstCells_string (P := P) w i.size s
    simp [Builtin.append_, run_underlying ht, run_underlying hu, sizeOf, typeInfo, hi, Builtin.lenOf, hroom, hf, Addr.add_lit, hst]

theorem run_append_nil' {w : World} (t t2 ty e : TypeId) (i : TypeInfo) (z : Value) (ht : P.underlying t = some (.slice e)) (hi : P.info? e = some i) (hz : i.zero = some z)
    {yv : Value} {n : Nat} {news : List Value} (hsrc : Src P w t t2 i.size yv n news)
    (h0 : 0 < n) (h63 : (n : Int) ≤ 9223372036854775807) (h48 : n * i.bytes ≤ 281474976710656) :
    (Builtin.append_ #[t, t2] ty #[.slice none 0 0, yv]).run P w =
      .ok (.slice (some ⟨w.heap.size, 0, none⟩) n (grownCap w n 0 e)) (w.drew.alloc (.cells (news.toArray ++ Builtin.zeroCells z.cells (grownCap w n 0 e - n)) e)) := by
  rcases hsrc with ⟨rfl, ay, c, rfl, hl, hm | ⟨a, rfl, hnews⟩⟩ | ⟨hu, hs1, s, rfl, rfl, rfl⟩
  · omega
  · exact run_append_nil w t2 ty e i z ht hi hz a n c news hl hnews h0 h63 h48
  · have hn : s.size ≠ 0 := by omega
    have h63' : ¬ (9223372036854775807 < (s.size : Int)) := by omega
    have h48' : ¬ (281474976710656 < Builtin.nextslicecap s.size 0 * i.bytes) := by rw [nextslicecap_zero h0]; omega
    have hf := Lib.run_firstCells_string (P := P) w.drew i.size s
    simp [Builtin.append_, run_underlying ht, run_underlying hu, sizeOf, typeInfo, zeroValue, hi, hz, Builtin.lenOf, hn, h63', h48', Question.forced, run_firstCells_none, hf, newRow, grownCap]

theorem run_append_grow' {w : World} (t t2 ty e : TypeId) (i : TypeInfo) (z : Value) (ht : P.underlying t = some (.slice e)) (hi : P.info? e = some i) (hz : i.zero = some z)
    (b : Addr) (sLen sCap : Nat) (olds : List Value) (hlo : olds.length = sLen * i.size) (holds : ∀ (j : Nat) v, olds[j]? = some v → w.cell? (b.add j) = some v)
    {yv : Value} {n : Nat} {news : List Value} (hsrc : Src P w t t2 i.size yv n news)
    (h0 : 0 < n) (hg : sCap < sLen + n) (h63 : ((sLen + n : Nat) : Int) ≤ 9223372036854775807) (hfit : Builtin.nextslicecap (sLen + n) sCap * i.bytes ≤ 281474976710656) :
    (Builtin.append_ #[t, t2] ty #[.slice (some b) sLen sCap, yv]).run P w =
      .ok (.slice (some ⟨w.heap.size, 0, none⟩) (sLen + n) (grownCap w (sLen + n) sCap e))
        (w.drew.alloc (.cells (olds.toArray ++ news.toArray ++ Builtin.zeroCells z.cells (grownCap w (sLen + n) sCap e - (sLen + n))) e)) := by
  rcases hsrc with ⟨rfl, ay, c, rfl, hl, hm | ⟨a, rfl, hnews⟩⟩ | ⟨hu, hs1, s, rfl, rfl, rfl⟩
  · omega
  · exact run_append_grow w t2 ty e i z ht hi hz b sLen sCap olds hlo holds a n c news hl hnews hg h63 hfit
  · exact Lib.run_append_grow_string w t t2 ty e i z ht hu hi hz b sLen sCap olds hlo holds s hg h63 hfit

/-- Onto nothing, or onto a row without room: a new row. -/
theorem append_new (hT : TyOk P T) {rw : Bool} {o : Oper} {c : Call} (ho : o.op = .call c) {x y : Operand} {t t2 : TypeId} (hcl : c.callee = .builtin .append) (hargs : c.args = #[x, y]) (htys : c.argTypes = #[t, t2])
    {dst : Nat} (hdst : o.dst = some dst) (hd : dst < nt) {ti te : TI} (hti : T t = some ti) (hk : ti.kind = 2) (hte : T ti.elem = some te) {s : St} {a : Act} {w : World} {h : Gh}
    (hf : FI nt s a w h) (hr : Rel g0 h0 w0 s.g w h) (hdp : g0.dp < s.g.dp) (hfr : s.fr dst = false) {es ys : List (List D)} (h1 : 1 ≤ te.size) (hfit : Nat.ble ((es.length + ys.length) * (te.bytes + 1)) most = true)
    {ax : Option Addr} {cap : Nat} (hx : a.eval x = .slice ax es.length cap) {vs : List Value} (hus : ∀ e ∈ es, e.length = te.size) (hrf : RepF w h.L es vs) (hcap : cap < es.length + ys.length)
    (hmem : (ax = none ∧ es = [] ∧ cap = 0) ∨ (∃ ad, ax = some ad ∧ es = []) ∨ ∃ b o', ax = some ⟨b, o', none⟩ ∧ cellsAt w b o' vs)
    {us : List Value} (hy : Src P w t t2 te.size (a.eval y) ys.length us) (hy0 : ys.length ≠ 0) (hyus : ∀ e ∈ ys, e.length = te.size) (hyrf : RepF w h.L ys us) (hyone : ∀ u ∈ us, u.oneCell' = true) :
    Steps1 P nt g0 h0 w0 o { tm := upd s.tm dst (some (rowAV (rawK rw es.length) (.tmp s.g.dp dst 0) te.size (es ++ ys))), fr := setFr s.fr dst, g := s.g } a w := by
  have hty := hT t ti hti
  have hte' := hT _ te hte
  have hu := hty.und hk
  obtain ⟨i, z, hi, hsi, hby, hz, hzc⟩ := hte'.info
  obtain ⟨hf1, hf2⟩ := le_of_ble_mul hfit
  have hl1 : vs.length = es.length * i.size := by rw [hrf.length hus, hsi]
  have hl2 : us.length = ys.length * i.size := by rw [hyrf.length hyus, hsi]
  rw [← hsi] at hy
  have hge := grownCap_ge w (es.length + ys.length) cap ti.elem
  have hzsize : z.cells.size = te.size := by
    have : z.cells.size = z.cells.toList.length := by simp
    rw [this, hzc, List.length_map, hte'.len]
  have fin : ∀ (cc : Array Value), cc = vs.toArray ++ us.toArray ++ Builtin.zeroCells z.cells (grownCap w (es.length + ys.length) cap ti.elem - (es.length + ys.length)) →
      (Builtin.append_ #[t, t2] o.type #[a.eval x, a.eval y]).run P w = .ok (.slice (some ⟨w.heap.size, 0, none⟩) (es.length + ys.length) (grownCap w (es.length + ys.length) cap ti.elem)) (w.drew.alloc (.cells cc ti.elem (0, 0))) →
      Steps1 P nt g0 h0 w0 o { tm := upd s.tm dst (some (rowAV (rawK rw es.length) (.tmp s.g.dp dst 0) te.size (es ++ ys))), fr := setFr s.fr dst, g := s.g } a w := by
    intro cc hcc hrun
    have hb : RowKit.Below w.heap.size w (w.drew.alloc (.cells cc ti.elem (0, 0))) := (below_drew w w.heap.size).alloc (by simp) _
    obtain ⟨n1, n2⟩ := hf.newRow hr hfr hd hdp (sz := te.size) (k := rawK rw es.length) (es := es ++ ys) (vs := vs ++ us) (cc := cc) (e := ti.elem) (cap := grownCap w (es.length + ys.length) cap ti.elem) (by cases rw <;> simp [limK, rawK]) hb (by simp)
      (by have := heap_new w.drew (.cells cc ti.elem (0, 0)); simpa using this)
      (by
        intro e he
        rcases List.mem_append.1 he with he | he
        · exact hus e he
        · exact hyus e he)
      (hrf.append hyrf) (by simpa using hge)
      (by
        rw [hcc]
        simp only [Array.size_append, List.size_toArray, size_zeroCells, hl1, hl2, hsi, hzsize]
        rw [← Nat.add_mul, ← Nat.add_mul]
        exact Nat.mul_le_mul_right _ (by omega))
      (by
        intro k u hk'
        refine ⟨?_, ?_⟩
        · rw [hcc]
          have hlt : k < (vs ++ us).length := (List.getElem?_eq_some_iff.1 hk').1
          have : (vs.toArray ++ us.toArray ++ Builtin.zeroCells z.cells (grownCap w (es.length + ys.length) cap ti.elem - (es.length + ys.length)))[k]? = (vs ++ us)[k]? := by
            rw [Array.getElem?_append_left (by simpa using hlt)]
            simp
          rw [this, hk']
        · rcases List.mem_append.1 (List.mem_of_getElem? hk') with hm | hm
          · rcases hmem with ⟨_, rfl, _⟩ | ⟨_, _, rfl⟩ | ⟨b, o'', _, hc⟩
            · simp [RepF] at hrf; subst hrf; cases hm
            · simp [RepF] at hrf; subst hrf; cases hm
            · exact hc.one u hm
          · exact hyone u hm)
    rw [List.length_append] at n1 n2
    exact ⟨_, _, _, _, exec_append ho hcl hargs htys hrun, .inl ⟨_, rfl, by rw [hdst]⟩, n1, n2⟩
  by_cases hax : ax = none
  · subst hax
    rcases hmem with ⟨_, rfl, rfl⟩ | ⟨_, h2, _⟩ | ⟨b, o'', h2, _⟩
    · have hv : vs = [] := by simpa [RepF] using hrf
      subst hv
      simp only [List.length_nil, Nat.zero_add] at *
      refine fin _ rfl ?_
      rw [hx]
      have := run_append_nil' (P := P) (w := w) t t2 o.type ti.elem i z hu hi hz hy (by omega) (by omega) (by rw [hby]; omega)
      rw [this]
      congr 2
      simp
    · cases h2
    · cases h2
  · obtain ⟨ad, rfl⟩ : ∃ ad, ax = some ad := by cases ax with | none => exact absurd rfl hax | some ad => exact ⟨ad, rfl⟩
    refine fin _ rfl ?_
    rw [hx]
    rcases hmem with ⟨h2, _⟩ | ⟨_, h2, rfl⟩ | ⟨b, o'', h2, hc⟩
    · cases h2
    · cases h2
      have hv : vs = [] := by simpa [RepF] using hrf
      subst hv
      have := run_append_grow' (P := P) (w := w) t t2 o.type ti.elem i z hu hi hz ad 0 cap [] (by simp) (fun j v hj => by simp at hj) hy (by omega) (by simpa using hcap) (by simp at hf2 ⊢; omega)
        (growslice_fits (by simpa using hcap) (by rw [hby]; simp at hf1 ⊢; omega))
      simp only [List.length_nil] at *
      rw [this]
    · cases h2
      have := run_append_grow' (P := P) (w := w) t t2 o.type ti.elem i z hu hi hz ⟨b, o'', none⟩ es.length cap vs hl1 (fun j v hj => by rw [Addr.add_mid]; exact (hc j v hj).1) hy (by omega) hcap (by omega)
        (growslice_fits hcap (by rw [hby]; omega))
      rw [this]

/-- Nothing is appended: the value stays. -/
theorem run_append_none {t t2 ty e : TypeId} (hu : P.underlying t = some (.slice e)) {size : Nat} {w : World} (hs : (sizeOf e).run P w = .ok size w) (b : Option Addr) (n c : Nat) (hc : n ≤ c) {yv : Value} {us : List Value} (hsrc : Src P w t t2 size yv 0 us) :
    (Builtin.append_ #[t, t2] ty #[.slice b n c, yv]).run P w = .ok (.slice b n c) w := by
  rcases hsrc with ⟨rfl, b', c', rfl, -, -⟩ | ⟨hu2, hs1, s, rfl, hm, rfl⟩
  · have hf : (Builtin.firstCells size 0 (.slice b' 0 c')).run P w = .ok #[] w := by
      cases b' with
      | none => simp [Builtin.firstCells]
      | some a => simp [Builtin.firstCells, loadCells, loadCellsFrom]
    cases b with
    | none => simp [Builtin.append_, run_underlying hu, hs, Builtin.lenOf, hc, hf]
    | some a => simp [Builtin.append_, run_underlying hu, hs, Builtin.lenOf, hc, hf, storeCells]
  · have hm : s.size = 0 := hm.symm
    have hf : (Builtin.firstCells size s.size (.string s)).run P w = .ok (Lib.strCells s).toArray w := Lib.run_firstCells_string (P := P) w size s
    have hc0 : Lib.strCells s = [] := List.length_eq_zero_iff.1 (by rw [Lib.strCells_length, hm])
    rw [hc0, hm] at hf
    cases b with
    | none => simp [Builtin.append_, run_underlying hu, run_underlying hu2, hs, Builtin.lenOf, hm, hc, hf]
    | some a => simp [Builtin.append_, run_underlying hu, run_underlying hu2, hs, Builtin.lenOf, hm, hc, hf, storeCells]

/-- What may be appended, in the model. -/
def YRep (P : Program) (w : World) (L : Nat → Nat) (t t2 : TypeId) (te : TI) (ys : List (List D)) (yv : Value) : Prop :=
  ∃ us, Src P w t t2 te.size yv ys.length us ∧ (∀ e ∈ ys, e.length = te.size) ∧ RepF w L ys us ∧ ∀ u ∈ us, u.oneCell' = true

theorem yrep_sl {w : World} {L : Nat → Nat} {t : TypeId} {te : TI} {ys : List (List D)} {yv : Value} (h : RepV w L (.sl te.size ys) yv) : YRep P w L t t te ys yv := by
  simp only [RepV] at h
  obtain ⟨ay, m, cy, us, rfl, hmn, hmc, hyus, hyrf, hym⟩ := h
  have hl := hyrf.length hyus
  subst hmn
  rcases hym with hym | ⟨b', o', rfl, hyL, hyc⟩
  · refine ⟨us, .inl ⟨rfl, _, _, rfl, hl, .inl hym⟩, hyus, hyrf, ?_⟩
    have : us = [] := List.length_eq_zero_iff.1 (by rw [hl, hym, Nat.zero_mul])
    subst this
    intro u hu; cases hu
  · exact ⟨us, .inl ⟨rfl, _, _, rfl, hl, .inr ⟨_, rfl, fun j v hj => by rw [Addr.add_mid]; exact (hyc j v hj).1⟩⟩, hyus, hyrf, hyc.one⟩

theorem strRow_rep {w : World} {L : Nat → Nat} : ∀ (l : List UInt8), RepF w L (l.map fun c => [D.int .u8 c.toNat]) (l.map fun b => Value.int .u8 b.toNat)
  | [] => by simp [RepF]
  | c :: l => by
    simp only [List.map_cons, RepF]
    exact ⟨[.int .u8 c.toNat], _, rfl, ⟨_, _, rfl, by simp [RepV], rfl⟩, strRow_rep l⟩

theorem strRow_len (s : ByteArray) : (strRow s).length = s.size := by
  rw [strRow, List.length_map, Array.length_toList]
  rfl

theorem rowS_rep (hT : TyOk P T) {t t' : TypeId} {ti te t2 : TI} (hti : T t = some ti) (ht2 : T t' = some t2) (htt : (Nat.beq t t' || Nat.beq t2.kind 3) = true) (hk : ti.kind = 2) {w : World} {h : Gh} {a : AV} {ys : List (List D)} {v : Value}
    (hys : AV.rowS t2 te a = some ys) (hr : RepA w h a v) : YRep P w h.L t t' te ys v := by
  unfold AV.rowS at hys
  split at hys
  · rename_i hk3
    split at hys
    · rename_i s hint
      split at hys
      case isFalse => cases hys
      rename_i hsz
      have hsz := Nat.eq_of_beq_eq_true hsz
      cases hys
      simp only [RepA, RepV] at hr
      subst hr
      refine ⟨Lib.strCells s, .inr ⟨(hT t' t2 ht2).und3 hk3, hsz, s, rfl, strRow_len s, rfl⟩, ?_, strRow_rep _, Lib.strCells_oneCell s⟩
      intro e he
      simp only [strRow, List.mem_map] at he
      obtain ⟨c, _, rfl⟩ := he
      rw [hsz]; rfl
    · cases hys
  · rename_i hk3
    have : t = t' := by
      simp only [Bool.or_eq_true] at htt
      rcases htt with htt | htt
      · exact Nat.eq_of_beq_eq_true htt
      · exact absurd (Nat.eq_of_beq_eq_true htt) hk3
    subst this
    exact yrep_sl (row_rep' hys hr)

theorem Tms.of {s : St} {a : Act} {w : World} {h : Gh} (hf : FI nt s a w h) : Tms w h s.tm a := fun t v hv => (hf.tm t v hv).1

theorem demSt_fr (i : Id) (s : St) : (demSt i s).fr = s.fr ∧ (demSt i s).g.dp = s.g.dp ∧ (demSt i s).g.lp = s.g.lp := ⟨rfl, rfl, rfl⟩

theorem full_own {w : World} {h : Gh} {i : Id} {sz : Nat} {es : List (List D)} {v : Value} (hr : RepV w h.L (.full sz es) v) : RepA w h (.own i sz es) v := by
  simp only [RepA]; exact .inl hr

theorem nils_full {w : World} {L : Nat → Nat} {sz : Nat} : RepV w L (.full sz []) (.slice none 0 0) := by
  simp only [RepV]
  exact ⟨none, 0, [], rfl, rfl, by simp, by simp [RepF], .inl rfl⟩

/-- Onto a slice without room, or none. -/
theorem append_full (hT : TyOk P T) {rw : Bool} {o : Oper} {c : Call} (ho : o.op = .call c) {x y : Operand} {t t2 : TypeId} (hcl : c.callee = .builtin .append) (hargs : c.args = #[x, y]) (htys : c.argTypes = #[t, t2])
    {dst : Nat} (hdst : o.dst = some dst) (hd : dst < nt) {ti te : TI} (hti : T t = some ti) (hk : ti.kind = 2) (hte : T ti.elem = some te) {s : St} {a : Act} {w : World} {h : Gh}
    (hf : FI nt s a w h) (hr : Rel g0 h0 w0 s.g w h) (hdp : g0.dp < s.g.dp) (hfr : s.fr dst = false) {es ys : List (List D)} (h1 : 1 ≤ te.size) (hfit : Nat.ble ((es.length + ys.length) * (te.bytes + 1)) most = true)
    (hx : RepV w h.L (.full te.size es) (a.eval x)) (hy : YRep P w h.L t t2 te ys (a.eval y)) (hrc : rawC rw es.length ys.length = true) :
    Steps1 P nt g0 h0 w0 o { tm := upd s.tm dst (some (rowAV (rawK rw es.length) (.tmp s.g.dp dst 0) te.size (es ++ ys))), fr := setFr s.fr dst, g := s.g } a w := by
  have hx0 := hx
  simp only [RepV] at hx
  obtain ⟨ax, n, vs, hxe, hn, hus, hrf, hm⟩ := hx
  obtain ⟨us, hsrc, hyus, hyrf, hyone⟩ := hy
  subst hn
  have hty := hT t ti hti
  have hu := hty.und hk
  by_cases hy0 : ys.length = 0
  · have hys : ys = [] := List.length_eq_zero_iff.1 hy0
    subst hys
    have hrun := run_append_none (P := P) (ty := o.type) hu ((hT _ te hte).size w) ax es.length es.length (Nat.le_refl _) hsrc
    refine ⟨_, w, _, h, exec_append ho hcl hargs htys (by rw [hxe]; exact hrun), .inl ⟨_, rfl, rfl⟩, ?_, hr⟩
    rw [hdst, List.append_nil]
    exact hf.take hr hd (full_row (by rw [← hxe]; exact hx0) (limK_len rw es) (rawC_nil hrc))
  · refine append_new hT ho hcl hargs htys hdst hd hti hk hte hf hr hdp hfr h1 hfit hxe hus hrf (by omega) ?_ hsrc hy0 hyus hyrf hyone
    rcases hm with hm | ⟨b, o'', rfl, hL, hc⟩
    · have he : es = [] := List.length_eq_zero_iff.1 hm
      subst he
      have hv : vs = [] := by simpa [RepF] using hrf
      subst hv
      cases ax with
      | none => exact .inl ⟨rfl, rfl, rfl⟩
      | some ad => exact .inr (.inl ⟨ad, rfl, rfl⟩)
    · exact .inr (.inr ⟨b, o'', rfl, hc⟩)

theorem appendA_sound (hT : TyOk P T) {o : Oper} {c : Call} (ho : o.op = .call c) {x y : Operand} {t t2 : TypeId} (hcl : c.callee = .builtin .append) (hargs : c.args = #[x, y]) (htys : c.argTypes = #[t, t2])
    {ti ti2 : TI} (hti : T t = some ti) (ht2 : T t2 = some ti2) (htt : (Nat.beq t t2 || Nat.beq ti2.kind 3) = true) {dst : Nat} (hdst : o.dst = some dst) (hd : dst < nt) {s s' : St} {a : Act} {w : World} {h : Gh}
    (hf : FI nt s a w h) (hr : Rel g0 h0 w0 s.g w h) (hdp : g0.dp < s.g.dp) {rw : Bool} (hs : appendA T rw dst ti ti2 x y s = some s') : Steps1 P nt g0 h0 w0 o s' a w := by
  unfold appendA at hs
  · split at hs
    · rename_i te hk hte
      split at hs
      · rename_i ax ay hx hy
        split at hs
        · rename_i ys hys
          have hyr := rowS_rep hT hti ht2 htt hk hys (ev_rep (Tms.of hf) hy)
          have hxr := ev_rep (Tms.of hf) hx
          split at hs
          · -- an owned row
            rename_i i sz es
            split at hs
            case isFalse => cases hs
            rename_i hc
            simp only [Bool.and_eq_true, Nat.beq_eq, Nat.ble_eq] at hc
            obtain ⟨⟨⟨hsz, hfit⟩, h1⟩, hrc⟩ := hc
            subst hsz
            obtain ⟨hfr, rfl⟩ := putOwn_some hs
            have hok := ev_ok (fun t v hv => (hf.tm t v hv).2) hx
            simp only [AV.ok] at hok
            obtain ⟨f1, n1⟩ := hf.dem i
            have r1 := hr.dem i
            have hfit' : Nat.ble ((es.length + ys.length) * (te.bytes + 1)) most = true := by simpa using hfit
            have hid : ∀ d t k, i = .tmp d t k → g0.dp < d := by
              intro d t k e
              subst e
              rw [hok.1]; exact hdp
            simp only [RepA] at hxr
            rcases hxr with hxr | hxr
            · exact append_full hT ho hcl hargs htys hdst hd hti hk hte f1 r1 hdp hfr h1 hfit' hxr hyr hrc
            · have hxr0 := hxr
              obtain ⟨b, n, cp, vs, cc, e, hxe, hn, hncp, hus, hrf, hga, hL, hheap, hroom, hcells⟩ := hxr
              obtain ⟨us, hsrc, hyus, hyrf, hyone⟩ := hyr
              subst hn
              have hty := hT t ti hti
              have hte' := hT _ te hte
              have hu := hty.und hk
              obtain ⟨inf, z, hi, hsi, hby, hz, hzc⟩ := hte'.info
              have nf : NoIn (.tmp (demSt i s).g.dp dst 0) (demSt i s) := noIn_fresh f1 hfr
              by_cases hy0 : ys.length = 0
              · have hys : ys = [] := List.length_eq_zero_iff.1 hy0
                subst hys
                have hrun := run_append_none (P := P) (ty := o.type) hu (hte'.size w) (some ⟨b, 0, none⟩) es.length cp hncp hsrc
                have f2 := f1.ren n1 nf (fun d t k e => by cases e; exact Nat.le_refl _)
                have r2 := r1.ren (i := i) (j := .tmp (demSt i s).g.dp dst 0) hid (fun d t k e => by cases e; exact hdp)
                refine ⟨_, w, _, _, exec_append ho hcl hargs htys (by rw [hxe]; exact hrun), .inl ⟨_, rfl, rfl⟩, ?_, r2⟩
                rw [hdst, List.append_nil]
                refine f2.take r2 hd ?_
                have : RepA w h (.own i te.size es) (.slice (some ⟨b, 0, none⟩) es.length cp) := by
                  simp only [RepA]; exact .inr (by rw [← hxe]; exact hxr0)
                exact own_row (Owned.ren this) (limK_len rw es) (rawC_nil hrc)
              · · by_cases hcap : es.length + ys.length ≤ cp
                  · -- there is room
                    have hl1 : vs.length = es.length * te.size := hrf.length hus
                    have hl2 : us.length = ys.length * te.size := hyrf.length hyus
                    have hle : (es.length + ys.length) * te.size ≤ cp * te.size := Nat.mul_le_mul_right _ hcap
                    have hle2 : es.length * te.size + us.length ≤ cc.size := by rw [hl2, ← Nat.add_mul]; omega
                    have hrun := run_append_room' (P := P) t t2 o.type ti.elem e inf hu hi b es.length cp cc hheap (by rw [hsi]; exact hsrc) hy0 hyone hcap (by rw [hsi]; exact hle2)
                    rw [hsi] at hrun
                    have hvcell : ∀ (k : Nat) (u : Value), vs[k]? = some u → cc[k]? = some u := by
                      intro k u hk'
                      have := (hcells k u hk').1
                      simp only [World.cell?, hheap, Nat.zero_add] at this
                      simpa using this
                    obtain ⟨f2, r2⟩ := f1.extend r1 (i := i) (j := .tmp (demSt i s).g.dp dst 0) n1 nf hid (fun d t k e => by cases e; rfl) hdp (b := b) (m := es.length * te.size) (n := limK (rawK rw es.length) (es ++ ys).length * te.size)
                      (cc' := (cc.toList.take (es.length * te.size) ++ us ++ cc.toList.drop (es.length * te.size + us.length)).toArray) hga hheap hL (Nat.mul_le_mul_right _ (by cases rw <;> simp [limK, rawK]))
                      (by
                        intro k hk'
                        simp only [List.append_assoc, List.getElem?_toArray]
                        rw [List.getElem?_append_left (by simp; omega), List.getElem?_take, if_pos hk']
                        simp)
                    refine ⟨_, _, _, _, exec_append ho hcl hargs htys (by rw [hxe]; exact hrun), .inl ⟨_, rfl, rfl⟩, ?_, r2⟩
                    rw [hdst]
                    refine f2.take r2 hd ?_
                    have hE : Ext w h.L (w.setRow b (cc.toList.take (es.length * te.size) ++ us ++ cc.toList.drop (es.length * te.size + us.length)).toArray) (LNew h.L b (limK (rawK rw es.length) (es ++ ys).length * te.size)) := by
                      refine ⟨fun k => ?_, fun k q hq => ?_⟩
                      · unfold LNew
                        split
                        · rename_i e; rw [e, hL]; exact Nat.mul_le_mul_right _ (by cases rw <;> simp [limK, rawK])
                        · exact Nat.le_refl _
                      · by_cases hk : k = b
                        · subst hk
                          rw [hL] at hq
                          rw [cell_setRow_same w k q cc _ e (0, 0) hheap]
                          simp only [World.cell?, hheap]
                          simp only [List.append_assoc, List.getElem?_toArray]
                          rw [List.getElem?_append_left (by simp; omega), List.getElem?_take, if_pos hq]
                          simp
                        · exact cell_setRow_other w b _ ⟨k, q, none⟩ hk
                    refine rowAV_rep (vs := vs ++ us) (e := e) (by simp) hcap (by cases rw <;> simp [limK, rawK]) ?_ (RepF.ext hE _ _ (RepF.append hrf hyrf)) ?_ ?_ (setRow_heap w b cc _ e (0, 0) hheap) ?_ ?_
                    · intro q hq
                      rcases List.mem_append.1 hq with hq | hq
                      · exact hus q hq
                      · exact hyus q hq
                    · simp [renGa, hga]
                    · simp [LNew]
                    · simp; omega
                    · intro k u hk'
                      rw [Nat.zero_add, cell_setRow_same w b k cc _ e (0, 0) hheap]
                      refine ⟨?_, ?_⟩
                      · simp only [List.append_assoc, List.getElem?_toArray]
                        by_cases hlt : k < es.length * te.size
                        · rw [List.getElem?_append_left (by omega)] at hk'
                          rw [List.getElem?_append_left (by simp; omega), List.getElem?_take, if_pos hlt]
                          simpa using hvcell k u hk'
                        · rw [List.getElem?_append_right (by omega)] at hk'
                          rw [List.getElem?_append_right (by simp; omega)]
                          have hlt2 : k - vs.length < us.length := (List.getElem?_eq_some_iff.1 hk').1
                          have hmin : (cc.toList.take (es.length * te.size)).length = vs.length := by simp; omega
                          rw [hmin, List.getElem?_append_left hlt2, hk']
                      · rcases List.mem_append.1 (List.mem_of_getElem? hk') with hm | hm
                        · exact hcells.one u hm
                        · exact hyone u hm
                  · exact append_new hT ho hcl hargs htys hdst hd hti hk hte f1 r1 hdp hfr h1 hfit' hxe hus hrf (by omega) (.inr (.inr ⟨b, 0, rfl, hcells⟩)) hsrc hy0 hyus hyrf hyone
          · -- nil
            split at hs
            case isFalse => cases hs
            rename_i hc
            simp only [Bool.and_eq_true, Nat.ble_eq] at hc
            obtain ⟨hfit, h1⟩ := hc
            obtain ⟨hfr, rfl⟩ := putOwn_some hs
            simp only [RepA, RepV] at hxr
            have := append_full hT (rw := rw) ho hcl hargs htys hdst hd hti hk hte hf hr hdp hfr (es := []) (ys := ys) h1 (by simpa using hfit) (by rw [hxr]; exact nils_full) hyr (by cases rw <;> rfl)
            simpa using this
          · rename_i sz es
            split at hs
            case isFalse => cases hs
            rename_i hc
            simp only [Bool.and_eq_true, Nat.beq_eq, Nat.ble_eq] at hc
            obtain ⟨⟨⟨hsz, hfit⟩, h1⟩, hrc⟩ := hc
            subst hsz
            obtain ⟨hfr, rfl⟩ := putOwn_some hs
            simp only [RepA] at hxr
            exact append_full hT ho hcl hargs htys hdst hd hti hk hte hf hr hdp hfr h1 (by simpa using hfit) hxr hyr hrc
          · cases hs
        · cases hs
      · cases hs
    · cases hs
end
end Go.Abs
