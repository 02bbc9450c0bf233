/- The operations that touch boxes and rows: sound. -/
import Derived.Test.YtehkgiofchmpaaaDoorAbsStep
namespace Go.Abs
open Go
set_option linter.unusedVariables false
set_option linter.unusedSimpArgs false

section
variable {P : Program} {T : Nat → Option TI} {g0 : G} {h0 : Gh} {w0 : World} {nt : Nat}

theorem run_alloc {t : TypeId} {ti : TI} (hf : TyFact P t ti) (w : World) : ∃ c : Array Value, (Instr.alloc t true (.tuple #[])).run P w = .ok (.pointer (some ⟨w.heap.size, 0, none⟩)) (w.alloc (.cells c t (0, 0))) ∧ c.toList = ti.zero.map D.zv := by
  obtain ⟨i, z, hi, hs, hb, hz, hc⟩ := hf.info
  refine ⟨z.cells, ?_, hc⟩
  simp [Instr.alloc, zeroValue, typeInfo, hi, hz, newVar, newRow]

theorem allocA_sound (hT : TyOk P T) {o : Oper} {dst : Nat} {t : TypeId} (ho : o.op = .alloc t) (hdst : o.dst = some dst) (hd : dst < nt) {s s' : St} {a : Act} {w : World} {h : Gh}
    (hf : FI nt s a w h) (hr : Rel g0 h0 w0 s.g w h) (hdp : g0.dp < s.g.dp) (hs : allocA T dst t s = some s') : Steps1 P nt g0 h0 w0 o s' a w := by
  unfold allocA at hs
  split at hs
  · rename_i ti hti hbx
    simp only [Option.some.injEq] at hs; subst hs
    have hty := hT t ti hti
    obtain ⟨c, hrun, hc⟩ := run_alloc hty w
    obtain ⟨g1, g2⟩ := RepVs.plain (w := w) (L := h.L) hty.plain
    obtain ⟨n1, n2⟩ := hf.newBox hr hbx hd hdp (cs := ti.zero.map .d) (c := c) (e := t) hty.mark (RepBx.noOwn (w' := w) (h' := h) (RepAs.of_d (by rw [hc]; exact g1)) (fun i sz es hh => by rw [List.getElem?_map] at hh; cases hz : ti.zero[1]? <;> simp [hz] at hh)) (oks_d _) (by rw [hc]; exact g2)
    exact ⟨_, _, _, _, by simp [execOp, ho, hrun]; rfl, .inl ⟨_, rfl, by rw [hdst]⟩, n1, n2⟩
  · cases hs

mutual
  theorem AV.ok.upto {Q : Id → Prop} {g : G} {m n : Nat} {Y Y' : Nat → Prop} : ∀ (a : AV), AV.upto n a = true → a.ok Q (KG g m) Y → a.ok Q (KG g n) Y'
    | .d _, _, _ => by simp [AV.ok]
    | .own _ _ _, _, h => by simpa only [AV.ok] using h
    | .ptr d1 t _, hu, h => by
      simp only [AV.ok, AV.upto, Nat.ble_eq] at h hu ⊢
      exact ⟨hu, h.2⟩
    | .fn _ caps, hu, h => by simp only [AV.ok, AV.upto] at h hu ⊢; exact AV.oks.upto caps hu h
    | .tup xs, hu, h => by simp only [AV.ok, AV.upto] at h hu ⊢; exact AV.oks.upto xs hu h
    | .yld _, hu, _ => by simp [AV.upto] at hu
    | .raw _ _ _ _ _, _, h => by simpa only [AV.ok] using h
    | .old _ _ _, _, _ => by simp [AV.ok]
  theorem AV.oks.upto {Q : Id → Prop} {g : G} {m n : Nat} {Y Y' : Nat → Prop} : ∀ (as : List AV), AV.uptos n as = true → AV.oks Q (KG g m) Y as → AV.oks Q (KG g n) Y' as
    | [], _, _ => by simp [AV.oks]
    | a :: as, hu, h => by
      simp only [AV.oks, AV.uptos, Bool.and_eq_true] at h hu ⊢
      exact ⟨AV.ok.upto a hu.1 h.1, AV.oks.upto as hu.2 h.2⟩
end

/-- A value that is of one cell, and no owned row. -/
theorem RepA.one {w : World} {h : Gh} : ∀ {a : AV} {v : Value}, RepA w h a v → noTup a = true → (∀ cs, a ≠ .d (.agg cs)) → v.oneCell' = true
  | .d x, v, hr, _, hn => by simp only [RepA] at hr; exact hr.one fun cs e => hn cs (by rw [e])
  | .own i sz es, v, hr, _, _ => by
    have := hr.own_sl
    simp only [RepV] at this
    obtain ⟨_, _, _, _, rfl, _⟩ := this
    rfl
  | .ptr _ _ _, v, hr, _, _ => by simp only [RepA] at hr; obtain ⟨_, _, rfl⟩ := hr; rfl
  | .fn _ _, v, hr, _, _ => by simp only [RepA] at hr; obtain ⟨_, rfl, _⟩ := hr; rfl
  | .yld _, v, hr, _, _ => by simp only [RepA] at hr; subst hr; rfl
  | .tup _, _, _, hn, _ => by simp [noTup] at hn
  | .raw _ _ _ _ _, v, hr, _, _ => hr.raw_one
  | .old _ _ _, v, hr, _, _ => by simp only [RepA] at hr; exact hr.one

theorem cells_one {v : Value} (h : v.oneCell' = true) : v.cells = #[v] := by cases v <;> first | rfl | simp [Value.oneCell'] at h

/-- The name of the row in a value, if it is one. -/
def ownId : AV → Option Id
  | .own i _ _ => some i
  | .raw _ _ i _ _ => some i
  | _ => none

theorem ok_noOwn {Q Q' : Id → Prop} {K : Nat → Nat → Prop} {Y : Nat → Prop} : ∀ {a : AV}, a.ok Q K Y → noTup a = true → ownId a = none → a.ok Q' K Y
  | .d _, _, _, _ => by simp [AV.ok]
  | .own _ _ _, _, _, h => by simp [ownId] at h
  | .ptr _ _ _, h, _, _ => by simpa only [AV.ok] using h
  | .fn _ _, h, _, _ => by simpa only [AV.ok] using h
  | .yld _, h, _, _ => by simpa only [AV.ok] using h
  | .tup _, _, hn, _ => by simp [noTup] at hn
  | .raw _ _ _ _ _, _, _, h => by simp [ownId] at h
  | .old _ _ _, _, _, _ => by simp [AV.ok]

/-- What a value becomes as the content of a box: the frame lets the names go; an owned row goes over to the box's name. -/
theorem boxCells_sound {ti : TI} {nm : Id} (hnm : IsBox nm) {a : AV} {cs : List AV} (hc : boxCells ti nm a = some cs) {s : St} {act : Act} {w : World} {h : Gh}
    (hf : FI nt s act w h) (hr : Rel g0 h0 w0 s.g w h) (hdp : g0.dp < s.g.dp) {v : Value} (hrep : RepA w h a v) (hok : a.ok (TmQ s.fr s.g.dp) (KG s.g s.g.dp) (YG s.g s.g.dp)) :
    ∃ h', FI nt (letIn nm a s) act w h' ∧ Rel g0 h0 w0 (letIn nm a s).g w h' ∧ RepAs w h' cs v.cells.toList ∧ (∀ u ∈ v.cells.toList, u.oneCell' = true) ∧
      AV.oks IsBox (KG s.g s.g.dp) (YG s.g s.g.dp) cs ∧ (ti.agg = true → cs.length = ti.size ∧ ∃ cv, v = .agg cv) ∧ (ti.agg = false → cs.length = 1 ∧ v.oneCell' = true) ∧ h'.be = h.be := by
  unfold boxCells at hc
  have plainCase : ∀ (hno : ownId a = none), letIn nm a s = demSt nm s := by
    intro hno
    cases a <;> first | rfl | (simp [ownId] at hno)
  split at hc
  · rename_i hagg
    split at hc
    · rename_i x hdata
      split at hc
      case isFalse => cases hc
      rename_i hlen
      simp only [Option.some.injEq] at hc; subst hc
      have hx := hrep.data a _ v hdata
      have hno : ownId a = none := by
        cases a <;> first | rfl | (simp [AV.data] at hdata)
      rw [plainCase hno]
      obtain ⟨f1, _⟩ := hf.dem nm
      simp only [RepV] at hx
      obtain ⟨cv, rfl, hcv, h1⟩ := hx
      refine ⟨h, f1, hr.dem nm, RepAs.of_d (by simpa [Value.cells] using hcv), by simpa [Value.cells] using h1, oks_d _, fun _ => ⟨by simpa using hlen, cv, rfl⟩, (fun hh => by rw [hagg] at hh; cases hh), rfl⟩
    · cases hc
  · rename_i hagg
    split at hc
    · -- an owned row
      rename_i i sz es
      simp only [Option.some.injEq] at hc; subst hc
      have h1 : v.oneCell' = true := hrep.one rfl (by intro cs e; cases e)
      obtain ⟨f1, n1⟩ := hf.dem i
      obtain ⟨f2, n2⟩ := f1.dem nm
      have hjd : ∀ d t k, nm = .tmp d t k → d ≤ (demSt nm (demSt i s)).g.dp := by
        intro d t k e; rw [e] at hnm; exact hnm.elim
      have hi : ∀ d t k, i = .tmp d t k → g0.dp < d := by
        intro d t k e
        subst e
        simp only [AV.ok] at hok
        rw [hok.1]; exact hdp
      have f3 := f2.ren (n1.dem nm) n2 hjd
      refine ⟨{ h with ga := renGa h.ga i nm }, f3, ((hr.dem i).dem nm).ren hi (by intro d t k e; rw [e] at hnm; exact hnm.elim), ?_, ?_, ?_, (fun hh => by rw [hagg] at hh; cases hh), (fun _ => ⟨rfl, h1⟩), rfl⟩
      · rw [cells_one h1]
        exact ⟨v, [], rfl, Owned.ren hrep, rfl⟩
      · rw [cells_one h1]; simpa using h1
      · exact ⟨by simpa only [AV.ok] using hnm, trivial⟩
    · -- a raw row
      rename_i o k i sz es
      split at hc
      case h_2 => cases hc
      simp only [Option.some.injEq] at hc; subst hc
      have h1 : v.oneCell' = true := hrep.one rfl (by intro cs e; cases e)
      obtain ⟨f1, n1⟩ := hf.dem nm
      have hi : ∀ d t k, i = .tmp d t k → g0.dp < d := by
        intro d t k e
        subst e
        simp only [AV.ok] at hok
        rw [hok.1]; exact hdp
      have f3 := f1.renAll (i := i) n1 hnm
      refine ⟨{ h with ga := renGa h.ga i nm }, f3, (hr.dem nm).renSt hi (by intro d t k e; rw [e] at hnm; exact hnm.elim), ?_, ?_, ?_, (fun hh => by rw [hagg] at hh; cases hh), (fun _ => ⟨rfl, h1⟩), rfl⟩
      · rw [cells_one h1]
        exact ⟨v, [], rfl, RawRow.ren hrep, rfl⟩
      · rw [cells_one h1]; simpa using h1
      · exact ⟨by simpa only [AV.ok] using hnm, trivial⟩
    · cases hc
    · cases hc
    · cases hc
    · rename_i hnOwn hnRaw hnJunk hnTup hnAgg
      simp only [Option.some.injEq] at hc; subst hc
      have hno : ownId a = none := by
        cases a <;> first | rfl | exact absurd rfl (hnOwn _ _ _) | exact absurd rfl (hnRaw _ _ _ _ _)
      have hnt : noTup a = true := by
        cases a <;> first | rfl | exact absurd rfl (hnTup _)
      have h1 : v.oneCell' = true := hrep.one hnt (fun cs e => hnAgg cs e)
      rw [plainCase hno]
      obtain ⟨f1, _⟩ := hf.dem nm
      refine ⟨h, f1, hr.dem nm, ?_, ?_, ⟨ok_noOwn hok hnt hno, trivial⟩, (fun hh => by rw [hagg] at hh; cases hh), (fun _ => ⟨rfl, h1⟩), rfl⟩
      · rw [cells_one h1]; exact ⟨v, [], rfl, hrep, rfl⟩
      · rw [cells_one h1]; simpa using h1

theorem letIn_dp (nm : Id) (a : AV) (s : St) : (letIn nm a s).g.dp = s.g.dp ∧ (letIn nm a s).fr = s.fr ∧ (letIn nm a s).g.lp = s.g.lp ∧ ∀ d t, ((letIn nm a s).g.bx d t).isSome = (s.g.bx d t).isSome := by
  cases a with
  | own i z es => exact ⟨rfl, rfl, rfl, fun d t => by show (demBx nm (demBx i s.g.bx) d t).isSome = _; rw [demBx_isSome, demBx_isSome]⟩
  | raw o k i z es => exact ⟨rfl, rfl, rfl, fun d t => by show (renBx i nm (demBx nm s.g.bx) d t).isSome = _; rw [renBx_isSome, demBx_isSome]⟩
  | _ => exact ⟨rfl, rfl, rfl, fun d t => by show (demBx nm s.g.bx d t).isSome = _; rw [demBx_isSome]⟩

theorem KG_let {s : St} {nm : Id} {a : AV} {n : Nat} : ∀ d t, KG s.g n d t → KG (letIn nm a s).g n d t := by
  intro d t hk
  refine ⟨hk.1, ?_⟩
  rw [(letIn_dp nm a s).2.2.2]
  exact hk.2

theorem boxA_sound (hT : TyOk P T) {o : Oper} {dst : Nat} {t : TypeId} {x : Operand} (ho : o.op = .box t x) (hdst : o.dst = some dst) (hd : dst < nt) {s s' : St} {a : Act} {w : World} {h : Gh}
    (hf : FI nt s a w h) (hr : Rel g0 h0 w0 s.g w h) (hdp : g0.dp < s.g.dp) (hs : boxA T dst t x s = some s') : Steps1 P nt g0 h0 w0 o s' a w := by
  unfold boxA at hs
  split at hs
  · rename_i ti av hti hbx hx
    split at hs
    · rename_i cs hcs
      simp only [Option.some.injEq] at hs; subst hs
      have htm : Tms w h s.tm a := fun t v hv => (hf.tm t v hv).1
      have hrep := ev_rep htm hx
      have hok := ev_ok (fun t v hv => (hf.tm t v hv).2) hx
      obtain ⟨h', f1, r1, c1, c2, c3, _⟩ := boxCells_sound (nm := .box s.g.dp dst 0) trivial hcs hf hr hdp hrep hok
      have e := letIn_dp (.box s.g.dp dst 0) av s
      have hnone : (letIn (.box s.g.dp dst 0) av s).g.bx (letIn (.box s.g.dp dst 0) av s).g.dp dst = none := by
        have h1 : ((letIn (.box s.g.dp dst 0) av s).g.bx (letIn (.box s.g.dp dst 0) av s).g.dp dst).isSome = false := by
          rw [e.2.2.2, e.1, hbx]; rfl
        exact Option.isSome_eq_false_iff.1 h1 |> Option.isNone_iff_eq_none.1
      have c3' : AV.oks IsBox (KG (letIn (.box s.g.dp dst 0) av s).g (letIn (.box s.g.dp dst 0) av s).g.dp) (YG (letIn (.box s.g.dp dst 0) av s).g (letIn (.box s.g.dp dst 0) av s).g.dp) cs := by
        refine AV.oks.mono (fun _ h => h) ?_ ?_ _ c3
        · intro d t hk
          have := KG_let (nm := .box s.g.dp dst 0) (a := av) d t hk
          rw [e.1]; exact this
        · intro l hl
          obtain ⟨r, h1, h2⟩ := hl
          refine ⟨r, ?_, ?_⟩
          · rw [e.2.2.1]; exact h1
          · rw [e.1]; exact h2
      have hdp' : g0.dp < (letIn (.box s.g.dp dst 0) av s).g.dp := by
        rw [e.1]; exact hdp
      obtain ⟨n1, n2⟩ := f1.newBox r1 hnone hd hdp' (cs := cs) (c := (a.eval x).cells) (e := t) (ty := (0, 0)) (.inl rfl) (RepBx.plain c1 rfl) c3' c2
      have hdpeq : (letIn (.box s.g.dp dst 0) av s).g.dp = s.g.dp := e.1
      rw [hdpeq] at n1 n2
      exact ⟨_, _, _, _, by simp [execOp, ho, Instr.box, newVar, newRow]; rfl, .inl ⟨_, rfl, by rw [hdst]⟩, n1, n2⟩
    · cases hs
  · cases hs

/-! ### Writing into a box -/
theorem ext_setRow {w : World} {L : Nat → Nat} {b : Nat} {c : Array Value} (hL : L b = 0) : Ext w L (w.setRow b c) L where
  lim := fun _ => Nat.le_refl _
  cell := fun b' i hi => by
    have hne : b' ≠ b := by intro e; rw [e, hL] at hi; omega
    exact cell_setRow_other w b c ⟨b', i, none⟩ hne

def putBx (bx : Nat → Nat → Option Box) (d u : Nat) (bo : Box) : Nat → Nat → Option Box := fun d' u' => if Nat.beq d' d && Nat.beq u' u then some bo else bx d' u'

theorem putBx_eq (bx : Nat → Nat → Option Box) (d u : Nat) (bo : Box) (d' u' : Nat) : putBx bx d u bo d' u' = if d' = d ∧ u' = u then some bo else bx d' u' := by
  unfold putBx
  by_cases h : d' = d ∧ u' = u
  · rw [if_pos (by simp [h.1, h.2]), if_pos h]
  · rw [if_neg (by simpa using h), if_neg h]

theorem putBx_isSome {bx : Nat → Nat → Option Box} {d u : Nat} {bo b : Box} (h : bx d u = some b) (d' u' : Nat) : (putBx bx d u bo d' u').isSome = (bx d' u').isSome := by
  rw [putBx_eq]
  split
  · rename_i e; rw [e.1, e.2, h]; rfl
  · rfl

theorem FI.setBox {s : St} {a : Act} {w : World} {h : Gh} (hf : FI nt s a w h) (hr : Rel g0 h0 w0 s.g w h) {d u b : Nat} {bo : Box} (hbo : s.g.bx d u = some bo) (hfrz : bo.frz = false)
    (hbe : h.be d u = some b) {c c' : Array Value} {e : TypeId} (hheap : w.heap[b]? = some (.cells c e (0, 0))) {cs' : List AV} (hrep : RepBx w h bo.ty cs' c'.toList)
    (hok : AV.oks IsBox (KG s.g d) (YG s.g d) cs') (h1 : ∀ u ∈ c'.toList, u.oneCell' = true) :
    FI nt { s with g := { s.g with bx := putBx s.g.bx d u { bo with cells := cs' } } } a (w.setRow b c') h ∧ Rel g0 h0 w0 { s.g with bx := putBx s.g.bx d u { bo with cells := cs' } } (w.setRow b c') h := by
  have hL : h.L b = 0 ∧ (bo.ty.1 = 0 ∨ bo.ty.1 = e) := by
    obtain ⟨_, _, b2, c2, e2, h3, h4, _, _, h7⟩ := hf.gi.bx d u bo hbo
    rw [hbe] at h3; cases h3
    rw [hheap] at h4
    have he : e = e2.1 := by cases h4; rfl
    exact ⟨by rw [h7, hfrz]; rfl, by rw [he]; exact e2.2⟩
  obtain ⟨hL, hty⟩ := hL
  have hE := ext_setRow (w := w) (c := c') hL
  have hother : ∀ k, k ≠ b → (w.setRow b c').heap[k]? = w.heap[k]? := fun k hk => setRow_other w b k c' hk
  have hga : ∀ i b', h.ga i = some b' → h.ga i = some b' ∧ h.L b' = h.L b' ∧ (w.setRow b c').heap[b']? = w.heap[b']? := fun i b' hi => by
    refine ⟨hi, rfl, hother b' ?_⟩
    intro e; subst e
    exact hf.gi.gaBx i b' d u hi (by rw [hbo]; rfl) hbe
  have hK : ∀ n d' t', KG s.g n d' t' → KG { s.g with bx := putBx s.g.bx d u { bo with cells := cs' } } n d' t' := fun n d' t' hk => ⟨hk.1, by
    show (putBx s.g.bx d u { bo with cells := cs' } d' t').isSome = true
    rw [putBx_isSome hbo]; exact hk.2⟩
  have ext1 : ∀ {Q : Id → Prop} {K : Nat → Nat → Prop} {Y : Nat → Prop} (v : AV) (x : Value), v.ok Q K Y → RepA w h v x → RepA (w.setRow b c') h v x :=
    fun v x ho hh => RepA.ext hE (fun _ _ _ _ h => h) (fun _ _ => rfl) (fun i b' _ hi => hga i b' hi) v x ho hh
  have ext2 : ∀ {Q : Id → Prop} {K : Nat → Nat → Prop} {Y : Nat → Prop} {ty : Nat × Nat} (v : List AV) (x : List Value), AV.oks Q K Y v → RepBx w h ty v x → RepBx (w.setRow b c') h ty v x :=
    fun v x ho hh => RepBx.ext hE (fun _ _ _ _ h => h) (fun _ _ => rfl) (fun i b' _ hi => hga i b' hi) v x ho hh
  have hdef : ∀ D : Nat, w.heap[D]? = some (Obj.deferred (some [])) → (w.setRow b c').heap[D]? = some (Obj.deferred (some [])) := by
    intro D hD
    rw [hother D (by intro e; rw [e, hheap] at hD; cases hD), hD]
  refine ⟨⟨hf.size, ?_, ?_, ?_⟩, ?_⟩
  · intro t v hv
    obtain ⟨h5, h6⟩ := hf.tm t v hv
    exact ⟨ext1 v _ h6 h5, AV.ok.mono (fun _ h => h) (fun d' t' hk => hK _ d' t' hk) (fun _ h => h) v h6⟩
  · refine { bx := ?_, inj := ?_, gaBx := ?_, gaInj := hf.gi.gaInj, gaLt := ?_, gaC := ?_, lim := ?_, lp := ?_, roInj := hf.gi.roInj, gaTop := hf.gi.gaTop }
    · intro d' t' bo' hbo'
      have hq : putBx s.g.bx d u { bo with cells := cs' } d' t' = some bo' := hbo'
      rw [putBx_eq] at hq
      split at hq
      · rename_i hdt
        cases hq
        obtain ⟨rfl, rfl⟩ := hdt
        obtain ⟨g1, _⟩ := hf.gi.bx d' t' bo hbo
        refine ⟨g1, AV.oks.mono (fun _ h => h) (fun d t hk => hK _ d t hk) (fun _ h => h) _ hok, b, c', ⟨e, hty⟩, hbe, setRow_heap w b c c' e (0, 0) hheap, ext2 _ _ hok hrep, h1, ?_⟩
        show h.L b = if bo.frz then c'.size else 0
        rw [hfrz, hL]; rfl
      · rename_i hdt
        obtain ⟨g1, g2, b2, c2, e2, h3, h4, h5, h6, h7⟩ := hf.gi.bx d' t' bo' hq
        have hne : b2 ≠ b := by
          intro e; subst e
          exact hdt (hf.gi.inj d' t' d u b2 (by rw [hq]; rfl) (by rw [hbo]; rfl) h3 hbe)
        exact ⟨g1, AV.oks.mono (fun _ h => h) (fun d t hk => hK _ d t hk) (fun _ h => h) _ g2, b2, c2, e2, h3, by rw [hother b2 hne, h4], ext2 _ _ g2 h5, h6, h7⟩
    · intro d1 t1 d2 t2 b' h2 h3 h4 h5
      exact hf.gi.inj d1 t1 d2 t2 b' (by rw [← putBx_isSome (bo := { bo with cells := cs' }) hbo]; exact h2) (by rw [← putBx_isSome (bo := { bo with cells := cs' }) hbo]; exact h3) h4 h5
    · intro i b' d1 t1 hi hs
      exact hf.gi.gaBx i b' d1 t1 hi (by rw [← putBx_isSome (bo := { bo with cells := cs' }) hbo]; exact hs)
    · intro i b' hi
      rw [size_setRow]; exact hf.gi.gaLt i b' hi
    · intro i b' hi
      obtain ⟨c, e, hc⟩ := hf.gi.gaC i b' hi
      have hne : b' ≠ b := by
        intro e; subst e
        exact hf.gi.gaBx i b' d u hi (by rw [hbo]; rfl) hbe
      exact ⟨c, e, by rw [hother b' hne, hc]⟩
    · intro b' hb'
      rw [size_setRow] at hb'; exact hf.gi.lim b' hb'
    · intro l r hl
      obtain ⟨hp, D, tmps, h2, h3, h4, h5⟩ := hf.gi.lp l r hl
      refine ⟨hp, D, tmps, ?_, hdef D h3, h4, fun t v hv => ?_⟩
      · rw [hother _ (by intro e; rw [e, hheap] at h2; cases h2), h2]
      · obtain ⟨h6, h7⟩ := h5 t v hv
        exact ⟨ext1 v _ h7 h6, AV.ok.mono (fun _ h => h) (fun d' t' hk => hK _ d' t' hk) (fun _ h => h) v h7⟩
  · intro x hx D hD
    exact hdef D (hf.dfr x hx D hD)
  · have hmay := hr.bxMay d u b (by rw [hbo]; rfl) hbe
    exact
      { os := hr.os
        tape := hr.tape
        output := hr.output
        size := by rw [size_setRow]; exact hr.size
        ext := hr.ext.trans hE
        keep := fun b' hb' hm => by
          obtain ⟨a1, a2⟩ := hr.keep b' hb' hm
          have hne : b' ≠ b := by
            intro e; subst e
            rcases hmay with h2 | h2
            · omega
            · exact hm h2
          exact ⟨(hother b' hne).trans a1, a2⟩
        bxs := fun d' t' hs => by
          obtain ⟨a1, a2⟩ := hr.bxs d' t' hs
          exact ⟨by show (putBx s.g.bx d u { bo with cells := cs' } d' t').isSome = true; rw [putBx_isSome hbo]; exact a1, a2⟩
        ro := hr.ro
        ga := hr.ga
        bxMay := fun d' t' b' hs hb' => hr.bxMay d' t' b' (by rw [← putBx_isSome (bo := { bo with cells := cs' }) hbo]; exact hs) hb'
        gaMay := hr.gaMay
        lpMay := hr.lpMay
        lpLen := hr.lpLen }

theorem putBx_def (bx : Nat → Nat → Option Box) (d u : Nat) (bo : Box) : (fun d' u' => if Nat.beq d' d && Nat.beq u' u then some bo else bx d' u') = putBx bx d u bo := rfl

theorem storeB_sound (hT : TyOk P T) {o : Oper} {t : TypeId} {p x : Operand} (ho : o.op = .store t p x) (hdst : o.dst = none) {s s' : St} {a : Act} {w : World} {h : Gh}
    (hf : FI nt s a w h) (hr : Rel g0 h0 w0 s.g w h) (hdp : g0.dp < s.g.dp) {ti : TI} {d u off : Nat} {av : AV} (hti : T t = some ti) (hp : ev s.tm p = some (.ptr d u off)) (hx : ev s.tm x = some av)
    (hs : storeB ti d u off av s = some s') : Steps1 P nt g0 h0 w0 o s' a w := by
  unfold storeB at hs
  · split at hs
    · rename_i cs hcs
      simp only at hs
      split at hs
      · rename_i bo hbo
        split at hs
        case isFalse => cases hs
        rename_i hc
        simp only [Bool.and_eq_true, Bool.not_eq_true', Nat.ble_eq] at hc
        obtain ⟨⟨hlock, hup⟩, hlen⟩ := hc
        obtain ⟨hfrz, htyz⟩ := Box.unlock hlock
        simp only [Option.some.injEq] at hs; subst hs
        have hty := hT t ti hti
        have htm : Tms w h s.tm a := fun t v hv => (hf.tm t v hv).1
        have hrep := ev_rep htm hx
        have hok := ev_ok (fun t v hv => (hf.tm t v hv).2) hx
        have hprep := ev_rep htm hp
        simp only [RepA] at hprep
        obtain ⟨b, hb, hpe⟩ := hprep
        have hpok := ev_ok (fun t v hv => (hf.tm t v hv).2) hp
        simp only [AV.ok] at hpok
        obtain ⟨h', f1, r1, c1, c2, c3, c4, c5, c6⟩ := boxCells_sound (nm := .box d u off) trivial hcs hf hr hdp hrep hok
        obtain ⟨q1, q2, b2, c, e, q3, q4, ⟨q5, -⟩, q6, q7⟩ := f1.gi.bx d u bo hbo
        have hbb : h'.be d u = h.be d u := by rw [c6]
        rw [hbb, hb] at q3; cases q3
        have hl1 : (a.eval x).cells.toList.length = cs.length := c1.length
        have hcl : c.size = bo.cells.length := by simpa using q5.length
        have hcsok : AV.oks IsBox (KG (letIn (.box d u off) av s).g d) (YG (letIn (.box d u off) av s).g d) cs := by
          have e0 := letIn_dp (.box d u off) av s
          have h1 : AV.oks IsBox (KG s.g d) (YG s.g d) cs := by
            simp only [Bool.or_eq_true, Nat.beq_eq] at hup
            rcases hup with hup | hup
            · rw [hup]; exact c3
            · exact AV.oks.upto cs hup c3
          refine AV.oks.mono (fun _ h => h) (fun d' t' hk => KG_let d' t' hk) ?_ _ h1
          intro l hl
          obtain ⟨r, h1, h2⟩ := hl
          refine ⟨r, ?_, h2⟩
          rw [e0.2.2.1]; exact h1
        have hsz : cs.length = ti.size := by
          cases hag : ti.agg with
          | true => exact (c4 hag).1
          | false => rw [(c5 hag).1, hty.one hag]
        obtain ⟨n1, n2⟩ := f1.setBox r1 (d := d) (u := u) (b := b) hbo hfrz (by rw [hbb, hb]) q4
          (c' := (c.toList.take off ++ (a.eval x).cells.toList ++ c.toList.drop (off + (a.eval x).cells.toList.length)).toArray) (cs' := setCells bo.cells off cs)
          (by
            refine RepBx.plain ?_ htyz
            simp only [List.toList_toArray]
            unfold setCells
            rw [hl1]
            exact (q5.take.append c1).append q5.drop)
          (by
            unfold setCells
            refine oks_append (oks_append ?_ hcsok) ?_
            · exact oks_of fun y hy => oks_mem q2 y (List.mem_of_mem_take hy)
            · exact oks_of fun y hy => oks_mem q2 y (List.mem_of_mem_drop hy))
          (by
            intro v hv
            simp only [List.toList_toArray, List.mem_append] at hv
            rcases hv with (hv | hv) | hv
            · exact q6 v (List.mem_of_mem_take hv)
            · exact c2 v hv
            · exact q6 v (List.mem_of_mem_drop hv))
        refine ⟨.skip, w.setRow b (c.toList.take off ++ (a.eval x).cells.toList ++ c.toList.drop (off + (a.eval x).cells.toList.length)).toArray, a.put o.dst undef, h', ?_, .inr ⟨rfl, rfl⟩, ?_, ?_⟩
        · have hst := run_storeCells_at P b off e.1 (a.eval x).cells.toList 0 c w q4 (by rw [hl1]; omega) c2
          simp only [Nat.add_zero] at hst
          have hsizeOf := hty.size w
          have hcs2 : (a.eval x).cells.size = ti.size := by
            have : (a.eval x).cells.size = (a.eval x).cells.toList.length := by simp
            rw [this, hl1, hsz]
          simp [execOp, ho, hpe, Instr.storeAt, Instr.sureAddr, storeVar, hsizeOf, hcs2, hst]
        · rw [hdst]; exact n1
        · exact n2
      · cases hs
    · cases hs


/-! ### Rows -/
theorem RepVs.ofLen {w : World} {L : Nat → Nat} : ∀ {xs : List D} {vs : List Value}, RepVs w L xs vs → vs.length = xs.length := RepVs.length

theorem RepF.replicate {w : World} {L : Nat → Nat} {z : List D} {vz : List Value} (hz : RepVs w L z vz) : ∀ (n : Nat), RepF w L (List.replicate n z) (List.replicate n vz).flatten
  | 0 => by simp [RepF]
  | n + 1 => by
    simp only [List.replicate_succ, List.flatten_cons, RepF]
    exact ⟨_, _, rfl, hz, RepF.replicate hz n⟩

/-- One element put in the place of another. -/
theorem RepF.set {w : World} {L : Nat → Nat} {sz : Nat} : ∀ {es : List (List D)} {vs : List Value} {i : Nat} {e : List D} {us : List Value}, RepF w L es vs → (∀ x ∈ es, x.length = sz) →
    i < es.length → RepVs w L e us → e.length = sz → RepF w L (es.set i e) (vs.take (i * sz) ++ us ++ vs.drop (i * sz + us.length))
  | [], _, _, _, _, _, _, hi, _, _ => by simp at hi
  | x :: es, vs, 0, e, us, h, hs, _, he, hl => by
    simp only [RepF] at h
    obtain ⟨a, b, rfl, h1, h2⟩ := h
    have ha : a.length = sz := by rw [h1.length]; exact hs x (by simp)
    have hu : us.length = sz := by rw [he.length]; exact hl
    simp only [List.set_cons_zero, RepF]
    refine ⟨us, b, ?_, he, h2⟩
    simp [hu, ha]
  | x :: es, vs, i + 1, e, us, h, hs, hi, he, hl => by
    simp only [RepF] at h
    obtain ⟨a, b, rfl, h1, h2⟩ := h
    have ha : a.length = sz := by rw [h1.length]; exact hs x (by simp)
    have ih := RepF.set (i := i) h2 (fun y hy => hs y (by simp [hy])) (by simpa using hi) he hl
    simp only [List.set_cons_succ, RepF]
    refine ⟨a, _, ?_, h1, ih⟩
    have e1 : (i + 1) * sz = a.length + i * sz := by rw [Nat.succ_mul, ha, Nat.add_comm]
    rw [e1, List.take_append, List.drop_append, List.take_of_length_le (l := a) (by omega), List.drop_eq_nil_of_le (as := a) (by omega)]
    simp only [List.append_assoc, List.nil_append]
    rw [show a.length + i * sz - a.length = i * sz by omega, show a.length + i * sz + us.length - a.length = i * sz + us.length by omega]

/-! ### An element of a raw row is turned -/
mutual
  theorem AV.ok.setRaw {Q : Id → Prop} {K : Nat → Nat → Prop} {Y : Nat → Prop} {i : Id} {n sz : Nat} {c : List D} : ∀ (a : AV), a.ok Q K Y → (setRaw i n sz c a).ok Q K Y
    | .d _, _ => by simp [Go.Abs.setRaw, AV.ok]
    | .own _ _ _, h => by simpa only [Go.Abs.setRaw, AV.ok] using h
    | .ptr _ _ _, h => by simpa only [Go.Abs.setRaw, AV.ok] using h
    | .fn _ _, h => by simpa only [Go.Abs.setRaw, AV.ok] using h
    | .tup xs, h => by simp only [Go.Abs.setRaw, AV.ok] at h ⊢; exact AV.oks.setRaw xs h
    | .yld _, h => by simpa only [Go.Abs.setRaw, AV.ok] using h
    | .old _ _ _, _ => by simp [Go.Abs.setRaw, AV.ok]
    | .raw _ _ j _ _, h => by
      simp only [Go.Abs.setRaw, AV.ok] at h ⊢
      split
      · split <;> simp only [AV.ok] <;> exact h
      · exact h
  theorem AV.oks.setRaw {Q : Id → Prop} {K : Nat → Nat → Prop} {Y : Nat → Prop} {i : Id} {n sz : Nat} {c : List D} : ∀ (as : List AV), AV.oks Q K Y as → AV.oks Q K Y (setRaws i n sz c as)
    | [], _ => by simp [setRaws, AV.oks]
    | a :: as, h => by simp only [setRaws, AV.oks] at h ⊢; exact ⟨AV.ok.setRaw a h.1, AV.oks.setRaw as h.2⟩
end

theorem setBx_some {i : Id} {n sz : Nat} {c : List D} {bx : Nat → Nat → Option Box} {d t : Nat} {b : Box} (h : setBx i n sz c bx d t = some b) : ∃ b0, bx d t = some b0 ∧ b = { b0 with cells := setRaws i n sz c b0.cells } := by
  unfold setBx at h
  cases hb : bx d t with
  | none => simp [hb] at h
  | some b0 => simp [hb] at h; exact ⟨b0, rfl, h.symm⟩
theorem setBx_isSome (i : Id) (n sz : Nat) (c : List D) (bx : Nat → Nat → Option Box) (d t : Nat) : (setBx i n sz c bx d t).isSome = (bx d t).isSome := by
  unfold setBx; cases bx d t <;> rfl
theorem setTm_some {i : Id} {n sz : Nat} {c : List D} {tm : Nat → Option AV} {t : Nat} {a : AV} (h : setTm i n sz c tm t = some a) : ∃ a0, tm t = some a0 ∧ a = setRaw i n sz c a0 := by
  unfold setTm at h
  cases hb : tm t with
  | none => simp [hb] at h
  | some b0 => simp [hb] at h; exact ⟨b0, rfl, h.symm⟩

/-- The cells of a row with one element set. -/
def putRow (cc : Array Value) (m : Nat) (us : List Value) : Array Value := (cc.toList.take m ++ us ++ cc.toList.drop (m + us.length)).toArray

theorem putRow_size {cc : Array Value} {m : Nat} {us : List Value} (h : m + us.length ≤ cc.size) : (putRow cc m us).size = cc.size := by
  simp [putRow]; omega

theorem putRow_get {cc : Array Value} {m : Nat} {us : List Value} (h : m + us.length ≤ cc.size) (k : Nat) : (putRow cc m us)[k]? = if m ≤ k ∧ k < m + us.length then us[k - m]? else cc[k]? := by
  simp only [putRow, List.append_assoc, List.getElem?_toArray]
  by_cases h1 : k < m
  · rw [List.getElem?_append_left (by simp; omega), List.getElem?_take, if_pos h1, if_neg (by omega)]; simp
  · have hm : (cc.toList.take m).length = m := by simp; omega
    rw [List.getElem?_append_right (by omega), hm]
    by_cases h2 : k < m + us.length
    · rw [List.getElem?_append_left (by omega), if_pos (by omega)]
    · rw [List.getElem?_append_right (by omega), if_neg (by omega), List.getElem?_drop]
      rw [show m + us.length + (k - m - us.length) = k by omega]; simp

section
variable {w : World} {h : Gh} {i : Id} {b k n sz : Nat} {c : List D} {us : List Value} {cc : Array Value} {e : TypeId}

theorem ext_putRow (hheap : w.heap[b]? = some (.cells cc e (0, 0))) (hL : h.L b = k * sz) (hkn : k ≤ n) (hus : us.length = sz) (hfit : (n + 1) * sz ≤ cc.size) : Ext w h.L (w.setRow b (putRow cc (n * sz) us)) h.L where
  lim := fun _ => Nat.le_refl _
  cell := fun b' q hq => by
    have hle : k * sz ≤ n * sz := Nat.mul_le_mul_right _ hkn
    have hfit' : n * sz + us.length ≤ cc.size := by rw [hus]; rw [Nat.succ_mul] at hfit; exact hfit
    by_cases hb : b' = b
    · subst hb
      rw [hL] at hq
      rw [cell_setRow_same w b' q cc _ e (0, 0) hheap]
      simp only [World.cell?, hheap]
      rw [putRow_get hfit', if_neg (by omega)]
      simp
    · exact cell_setRow_other w b _ ⟨b', q, none⟩ hb

theorem heap_putRow (hheap : w.heap[b]? = some (.cells cc e (0, 0))) (hus : us.length = sz) (hfit : (n + 1) * sz ≤ cc.size) {b' : Nat} {c1 : Array Value} {e1 : TypeId} (h1 : w.heap[b']? = some (.cells c1 e1 (0, 0))) :
    ∃ c2, (w.setRow b (putRow cc (n * sz) us)).heap[b']? = some (.cells c2 e1 (0, 0)) ∧ c2.size = c1.size := by
  by_cases hb : b' = b
  · subst hb
    rw [hheap] at h1; cases h1
    exact ⟨_, setRow_heap w b' cc _ e (0, 0) hheap, putRow_size (by rw [hus]; rw [Nat.succ_mul] at hfit; exact hfit)⟩
  · exact ⟨c1, by rw [setRow_other w b b' _ hb, h1], rfl⟩

/-- What is needed of the row that is turned. -/
structure Turn (w : World) (h : Gh) (i : Id) (b k n sz : Nat) (c : List D) (us : List Value) (cc : Array Value) (e : TypeId) : Prop where
  inj : ∀ j, h.ga j = some b → j = i
  ga : h.ga i = some b
  heap : w.heap[b]? = some (.cells cc e (0, 0))
  lim : h.L b = k * sz
  low : k ≤ n
  pos : 1 ≤ sz
  rep : RepVs w h.L c us
  len : c.length = sz
  one : ∀ u ∈ us, u.oneCell' = true
  fit : (n + 1) * sz ≤ cc.size

theorem Turn.ext (ht : Turn w h i b k n sz c us cc e) : Ext w h.L (w.setRow b (putRow cc (n * sz) us)) h.L :=
  ext_putRow ht.heap ht.lim ht.low (by rw [ht.rep.length, ht.len]) ht.fit

theorem Turn.raw (ht : Turn w h i b k n sz c us cc e) {o : Option Nat} {k' : Nat} {j : Id} {z : Nat} {es : List (List D)} {v : Value} (hr : RepA w h (.raw o k' j z es) v) :
    RepA (w.setRow b (putRow cc (n * sz) us)) h (setRaw i n sz c (.raw o k' j z es)) v := by
  have hul : us.length = sz := by rw [ht.rep.length, ht.len]
  have hfit' : n * sz + us.length ≤ cc.size := by have := ht.fit; rw [hul]; rw [Nat.succ_mul] at this; exact this
  have hE := ht.ext
  have hold := hr.raw_old
  simp only [Go.Abs.setRaw]
  split
  · rename_i hij
    subst hij
    cases hz : Nat.beq z sz with
    | false => simp only [RepA]; exact hold
    | true =>
      have hz : z = sz := by simpa using hz
      subst hz
      simp only [RepA] at hr ⊢
      rcases hr with ⟨ho, ⟨hk, rfl⟩, hr⟩ | ⟨⟨hk, rfl⟩, h1, h2⟩ | ⟨b', m, cp, vs, c1, e1, hv, hm, hn, hc, hkn, hs, hf, hg, hL, hh, hrm, hcells⟩
      · exact .inl ⟨ho, ⟨hk, rfl⟩, hr.ext hE⟩
      · exact .inr (.inl ⟨⟨hk, rfl⟩, h1, h2⟩)
      · rw [ht.ga] at hg; cases hg
        rw [ht.heap] at hh; cases hh
        have hkk : k' = k := by
          rw [ht.lim] at hL
          have := ht.pos
          exact (Nat.eq_of_mul_eq_mul_right (by omega) hL).symm
        subst hkk
        have hvl : vs.length = m * z := by rw [hf.length hs, hn]
        have hf' := RepF.ext hE es vs hf
        have hrep' := RepVs.ext hE _ _ ht.rep
        refine .inr (.inr ⟨b, m, cp, (if n < es.length then vs.take (n * z) ++ us ++ vs.drop (n * z + us.length) else vs), _, e, hv, hm, by rw [List.length_set]; exact hn, hc, hkn, ?_, ?_, ht.ga, ht.lim, setRow_heap w b cc _ e (0, 0) ht.heap, by rw [putRow_size hfit']; exact hrm, ?_⟩)
        · intro x hx
          rcases List.mem_or_eq_of_mem_set hx with hx | rfl
          · exact hs x hx
          · exact ht.len
        · split
          · rename_i hlt
            exact RepF.set hf' hs hlt hrep' ht.len
          · rename_i hlt
            rw [List.set_eq_of_length_le (by omega)]; exact hf'
        · intro q u hq
          rw [Nat.zero_add, cell_setRow_same w b q cc _ e (0, 0) ht.heap, putRow_get hfit']
          have hcc : ∀ (q : Nat) (u : Value), vs[q]? = some u → cc[q]? = some u ∧ u.oneCell' = true := by
            intro q u hq
            have := hcells q u hq
            simp only [World.cell?, ht.heap, Nat.zero_add] at this
            exact ⟨by simpa using this.1, this.2⟩
          split at hq
          · rename_i hlt
            have hle : (n + 1) * z ≤ m * z := Nat.mul_le_mul_right _ (by omega)
            rw [Nat.succ_mul] at hle
            rw [List.append_assoc] at hq
            have htk : (vs.take (n * z)).length = n * z := by simp; omega
            by_cases h1 : q < n * z
            · rw [List.getElem?_append_left (by omega), List.getElem?_take, if_pos h1] at hq
              rw [if_neg (by omega)]; exact hcc q u hq
            · rw [List.getElem?_append_right (by omega), htk] at hq
              by_cases h2 : q < n * z + us.length
              · rw [List.getElem?_append_left (by omega)] at hq
                rw [if_pos (by omega)]
                exact ⟨hq, ht.one u (List.mem_of_getElem? hq)⟩
              · rw [List.getElem?_append_right (by omega), List.getElem?_drop] at hq
                rw [if_neg (by omega)]
                rw [show n * z + us.length + (q - n * z - us.length) = q by omega] at hq
                exact hcc q u hq
          · rename_i hlt
            have hlt' : q < vs.length := (List.getElem?_eq_some_iff.1 hq).1
            have hle : m * z ≤ n * z := Nat.mul_le_mul_right _ (by omega)
            rw [if_neg (by omega)]; exact hcc q u hq
  · rename_i hij
    refine RepA.raw_map hr hE fun b' hb' => ?_
    have hne : b' ≠ b := by
      intro e; subst e
      exact hij (ht.inj j hb').symm
    exact ⟨hb', rfl, setRow_other w b b' _ hne⟩

theorem Turn.own (ht : Turn w h i b k n sz c us cc e) {j : Id} {z : Nat} {es : List (List D)} {v : Value} (hr : RepA w h (.own j z es) v) : RepA (w.setRow b (putRow cc (n * sz) us)) h (.own j z es) v := by
  have hE := ht.ext
  simp only [RepA] at hr ⊢
  rcases hr with hr | ⟨b', m, cp, vs, c1, e1, rfl, hn, hc, hs, hf, hg, hL, hh, hrm, hcells⟩
  · exact .inl (hr.ext hE)
  · obtain ⟨c2, h2, h3⟩ := heap_putRow ht.heap (us := us) (by rw [ht.rep.length, ht.len]) ht.fit hh
    exact .inr ⟨b', m, cp, vs, c2, e1, rfl, hn, hc, hs, RepF.ext hE _ _ hf, hg, hL, h2, by rw [h3]; exact hrm, hcells.ext hE (by rw [hf.length hs, hL, hn]; omega)⟩

mutual
  theorem RepA.setRaw {Q : Id → Prop} {K : Nat → Nat → Prop} {Y : Nat → Prop} (ht : Turn w h i b k n sz c us cc e) : ∀ (a : AV) (v : Value), a.ok Q K Y → RepA w h a v → RepA (w.setRow b (putRow cc (n * sz) us)) h (setRaw i n sz c a) v
    | .d x, v, _, hr => by simp only [Go.Abs.setRaw, RepA] at hr ⊢; exact hr.ext ht.ext
    | .ptr _ _ _, v, _, hr => by simpa only [Go.Abs.setRaw, RepA] using hr
    | .yld _, v, _, hr => by simpa only [Go.Abs.setRaw, RepA] using hr
    | .old _ _ _, v, _, hr => by simpa only [Go.Abs.setRaw, RepA] using hr
    | .fn f caps, v, hok, hr => by
      simp only [Go.Abs.setRaw, RepA, AV.ok] at hr hok ⊢
      obtain ⟨cv, rfl, hcv⟩ := hr
      exact ⟨cv, rfl, RepAs.ext ht.ext (fun _ _ _ _ h => h) (fun _ _ => rfl) (fun _ _ h => h.elim) caps _ hok hcv⟩
    | .tup xs, v, hok, hr => by
      simp only [Go.Abs.setRaw, RepA, AV.ok] at hr hok ⊢
      obtain ⟨cv, rfl, hcv⟩ := hr
      exact ⟨cv, rfl, RepAs.setRaw ht xs _ hok hcv⟩
    | .own j z es, v, _, hr => by simp only [Go.Abs.setRaw]; exact ht.own hr
    | .raw o k' j z es, v, _, hr => ht.raw hr
  theorem RepAs.setRaw {Q : Id → Prop} {K : Nat → Nat → Prop} {Y : Nat → Prop} (ht : Turn w h i b k n sz c us cc e) : ∀ (as : List AV) (vs : List Value), AV.oks Q K Y as → RepAs w h as vs → RepAs (w.setRow b (putRow cc (n * sz) us)) h (setRaws i n sz c as) vs
    | [], vs, _, hr => by simpa only [setRaws, RepAs] using hr
    | a :: as, vs, hok, hr => by
      simp only [setRaws, RepAs, AV.oks] at hr hok ⊢
      obtain ⟨u, us', rfl, h1, h2⟩ := hr
      exact ⟨u, us', rfl, RepA.setRaw ht a u hok.1 h1, RepAs.setRaw ht as us' hok.2 h2⟩
end
end

theorem setRaws_get (i : Id) (n sz : Nat) (c : List D) : ∀ (as : List AV) (k : Nat), (setRaws i n sz c as)[k]? = (as[k]?).map (setRaw i n sz c)
  | [], k => by simp [setRaws]
  | a :: as, 0 => by simp [setRaws]
  | a :: as, k + 1 => by simp [setRaws, setRaws_get i n sz c as k]

theorem RepBx.setRaw {w : World} {h : Gh} {i : Id} {b k n sz : Nat} {c : List D} {us : List Value} {cc : Array Value} {e : TypeId} {Q : Id → Prop} {K : Nat → Nat → Prop} {Y : Nat → Prop} {ty : Nat × Nat} (ht : Turn w h i b k n sz c us cc e) (as : List AV) (vs : List Value) (ho : AV.oks Q K Y as) (hr : RepBx w h ty as vs) :
    RepBx (w.setRow b (putRow cc (n * sz) us)) h ty (setRaws i n sz c as) vs := by
  refine ⟨RepAs.setRaw ht as vs ho hr.1, fun hty j z es v hi hv => ?_⟩
  rw [setRaws_get] at hi
  cases ha : as[1]? with
  | none => rw [ha] at hi; cases hi
  | some a =>
    rw [ha] at hi
    simp only [Option.map_some, Option.some.injEq] at hi
    cases a with
    | own k' z' es' =>
      simp only [Abs.setRaw, AV.own.injEq] at hi
      obtain ⟨rfl, rfl, rfl⟩ := hi
      rcases hr.2 hty _ _ _ v ha hv with h1 | ⟨b', n', c', cc', h1, h2, h3, h4, h5, h6, h7⟩
      · exact .inl h1
      · obtain ⟨c2, q1, q2⟩ := heap_putRow ht.heap (us := us) (by rw [ht.rep.length, ht.len]) ht.fit h4
        exact .inr ⟨b', n', c', c2, h1, h2, h3, q1, h5, by rw [q2]; exact h6, h7⟩
    | raw o k' j' z' es' =>
      simp only [Abs.setRaw] at hi
      split at hi
      · split at hi <;> cases hi
      · cases hi
    | _ => simp only [Abs.setRaw] at hi; cases hi

theorem FI.setElem {s : St} {a : Act} {w : World} {h : Gh} (hf : FI nt s a w h) (hr : Rel g0 h0 w0 s.g w h) {i : Id} {b k n sz : Nat} {c : List D} {us : List Value} {cc : Array Value} {e : TypeId}
    (ht : Turn w h i b k n sz c us cc e) (hid : ∀ d t k, i = .tmp d t k → g0.dp < d) :
    FI nt (setSt i n sz c s) a (w.setRow b (putRow cc (n * sz) us)) h ∧ Rel g0 h0 w0 (setSt i n sz c s).g (w.setRow b (putRow cc (n * sz) us)) h := by
  have hE := ht.ext
  have hother : ∀ k, k ≠ b → (w.setRow b (putRow cc (n * sz) us)).heap[k]? = w.heap[k]? := fun k hk => setRow_other w b k _ hk
  have hK : ∀ n' d' t', KG s.g n' d' t' → KG (setSt i n sz c s).g n' d' t' := fun n' d' t' hk => ⟨hk.1, by
    show (setBx i n sz c s.g.bx d' t').isSome = true
    rw [setBx_isSome]; exact hk.2⟩
  have hdef : ∀ D : Nat, w.heap[D]? = some (Obj.deferred (some [])) → (w.setRow b (putRow cc (n * sz) us)).heap[D]? = some (Obj.deferred (some [])) := by
    intro D hD
    rw [hother D (by intro e; rw [e, ht.heap] at hD; cases hD), hD]
  refine ⟨⟨hf.size, ?_, ?_, ?_⟩, ?_⟩
  · intro t v hv
    obtain ⟨v0, hv0, rfl⟩ := setTm_some hv
    obtain ⟨h5, h6⟩ := hf.tm t v0 hv0
    exact ⟨RepA.setRaw ht v0 _ h6 h5, AV.ok.mono (fun _ h => h) (fun d' t' hk => hK _ d' t' hk) (fun _ h => h) _ (AV.ok.setRaw v0 h6)⟩
  · refine { bx := ?_, inj := ?_, gaBx := ?_, gaInj := hf.gi.gaInj, gaLt := ?_, gaC := ?_, lim := ?_, lp := ?_, roInj := hf.gi.roInj, gaTop := hf.gi.gaTop }
    · intro d' t' bo' hbo'
      obtain ⟨b0, hb0, rfl⟩ := setBx_some hbo'
      obtain ⟨g1, g2, b2, c2, e2, h3, h4, h5, h6, h7⟩ := hf.gi.bx d' t' b0 hb0
      have hne : b2 ≠ b := by
        intro e; subst e
        exact hf.gi.gaBx i b2 d' t' ht.ga (by rw [hb0]; rfl) h3
      exact ⟨g1, AV.oks.mono (fun _ h => h) (fun d t hk => hK _ d t hk) (fun _ h => h) _ (AV.oks.setRaw _ g2), b2, c2, e2, h3, by rw [hother b2 hne, h4], RepBx.setRaw ht _ _ g2 h5, h6, h7⟩
    · intro d1 t1 d2 t2 b' h2 h3 h4 h5
      simp only [setSt, setBx_isSome] at h2 h3
      exact hf.gi.inj d1 t1 d2 t2 b' h2 h3 h4 h5
    · intro j b' d1 t1 hi hs
      simp only [setSt, setBx_isSome] at hs
      exact hf.gi.gaBx j b' d1 t1 hi hs
    · intro j b' hi
      rw [size_setRow]; exact hf.gi.gaLt j b' hi
    · intro j b' hi
      obtain ⟨c1, e1, hc⟩ := hf.gi.gaC j b' hi
      obtain ⟨c2, h2, _⟩ := heap_putRow ht.heap (us := us) (by rw [ht.rep.length, ht.len]) ht.fit hc
      exact ⟨c2, e1, h2⟩
    · intro b' hb'
      rw [size_setRow] at hb'; exact hf.gi.lim b' hb'
    · intro l r hl
      obtain ⟨hp, D, tmps, h2, h3, h4, h5⟩ := hf.gi.lp l r hl
      refine ⟨hp, D, tmps, ?_, hdef D h3, h4, fun t v hv => ?_⟩
      · rw [hother _ (by intro e; rw [e, ht.heap] at h2; cases h2), h2]
      · obtain ⟨h6, h7⟩ := h5 t v hv
        exact ⟨RepA.ext hE (fun _ _ _ _ h => h) (fun _ _ => rfl) (fun _ _ h => h.elim) v _ h7 h6, AV.ok.mono (fun _ h => h) (fun d' t' hk => hK _ d' t' hk) (fun _ h => h) v h7⟩
  · intro x hx D hD
    exact hdef D (hf.dfr x hx D hD)
  · have hmay := hr.gaMay i b hid ht.ga
    exact
      { os := hr.os
        tape := hr.tape
        output := hr.output
        size := by rw [size_setRow]; exact hr.size
        ext := hr.ext.trans hE
        keep := fun b' hb' hm => by
          obtain ⟨a1, a2⟩ := hr.keep b' hb' hm
          have hne : b' ≠ b := by
            intro e; subst e
            rcases hmay with h2 | h2
            · omega
            · exact hm h2
          exact ⟨(hother b' hne).trans a1, a2⟩
        bxs := fun d' t' hs => by
          obtain ⟨a1, a2⟩ := hr.bxs d' t' hs
          exact ⟨by show (setBx i n sz c s.g.bx d' t').isSome = true; rw [setBx_isSome]; exact a1, a2⟩
        ro := hr.ro
        ga := hr.ga
        bxMay := fun d' t' b' hs hb' => hr.bxMay d' t' b' (by simpa only [setSt, setBx_isSome] using hs) hb'
        gaMay := hr.gaMay
        lpMay := hr.lpMay
        lpLen := hr.lpLen }

theorem rowCells_sound {ti : TI} {a : AV} {cs : List D} (hc : rowCells ti a = some cs) (hty : ti.agg = false → ti.size = 1) {w : World} {h : Gh} {v : Value} (hrep : RepA w h a v) :
    cs.length = ti.size ∧ RepVs w h.L cs v.cells.toList ∧ ∀ u ∈ v.cells.toList, u.oneCell' = true := by
  unfold rowCells at hc
  split at hc
  · split at hc
    · rename_i x hdata
      split at hc
      case isFalse => cases hc
      rename_i hlen
      simp only [Option.some.injEq] at hc; subst hc
      have hx := hrep.data a _ v hdata
      obtain ⟨h1, h2⟩ := hx.cells
      exact ⟨by simpa using hlen, by simpa [D.cells] using h1, h2⟩
    · cases hc
  · rename_i hagg
    split at hc
    · cases hc
    · rename_i x hna hdata
      simp only [Option.some.injEq] at hc; subst hc
      have hx := hrep.data a _ v hdata
      obtain ⟨h1, h2⟩ := hx.cells
      have hcl : x.cells = [x] := by cases x <;> first | rfl | exact absurd rfl (hna _)
      rw [hcl] at h1
      exact ⟨by rw [hty hagg]; rfl, h1, h2⟩
    · cases hc

theorem storeR_sound (hT : TyOk P T) {o : Oper} {t : TypeId} {p x : Operand} (ho : o.op = .store t p x) (hdst : o.dst = none) {s s' : St} {a : Act} {w : World} {h : Gh}
    (hf : FI nt s a w h) (hr : Rel g0 h0 w0 s.g w h) (hdp : g0.dp < s.g.dp) {ti : TI} {n k : Nat} {i : Id} {sz : Nat} {es : List (List D)} {av : AV} (hti : T t = some ti) (hp : ev s.tm p = some (.raw (some n) k i sz es)) (hx : ev s.tm x = some av)
    (hs : storeR ti n k i sz es av s = some s') : Steps1 P nt g0 h0 w0 o s' a w := by
  unfold storeR at hs
  split at hs
  case h_2 => cases hs
  rename_i cs hcs
  split at hs
  case isFalse => cases hs
  rename_i hc
  simp only [Bool.and_eq_true, Nat.beq_eq, Nat.ble_eq] at hc
  obtain ⟨⟨hsz, hpos⟩, hkn, hlt⟩ := hc
  have hlt : n < es.length := by
    have := hlt
    simp [Nat.blt] at this
    omega
  simp only [Option.some.injEq] at hs; subst hs
  have hty := hT t ti hti
  have htm : Tms w h s.tm a := fun t v hv => (hf.tm t v hv).1
  have hprep := ev_rep htm hp
  have hpok := ev_ok (fun t v hv => (hf.tm t v hv).2) hp
  simp only [AV.ok] at hpok
  obtain ⟨c1, c2, c3⟩ := rowCells_sound hcs (fun h => hty.one h) (ev_rep htm hx)
  simp only [RepA] at hprep
  rcases hprep with ⟨h1, _⟩ | ⟨⟨_, h1⟩, _⟩ | ⟨b, m, cp, vs, cc, e, hv, hm, hn, hcc, hkm, hus, hrf, hg, hL, hh, hrm, hcells⟩
  · cases h1
  · rw [h1] at hlt; simp at hlt
  · have hmm := hm n rfl
    have hul : (a.eval x).cells.toList.length = sz := by rw [c2.length, c1, hsz]
    have hfit : (n + 1) * sz ≤ cc.size := Nat.le_trans (Nat.mul_le_mul_right _ (by omega)) hrm
    have ht : Turn w h i b k n sz cs (a.eval x).cells.toList cc e := ⟨fun j hj => hf.gi.gaInj j i b hj hg, hg, hh, hL, hkn, hpos, c2, by rw [c1, hsz], c3, hfit⟩
    have hid : ∀ d t k, i = .tmp d t k → g0.dp < d := by
      intro d t k e
      subst e
      rw [hpok.1]; exact hdp
    obtain ⟨n1, n2⟩ := hf.setElem hr ht hid
    refine ⟨.skip, w.setRow b (putRow cc (n * sz) (a.eval x).cells.toList), a.put o.dst undef, h, ?_, .inr ⟨rfl, rfl⟩, ?_, n2⟩
    · have hst := run_storeCells_at P b (n * sz) e (a.eval x).cells.toList 0 cc w hh (by rw [hul]; rw [Nat.succ_mul] at hfit; exact hfit) c3
      simp only [Nat.add_zero] at hst
      have hsizeOf := hty.size w
      have hcs2 : (a.eval x).cells.size = ti.size := by
        have : (a.eval x).cells.size = (a.eval x).cells.toList.length := by simp
        rw [this, hul, hsz]
      have hpe : a.eval p = .pointer (some ⟨b, n * sz, none⟩) := hv
      simp [execOp, ho, hpe, Instr.storeAt, Instr.sureAddr, storeVar, hsizeOf, hcs2, hst, putRow]
    · rw [hdst]; exact n1

theorem storeA_sound (hT : TyOk P T) {o : Oper} {t : TypeId} {p x : Operand} (ho : o.op = .store t p x) (hdst : o.dst = none) {s s' : St} {a : Act} {w : World} {h : Gh}
    (hf : FI nt s a w h) (hr : Rel g0 h0 w0 s.g w h) (hdp : g0.dp < s.g.dp) (hs : storeA T t p x s = some s') : Steps1 P nt g0 h0 w0 o s' a w := by
  unfold storeA at hs
  split at hs
  · rename_i ti d u off av hti hp hx
    exact storeB_sound hT ho hdst hf hr hdp hti hp hx hs
  · rename_i ti n k i sz es av hti hp hx
    exact storeR_sound hT ho hdst hf hr hdp hti hp hx hs
  · cases hs

theorem fill_rows {w : World} {h : Gh} {sz : Nat} {e : Operand → Option AV} {ea : Operand → Value} (he : ∀ x v, e x = some v → RepA w h v (ea x)) :
    ∀ (parts : List (Nat × Operand)) (es es' : List (List D)) (vs : Array Value), partCells sz e parts es = some es' → RepF w h.L es vs.toList → (∀ x ∈ es, x.length = sz) → (∀ u ∈ vs.toList, u.oneCell' = true) →
      ∃ vs', Instr.fill (fun i => some (i * sz, sz)) vs (parts.map fun p => (p.1, ea p.2)) = some vs' ∧ RepF w h.L es' vs'.toList ∧ (∀ x ∈ es', x.length = sz) ∧ es'.length = es.length ∧ (∀ u ∈ vs'.toList, u.oneCell' = true)
  | [], es, es', vs, hb, hr, hs, h1 => by
    simp only [partCells, Option.some.injEq] at hb; subst hb
    exact ⟨vs, by simp [Instr.fill], hr, hs, rfl, h1⟩
  | (i, x) :: rest, es, es', vs, hb, hr, hs, h1 => by
    simp only [partCells] at hb
    cases hx : e x with
    | none => simp [hx] at hb
    | some a =>
      simp only [hx] at hb
      cases hd : a.data with
      | none => simp [hd] at hb
      | some v =>
        simp only [hd] at hb
        split at hb
        case isFalse => cases hb
        rename_i hc
        simp only [Bool.and_eq_true, Nat.beq_eq] at hc
        obtain ⟨hc1, hc2⟩ := hc
        have hc2 : i < es.length := by
          have := hc2
          simp [Nat.blt] at this
          omega
        have hrep : RepV w h.L v (ea x) := (he x a hx).data a v _ hd
        obtain ⟨g1, g2⟩ := hrep.cells
        have hl1 : (ea x).cells.toList.length = v.cells.length := g1.length
        have hl2 : vs.toList.length = es.length * sz := hr.length hs
        have hsz : (ea x).cells.size = sz := by simpa [hc1] using hl1
        have hvsz : vs.size = es.length * sz := by simpa using hl2
        have hle : (i + 1) * sz ≤ es.length * sz := Nat.mul_le_mul_right _ hc2
        rw [Nat.succ_mul] at hle
        have hk := foldl_set (i * sz) (ea x).cells.toList 0 vs (by simp; omega)
        simp only [Nat.add_zero] at hk
        have hfill : Instr.fill (fun i => some (i * sz, sz)) vs (((i, x) :: rest).map fun p => (p.1, ea p.2)) =
            Instr.fill (fun i => some (i * sz, sz)) (((ea x).cells.toList.zipIdx 0).foldl (fun cs (c, j) => cs.setIfInBounds (i * sz + j) c) vs) (rest.map fun p => (p.1, ea p.2)) := by
          simp only [List.map_cons, Instr.fill]
          rw [if_neg (by simp; omega)]
          congr 1
          rw [← Array.foldl_toList]; simp
        rw [hfill]
        obtain ⟨vs', k1, k2, k3, k4, k5⟩ := fill_rows he rest (es.set i v.cells) es' _ hb (by
            rw [hk]
            exact hr.set hs hc2 g1 hc1)
          (by
            intro y hy
            rcases List.mem_or_eq_of_mem_set hy with hy | rfl
            · exact hs y hy
            · exact hc1)
          (by
            rw [hk]
            intro u hu
            simp only [List.mem_append] at hu
            rcases hu with (hu | hu) | hu
            · exact h1 u (List.mem_of_mem_take hu)
            · exact g2 u hu
            · exact h1 u (List.mem_of_mem_drop hu))
        exact ⟨vs', k1, k2, k3, by rw [k4]; simp, k5⟩

theorem zeros_toList (z : Array Value) (n : Nat) (hz : 0 < z.size) : ((Array.range (n * z.size)).map (fun i => z[i % z.size]!)).toList = (List.replicate n z.toList).flatten := by
  apply List.ext_getElem?
  intro j
  have hlen : ((List.replicate n z.toList).flatten).length = n * z.size := by simp
  by_cases hj : j < n * z.size
  · have h1 : (List.replicate n z.toList).flatten[j]? = z.toList[j % z.size]? := by
      clear hlen
      induction n generalizing j with
      | zero => simp at hj
      | succ n ih =>
        simp only [List.replicate_succ, List.flatten_cons]
        rw [List.getElem?_append]
        simp only [Array.length_toList]
        by_cases h2 : j < z.size
        · rw [if_pos h2, Nat.mod_eq_of_lt h2]
        · rw [if_neg h2, ih (j - z.size) (by rw [Nat.succ_mul] at hj; omega)]
          have : (j - z.size) % z.size = j % z.size := (Nat.mod_eq_sub_mod (by omega)).symm
          rw [this]
    rw [h1]
    have hm : j % z.size < z.size := Nat.mod_lt _ hz
    simp [hj, hm]
  · rw [List.getElem?_eq_none (by simp; omega), List.getElem?_eq_none (by omega)]

theorem putOwn_some {k : Option Nat} {dst sz : Nat} {es : List (List D)} {s s' : St} (h : putOwn k dst sz es s = some s') :
    s.fr dst = false ∧ s' = { tm := upd s.tm dst (some (rowAV k (.tmp s.g.dp dst 0) sz es)), fr := setFr s.fr dst, g := s.g } := by
  unfold putOwn at h
  split at h
  · cases h
  · rename_i hf; cases h; exact ⟨by simpa using hf, rfl⟩

theorem buildSliceA_sound (hT : TyOk P T) {o : Oper} {dst t n : Nat} {parts : Array (Nat × Operand)} (ho : o.op = .buildSlice t n parts) (hdst : o.dst = some dst) (hd : dst < nt) {s s' : St} {a : Act} {w : World} {h : Gh}
    (hf : FI nt s a w h) (hr : Rel g0 h0 w0 s.g w h) (hdp : g0.dp < s.g.dp) (hs : buildSliceA T dst t n parts.toList s = some s') : Steps1 P nt g0 h0 w0 o s' a w := by
  unfold buildSliceA at hs
  cases hti : T t with
  | none => simp [hti] at hs
  | some ti =>
    simp only [hti] at hs
    split at hs
    · rename_i te hk hte
      split at hs
      · rename_i es hes
        split at hs
        case isFalse => cases hs
        rename_i hc
        simp only [Bool.and_eq_true, Nat.ble_eq] at hc
        obtain ⟨hc1, hc2⟩ := hc
        obtain ⟨hfr, rfl⟩ := putOwn_some hs
        have hty := hT t ti hti
        have hte' := hT _ te hte
        have hu := hty.und hk
        obtain ⟨i, z, hi, hsi, _, hz, hzc⟩ := hte'.info
        obtain ⟨g1, g2⟩ := RepVs.plain (w := w) (L := h.L) hte'.plain
        have htm : Tms w h s.tm a := fun t v hv => (hf.tm t v hv).1
        have hzs : z.cells.size = te.size := by
          have : z.cells.size = z.cells.toList.length := by simp
          rw [this, hzc, List.length_map, hte'.len]
        have hz0 : (Array.range (n * te.size)).map (fun i => z.cells[i % z.cells.size]!) = (List.replicate n z.cells.toList).flatten.toArray := by
          apply Array.ext'
          rw [← hzs, zeros_toList z.cells n (by omega)]
        obtain ⟨vs', k1, k2, k3, k4, k5⟩ := fill_rows (w := w) (h := h) (sz := te.size) (fun x v => ev_rep htm) parts.toList (List.replicate n te.zero) es
          ((Array.range (n * te.size)).map (fun i => z.cells[i % z.cells.size]!)) hes
          (by rw [hz0]; simp only [List.toList_toArray]; exact RepF.replicate (by rw [hzc]; exact g1) n)
          (by intro x hx; rw [List.eq_of_mem_replicate hx]; exact hte'.len)
          (by
            rw [hz0]
            intro u hu
            simp only [List.toList_toArray, List.mem_flatten] at hu
            obtain ⟨l, hl, hul⟩ := hu
            rw [List.eq_of_mem_replicate hl, hzc] at hul
            exact g2 u hul)
        have k2 := k2.nrmC (ks := te.sls)
        have k3 : ∀ x ∈ es.map (nrmC te.sls), x.length = te.size := by
          intro x hx
          obtain ⟨y, hy, rfl⟩ := List.mem_map.1 hx
          rw [nrmC_len]; exact k3 y hy
        have hlen : (es.map (nrmC te.sls)).length = n := by rw [List.length_map, k4]; simp
        have hrun : (Instr.buildSlice t n (parts.map fun (i, x) => (i, a.eval x))).run P w = .ok (.slice (some ⟨w.heap.size, 0, none⟩) n n) (w.alloc (.cells vs' ti.elem (0, 0))) := by
          have hsz := hte'.size w
          have hfl := k1
          have hbig : ¬ (n * te.size > 16777216) := by omega
          by_cases hn0 : n * te.size = 0
          · have hn : n = 0 := by
              rcases Nat.mul_eq_zero.1 hn0 with h | h
              · exact h
              · omega
            subst hn
            simp only [Nat.zero_mul] at hfl
            have e0 : ∀ f : Nat → Value, Array.map f (Array.range 0) = #[] := fun f => by simp
            rw [e0] at hfl
            simp only [Instr.buildSlice, Sem.run_bind, run_underlying hu, Result.andThen_ok, hsz]
            simp [newRow, e0, hfl]
          · have h3 : ¬ (2 ^ 24 < n * te.size) := by omega
            simp only [Instr.buildSlice, Sem.run_bind, run_underlying hu, Result.andThen_ok, hsz]
            simp [h3, hn0, zeroValue, typeInfo, hi, hz, newRow, hfl]
        obtain ⟨n1, n2⟩ := hf.newRow hr hfr hd hdp (sz := te.size) (k := none) (es := es.map (nrmC te.sls)) (vs := vs'.toList) (cc := vs') (e := ti.elem) (cap := n) (Nat.le_refl _) (below_alloc w _) (by simp) (heap_new w _) k3 k2 (by omega)
          (by
            have : vs'.size = vs'.toList.length := by simp
            rw [this, k2.length k3, hlen]; exact Nat.le_refl _)
          (by
            intro k u hk'
            exact ⟨by simpa using hk', k5 u (List.mem_of_getElem? hk')⟩)
        simp only [limK] at n1 n2
        rw [hlen] at n1 n2
        refine ⟨_, _, _, _, by simp [execOp, ho, hrun]; rfl, .inl ⟨_, rfl, by rw [hdst]⟩, n1, ?_⟩
        exact n2
      · cases hs
    · cases hs
end
end Go.Abs
