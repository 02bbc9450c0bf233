/- What the claim rests on, part 2. -/
import Derived.Test.YtehkgiofchmpaaaDoorQp1
import Derived.Lib.AppendStr
import Derived.RangeFuncLeaves
import Derived.RangeFuncRecord
import Derived.Conc.MuLone
import Derived.Scope
import Derived.RangeFuncNested
namespace Go.Abs
open Go
set_option linter.unusedVariables false
set_option linter.unusedSimpArgs false
section
variable {P : Program} {T : Nat → Option TI} {g0 : G} {h0 : Gh} {w0 : World} {nt : Nat}
theorem run_alloc {t : TypeId} {ti : TI} (hf : TyFact P t ti) (w : World) : ∃ c : Array Value, (Instr.alloc t true (.tuple #[])).run P w = .ok (.pointer (some ⟨w.heap.size, 0, none⟩)) (w.alloc (.cells c t (0, 0))) ∧ c.toList = ti.zero.map D.zv := by
 obtain ⟨i, z, hi, hs, hb, hz, hc⟩ := hf.info
 refine ⟨z.cells, ?_, hc⟩
 simp [Instr.alloc, zeroValue, typeInfo, hi, hz, newVar, newRow]
theorem allocA_sound (hT : TyOk P T) {o : Oper} {dst : Nat} {t : TypeId} (ho : o.op = .alloc t) (hdst : o.dst = some dst) (hd : dst < nt) {s s' : St} {a : Act} {w : World} {h : Gh}
  (hf : FI nt s a w h) (hr : Rel g0 h0 w0 s.g w h) (hdp : g0.dp < s.g.dp) (hs : allocA T dst t s = some s') : Steps1 P nt g0 h0 w0 o s' a w := by
 unfold allocA at hs
 split at hs
 ·rename_i ti hti hbx
  simp only [Option.some.injEq] at hs; subst hs
  have hty := hT t ti hti
  obtain ⟨c, hrun, hc⟩ := run_alloc hty w
  obtain ⟨g1, g2⟩ := RepVs.plain (w := w) (L := h.L) hty.plain
  obtain ⟨n1, n2⟩ := hf.newBox hr hbx hd hdp (cs := ti.zero.map .d) (c := c) (e := t) hty.mark (RepBx.noOwn (w' := w) (h' := h) (RepAs.of_d (by rw [hc]; exact g1)) (fun i sz es hh => by rw [List.getElem?_map] at hh; cases hz : ti.zero[1]? <;> simp [hz] at hh)) (oks_d _) (by rw [hc]; exact g2)
  exact ⟨_, _, _, _, by simp [execOp, ho, hrun]; rfl, .inl ⟨_, rfl, by rw [hdst]⟩, n1, n2⟩
 ·cases hs
mutual
 theorem AV.ok.upto {Q : Id → Prop} {g : G} {m n : Nat} {Y Y' : Nat → Prop} : ∀ (a : AV), AV.upto n a = true → a.ok Q (KG g m) Y → a.ok Q (KG g n) Y'
  | .d _, _, _ => by simp [AV.ok]
  | .own _ _ _, _, h => by simpa only [AV.ok] using h
  | .ptr d1 t _, hu, h => by
   simp only [AV.ok, AV.upto, Nat.ble_eq] at h hu ⊢
   exact ⟨hu, h.2⟩
  | .fn _ caps, hu, h => by simp only [AV.ok, AV.upto] at h hu ⊢; exact AV.oks.upto caps hu h
  | .tup xs, hu, h => by simp only [AV.ok, AV.upto] at h hu ⊢; exact AV.oks.upto xs hu h
  | .yld _, hu, _ => by simp [AV.upto] at hu
  | .raw _ _ _ _ _, _, h => by simpa only [AV.ok] using h
  | .old _ _ _, _, _ => by simp [AV.ok]
 theorem AV.oks.upto {Q : Id → Prop} {g : G} {m n : Nat} {Y Y' : Nat → Prop} : ∀ (as : List AV), AV.uptos n as = true → AV.oks Q (KG g m) Y as → AV.oks Q (KG g n) Y' as
  | [], _, _ => by simp [AV.oks]
  | a :: as, hu, h => by
   simp only [AV.oks, AV.uptos, Bool.and_eq_true] at h hu ⊢
   exact ⟨AV.ok.upto a hu.1 h.1, AV.oks.upto as hu.2 h.2⟩
end
theorem RepA.one {w : World} {h : Gh} : ∀ {a : AV} {v : Value}, RepA w h a v → noTup a = true → (∀ cs, a ≠ .d (.agg cs)) → v.oneCell' = true
 | .d x, v, hr, _, hn => by simp only [RepA] at hr; exact hr.one fun cs e => hn cs (by rw [e])
 | .own i sz es, v, hr, _, _ => by
  have := hr.own_sl
  simp only [RepV] at this
  obtain ⟨_, _, _, _, rfl, _⟩ := this
  rfl
 | .ptr _ _ _, v, hr, _, _ => by simp only [RepA] at hr; obtain ⟨_, _, rfl⟩ := hr; rfl
 | .fn _ _, v, hr, _, _ => by simp only [RepA] at hr; obtain ⟨_, rfl, _⟩ := hr; rfl
 | .yld _, v, hr, _, _ => by simp only [RepA] at hr; subst hr; rfl
 | .tup _, _, _, hn, _ => by simp [noTup] at hn
 | .raw _ _ _ _ _, v, hr, _, _ => hr.raw_one
 | .old _ _ _, v, hr, _, _ => by simp only [RepA] at hr; exact hr.one
theorem cells_one {v : Value} (h : v.oneCell' = true) : v.cells = #[v] := by cases v <;> first | rfl | simp [Value.oneCell'] at h
def ownId : AV → Option Id
 | .own i _ _ => some i
 | .raw _ _ i _ _ => some i
 | _ => none
theorem ok_noOwn {Q Q' : Id → Prop} {K : Nat → Nat → Prop} {Y : Nat → Prop} : ∀ {a : AV}, a.ok Q K Y → noTup a = true → ownId a = none → a.ok Q' K Y
 | .d _, _, _, _ => by simp [AV.ok]
 | .own _ _ _, _, _, h => by simp [ownId] at h
 | .ptr _ _ _, h, _, _ => by simpa only [AV.ok] using h
 | .fn _ _, h, _, _ => by simpa only [AV.ok] using h
 | .yld _, h, _, _ => by simpa only [AV.ok] using h
 | .tup _, _, hn, _ => by simp [noTup] at hn
 | .raw _ _ _ _ _, _, _, h => by simp [ownId] at h
 | .old _ _ _, _, _, _ => by simp [AV.ok]
theorem boxCells_sound {ti : TI} {nm : Id} (hnm : IsBox nm) {a : AV} {cs : List AV} (hc : boxCells ti nm a = some cs) {s : St} {act : Act} {w : World} {h : Gh}
  (hf : FI nt s act w h) (hr : Rel g0 h0 w0 s.g w h) (hdp : g0.dp < s.g.dp) {v : Value} (hrep : RepA w h a v) (hok : a.ok (TmQ s.fr s.g.dp) (KG s.g s.g.dp) (YG s.g s.g.dp)) :
  ∃ h', FI nt (letIn nm a s) act w h' ∧ Rel g0 h0 w0 (letIn nm a s).g w h' ∧ RepAs w h' cs v.cells.toList ∧ (∀ u ∈ v.cells.toList, u.oneCell' = true) ∧
   AV.oks IsBox (KG s.g s.g.dp) (YG s.g s.g.dp) cs ∧ (ti.agg = true → cs.length = ti.size ∧ ∃ cv, v = .agg cv) ∧ (ti.agg = false → cs.length = 1 ∧ v.oneCell' = true) ∧ h'.be = h.be := by
 unfold boxCells at hc
 have plainCase : ∀ (hno : ownId a = none), letIn nm a s = demSt nm s := by
  intro hno
  cases a <;> first | rfl | (simp [ownId] at hno)
 split at hc
 ·rename_i hagg
  split at hc
  ·rename_i x hdata
   split at hc
   case isFalse => cases hc
   rename_i hlen
   simp only [Option.some.injEq] at hc; subst hc
   have hx := hrep.data a _ v hdata
   have hno : ownId a = none := by
    cases a <;> first | rfl | (simp [AV.data] at hdata)
   rw [plainCase hno]
   obtain ⟨f1, _⟩ := hf.dem nm
   simp only [RepV] at hx
   obtain ⟨cv, rfl, hcv, h1⟩ := hx
   refine ⟨h, f1, hr.dem nm, RepAs.of_d (by simpa [Value.cells] using hcv), by simpa [Value.cells] using h1, oks_d _, fun _ => ⟨by simpa using hlen, cv, rfl⟩, (fun hh => by rw [hagg] at hh; cases hh), rfl⟩
  ·cases hc
 ·rename_i hagg
  split at hc
  ·
   rename_i i sz es
   simp only [Option.some.injEq] at hc; subst hc
   have h1 : v.oneCell' = true := hrep.one rfl (by intro cs e; cases e)
   obtain ⟨f1, n1⟩ := hf.dem i
   obtain ⟨f2, n2⟩ := f1.dem nm
   have hjd : ∀ d t k, nm = .tmp d t k → d ≤ (demSt nm (demSt i s)).g.dp := by
    intro d t k e; rw [e] at hnm; exact hnm.elim
   have hi : ∀ d t k, i = .tmp d t k → g0.dp < d := by
    intro d t k e
    subst e
    simp only [AV.ok] at hok
    rw [hok.1]; exact hdp
   have f3 := f2.ren (n1.dem nm) n2 hjd
   refine ⟨{ h with ga := renGa h.ga i nm }, f3, ((hr.dem i).dem nm).ren hi (by intro d t k e; rw [e] at hnm; exact hnm.elim), ?_, ?_, ?_, (fun hh => by rw [hagg] at hh; cases hh), (fun _ => ⟨rfl, h1⟩), rfl⟩
   ·rw [cells_one h1]
    exact ⟨v, [], rfl, Owned.ren hrep, rfl⟩
   ·rw [cells_one h1]; simpa using h1
   ·exact ⟨by simpa only [AV.ok] using hnm, trivial⟩
  ·
   rename_i o k i sz es
   split at hc
   case h_2 => cases hc
   simp only [Option.some.injEq] at hc; subst hc
   have h1 : v.oneCell' = true := hrep.one rfl (by intro cs e; cases e)
   obtain ⟨f1, n1⟩ := hf.dem nm
   have hi : ∀ d t k, i = .tmp d t k → g0.dp < d := by
    intro d t k e
    subst e
    simp only [AV.ok] at hok
    rw [hok.1]; exact hdp
   have f3 := f1.renAll (i := i) n1 hnm
   refine ⟨{ h with ga := renGa h.ga i nm }, f3, (hr.dem nm).renSt hi (by intro d t k e; rw [e] at hnm; exact hnm.elim), ?_, ?_, ?_, (fun hh => by rw [hagg] at hh; cases hh), (fun _ => ⟨rfl, h1⟩), rfl⟩
   ·rw [cells_one h1]
    exact ⟨v, [], rfl, RawRow.ren hrep, rfl⟩
   ·rw [cells_one h1]; simpa using h1
   ·exact ⟨by simpa only [AV.ok] using hnm, trivial⟩
  ·cases hc
  ·cases hc
  ·cases hc
  ·rename_i hnOwn hnRaw hnJunk hnTup hnAgg
   simp only [Option.some.injEq] at hc; subst hc
   have hno : ownId a = none := by
    cases a <;> first | rfl | exact absurd rfl (hnOwn _ _ _) | exact absurd rfl (hnRaw _ _ _ _ _)
   have hnt : noTup a = true := by
    cases a <;> first | rfl | exact absurd rfl (hnTup _)
   have h1 : v.oneCell' = true := hrep.one hnt (fun cs e => hnAgg cs e)
   rw [plainCase hno]
   obtain ⟨f1, _⟩ := hf.dem nm
   refine ⟨h, f1, hr.dem nm, ?_, ?_, ⟨ok_noOwn hok hnt hno, trivial⟩, (fun hh => by rw [hagg] at hh; cases hh), (fun _ => ⟨rfl, h1⟩), rfl⟩
   ·rw [cells_one h1]; exact ⟨v, [], rfl, hrep, rfl⟩
   ·rw [cells_one h1]; simpa using h1
theorem letIn_dp (nm : Id) (a : AV) (s : St) : (letIn nm a s).g.dp = s.g.dp ∧ (letIn nm a s).fr = s.fr ∧ (letIn nm a s).g.lp = s.g.lp ∧ ∀ d t, ((letIn nm a s).g.bx d t).isSome = (s.g.bx d t).isSome := by
 cases a with
 | own i z es => exact ⟨rfl, rfl, rfl, fun d t => by show (demBx nm (demBx i s.g.bx) d t).isSome = _; rw [demBx_isSome, demBx_isSome]⟩
 | raw o k i z es => exact ⟨rfl, rfl, rfl, fun d t => by show (renBx i nm (demBx nm s.g.bx) d t).isSome = _; rw [renBx_isSome, demBx_isSome]⟩
 | _ => exact ⟨rfl, rfl, rfl, fun d t => by show (demBx nm s.g.bx d t).isSome = _; rw [demBx_isSome]⟩
theorem KG_let {s : St} {nm : Id} {a : AV} {n : Nat} : ∀ d t, KG s.g n d t → KG (letIn nm a s).g n d t := by
 intro d t hk
 refine ⟨hk.1, ?_⟩
 rw [(letIn_dp nm a s).2.2.2]
 exact hk.2
theorem boxA_sound (hT : TyOk P T) {o : Oper} {dst : Nat} {t : TypeId} {x : Operand} (ho : o.op = .box t x) (hdst : o.dst = some dst) (hd : dst < nt) {s s' : St} {a : Act} {w : World} {h : Gh}
  (hf : FI nt s a w h) (hr : Rel g0 h0 w0 s.g w h) (hdp : g0.dp < s.g.dp) (hs : boxA T dst t x s = some s') : Steps1 P nt g0 h0 w0 o s' a w := by
 unfold boxA at hs
 split at hs
 ·rename_i ti av hti hbx hx
  split at hs
  ·rename_i cs hcs
   simp only [Option.some.injEq] at hs; subst hs
   have htm : Tms w h s.tm a := fun t v hv => (hf.tm t v hv).1
   have hrep := ev_rep htm hx
   have hok := ev_ok (fun t v hv => (hf.tm t v hv).2) hx
   obtain ⟨h', f1, r1, c1, c2, c3, _⟩ := boxCells_sound (nm := .box s.g.dp dst 0) trivial hcs hf hr hdp hrep hok
   have e := letIn_dp (.box s.g.dp dst 0) av s
   have hnone : (letIn (.box s.g.dp dst 0) av s).g.bx (letIn (.box s.g.dp dst 0) av s).g.dp dst = none := by
    have h1 : ((letIn (.box s.g.dp dst 0) av s).g.bx (letIn (.box s.g.dp dst 0) av s).g.dp dst).isSome = false := by
     rw [e.2.2.2, e.1, hbx]; rfl
    exact Option.isSome_eq_false_iff.1 h1 |> Option.isNone_iff_eq_none.1
   have c3' : AV.oks IsBox (KG (letIn (.box s.g.dp dst 0) av s).g (letIn (.box s.g.dp dst 0) av s).g.dp) (YG (letIn (.box s.g.dp dst 0) av s).g (letIn (.box s.g.dp dst 0) av s).g.dp) cs := by
    refine AV.oks.mono (fun _ h => h) ?_ ?_ _ c3
    ·intro d t hk
     have := KG_let (nm := .box s.g.dp dst 0) (a := av) d t hk
     rw [e.1]; exact this
    ·intro l hl
     obtain ⟨r, h1, h2⟩ := hl
     refine ⟨r, ?_, ?_⟩
     ·rw [e.2.2.1]; exact h1
     ·rw [e.1]; exact h2
   have hdp' : g0.dp < (letIn (.box s.g.dp dst 0) av s).g.dp := by
    rw [e.1]; exact hdp
   obtain ⟨n1, n2⟩ := f1.newBox r1 hnone hd hdp' (cs := cs) (c := (a.eval x).cells) (e := t) (ty := (0, 0)) (.inl rfl) (RepBx.plain c1 rfl) c3' c2
   have hdpeq : (letIn (.box s.g.dp dst 0) av s).g.dp = s.g.dp := e.1
   rw [hdpeq] at n1 n2
   exact ⟨_, _, _, _, by simp [execOp, ho, Instr.box, newVar, newRow]; rfl, .inl ⟨_, rfl, by rw [hdst]⟩, n1, n2⟩
  ·cases hs
 ·cases hs
theorem ext_setRow {w : World} {L : Nat → Nat} {b : Nat} {c : Array Value} (hL : L b = 0) : Ext w L (w.setRow b c) L where
 lim := fun _ => Nat.le_refl _
 cell := fun b' i hi => by
  have hne : b' ≠ b := by intro e; rw [e, hL] at hi; omega
  exact cell_setRow_other w b c ⟨b', i, none⟩ hne
def putBx (bx : Nat → Nat → Option Box) (d u : Nat) (bo : Box) : Nat → Nat → Option Box := fun d' u' => if Nat.beq d' d && Nat.beq u' u then some bo else bx d' u'
theorem putBx_eq (bx : Nat → Nat → Option Box) (d u : Nat) (bo : Box) (d' u' : Nat) : putBx bx d u bo d' u' = if d' = d ∧ u' = u then some bo else bx d' u' := by
 unfold putBx
 by_cases h : d' = d ∧ u' = u
 ·rw [if_pos (by simp [h.1, h.2]), if_pos h]
 ·rw [if_neg (by simpa using h), if_neg h]
theorem putBx_isSome {bx : Nat → Nat → Option Box} {d u : Nat} {bo b : Box} (h : bx d u = some b) (d' u' : Nat) : (putBx bx d u bo d' u').isSome = (bx d' u').isSome := by
 rw [putBx_eq]
 split
 ·rename_i e; rw [e.1, e.2, h]; rfl
 ·rfl
theorem FI.setBox {s : St} {a : Act} {w : World} {h : Gh} (hf : FI nt s a w h) (hr : Rel g0 h0 w0 s.g w h) {d u b : Nat} {bo : Box} (hbo : s.g.bx d u = some bo) (hfrz : bo.frz = false)
  (hbe : h.be d u = some b) {c c' : Array Value} {e : TypeId} (hheap : w.heap[b]? = some (.cells c e (0, 0))) {cs' : List AV} (hrep : RepBx w h bo.ty cs' c'.toList)
  (hok : AV.oks IsBox (KG s.g d) (YG s.g d) cs') (h1 : ∀ u ∈ c'.toList, u.oneCell' = true) :
  FI nt { s with g := { s.g with bx := putBx s.g.bx d u { bo with cells := cs' } } } a (w.setRow b c') h ∧ Rel g0 h0 w0 { s.g with bx := putBx s.g.bx d u { bo with cells := cs' } } (w.setRow b c') h := by
 have hL : h.L b = 0 ∧ (bo.ty.1 = 0 ∨ bo.ty.1 = e) := by
  obtain ⟨_, _, b2, c2, e2, h3, h4, _, _, h7⟩ := hf.gi.bx d u bo hbo
  rw [hbe] at h3; cases h3
  rw [hheap] at h4
  have he : e = e2.1 := by cases h4; rfl
  exact ⟨by rw [h7, hfrz]; rfl, by rw [he]; exact e2.2⟩
 obtain ⟨hL, hty⟩ := hL
 have hE := ext_setRow (w := w) (c := c') hL
 have hother : ∀ k, k ≠ b → (w.setRow b c').heap[k]? = w.heap[k]? := fun k hk => setRow_other w b k c' hk
 have hga : ∀ i b', h.ga i = some b' → h.ga i = some b' ∧ h.L b' = h.L b' ∧ (w.setRow b c').heap[b']? = w.heap[b']? := fun i b' hi => by
  refine ⟨hi, rfl, hother b' ?_⟩
  intro e; subst e
  exact hf.gi.gaBx i b' d u hi (by rw [hbo]; rfl) hbe
 have hK : ∀ n d' t', KG s.g n d' t' → KG { s.g with bx := putBx s.g.bx d u { bo with cells := cs' } } n d' t' := fun n d' t' hk => ⟨hk.1, by
  show (putBx s.g.bx d u { bo with cells := cs' } d' t').isSome = true
  rw [putBx_isSome hbo]; exact hk.2⟩
 have ext1 : ∀ {Q : Id → Prop} {K : Nat → Nat → Prop} {Y : Nat → Prop} (v : AV) (x : Value), v.ok Q K Y → RepA w h v x → RepA (w.setRow b c') h v x :=
  fun v x ho hh => RepA.ext hE (fun _ _ _ _ h => h) (fun _ _ => rfl) (fun i b' _ hi => hga i b' hi) v x ho hh
 have ext2 : ∀ {Q : Id → Prop} {K : Nat → Nat → Prop} {Y : Nat → Prop} {ty : Nat × Nat} (v : List AV) (x : List Value), AV.oks Q K Y v → RepBx w h ty v x → RepBx (w.setRow b c') h ty v x :=
  fun v x ho hh => RepBx.ext hE (fun _ _ _ _ h => h) (fun _ _ => rfl) (fun i b' _ hi => hga i b' hi) v x ho hh
 have hdef : ∀ D : Nat, w.heap[D]? = some (Obj.deferred (some [])) → (w.setRow b c').heap[D]? = some (Obj.deferred (some [])) := by
  intro D hD
  rw [hother D (by intro e; rw [e, hheap] at hD; cases hD), hD]
 refine ⟨⟨hf.size, ?_, ?_, ?_⟩, ?_⟩
 ·intro t v hv
  obtain ⟨h5, h6⟩ := hf.tm t v hv
  exact ⟨ext1 v _ h6 h5, AV.ok.mono (fun _ h => h) (fun d' t' hk => hK _ d' t' hk) (fun _ h => h) v h6⟩
 ·refine { bx := ?_, inj := ?_, gaBx := ?_, gaInj := hf.gi.gaInj, gaLt := ?_, gaC := ?_, lim := ?_, lp := ?_, roInj := hf.gi.roInj, gaTop := hf.gi.gaTop }
  ·intro d' t' bo' hbo'
   have hq : putBx s.g.bx d u { bo with cells := cs' } d' t' = some bo' := hbo'
   rw [putBx_eq] at hq
   split at hq
   ·rename_i hdt
    cases hq
    obtain ⟨rfl, rfl⟩ := hdt
    obtain ⟨g1, _⟩ := hf.gi.bx d' t' bo hbo
    refine ⟨g1, AV.oks.mono (fun _ h => h) (fun d t hk => hK _ d t hk) (fun _ h => h) _ hok, b, c', ⟨e, hty⟩, hbe, setRow_heap w b c c' e (0, 0) hheap, ext2 _ _ hok hrep, h1, ?_⟩
    show h.L b = if bo.frz then c'.size else 0
    rw [hfrz, hL]; rfl
   ·rename_i hdt
    obtain ⟨g1, g2, b2, c2, e2, h3, h4, h5, h6, h7⟩ := hf.gi.bx d' t' bo' hq
    have hne : b2 ≠ b := by
     intro e; subst e
     exact hdt (hf.gi.inj d' t' d u b2 (by rw [hq]; rfl) (by rw [hbo]; rfl) h3 hbe)
    exact ⟨g1, AV.oks.mono (fun _ h => h) (fun d t hk => hK _ d t hk) (fun _ h => h) _ g2, b2, c2, e2, h3, by rw [hother b2 hne, h4], ext2 _ _ g2 h5, h6, h7⟩
  ·intro d1 t1 d2 t2 b' h2 h3 h4 h5
   exact hf.gi.inj d1 t1 d2 t2 b' (by rw [← putBx_isSome (bo := { bo with cells := cs' }) hbo]; exact h2) (by rw [← putBx_isSome (bo := { bo with cells := cs' }) hbo]; exact h3) h4 h5
  ·intro i b' d1 t1 hi hs
   exact hf.gi.gaBx i b' d1 t1 hi (by rw [← putBx_isSome (bo := { bo with cells := cs' }) hbo]; exact hs)
  ·intro i b' hi
   rw [size_setRow]; exact hf.gi.gaLt i b' hi
  ·intro i b' hi
   obtain ⟨c, e, hc⟩ := hf.gi.gaC i b' hi
   have hne : b' ≠ b := by
    intro e; subst e
    exact hf.gi.gaBx i b' d u hi (by rw [hbo]; rfl) hbe
   exact ⟨c, e, by rw [hother b' hne, hc]⟩
  ·intro b' hb'
   rw [size_setRow] at hb'; exact hf.gi.lim b' hb'
  ·intro l r hl
   obtain ⟨hp, D, tmps, h2, h3, h4, h5⟩ := hf.gi.lp l r hl
   refine ⟨hp, D, tmps, ?_, hdef D h3, h4, fun t v hv => ?_⟩
   ·rw [hother _ (by intro e; rw [e, hheap] at h2; cases h2), h2]
   ·obtain ⟨h6, h7⟩ := h5 t v hv
    exact ⟨ext1 v _ h7 h6, AV.ok.mono (fun _ h => h) (fun d' t' hk => hK _ d' t' hk) (fun _ h => h) v h7⟩
 ·intro x hx D hD
  exact hdef D (hf.dfr x hx D hD)
 ·have hmay := hr.bxMay d u b (by rw [hbo]; rfl) hbe
  exact
   {os := hr.os
    tape := hr.tape
    output := hr.output
    size := by rw [size_setRow]; exact hr.size
    ext := hr.ext.trans hE
    keep := fun b' hb' hm => by
     obtain ⟨a1, a2⟩ := hr.keep b' hb' hm
     have hne : b' ≠ b := by
      intro e; subst e
      rcases hmay with h2 | h2
      ·omega
      ·exact hm h2
     exact ⟨(hother b' hne).trans a1, a2⟩
    bxs := fun d' t' hs => by
     obtain ⟨a1, a2⟩ := hr.bxs d' t' hs
     exact ⟨by show (putBx s.g.bx d u { bo with cells := cs' } d' t').isSome = true; rw [putBx_isSome hbo]; exact a1, a2⟩
    ro := hr.ro
    ga := hr.ga
    bxMay := fun d' t' b' hs hb' => hr.bxMay d' t' b' (by rw [← putBx_isSome (bo := { bo with cells := cs' }) hbo]; exact hs) hb'
    gaMay := hr.gaMay
    lpMay := hr.lpMay
    lpLen := hr.lpLen }
theorem storeB_sound (hT : TyOk P T) {o : Oper} {t : TypeId} {p x : Operand} (ho : o.op = .store t p x) (hdst : o.dst = none) {s s' : St} {a : Act} {w : World} {h : Gh}
  (hf : FI nt s a w h) (hr : Rel g0 h0 w0 s.g w h) (hdp : g0.dp < s.g.dp) {ti : TI} {d u off : Nat} {av : AV} (hti : T t = some ti) (hp : ev s.tm p = some (.ptr d u off)) (hx : ev s.tm x = some av)
  (hs : storeB ti d u off av s = some s') : Steps1 P nt g0 h0 w0 o s' a w := by
 unfold storeB at hs
 ·split at hs
  ·rename_i cs hcs
   simp only at hs
   split at hs
   ·rename_i bo hbo
    split at hs
    case isFalse => cases hs
    rename_i hc
    simp only [Bool.and_eq_true, Bool.not_eq_true', Nat.ble_eq] at hc
    obtain ⟨⟨hlock, hup⟩, hlen⟩ := hc
    obtain ⟨hfrz, htyz⟩ := Box.unlock hlock
    simp only [Option.some.injEq] at hs; subst hs
    have hty := hT t ti hti
    have htm : Tms w h s.tm a := fun t v hv => (hf.tm t v hv).1
    have hrep := ev_rep htm hx
    have hok := ev_ok (fun t v hv => (hf.tm t v hv).2) hx
    have hprep := ev_rep htm hp
    simp only [RepA] at hprep
    obtain ⟨b, hb, hpe⟩ := hprep
    have hpok := ev_ok (fun t v hv => (hf.tm t v hv).2) hp
    simp only [AV.ok] at hpok
    obtain ⟨h', f1, r1, c1, c2, c3, c4, c5, c6⟩ := boxCells_sound (nm := .box d u off) trivial hcs hf hr hdp hrep hok
    obtain ⟨q1, q2, b2, c, e, q3, q4, ⟨q5, -⟩, q6, q7⟩ := f1.gi.bx d u bo hbo
    have hbb : h'.be d u = h.be d u := by rw [c6]
    rw [hbb, hb] at q3; cases q3
    have hl1 : (a.eval x).cells.toList.length = cs.length := c1.length
    have hcl : c.size = bo.cells.length := by simpa using q5.length
    have hcsok : AV.oks IsBox (KG (letIn (.box d u off) av s).g d) (YG (letIn (.box d u off) av s).g d) cs := by
     have e0 := letIn_dp (.box d u off) av s
     have h1 : AV.oks IsBox (KG s.g d) (YG s.g d) cs := by
      simp only [Bool.or_eq_true, Nat.beq_eq] at hup
      rcases hup with hup | hup
      ·rw [hup]; exact c3
      ·exact AV.oks.upto cs hup c3
     refine AV.oks.mono (fun _ h => h) (fun d' t' hk => KG_let d' t' hk) ?_ _ h1
     intro l hl
     obtain ⟨r, h1, h2⟩ := hl
     refine ⟨r, ?_, h2⟩
     rw [e0.2.2.1]; exact h1
    have hsz : cs.length = ti.size := by
     cases hag : ti.agg with
     | true => exact (c4 hag).1
     | false => rw [(c5 hag).1, hty.one hag]
    obtain ⟨n1, n2⟩ := f1.setBox r1 (d := d) (u := u) (b := b) hbo hfrz (by rw [hbb, hb]) q4
     (c' := (c.toList.take off ++ (a.eval x).cells.toList ++ c.toList.drop (off + (a.eval x).cells.toList.length)).toArray) (cs' := setCells bo.cells off cs)
     (by
      refine RepBx.plain ?_ htyz
      simp only [List.toList_toArray]
      unfold setCells
      rw [hl1]
      exact (q5.take.append c1).append q5.drop)
     (by
      unfold setCells
      refine oks_append (oks_append ?_ hcsok) ?_
      ·exact oks_of fun y hy => oks_mem q2 y (List.mem_of_mem_take hy)
      ·exact oks_of fun y hy => oks_mem q2 y (List.mem_of_mem_drop hy))
     (by
      intro v hv
      simp only [List.toList_toArray, List.mem_append] at hv
      rcases hv with (hv | hv) | hv
      ·exact q6 v (List.mem_of_mem_take hv)
      ·exact c2 v hv
      ·exact q6 v (List.mem_of_mem_drop hv))
    refine ⟨.skip, w.setRow b (c.toList.take off ++ (a.eval x).cells.toList ++ c.toList.drop (off + (a.eval x).cells.toList.length)).toArray, a.put o.dst undef, h', ?_, .inr ⟨rfl, rfl⟩, ?_, ?_⟩
    ·have hst := run_storeCells_at P b off e.1 (a.eval x).cells.toList 0 c w q4 (by rw [hl1]; omega) c2
     simp only [Nat.add_zero] at hst
     have hsizeOf := hty.size w
     have hcs2 : (a.eval x).cells.size = ti.size := by
      have : (a.eval x).cells.size = (a.eval x).cells.toList.length := by simp
      rw [this, hl1, hsz]
     simp [execOp, ho, hpe, Instr.storeAt, Instr.sureAddr, storeVar, hsizeOf, hcs2, hst]
    ·rw [hdst]; exact n1
    ·exact n2
   ·cases hs
  ·cases hs
theorem RepF.replicate {w : World} {L : Nat → Nat} {z : List D} {vz : List Value} (hz : RepVs w L z vz) : ∀ (n : Nat), RepF w L (List.replicate n z) (List.replicate n vz).flatten
 | 0 => by simp [RepF]
 | n + 1 => by
  simp only [List.replicate_succ, List.flatten_cons, RepF]
  exact ⟨_, _, rfl, hz, RepF.replicate hz n⟩
theorem RepF.set {w : World} {L : Nat → Nat} {sz : Nat} : ∀ {es : List (List D)} {vs : List Value} {i : Nat} {e : List D} {us : List Value}, RepF w L es vs → (∀ x ∈ es, x.length = sz) →
  i < es.length → RepVs w L e us → e.length = sz → RepF w L (es.set i e) (vs.take (i * sz) ++ us ++ vs.drop (i * sz + us.length))
 | [], _, _, _, _, _, _, hi, _, _ => by simp at hi
 | x :: es, vs, 0, e, us, h, hs, _, he, hl => by
  simp only [RepF] at h
  obtain ⟨a, b, rfl, h1, h2⟩ := h
  have ha : a.length = sz := by rw [h1.length]; exact hs x (by simp)
  have hu : us.length = sz := by rw [he.length]; exact hl
  simp only [List.set_cons_zero, RepF]
  refine ⟨us, b, ?_, he, h2⟩
  simp [hu, ha]
 | x :: es, vs, i + 1, e, us, h, hs, hi, he, hl => by
  simp only [RepF] at h
  obtain ⟨a, b, rfl, h1, h2⟩ := h
  have ha : a.length = sz := by rw [h1.length]; exact hs x (by simp)
  have ih := RepF.set (i := i) h2 (fun y hy => hs y (by simp [hy])) (by simpa using hi) he hl
  simp only [List.set_cons_succ, RepF]
  refine ⟨a, _, ?_, h1, ih⟩
  have e1 : (i + 1) * sz = a.length + i * sz := by rw [Nat.succ_mul, ha, Nat.add_comm]
  rw [e1, List.take_append, List.drop_append, List.take_of_length_le (l := a) (by omega), List.drop_eq_nil_of_le (as := a) (by omega)]
  simp only [List.append_assoc, List.nil_append]
  rw [show a.length + i * sz - a.length = i * sz by omega, show a.length + i * sz + us.length - a.length = i * sz + us.length by omega]
mutual
 theorem AV.ok.setRaw {Q : Id → Prop} {K : Nat → Nat → Prop} {Y : Nat → Prop} {i : Id} {n sz : Nat} {c : List D} : ∀ (a : AV), a.ok Q K Y → (setRaw i n sz c a).ok Q K Y
  | .d _, _ => by simp [Go.Abs.setRaw, AV.ok]
  | .own _ _ _, h => by simpa only [Go.Abs.setRaw, AV.ok] using h
  | .ptr _ _ _, h => by simpa only [Go.Abs.setRaw, AV.ok] using h
  | .fn _ _, h => by simpa only [Go.Abs.setRaw, AV.ok] using h
  | .tup xs, h => by simp only [Go.Abs.setRaw, AV.ok] at h ⊢; exact AV.oks.setRaw xs h
  | .yld _, h => by simpa only [Go.Abs.setRaw, AV.ok] using h
  | .old _ _ _, _ => by simp [Go.Abs.setRaw, AV.ok]
  | .raw _ _ j _ _, h => by
   simp only [Go.Abs.setRaw, AV.ok] at h ⊢
   split
   ·split <;> simp only [AV.ok] <;> exact h
   ·exact h
 theorem AV.oks.setRaw {Q : Id → Prop} {K : Nat → Nat → Prop} {Y : Nat → Prop} {i : Id} {n sz : Nat} {c : List D} : ∀ (as : List AV), AV.oks Q K Y as → AV.oks Q K Y (setRaws i n sz c as)
  | [], _ => by simp [setRaws, AV.oks]
  | a :: as, h => by simp only [setRaws, AV.oks] at h ⊢; exact ⟨AV.ok.setRaw a h.1, AV.oks.setRaw as h.2⟩
end
theorem setBx_some {i : Id} {n sz : Nat} {c : List D} {bx : Nat → Nat → Option Box} {d t : Nat} {b : Box} (h : setBx i n sz c bx d t = some b) : ∃ b0, bx d t = some b0 ∧ b = { b0 with cells := setRaws i n sz c b0.cells } := by
 unfold setBx at h
 cases hb : bx d t with
 | none => simp [hb] at h
 | some b0 => simp [hb] at h; exact ⟨b0, rfl, h.symm⟩
theorem setBx_isSome (i : Id) (n sz : Nat) (c : List D) (bx : Nat → Nat → Option Box) (d t : Nat) : (setBx i n sz c bx d t).isSome = (bx d t).isSome := by
 unfold setBx; cases bx d t <;> rfl
theorem setTm_some {i : Id} {n sz : Nat} {c : List D} {tm : Nat → Option AV} {t : Nat} {a : AV} (h : setTm i n sz c tm t = some a) : ∃ a0, tm t = some a0 ∧ a = setRaw i n sz c a0 := by
 unfold setTm at h
 cases hb : tm t with
 | none => simp [hb] at h
 | some b0 => simp [hb] at h; exact ⟨b0, rfl, h.symm⟩
def putRow (cc : Array Value) (m : Nat) (us : List Value) : Array Value := (cc.toList.take m ++ us ++ cc.toList.drop (m + us.length)).toArray
theorem putRow_size {cc : Array Value} {m : Nat} {us : List Value} (h : m + us.length ≤ cc.size) : (putRow cc m us).size = cc.size := by
 simp [putRow]; omega
theorem putRow_get {cc : Array Value} {m : Nat} {us : List Value} (h : m + us.length ≤ cc.size) (k : Nat) : (putRow cc m us)[k]? = if m ≤ k ∧ k < m + us.length then us[k - m]? else cc[k]? := by
 simp only [putRow, List.append_assoc, List.getElem?_toArray]
 by_cases h1 : k < m
 ·rw [List.getElem?_append_left (by simp; omega), List.getElem?_take, if_pos h1, if_neg (by omega)]; simp
 ·have hm : (cc.toList.take m).length = m := by simp; omega
  rw [List.getElem?_append_right (by omega), hm]
  by_cases h2 : k < m + us.length
  ·rw [List.getElem?_append_left (by omega), if_pos (by omega)]
  ·rw [List.getElem?_append_right (by omega), if_neg (by omega), List.getElem?_drop]
   rw [show m + us.length + (k - m - us.length) = k by omega]; simp
section
variable {w : World} {h : Gh} {i : Id} {b k n sz : Nat} {c : List D} {us : List Value} {cc : Array Value} {e : TypeId}
theorem ext_putRow (hheap : w.heap[b]? = some (.cells cc e (0, 0))) (hL : h.L b = k * sz) (hkn : k ≤ n) (hus : us.length = sz) (hfit : (n + 1) * sz ≤ cc.size) : Ext w h.L (w.setRow b (putRow cc (n * sz) us)) h.L where
 lim := fun _ => Nat.le_refl _
 cell := fun b' q hq => by
  have hle : k * sz ≤ n * sz := Nat.mul_le_mul_right _ hkn
  have hfit' : n * sz + us.length ≤ cc.size := by rw [hus]; rw [Nat.succ_mul] at hfit; exact hfit
  by_cases hb : b' = b
  ·subst hb
   rw [hL] at hq
   rw [cell_setRow_same w b' q cc _ e (0, 0) hheap]
   simp only [World.cell?, hheap]
   rw [putRow_get hfit', if_neg (by omega)]
   simp
  ·exact cell_setRow_other w b _ ⟨b', q, none⟩ hb
theorem heap_putRow (hheap : w.heap[b]? = some (.cells cc e (0, 0))) (hus : us.length = sz) (hfit : (n + 1) * sz ≤ cc.size) {b' : Nat} {c1 : Array Value} {e1 : TypeId} (h1 : w.heap[b']? = some (.cells c1 e1 (0, 0))) :
  ∃ c2, (w.setRow b (putRow cc (n * sz) us)).heap[b']? = some (.cells c2 e1 (0, 0)) ∧ c2.size = c1.size := by
 by_cases hb : b' = b
 ·subst hb
  rw [hheap] at h1; cases h1
  exact ⟨_, setRow_heap w b' cc _ e (0, 0) hheap, putRow_size (by rw [hus]; rw [Nat.succ_mul] at hfit; exact hfit)⟩
 ·exact ⟨c1, by rw [setRow_other w b b' _ hb, h1], rfl⟩
structure Turn (w : World) (h : Gh) (i : Id) (b k n sz : Nat) (c : List D) (us : List Value) (cc : Array Value) (e : TypeId) : Prop where
 inj : ∀ j, h.ga j = some b → j = i
 ga : h.ga i = some b
 heap : w.heap[b]? = some (.cells cc e (0, 0))
 lim : h.L b = k * sz
 low : k ≤ n
 pos : 1 ≤ sz
 rep : RepVs w h.L c us
 len : c.length = sz
 one : ∀ u ∈ us, u.oneCell' = true
 fit : (n + 1) * sz ≤ cc.size
theorem Turn.ext (ht : Turn w h i b k n sz c us cc e) : Ext w h.L (w.setRow b (putRow cc (n * sz) us)) h.L :=
 ext_putRow ht.heap ht.lim ht.low (by rw [ht.rep.length, ht.len]) ht.fit
theorem Turn.raw (ht : Turn w h i b k n sz c us cc e) {o : Option Nat} {k' : Nat} {j : Id} {z : Nat} {es : List (List D)} {v : Value} (hr : RepA w h (.raw o k' j z es) v) :
  RepA (w.setRow b (putRow cc (n * sz) us)) h (setRaw i n sz c (.raw o k' j z es)) v := by
 have hul : us.length = sz := by rw [ht.rep.length, ht.len]
 have hfit' : n * sz + us.length ≤ cc.size := by have := ht.fit; rw [hul]; rw [Nat.succ_mul] at this; exact this
 have hE := ht.ext
 have hold := hr.raw_old
 simp only [Go.Abs.setRaw]
 split
 ·rename_i hij
  subst hij
  cases hz : Nat.beq z sz with
  | false => simp only [RepA]; exact hold
  | true =>
   have hz : z = sz := by simpa using hz
   subst hz
   simp only [RepA] at hr ⊢
   rcases hr with ⟨ho, ⟨hk, rfl⟩, hr⟩ | ⟨⟨hk, rfl⟩, h1, h2⟩ | ⟨b', m, cp, vs, c1, e1, hv, hm, hn, hc, hkn, hs, hf, hg, hL, hh, hrm, hcells⟩
   ·exact .inl ⟨ho, ⟨hk, rfl⟩, hr.ext hE⟩
   ·exact .inr (.inl ⟨⟨hk, rfl⟩, h1, h2⟩)
   ·rw [ht.ga] at hg; cases hg
    rw [ht.heap] at hh; cases hh
    have hkk : k' = k := by
     rw [ht.lim] at hL
     have := ht.pos
     exact (Nat.eq_of_mul_eq_mul_right (by omega) hL).symm
    subst hkk
    have hvl : vs.length = m * z := by rw [hf.length hs, hn]
    have hf' := RepF.ext hE es vs hf
    have hrep' := RepVs.ext hE _ _ ht.rep
    refine .inr (.inr ⟨b, m, cp, (if n < es.length then vs.take (n * z) ++ us ++ vs.drop (n * z + us.length) else vs), _, e, hv, hm, by rw [List.length_set]; exact hn, hc, hkn, ?_, ?_, ht.ga, ht.lim, setRow_heap w b cc _ e (0, 0) ht.heap, by rw [putRow_size hfit']; exact hrm, ?_⟩)
    ·intro x hx
     rcases List.mem_or_eq_of_mem_set hx with hx | rfl
     ·exact hs x hx
     ·exact ht.len
    ·split
     ·rename_i hlt
      exact RepF.set hf' hs hlt hrep' ht.len
     ·rename_i hlt
      rw [List.set_eq_of_length_le (by omega)]; exact hf'
    ·intro q u hq
     rw [Nat.zero_add, cell_setRow_same w b q cc _ e (0, 0) ht.heap, putRow_get hfit']
     have hcc : ∀ (q : Nat) (u : Value), vs[q]? = some u → cc[q]? = some u ∧ u.oneCell' = true := by
      intro q u hq
      have := hcells q u hq
      simp only [World.cell?, ht.heap, Nat.zero_add] at this
      exact ⟨by simpa using this.1, this.2⟩
     split at hq
     ·rename_i hlt
      have hle : (n + 1) * z ≤ m * z := Nat.mul_le_mul_right _ (by omega)
      rw [Nat.succ_mul] at hle
      rw [List.append_assoc] at hq
      have htk : (vs.take (n * z)).length = n * z := by simp; omega
      by_cases h1 : q < n * z
      ·rw [List.getElem?_append_left (by omega), List.getElem?_take, if_pos h1] at hq
       rw [if_neg (by omega)]; exact hcc q u hq
      ·rw [List.getElem?_append_right (by omega), htk] at hq
       by_cases h2 : q < n * z + us.length
       ·rw [List.getElem?_append_left (by omega)] at hq
        rw [if_pos (by omega)]
        exact ⟨hq, ht.one u (List.mem_of_getElem? hq)⟩
       ·rw [List.getElem?_append_right (by omega), List.getElem?_drop] at hq
        rw [if_neg (by omega)]
        rw [show n * z + us.length + (q - n * z - us.length) = q by omega] at hq
        exact hcc q u hq
     ·rename_i hlt
      have hlt' : q < vs.length := (List.getElem?_eq_some_iff.1 hq).1
      have hle : m * z ≤ n * z := Nat.mul_le_mul_right _ (by omega)
      rw [if_neg (by omega)]; exact hcc q u hq
 ·rename_i hij
  refine RepA.raw_map hr hE fun b' hb' => ?_
  have hne : b' ≠ b := by
   intro e; subst e
   exact hij (ht.inj j hb').symm
  exact ⟨hb', rfl, setRow_other w b b' _ hne⟩
theorem Turn.own (ht : Turn w h i b k n sz c us cc e) {j : Id} {z : Nat} {es : List (List D)} {v : Value} (hr : RepA w h (.own j z es) v) : RepA (w.setRow b (putRow cc (n * sz) us)) h (.own j z es) v := by
 have hE := ht.ext
 simp only [RepA] at hr ⊢
 rcases hr with hr | ⟨b', m, cp, vs, c1, e1, rfl, hn, hc, hs, hf, hg, hL, hh, hrm, hcells⟩
 ·exact .inl (hr.ext hE)
 ·obtain ⟨c2, h2, h3⟩ := heap_putRow ht.heap (us := us) (by rw [ht.rep.length, ht.len]) ht.fit hh
  exact .inr ⟨b', m, cp, vs, c2, e1, rfl, hn, hc, hs, RepF.ext hE _ _ hf, hg, hL, h2, by rw [h3]; exact hrm, hcells.ext hE (by rw [hf.length hs, hL, hn]; omega)⟩
mutual
 theorem RepA.setRaw {Q : Id → Prop} {K : Nat → Nat → Prop} {Y : Nat → Prop} (ht : Turn w h i b k n sz c us cc e) : ∀ (a : AV) (v : Value), a.ok Q K Y → RepA w h a v → RepA (w.setRow b (putRow cc (n * sz) us)) h (setRaw i n sz c a) v
  | .d x, v, _, hr => by simp only [Go.Abs.setRaw, RepA] at hr ⊢; exact hr.ext ht.ext
  | .ptr _ _ _, v, _, hr => by simpa only [Go.Abs.setRaw, RepA] using hr
  | .yld _, v, _, hr => by simpa only [Go.Abs.setRaw, RepA] using hr
  | .old _ _ _, v, _, hr => by simpa only [Go.Abs.setRaw, RepA] using hr
  | .fn f caps, v, hok, hr => by
   simp only [Go.Abs.setRaw, RepA, AV.ok] at hr hok ⊢
   obtain ⟨cv, rfl, hcv⟩ := hr
   exact ⟨cv, rfl, RepAs.ext ht.ext (fun _ _ _ _ h => h) (fun _ _ => rfl) (fun _ _ h => h.elim) caps _ hok hcv⟩
  | .tup xs, v, hok, hr => by
   simp only [Go.Abs.setRaw, RepA, AV.ok] at hr hok ⊢
   obtain ⟨cv, rfl, hcv⟩ := hr
   exact ⟨cv, rfl, RepAs.setRaw ht xs _ hok hcv⟩
  | .own j z es, v, _, hr => by simp only [Go.Abs.setRaw]; exact ht.own hr
  | .raw o k' j z es, v, _, hr => ht.raw hr
 theorem RepAs.setRaw {Q : Id → Prop} {K : Nat → Nat → Prop} {Y : Nat → Prop} (ht : Turn w h i b k n sz c us cc e) : ∀ (as : List AV) (vs : List Value), AV.oks Q K Y as → RepAs w h as vs → RepAs (w.setRow b (putRow cc (n * sz) us)) h (setRaws i n sz c as) vs
  | [], vs, _, hr => by simpa only [setRaws, RepAs] using hr
  | a :: as, vs, hok, hr => by
   simp only [setRaws, RepAs, AV.oks] at hr hok ⊢
   obtain ⟨u, us', rfl, h1, h2⟩ := hr
   exact ⟨u, us', rfl, RepA.setRaw ht a u hok.1 h1, RepAs.setRaw ht as us' hok.2 h2⟩
end
end
theorem setRaws_get (i : Id) (n sz : Nat) (c : List D) : ∀ (as : List AV) (k : Nat), (setRaws i n sz c as)[k]? = (as[k]?).map (setRaw i n sz c)
 | [], k => by simp [setRaws]
 | a :: as, 0 => by simp [setRaws]
 | a :: as, k + 1 => by simp [setRaws, setRaws_get i n sz c as k]
theorem RepBx.setRaw {w : World} {h : Gh} {i : Id} {b k n sz : Nat} {c : List D} {us : List Value} {cc : Array Value} {e : TypeId} {Q : Id → Prop} {K : Nat → Nat → Prop} {Y : Nat → Prop} {ty : Nat × Nat} (ht : Turn w h i b k n sz c us cc e) (as : List AV) (vs : List Value) (ho : AV.oks Q K Y as) (hr : RepBx w h ty as vs) :
  RepBx (w.setRow b (putRow cc (n * sz) us)) h ty (setRaws i n sz c as) vs := by
 refine ⟨RepAs.setRaw ht as vs ho hr.1, fun hty j z es v hi hv => ?_⟩
 rw [setRaws_get] at hi
 cases ha : as[1]? with
 | none => rw [ha] at hi; cases hi
 | some a =>
  rw [ha] at hi
  simp only [Option.map_some, Option.some.injEq] at hi
  cases a with
  | own k' z' es' =>
   simp only [Abs.setRaw, AV.own.injEq] at hi
   obtain ⟨rfl, rfl, rfl⟩ := hi
   rcases hr.2 hty _ _ _ v ha hv with h1 | ⟨b', n', c', cc', h1, h2, h3, h4, h5, h6, h7⟩
   ·exact .inl h1
   ·obtain ⟨c2, q1, q2⟩ := heap_putRow ht.heap (us := us) (by rw [ht.rep.length, ht.len]) ht.fit h4
    exact .inr ⟨b', n', c', c2, h1, h2, h3, q1, h5, by rw [q2]; exact h6, h7⟩
  | raw o k' j' z' es' =>
   simp only [Abs.setRaw] at hi
   split at hi
   ·split at hi <;> cases hi
   ·cases hi
  | _ => simp only [Abs.setRaw] at hi; cases hi
theorem FI.setElem {s : St} {a : Act} {w : World} {h : Gh} (hf : FI nt s a w h) (hr : Rel g0 h0 w0 s.g w h) {i : Id} {b k n sz : Nat} {c : List D} {us : List Value} {cc : Array Value} {e : TypeId}
  (ht : Turn w h i b k n sz c us cc e) (hid : ∀ d t k, i = .tmp d t k → g0.dp < d) :
  FI nt (setSt i n sz c s) a (w.setRow b (putRow cc (n * sz) us)) h ∧ Rel g0 h0 w0 (setSt i n sz c s).g (w.setRow b (putRow cc (n * sz) us)) h := by
 have hE := ht.ext
 have hother : ∀ k, k ≠ b → (w.setRow b (putRow cc (n * sz) us)).heap[k]? = w.heap[k]? := fun k hk => setRow_other w b k _ hk
 have hK : ∀ n' d' t', KG s.g n' d' t' → KG (setSt i n sz c s).g n' d' t' := fun n' d' t' hk => ⟨hk.1, by
  show (setBx i n sz c s.g.bx d' t').isSome = true
  rw [setBx_isSome]; exact hk.2⟩
 have hdef : ∀ D : Nat, w.heap[D]? = some (Obj.deferred (some [])) → (w.setRow b (putRow cc (n * sz) us)).heap[D]? = some (Obj.deferred (some [])) := by
  intro D hD
  rw [hother D (by intro e; rw [e, ht.heap] at hD; cases hD), hD]
 refine ⟨⟨hf.size, ?_, ?_, ?_⟩, ?_⟩
 ·intro t v hv
  obtain ⟨v0, hv0, rfl⟩ := setTm_some hv
  obtain ⟨h5, h6⟩ := hf.tm t v0 hv0
  exact ⟨RepA.setRaw ht v0 _ h6 h5, AV.ok.mono (fun _ h => h) (fun d' t' hk => hK _ d' t' hk) (fun _ h => h) _ (AV.ok.setRaw v0 h6)⟩
 ·refine { bx := ?_, inj := ?_, gaBx := ?_, gaInj := hf.gi.gaInj, gaLt := ?_, gaC := ?_, lim := ?_, lp := ?_, roInj := hf.gi.roInj, gaTop := hf.gi.gaTop }
  ·intro d' t' bo' hbo'
   obtain ⟨b0, hb0, rfl⟩ := setBx_some hbo'
   obtain ⟨g1, g2, b2, c2, e2, h3, h4, h5, h6, h7⟩ := hf.gi.bx d' t' b0 hb0
   have hne : b2 ≠ b := by
    intro e; subst e
    exact hf.gi.gaBx i b2 d' t' ht.ga (by rw [hb0]; rfl) h3
   exact ⟨g1, AV.oks.mono (fun _ h => h) (fun d t hk => hK _ d t hk) (fun _ h => h) _ (AV.oks.setRaw _ g2), b2, c2, e2, h3, by rw [hother b2 hne, h4], RepBx.setRaw ht _ _ g2 h5, h6, h7⟩
  ·intro d1 t1 d2 t2 b' h2 h3 h4 h5
   simp only [setSt, setBx_isSome] at h2 h3
   exact hf.gi.inj d1 t1 d2 t2 b' h2 h3 h4 h5
  ·intro j b' d1 t1 hi hs
   simp only [setSt, setBx_isSome] at hs
   exact hf.gi.gaBx j b' d1 t1 hi hs
  ·intro j b' hi
   rw [size_setRow]; exact hf.gi.gaLt j b' hi
  ·intro j b' hi
   obtain ⟨c1, e1, hc⟩ := hf.gi.gaC j b' hi
   obtain ⟨c2, h2, _⟩ := heap_putRow ht.heap (us := us) (by rw [ht.rep.length, ht.len]) ht.fit hc
   exact ⟨c2, e1, h2⟩
  ·intro b' hb'
   rw [size_setRow] at hb'; exact hf.gi.lim b' hb'
  ·intro l r hl
   obtain ⟨hp, D, tmps, h2, h3, h4, h5⟩ := hf.gi.lp l r hl
   refine ⟨hp, D, tmps, ?_, hdef D h3, h4, fun t v hv => ?_⟩
   ·rw [hother _ (by intro e; rw [e, ht.heap] at h2; cases h2), h2]
   ·obtain ⟨h6, h7⟩ := h5 t v hv
    exact ⟨RepA.ext hE (fun _ _ _ _ h => h) (fun _ _ => rfl) (fun _ _ h => h.elim) v _ h7 h6, AV.ok.mono (fun _ h => h) (fun d' t' hk => hK _ d' t' hk) (fun _ h => h) v h7⟩
 ·intro x hx D hD
  exact hdef D (hf.dfr x hx D hD)
 ·have hmay := hr.gaMay i b hid ht.ga
  exact
   {os := hr.os
    tape := hr.tape
    output := hr.output
    size := by rw [size_setRow]; exact hr.size
    ext := hr.ext.trans hE
    keep := fun b' hb' hm => by
     obtain ⟨a1, a2⟩ := hr.keep b' hb' hm
     have hne : b' ≠ b := by
      intro e; subst e
      rcases hmay with h2 | h2
      ·omega
      ·exact hm h2
     exact ⟨(hother b' hne).trans a1, a2⟩
    bxs := fun d' t' hs => by
     obtain ⟨a1, a2⟩ := hr.bxs d' t' hs
     exact ⟨by show (setBx i n sz c s.g.bx d' t').isSome = true; rw [setBx_isSome]; exact a1, a2⟩
    ro := hr.ro
    ga := hr.ga
    bxMay := fun d' t' b' hs hb' => hr.bxMay d' t' b' (by simpa only [setSt, setBx_isSome] using hs) hb'
    gaMay := hr.gaMay
    lpMay := hr.lpMay
    lpLen := hr.lpLen }
theorem rowCells_sound {ti : TI} {a : AV} {cs : List D} (hc : rowCells ti a = some cs) (hty : ti.agg = false → ti.size = 1) {w : World} {h : Gh} {v : Value} (hrep : RepA w h a v) :
  cs.length = ti.size ∧ RepVs w h.L cs v.cells.toList ∧ ∀ u ∈ v.cells.toList, u.oneCell' = true := by
 unfold rowCells at hc
 split at hc
 ·split at hc
  ·rename_i x hdata
   split at hc
   case isFalse => cases hc
   rename_i hlen
   simp only [Option.some.injEq] at hc; subst hc
   have hx := hrep.data a _ v hdata
   obtain ⟨h1, h2⟩ := hx.cells
   exact ⟨by simpa using hlen, by simpa [D.cells] using h1, h2⟩
  ·cases hc
 ·rename_i hagg
  split at hc
  ·cases hc
  ·rename_i x hna hdata
   simp only [Option.some.injEq] at hc; subst hc
   have hx := hrep.data a _ v hdata
   obtain ⟨h1, h2⟩ := hx.cells
   have hcl : x.cells = [x] := by cases x <;> first | rfl | exact absurd rfl (hna _)
   rw [hcl] at h1
   exact ⟨by rw [hty hagg]; rfl, h1, h2⟩
  ·cases hc
theorem storeR_sound (hT : TyOk P T) {o : Oper} {t : TypeId} {p x : Operand} (ho : o.op = .store t p x) (hdst : o.dst = none) {s s' : St} {a : Act} {w : World} {h : Gh}
  (hf : FI nt s a w h) (hr : Rel g0 h0 w0 s.g w h) (hdp : g0.dp < s.g.dp) {ti : TI} {n k : Nat} {i : Id} {sz : Nat} {es : List (List D)} {av : AV} (hti : T t = some ti) (hp : ev s.tm p = some (.raw (some n) k i sz es)) (hx : ev s.tm x = some av)
  (hs : storeR ti n k i sz es av s = some s') : Steps1 P nt g0 h0 w0 o s' a w := by
 unfold storeR at hs
 split at hs
 case h_2 => cases hs
 rename_i cs hcs
 split at hs
 case isFalse => cases hs
 rename_i hc
 simp only [Bool.and_eq_true, Nat.beq_eq, Nat.ble_eq] at hc
 obtain ⟨⟨hsz, hpos⟩, hkn, hlt⟩ := hc
 have hlt : n < es.length := by
  have := hlt
  simp [Nat.blt] at this
  omega
 simp only [Option.some.injEq] at hs; subst hs
 have hty := hT t ti hti
 have htm : Tms w h s.tm a := fun t v hv => (hf.tm t v hv).1
 have hprep := ev_rep htm hp
 have hpok := ev_ok (fun t v hv => (hf.tm t v hv).2) hp
 simp only [AV.ok] at hpok
 obtain ⟨c1, c2, c3⟩ := rowCells_sound hcs (fun h => hty.one h) (ev_rep htm hx)
 simp only [RepA] at hprep
 rcases hprep with ⟨h1, _⟩ | ⟨⟨_, h1⟩, _⟩ | ⟨b, m, cp, vs, cc, e, hv, hm, hn, hcc, hkm, hus, hrf, hg, hL, hh, hrm, hcells⟩
 ·cases h1
 ·rw [h1] at hlt; simp at hlt
 ·have hmm := hm n rfl
  have hul : (a.eval x).cells.toList.length = sz := by rw [c2.length, c1, hsz]
  have hfit : (n + 1) * sz ≤ cc.size := Nat.le_trans (Nat.mul_le_mul_right _ (by omega)) hrm
  have ht : Turn w h i b k n sz cs (a.eval x).cells.toList cc e := ⟨fun j hj => hf.gi.gaInj j i b hj hg, hg, hh, hL, hkn, hpos, c2, by rw [c1, hsz], c3, hfit⟩
  have hid : ∀ d t k, i = .tmp d t k → g0.dp < d := by
   intro d t k e
   subst e
   rw [hpok.1]; exact hdp
  obtain ⟨n1, n2⟩ := hf.setElem hr ht hid
  refine ⟨.skip, w.setRow b (putRow cc (n * sz) (a.eval x).cells.toList), a.put o.dst undef, h, ?_, .inr ⟨rfl, rfl⟩, ?_, n2⟩
  ·have hst := run_storeCells_at P b (n * sz) e (a.eval x).cells.toList 0 cc w hh (by rw [hul]; rw [Nat.succ_mul] at hfit; exact hfit) c3
   simp only [Nat.add_zero] at hst
   have hsizeOf := hty.size w
   have hcs2 : (a.eval x).cells.size = ti.size := by
    have : (a.eval x).cells.size = (a.eval x).cells.toList.length := by simp
    rw [this, hul, hsz]
   have hpe : a.eval p = .pointer (some ⟨b, n * sz, none⟩) := hv
   simp [execOp, ho, hpe, Instr.storeAt, Instr.sureAddr, storeVar, hsizeOf, hcs2, hst, putRow]
  ·rw [hdst]; exact n1
theorem storeA_sound (hT : TyOk P T) {o : Oper} {t : TypeId} {p x : Operand} (ho : o.op = .store t p x) (hdst : o.dst = none) {s s' : St} {a : Act} {w : World} {h : Gh}
  (hf : FI nt s a w h) (hr : Rel g0 h0 w0 s.g w h) (hdp : g0.dp < s.g.dp) (hs : storeA T t p x s = some s') : Steps1 P nt g0 h0 w0 o s' a w := by
 unfold storeA at hs
 split at hs
 ·rename_i ti d u off av hti hp hx
  exact storeB_sound hT ho hdst hf hr hdp hti hp hx hs
 ·rename_i ti n k i sz es av hti hp hx
  exact storeR_sound hT ho hdst hf hr hdp hti hp hx hs
 ·cases hs
theorem fill_rows {w : World} {h : Gh} {sz : Nat} {e : Operand → Option AV} {ea : Operand → Value} (he : ∀ x v, e x = some v → RepA w h v (ea x)) :
  ∀ (parts : List (Nat × Operand)) (es es' : List (List D)) (vs : Array Value), partCells sz e parts es = some es' → RepF w h.L es vs.toList → (∀ x ∈ es, x.length = sz) → (∀ u ∈ vs.toList, u.oneCell' = true) →
   ∃ vs', Instr.fill (fun i => some (i * sz, sz)) vs (parts.map fun p => (p.1, ea p.2)) = some vs' ∧ RepF w h.L es' vs'.toList ∧ (∀ x ∈ es', x.length = sz) ∧ es'.length = es.length ∧ (∀ u ∈ vs'.toList, u.oneCell' = true)
 | [], es, es', vs, hb, hr, hs, h1 => by
  simp only [partCells, Option.some.injEq] at hb; subst hb
  exact ⟨vs, by simp [Instr.fill], hr, hs, rfl, h1⟩
 | (i, x) :: rest, es, es', vs, hb, hr, hs, h1 => by
  simp only [partCells] at hb
  cases hx : e x with
  | none => simp [hx] at hb
  | some a =>
   simp only [hx] at hb
   cases hd : a.data with
   | none => simp [hd] at hb
   | some v =>
    simp only [hd] at hb
    split at hb
    case isFalse => cases hb
    rename_i hc
    simp only [Bool.and_eq_true, Nat.beq_eq] at hc
    obtain ⟨hc1, hc2⟩ := hc
    have hc2 : i < es.length := by
     have := hc2
     simp [Nat.blt] at this
     omega
    have hrep : RepV w h.L v (ea x) := (he x a hx).data a v _ hd
    obtain ⟨g1, g2⟩ := hrep.cells
    have hl1 : (ea x).cells.toList.length = v.cells.length := g1.length
    have hl2 : vs.toList.length = es.length * sz := hr.length hs
    have hsz : (ea x).cells.size = sz := by simpa [hc1] using hl1
    have hvsz : vs.size = es.length * sz := by simpa using hl2
    have hle : (i + 1) * sz ≤ es.length * sz := Nat.mul_le_mul_right _ hc2
    rw [Nat.succ_mul] at hle
    have hk := foldl_set (i * sz) (ea x).cells.toList 0 vs (by simp; omega)
    simp only [Nat.add_zero] at hk
    have hfill : Instr.fill (fun i => some (i * sz, sz)) vs (((i, x) :: rest).map fun p => (p.1, ea p.2)) =
      Instr.fill (fun i => some (i * sz, sz)) (((ea x).cells.toList.zipIdx 0).foldl (fun cs (c, j) => cs.setIfInBounds (i * sz + j) c) vs) (rest.map fun p => (p.1, ea p.2)) := by
     simp only [List.map_cons, Instr.fill]
     rw [if_neg (by simp; omega)]
     congr 1
     rw [← Array.foldl_toList]; simp
    rw [hfill]
    obtain ⟨vs', k1, k2, k3, k4, k5⟩ := fill_rows he rest (es.set i v.cells) es' _ hb (by
      rw [hk]
      exact hr.set hs hc2 g1 hc1)
     (by
      intro y hy
      rcases List.mem_or_eq_of_mem_set hy with hy | rfl
      ·exact hs y hy
      ·exact hc1)
     (by
      rw [hk]
      intro u hu
      simp only [List.mem_append] at hu
      rcases hu with (hu | hu) | hu
      ·exact h1 u (List.mem_of_mem_take hu)
      ·exact g2 u hu
      ·exact h1 u (List.mem_of_mem_drop hu))
    exact ⟨vs', k1, k2, k3, by rw [k4]; simp, k5⟩
theorem zeros_toList (z : Array Value) (n : Nat) (hz : 0 < z.size) : ((Array.range (n * z.size)).map (fun i => z[i % z.size]!)).toList = (List.replicate n z.toList).flatten := by
 apply List.ext_getElem?
 intro j
 have hlen : ((List.replicate n z.toList).flatten).length = n * z.size := by simp
 by_cases hj : j < n * z.size
 ·have h1 : (List.replicate n z.toList).flatten[j]? = z.toList[j % z.size]? := by
   clear hlen
   induction n generalizing j with
   | zero => simp at hj
   | succ n ih =>
    simp only [List.replicate_succ, List.flatten_cons]
    rw [List.getElem?_append]
    simp only [Array.length_toList]
    by_cases h2 : j < z.size
    ·rw [if_pos h2, Nat.mod_eq_of_lt h2]
    ·rw [if_neg h2, ih (j - z.size) (by rw [Nat.succ_mul] at hj; omega)]
     have : (j - z.size) % z.size = j % z.size := (Nat.mod_eq_sub_mod (by omega)).symm
     rw [this]
  rw [h1]
  have hm : j % z.size < z.size := Nat.mod_lt _ hz
  simp [hj, hm]
 ·rw [List.getElem?_eq_none (by simp; omega), List.getElem?_eq_none (by omega)]
theorem putOwn_some {k : Option Nat} {dst sz : Nat} {es : List (List D)} {s s' : St} (h : putOwn k dst sz es s = some s') :
  s.fr dst = false ∧ s' = { tm := upd s.tm dst (some (rowAV k (.tmp s.g.dp dst 0) sz es)), fr := setFr s.fr dst, g := s.g } := by
 unfold putOwn at h
 split at h
 ·cases h
 ·rename_i hf; cases h; exact ⟨by simpa using hf, rfl⟩
theorem buildSliceA_sound (hT : TyOk P T) {o : Oper} {dst t n : Nat} {parts : Array (Nat × Operand)} (ho : o.op = .buildSlice t n parts) (hdst : o.dst = some dst) (hd : dst < nt) {s s' : St} {a : Act} {w : World} {h : Gh}
  (hf : FI nt s a w h) (hr : Rel g0 h0 w0 s.g w h) (hdp : g0.dp < s.g.dp) (hs : buildSliceA T dst t n parts.toList s = some s') : Steps1 P nt g0 h0 w0 o s' a w := by
 unfold buildSliceA at hs
 cases hti : T t with
 | none => simp [hti] at hs
 | some ti =>
  simp only [hti] at hs
  split at hs
  ·rename_i te hk hte
   split at hs
   ·rename_i es hes
    split at hs
    case isFalse => cases hs
    rename_i hc
    simp only [Bool.and_eq_true, Nat.ble_eq] at hc
    obtain ⟨hc1, hc2⟩ := hc
    obtain ⟨hfr, rfl⟩ := putOwn_some hs
    have hty := hT t ti hti
    have hte' := hT _ te hte
    have hu := hty.und hk
    obtain ⟨i, z, hi, hsi, _, hz, hzc⟩ := hte'.info
    obtain ⟨g1, g2⟩ := RepVs.plain (w := w) (L := h.L) hte'.plain
    have htm : Tms w h s.tm a := fun t v hv => (hf.tm t v hv).1
    have hzs : z.cells.size = te.size := by
     have : z.cells.size = z.cells.toList.length := by simp
     rw [this, hzc, List.length_map, hte'.len]
    have hz0 : (Array.range (n * te.size)).map (fun i => z.cells[i % z.cells.size]!) = (List.replicate n z.cells.toList).flatten.toArray := by
     apply Array.ext'
     rw [← hzs, zeros_toList z.cells n (by omega)]
    obtain ⟨vs', k1, k2, k3, k4, k5⟩ := fill_rows (w := w) (h := h) (sz := te.size) (fun x v => ev_rep htm) parts.toList (List.replicate n te.zero) es
     ((Array.range (n * te.size)).map (fun i => z.cells[i % z.cells.size]!)) hes
     (by rw [hz0]; simp only [List.toList_toArray]; exact RepF.replicate (by rw [hzc]; exact g1) n)
     (by intro x hx; rw [List.eq_of_mem_replicate hx]; exact hte'.len)
     (by
      rw [hz0]
      intro u hu
      simp only [List.toList_toArray, List.mem_flatten] at hu
      obtain ⟨l, hl, hul⟩ := hu
      rw [List.eq_of_mem_replicate hl, hzc] at hul
      exact g2 u hul)
    have k2 := k2.nrmC (ks := te.sls)
    have k3 : ∀ x ∈ es.map (nrmC te.sls), x.length = te.size := by
     intro x hx
     obtain ⟨y, hy, rfl⟩ := List.mem_map.1 hx
     rw [nrmC_len]; exact k3 y hy
    have hlen : (es.map (nrmC te.sls)).length = n := by rw [List.length_map, k4]; simp
    have hrun : (Instr.buildSlice t n (parts.map fun (i, x) => (i, a.eval x))).run P w = .ok (.slice (some ⟨w.heap.size, 0, none⟩) n n) (w.alloc (.cells vs' ti.elem (0, 0))) := by
     have hsz := hte'.size w
     have hfl := k1
     have hbig : ¬ (n * te.size > 16777216) := by omega
     by_cases hn0 : n * te.size = 0
     ·have hn : n = 0 := by
       rcases Nat.mul_eq_zero.1 hn0 with h | h
       ·exact h
       ·omega
      subst hn
      simp only [Nat.zero_mul] at hfl
      have e0 : ∀ f : Nat → Value, Array.map f (Array.range 0) = #[] := fun f => by simp
      rw [e0] at hfl
      simp only [Instr.buildSlice, Sem.run_bind, run_underlying hu, Result.andThen_ok, hsz]
      simp [newRow, e0, hfl]
     ·have h3 : ¬ (2 ^ 24 < n * te.size) := by omega
      simp only [Instr.buildSlice, Sem.run_bind, run_underlying hu, Result.andThen_ok, hsz]
      simp [h3, hn0, zeroValue, typeInfo, hi, hz, newRow, hfl]
    obtain ⟨n1, n2⟩ := hf.newRow hr hfr hd hdp (sz := te.size) (k := none) (es := es.map (nrmC te.sls)) (vs := vs'.toList) (cc := vs') (e := ti.elem) (cap := n) (Nat.le_refl _) (below_alloc w _) (by simp) (heap_new w _) k3 k2 (by omega)
     (by
      have : vs'.size = vs'.toList.length := by simp
      rw [this, k2.length k3, hlen]; exact Nat.le_refl _)
     (by
      intro k u hk'
      exact ⟨by simpa using hk', k5 u (List.mem_of_getElem? hk')⟩)
    simp only [limK] at n1 n2
    rw [hlen] at n1 n2
    refine ⟨_, _, _, _, by simp [execOp, ho, hrun]; rfl, .inl ⟨_, rfl, by rw [hdst]⟩, n1, ?_⟩
    exact n2
   ·cases hs
  ·cases hs
end
end Go.Abs
namespace Go.Abs
open Go
set_option linter.unusedVariables false
set_option linter.unusedSimpArgs false
section
variable {P : Program} {T : Nat → Option TI} {g0 : G} {h0 : Gh} {w0 : World} {nt : Nat}
theorem noIn_fresh {s : St} {a : Act} {w : World} {h : Gh} (hf : FI nt s a w h) {dst j : Nat} (hfr : s.fr dst = false) : NoIn (.tmp s.g.dp dst j) s := by
 refine ⟨fun t v hv => ?_, fun d t bo hb => ?_⟩
 ·refine AV.ok.mono ?_ (fun _ _ _ => trivial) (fun _ _ => trivial) v (hf.tm t v hv).2
  intro i hi e
  subst e
  have := hi.2
  rw [hfr] at this; cases this
 ·obtain ⟨_, h2, _⟩ := hf.gi.bx d t bo hb
  refine AV.oks.mono ?_ (fun _ _ _ => trivial) (fun _ _ => trivial) _ h2
  intro i hi e
  subst e
  exact hi
theorem FI.take {s : St} {a : Act} {w : World} {h : Gh} (hf : FI nt s a w h) (hr : Rel g0 h0 w0 s.g w h) {dst : Nat} (hd : dst < nt) {k : Option Nat} {sz : Nat} {es : List (List D)} {u : Value}
  (hrep : RepA w h (rowAV k (.tmp s.g.dp dst 0) sz es) u) :
  FI nt { tm := upd s.tm dst (some (rowAV k (.tmp s.g.dp dst 0) sz es)), fr := setFr s.fr dst, g := s.g } (a.put (some dst) u) w h where
 size := by simp [Act.put, hf.size]
 tm := fun t v hv => by
  rw [getD_put a dst t u (by rw [hf.size]; exact hd)]
  rcases upd_some hv with ⟨rfl, rfl⟩ | ⟨hne, hv⟩
  ·rw [if_pos rfl]
   exact ⟨hrep, rowAV_ok ⟨rfl, by simp [setFr]⟩⟩
  ·rw [if_neg hne]
   obtain ⟨h1, h2⟩ := hf.tm t v hv
   exact ⟨h1, AV.ok.mono setFr_mono (fun _ _ h => h) (fun _ h => h) v h2⟩
 gi := hf.gi
 dfr := hf.dfr
theorem FI.extend {s : St} {a : Act} {w : World} {h : Gh} (hf : FI nt s a w h) (hr : Rel g0 h0 w0 s.g w h) {i j : Id} (hi : NoIn i s) (hj : NoIn j s)
  (hid : ∀ d t k, i = .tmp d t k → g0.dp < d) (hjd : ∀ d t k, j = .tmp d t k → d = s.g.dp) (hdp : g0.dp < s.g.dp)
  {b m n : Nat} {cc cc' : Array Value} {e : TypeId} (hg : h.ga i = some b) (hheap : w.heap[b]? = some (.cells cc e (0, 0))) (hL : h.L b = m) (hmn : m ≤ n)
  (hsame : ∀ k, k < m → cc'[k]? = cc[k]?) :
  FI nt s a (w.setRow b cc') { h with ga := renGa h.ga i j, L := LNew h.L b n } ∧ Rel g0 h0 w0 s.g (w.setRow b cc') { h with ga := renGa h.ga i j, L := LNew h.L b n } := by
 have f1 := hf.ren hi hj (fun d t k e => by rw [hjd d t k e]; exact Nat.le_refl _)
 have r1 := hr.ren (i := i) (j := j) hid (fun d t k e => by rw [hjd d t k e]; exact hdp)
 have hE : Ext w h.L (w.setRow b cc') (LNew h.L b n) := by
  refine ⟨fun k => ?_, fun k q hq => ?_⟩
  ·unfold LNew
   split
   ·rename_i e; rw [e, hL]; exact hmn
   ·exact Nat.le_refl _
  ·by_cases hk : k = b
   ·subst hk
    rw [hL] at hq
    rw [cell_setRow_same w k q cc cc' e (0, 0) hheap]
    simp only [World.cell?, hheap]
    simpa using hsame q hq
   ·exact cell_setRow_other w b cc' ⟨k, q, none⟩ hk
 have hother : ∀ k, k ≠ b → (w.setRow b cc').heap[k]? = w.heap[k]? ∧ LNew h.L b n k = h.L k := fun k hk => ⟨setRow_other w b k cc' hk, by unfold LNew; rw [if_neg hk]⟩
 have hga : ∀ k b', (k ≠ i ∧ k ≠ j) → h.ga k = some b' → renGa h.ga i j k = some b' ∧ LNew h.L b n b' = h.L b' ∧ (w.setRow b cc').heap[b']? = w.heap[b']? := fun k b' hk hb => by
  have hne : b' ≠ b := by
   intro e; subst e
   exact hk.1 (hf.gi.gaInj k i b' hb hg)
  refine ⟨?_, (hother b' hne).2, (hother b' hne).1⟩
  unfold renGa
  rw [if_neg hk.2, if_neg hk.1, hb]
 have ext1 : ∀ {K : Nat → Nat → Prop} {Y : Nat → Prop} (v : AV) (x : Value), v.ok (fun k => k ≠ i ∧ k ≠ j) K Y → RepA w h v x → RepA (w.setRow b cc') { h with ga := renGa h.ga i j, L := LNew h.L b n } v x :=
  fun v x ho hh => RepA.ext (h := h) (h' := { h with ga := renGa h.ga i j, L := LNew h.L b n }) hE (fun _ _ _ _ h => h) (fun _ _ => rfl) hga v x ho hh
 have hdef : ∀ D : Nat, w.heap[D]? = some (Obj.deferred (some [])) → (w.setRow b cc').heap[D]? = some (Obj.deferred (some [])) := by
  intro D hD
  rw [(hother D (by intro e; rw [e, hheap] at hD; cases hD)).1, hD]
 refine ⟨⟨f1.size, ?_, ?_, ?_⟩, ?_⟩
 ·intro t v hv
  obtain ⟨h1, h2⟩ := hf.tm t v hv
  exact ⟨ext1 v _ (AV.ok.and v (hi.1 t v hv) (hj.1 t v hv)) h1, h2⟩
 ·refine { bx := ?_, inj := f1.gi.inj, gaBx := f1.gi.gaBx, gaInj := f1.gi.gaInj, gaLt := ?_, gaC := ?_, lim := ?_, lp := ?_, roInj := f1.gi.roInj, gaTop := f1.gi.gaTop }
  ·intro d t bo hb
   obtain ⟨h1, h2, b', c, e', h3, h4, h5, h6, h7⟩ := hf.gi.bx d t bo hb
   have hne : b' ≠ b := by
    intro e; subst e
    exact hf.gi.gaBx i b' d t hg (by rw [hb]; rfl) h3
   refine ⟨h1, h2, b', c, e', h3, by rw [(hother b' hne).1, h4], ?_, h6, by show LNew h.L b n b' = _; rw [(hother b' hne).2, h7]⟩
   exact RepBx.ext (h := h) (h' := { h with ga := renGa h.ga i j, L := LNew h.L b n }) hE (fun _ _ _ _ h => h) (fun _ _ => rfl) hga _ _ (AV.oks.and _ (hi.2 d t bo hb) (hj.2 d t bo hb)) h5
  ·intro k b' hk
   rw [size_setRow]; exact f1.gi.gaLt k b' hk
  ·intro k b' hk
   obtain ⟨c, e, hc⟩ := f1.gi.gaC k b' hk
   by_cases hbb : b' = b
   ·exact ⟨_, _, by rw [hbb]; exact setRow_heap w b cc cc' _ (0, 0) hheap⟩
   ·exact ⟨c, e, by rw [(hother b' hbb).1, hc]⟩
  ·intro b' hb'
   rw [size_setRow] at hb'
   show LNew h.L b n b' = 0
   rw [(hother b' (by intro e; subst e; have := lt_of_heap hheap; omega)).2]
   exact hf.gi.lim b' hb'
  ·intro l r hl
   obtain ⟨hp, D, tmps, h1, h2, h3, h4⟩ := hf.gi.lp l r hl
   refine ⟨hp, D, tmps, ?_, hdef D h2, h3, fun t v hv => ?_⟩
   ·rw [(hother _ (by intro e; rw [e, hheap] at h1; cases h1)).1, h1]
   ·obtain ⟨h5, h6⟩ := h4 t v hv
    exact ⟨ext1 v _ (AV.ok.mono (fun _ h => h.elim) (fun _ _ h => h) (fun _ h => h) v h6) h5, h6⟩
 ·intro x hx D hD
  exact hdef D (hf.dfr x hx D hD)
 ·have hmay := hr.gaMay i b hid hg
  exact
   {os := hr.os
    tape := hr.tape
    output := hr.output
    size := by rw [size_setRow]; exact hr.size
    ext := hr.ext.trans hE
    keep := fun b' hb' hm => by
     obtain ⟨a1, a2⟩ := hr.keep b' hb' hm
     have hne : b' ≠ b := by
      intro e; subst e
      rcases hmay with h2 | h2
      ·omega
      ·exact hm h2
     exact ⟨(hother b' hne).1.trans a1, (hother b' hne).2.trans a2⟩
    bxs := r1.bxs
    ro := r1.ro
    ga := r1.ga
    bxMay := r1.bxMay
    gaMay := r1.gaMay
    lpMay := r1.lpMay
    lpLen := r1.lpLen }
theorem limK_len (rw : Bool) (es : List (List D)) : limK (rawK rw es.length) es.length = es.length := by cases rw <;> rfl
theorem rawC_nil {rw : Bool} {es : List (List D)} (h : rawC rw es.length ([] : List (List D)).length = true) : rawK rw es.length = none ∨ es = [] := by
 cases rw with
 | false => exact .inl rfl
 | true =>
  refine .inr ?_
  simp only [rawC, Bool.or_eq_true, Nat.beq_eq] at h
  rcases h with h | h
  ·exact List.length_eq_zero_iff.1 h
  ·simp [Nat.blt] at h
theorem exec_append {o : Oper} {c : Call} (ho : o.op = .call c) {x y : Operand} {t t2 : TypeId} (hcl : c.callee = .builtin .append) (hargs : c.args = #[x, y]) (htys : c.argTypes = #[t, t2]) {a : Act} {w w' : World} {v : Value}
  (hrun : (Builtin.append_ #[t, t2] o.type #[a.eval x, a.eval y]).run P w = .ok v w') : (execOp a.eval o).run P w = .ok (.value v) w' := by
 simp [execOp, ho, resolve, hcl, hargs, htys, invoke, builtin, hrun]
theorem le_of_ble_mul {n b : Nat} (h : Nat.ble (n * (b + 1)) most = true) : n * b ≤ 1099511627776 ∧ n ≤ 1099511627776 := by
 have h1 : n * (b + 1) ≤ 1099511627776 := by simpa [most] using h
 rw [Nat.mul_add] at h1
 omega
def Src (P : Program) (w : World) (t t2 : TypeId) (sz : Nat) (yv : Value) (m : Nat) (us : List Value) : Prop :=
 (t2 = t ∧ ∃ ay c, yv = .slice ay m c ∧ us.length = m * sz ∧ (m = 0 ∨ ∃ ad, ay = some ad ∧ ∀ (j : Nat) u, us[j]? = some u → w.cell? (ad.add j) = some u)) ∨
 (P.underlying t2 = some .string ∧ sz = 1 ∧ ∃ s, yv = .string s ∧ m = s.size ∧ us = Lib.strCells s)
theorem run_append_room' {w : World} (t t2 ty e e' : TypeId) (i : TypeInfo) (ht : P.underlying t = some (.slice e)) (hi : P.info? e = some i)
  (g sLen sCap : Nat) (cur : Array Value) (hg : w.heap[g]? = some (.cells cur e' (0, 0)))
  {yv : Value} {m : Nat} {news : List Value} (hsrc : Src P w t t2 i.size yv m news) (hm0 : m ≠ 0) (h1 : ∀ u ∈ news, u.oneCell' = true)
  (hroom : sLen + m ≤ sCap) (hfit : sLen * i.size + news.length ≤ cur.size) :
  (Builtin.append_ #[t, t2] ty #[.slice (some ⟨g, 0, none⟩) sLen sCap, yv]).run P w =
   .ok (.slice (some ⟨g, 0, none⟩) (sLen + m) sCap) (w.setRow g (cur.toList.take (sLen * i.size) ++ news ++ cur.toList.drop (sLen * i.size + news.length)).toArray) := by
 have hst := run_storeCells_at P g (sLen * i.size) e' news 0 cur w hg (by simpa using hfit) h1
 simp only [Nat.add_zero] at hst
 rcases hsrc with ⟨rfl, ay, c, rfl, hl, hm | ⟨a, rfl, hnews⟩⟩ | ⟨hu, hs1, s, rfl, rfl, rfl⟩
 ·exact absurd hm hm0
 ·have hf := run_firstCells_some (P := P) w i.size m a m c news hl hnews
  simp [Builtin.append_, run_underlying ht, sizeOf, typeInfo, hi, Builtin.lenOf, hroom, hf, Addr.add_lit, hst]
 ·have hf := Lib.run_firstCells_string (P := P) w i.size s
  simp [Builtin.append_, run_underlying ht, run_underlying hu, sizeOf, typeInfo, hi, Builtin.lenOf, hroom, hf, Addr.add_lit, hst]
theorem run_append_nil' {w : World} (t t2 ty e : TypeId) (i : TypeInfo) (z : Value) (ht : P.underlying t = some (.slice e)) (hi : P.info? e = some i) (hz : i.zero = some z)
  {yv : Value} {n : Nat} {news : List Value} (hsrc : Src P w t t2 i.size yv n news)
  (h0 : 0 < n) (h63 : (n : Int) ≤ 9223372036854775807) (h48 : n * i.bytes ≤ 281474976710656) :
  (Builtin.append_ #[t, t2] ty #[.slice none 0 0, yv]).run P w =
   .ok (.slice (some ⟨w.heap.size, 0, none⟩) n (grownCap w n 0 e)) (w.drew.alloc (.cells (news.toArray ++ Builtin.zeroCells z.cells (grownCap w n 0 e - n)) e)) := by
 rcases hsrc with ⟨rfl, ay, c, rfl, hl, hm | ⟨a, rfl, hnews⟩⟩ | ⟨hu, hs1, s, rfl, rfl, rfl⟩
 ·omega
 ·exact run_append_nil w t2 ty e i z ht hi hz a n c news hl hnews h0 h63 h48
 ·have hn : s.size ≠ 0 := by omega
  have h63' : ¬ (9223372036854775807 < (s.size : Int)) := by omega
  have h48' : ¬ (281474976710656 < Builtin.nextslicecap s.size 0 * i.bytes) := by rw [nextslicecap_zero h0]; omega
  have hf := Lib.run_firstCells_string (P := P) w.drew i.size s
  simp [Builtin.append_, run_underlying ht, run_underlying hu, sizeOf, typeInfo, zeroValue, hi, hz, Builtin.lenOf, hn, h63', h48', Question.forced, run_firstCells_none, hf, newRow, grownCap]
theorem run_append_grow' {w : World} (t t2 ty e : TypeId) (i : TypeInfo) (z : Value) (ht : P.underlying t = some (.slice e)) (hi : P.info? e = some i) (hz : i.zero = some z)
  (b : Addr) (sLen sCap : Nat) (olds : List Value) (hlo : olds.length = sLen * i.size) (holds : ∀ (j : Nat) v, olds[j]? = some v → w.cell? (b.add j) = some v)
  {yv : Value} {n : Nat} {news : List Value} (hsrc : Src P w t t2 i.size yv n news)
  (h0 : 0 < n) (hg : sCap < sLen + n) (h63 : ((sLen + n : Nat) : Int) ≤ 9223372036854775807) (hfit : Builtin.nextslicecap (sLen + n) sCap * i.bytes ≤ 281474976710656) :
  (Builtin.append_ #[t, t2] ty #[.slice (some b) sLen sCap, yv]).run P w =
   .ok (.slice (some ⟨w.heap.size, 0, none⟩) (sLen + n) (grownCap w (sLen + n) sCap e))
    (w.drew.alloc (.cells (olds.toArray ++ news.toArray ++ Builtin.zeroCells z.cells (grownCap w (sLen + n) sCap e - (sLen + n))) e)) := by
 rcases hsrc with ⟨rfl, ay, c, rfl, hl, hm | ⟨a, rfl, hnews⟩⟩ | ⟨hu, hs1, s, rfl, rfl, rfl⟩
 ·omega
 ·exact run_append_grow w t2 ty e i z ht hi hz b sLen sCap olds hlo holds a n c news hl hnews hg h63 hfit
 ·exact Lib.run_append_grow_string w t t2 ty e i z ht hu hi hz b sLen sCap olds hlo holds s hg h63 hfit
theorem append_new (hT : TyOk P T) {rw : Bool} {o : Oper} {c : Call} (ho : o.op = .call c) {x y : Operand} {t t2 : TypeId} (hcl : c.callee = .builtin .append) (hargs : c.args = #[x, y]) (htys : c.argTypes = #[t, t2])
  {dst : Nat} (hdst : o.dst = some dst) (hd : dst < nt) {ti te : TI} (hti : T t = some ti) (hk : ti.kind = 2) (hte : T ti.elem = some te) {s : St} {a : Act} {w : World} {h : Gh}
  (hf : FI nt s a w h) (hr : Rel g0 h0 w0 s.g w h) (hdp : g0.dp < s.g.dp) (hfr : s.fr dst = false) {es ys : List (List D)} (h1 : 1 ≤ te.size) (hfit : Nat.ble ((es.length + ys.length) * (te.bytes + 1)) most = true)
  {ax : Option Addr} {cap : Nat} (hx : a.eval x = .slice ax es.length cap) {vs : List Value} (hus : ∀ e ∈ es, e.length = te.size) (hrf : RepF w h.L es vs) (hcap : cap < es.length + ys.length)
  (hmem : (ax = none ∧ es = [] ∧ cap = 0) ∨ (∃ ad, ax = some ad ∧ es = []) ∨ ∃ b o', ax = some ⟨b, o', none⟩ ∧ cellsAt w b o' vs)
  {us : List Value} (hy : Src P w t t2 te.size (a.eval y) ys.length us) (hy0 : ys.length ≠ 0) (hyus : ∀ e ∈ ys, e.length = te.size) (hyrf : RepF w h.L ys us) (hyone : ∀ u ∈ us, u.oneCell' = true) :
  Steps1 P nt g0 h0 w0 o { tm := upd s.tm dst (some (rowAV (rawK rw es.length) (.tmp s.g.dp dst 0) te.size (es ++ ys))), fr := setFr s.fr dst, g := s.g } a w := by
 have hty := hT t ti hti
 have hte' := hT _ te hte
 have hu := hty.und hk
 obtain ⟨i, z, hi, hsi, hby, hz, hzc⟩ := hte'.info
 obtain ⟨hf1, hf2⟩ := le_of_ble_mul hfit
 have hl1 : vs.length = es.length * i.size := by rw [hrf.length hus, hsi]
 have hl2 : us.length = ys.length * i.size := by rw [hyrf.length hyus, hsi]
 rw [← hsi] at hy
 have hge := grownCap_ge w (es.length + ys.length) cap ti.elem
 have hzsize : z.cells.size = te.size := by
  have : z.cells.size = z.cells.toList.length := by simp
  rw [this, hzc, List.length_map, hte'.len]
 have fin : ∀ (cc : Array Value), cc = vs.toArray ++ us.toArray ++ Builtin.zeroCells z.cells (grownCap w (es.length + ys.length) cap ti.elem - (es.length + ys.length)) →
   (Builtin.append_ #[t, t2] o.type #[a.eval x, a.eval y]).run P w = .ok (.slice (some ⟨w.heap.size, 0, none⟩) (es.length + ys.length) (grownCap w (es.length + ys.length) cap ti.elem)) (w.drew.alloc (.cells cc ti.elem (0, 0))) →
   Steps1 P nt g0 h0 w0 o { tm := upd s.tm dst (some (rowAV (rawK rw es.length) (.tmp s.g.dp dst 0) te.size (es ++ ys))), fr := setFr s.fr dst, g := s.g } a w := by
  intro cc hcc hrun
  have hb : RowKit.Below w.heap.size w (w.drew.alloc (.cells cc ti.elem (0, 0))) := (below_drew w w.heap.size).alloc (by simp) _
  obtain ⟨n1, n2⟩ := hf.newRow hr hfr hd hdp (sz := te.size) (k := rawK rw es.length) (es := es ++ ys) (vs := vs ++ us) (cc := cc) (e := ti.elem) (cap := grownCap w (es.length + ys.length) cap ti.elem) (by cases rw <;> simp [limK, rawK]) hb (by simp)
   (by have := heap_new w.drew (.cells cc ti.elem (0, 0)); simpa using this)
   (by
    intro e he
    rcases List.mem_append.1 he with he | he
    ·exact hus e he
    ·exact hyus e he)
   (hrf.append hyrf) (by simpa using hge)
   (by
    rw [hcc]
    simp only [Array.size_append, List.size_toArray, size_zeroCells, hl1, hl2, hsi, hzsize]
    rw [← Nat.add_mul, ← Nat.add_mul]
    exact Nat.mul_le_mul_right _ (by omega))
   (by
    intro k u hk'
    refine ⟨?_, ?_⟩
    ·rw [hcc]
     have hlt : k < (vs ++ us).length := (List.getElem?_eq_some_iff.1 hk').1
     have : (vs.toArray ++ us.toArray ++ Builtin.zeroCells z.cells (grownCap w (es.length + ys.length) cap ti.elem - (es.length + ys.length)))[k]? = (vs ++ us)[k]? := by
      rw [Array.getElem?_append_left (by simpa using hlt)]
      simp
     rw [this, hk']
    ·rcases List.mem_append.1 (List.mem_of_getElem? hk') with hm | hm
     ·rcases hmem with ⟨_, rfl, _⟩ | ⟨_, _, rfl⟩ | ⟨b, o'', _, hc⟩
      ·simp [RepF] at hrf; subst hrf; cases hm
      ·simp [RepF] at hrf; subst hrf; cases hm
      ·exact hc.one u hm
     ·exact hyone u hm)
  rw [List.length_append] at n1 n2
  exact ⟨_, _, _, _, exec_append ho hcl hargs htys hrun, .inl ⟨_, rfl, by rw [hdst]⟩, n1, n2⟩
 by_cases hax : ax = none
 ·subst hax
  rcases hmem with ⟨_, rfl, rfl⟩ | ⟨_, h2, _⟩ | ⟨b, o'', h2, _⟩
  ·have hv : vs = [] := by simpa [RepF] using hrf
   subst hv
   simp only [List.length_nil, Nat.zero_add] at *
   refine fin _ rfl ?_
   rw [hx]
   have := run_append_nil' (P := P) (w := w) t t2 o.type ti.elem i z hu hi hz hy (by omega) (by omega) (by rw [hby]; omega)
   rw [this]
   congr 2
   simp
  ·cases h2
  ·cases h2
 ·obtain ⟨ad, rfl⟩ : ∃ ad, ax = some ad := by cases ax with | none => exact absurd rfl hax | some ad => exact ⟨ad, rfl⟩
  refine fin _ rfl ?_
  rw [hx]
  rcases hmem with ⟨h2, _⟩ | ⟨_, h2, rfl⟩ | ⟨b, o'', h2, hc⟩
  ·cases h2
  ·cases h2
   have hv : vs = [] := by simpa [RepF] using hrf
   subst hv
   have := run_append_grow' (P := P) (w := w) t t2 o.type ti.elem i z hu hi hz ad 0 cap [] (by simp) (fun j v hj => by simp at hj) hy (by omega) (by simpa using hcap) (by simp at hf2 ⊢; omega)
    (growslice_fits (by simpa using hcap) (by rw [hby]; simp at hf1 ⊢; omega))
   simp only [List.length_nil] at *
   rw [this]
  ·cases h2
   have := run_append_grow' (P := P) (w := w) t t2 o.type ti.elem i z hu hi hz ⟨b, o'', none⟩ es.length cap vs hl1 (fun j v hj => by rw [Addr.add_mid]; exact (hc j v hj).1) hy (by omega) hcap (by omega)
    (growslice_fits hcap (by rw [hby]; omega))
   rw [this]
theorem run_append_none {t t2 ty e : TypeId} (hu : P.underlying t = some (.slice e)) {size : Nat} {w : World} (hs : (sizeOf e).run P w = .ok size w) (b : Option Addr) (n c : Nat) (hc : n ≤ c) {yv : Value} {us : List Value} (hsrc : Src P w t t2 size yv 0 us) :
  (Builtin.append_ #[t, t2] ty #[.slice b n c, yv]).run P w = .ok (.slice b n c) w := by
 rcases hsrc with ⟨rfl, b', c', rfl, -, -⟩ | ⟨hu2, hs1, s, rfl, hm, rfl⟩
 ·have hf : (Builtin.firstCells size 0 (.slice b' 0 c')).run P w = .ok #[] w := by
   cases b' with
   | none => simp [Builtin.firstCells]
   | some a => simp [Builtin.firstCells, loadCells, loadCellsFrom]
  cases b with
  | none => simp [Builtin.append_, run_underlying hu, hs, Builtin.lenOf, hc, hf]
  | some a => simp [Builtin.append_, run_underlying hu, hs, Builtin.lenOf, hc, hf, storeCells]
 ·have hm : s.size = 0 := hm.symm
  have hf : (Builtin.firstCells size s.size (.string s)).run P w = .ok (Lib.strCells s).toArray w := Lib.run_firstCells_string (P := P) w size s
  have hc0 : Lib.strCells s = [] := List.length_eq_zero_iff.1 (by rw [Lib.strCells_length, hm])
  rw [hc0, hm] at hf
  cases b with
  | none => simp [Builtin.append_, run_underlying hu, run_underlying hu2, hs, Builtin.lenOf, hm, hc, hf]
  | some a => simp [Builtin.append_, run_underlying hu, run_underlying hu2, hs, Builtin.lenOf, hm, hc, hf, storeCells]
def YRep (P : Program) (w : World) (L : Nat → Nat) (t t2 : TypeId) (te : TI) (ys : List (List D)) (yv : Value) : Prop :=
 ∃ us, Src P w t t2 te.size yv ys.length us ∧ (∀ e ∈ ys, e.length = te.size) ∧ RepF w L ys us ∧ ∀ u ∈ us, u.oneCell' = true
theorem yrep_sl {w : World} {L : Nat → Nat} {t : TypeId} {te : TI} {ys : List (List D)} {yv : Value} (h : RepV w L (.sl te.size ys) yv) : YRep P w L t t te ys yv := by
 simp only [RepV] at h
 obtain ⟨ay, m, cy, us, rfl, hmn, hmc, hyus, hyrf, hym⟩ := h
 have hl := hyrf.length hyus
 subst hmn
 rcases hym with hym | ⟨b', o', rfl, hyL, hyc⟩
 ·refine ⟨us, .inl ⟨rfl, _, _, rfl, hl, .inl hym⟩, hyus, hyrf, ?_⟩
  have : us = [] := List.length_eq_zero_iff.1 (by rw [hl, hym, Nat.zero_mul])
  subst this
  intro u hu; cases hu
 ·exact ⟨us, .inl ⟨rfl, _, _, rfl, hl, .inr ⟨_, rfl, fun j v hj => by rw [Addr.add_mid]; exact (hyc j v hj).1⟩⟩, hyus, hyrf, hyc.one⟩
theorem strRow_rep {w : World} {L : Nat → Nat} : ∀ (l : List UInt8), RepF w L (l.map fun c => [D.int .u8 c.toNat]) (l.map fun b => Value.int .u8 b.toNat)
 | [] => by simp [RepF]
 | c :: l => by
  simp only [List.map_cons, RepF]
  exact ⟨[.int .u8 c.toNat], _, rfl, ⟨_, _, rfl, by simp [RepV], rfl⟩, strRow_rep l⟩
theorem strRow_len (s : ByteArray) : (strRow s).length = s.size := by
 rw [strRow, List.length_map, Array.length_toList]
 rfl
theorem rowS_rep (hT : TyOk P T) {t t' : TypeId} {ti te t2 : TI} (hti : T t = some ti) (ht2 : T t' = some t2) (htt : (Nat.beq t t' || Nat.beq t2.kind 3) = true) (hk : ti.kind = 2) {w : World} {h : Gh} {a : AV} {ys : List (List D)} {v : Value}
  (hys : AV.rowS t2 te a = some ys) (hr : RepA w h a v) : YRep P w h.L t t' te ys v := by
 unfold AV.rowS at hys
 split at hys
 ·rename_i hk3
  split at hys
  ·rename_i s hint
   split at hys
   case isFalse => cases hys
   rename_i hsz
   have hsz := Nat.eq_of_beq_eq_true hsz
   cases hys
   simp only [RepA, RepV] at hr
   subst hr
   refine ⟨Lib.strCells s, .inr ⟨(hT t' t2 ht2).und3 hk3, hsz, s, rfl, strRow_len s, rfl⟩, ?_, strRow_rep _, Lib.strCells_oneCell s⟩
   intro e he
   simp only [strRow, List.mem_map] at he
   obtain ⟨c, _, rfl⟩ := he
   rw [hsz]; rfl
  ·cases hys
 ·rename_i hk3
  have : t = t' := by
   simp only [Bool.or_eq_true] at htt
   rcases htt with htt | htt
   ·exact Nat.eq_of_beq_eq_true htt
   ·exact absurd (Nat.eq_of_beq_eq_true htt) hk3
  subst this
  exact yrep_sl (row_rep' hys hr)
theorem Tms.of {s : St} {a : Act} {w : World} {h : Gh} (hf : FI nt s a w h) : Tms w h s.tm a := fun t v hv => (hf.tm t v hv).1
theorem full_own {w : World} {h : Gh} {i : Id} {sz : Nat} {es : List (List D)} {v : Value} (hr : RepV w h.L (.full sz es) v) : RepA w h (.own i sz es) v := by
 simp only [RepA]; exact .inl hr
theorem nils_full {w : World} {L : Nat → Nat} {sz : Nat} : RepV w L (.full sz []) (.slice none 0 0) := by
 simp only [RepV]
 exact ⟨none, 0, [], rfl, rfl, by simp, by simp [RepF], .inl rfl⟩
theorem append_full (hT : TyOk P T) {rw : Bool} {o : Oper} {c : Call} (ho : o.op = .call c) {x y : Operand} {t t2 : TypeId} (hcl : c.callee = .builtin .append) (hargs : c.args = #[x, y]) (htys : c.argTypes = #[t, t2])
  {dst : Nat} (hdst : o.dst = some dst) (hd : dst < nt) {ti te : TI} (hti : T t = some ti) (hk : ti.kind = 2) (hte : T ti.elem = some te) {s : St} {a : Act} {w : World} {h : Gh}
  (hf : FI nt s a w h) (hr : Rel g0 h0 w0 s.g w h) (hdp : g0.dp < s.g.dp) (hfr : s.fr dst = false) {es ys : List (List D)} (h1 : 1 ≤ te.size) (hfit : Nat.ble ((es.length + ys.length) * (te.bytes + 1)) most = true)
  (hx : RepV w h.L (.full te.size es) (a.eval x)) (hy : YRep P w h.L t t2 te ys (a.eval y)) (hrc : rawC rw es.length ys.length = true) :
  Steps1 P nt g0 h0 w0 o { tm := upd s.tm dst (some (rowAV (rawK rw es.length) (.tmp s.g.dp dst 0) te.size (es ++ ys))), fr := setFr s.fr dst, g := s.g } a w := by
 have hx0 := hx
 simp only [RepV] at hx
 obtain ⟨ax, n, vs, hxe, hn, hus, hrf, hm⟩ := hx
 obtain ⟨us, hsrc, hyus, hyrf, hyone⟩ := hy
 subst hn
 have hty := hT t ti hti
 have hu := hty.und hk
 by_cases hy0 : ys.length = 0
 ·have hys : ys = [] := List.length_eq_zero_iff.1 hy0
  subst hys
  have hrun := run_append_none (P := P) (ty := o.type) hu ((hT _ te hte).size w) ax es.length es.length (Nat.le_refl _) hsrc
  refine ⟨_, w, _, h, exec_append ho hcl hargs htys (by rw [hxe]; exact hrun), .inl ⟨_, rfl, rfl⟩, ?_, hr⟩
  rw [hdst, List.append_nil]
  exact hf.take hr hd (full_row (by rw [← hxe]; exact hx0) (limK_len rw es) (rawC_nil hrc))
 ·refine append_new hT ho hcl hargs htys hdst hd hti hk hte hf hr hdp hfr h1 hfit hxe hus hrf (by omega) ?_ hsrc hy0 hyus hyrf hyone
  rcases hm with hm | ⟨b, o'', rfl, hL, hc⟩
  ·have he : es = [] := List.length_eq_zero_iff.1 hm
   subst he
   have hv : vs = [] := by simpa [RepF] using hrf
   subst hv
   cases ax with
   | none => exact .inl ⟨rfl, rfl, rfl⟩
   | some ad => exact .inr (.inl ⟨ad, rfl, rfl⟩)
  ·exact .inr (.inr ⟨b, o'', rfl, hc⟩)
theorem appendA_sound (hT : TyOk P T) {o : Oper} {c : Call} (ho : o.op = .call c) {x y : Operand} {t t2 : TypeId} (hcl : c.callee = .builtin .append) (hargs : c.args = #[x, y]) (htys : c.argTypes = #[t, t2])
  {ti ti2 : TI} (hti : T t = some ti) (ht2 : T t2 = some ti2) (htt : (Nat.beq t t2 || Nat.beq ti2.kind 3) = true) {dst : Nat} (hdst : o.dst = some dst) (hd : dst < nt) {s s' : St} {a : Act} {w : World} {h : Gh}
  (hf : FI nt s a w h) (hr : Rel g0 h0 w0 s.g w h) (hdp : g0.dp < s.g.dp) {rw : Bool} (hs : appendA T rw dst ti ti2 x y s = some s') : Steps1 P nt g0 h0 w0 o s' a w := by
 unfold appendA at hs
 ·split at hs
  ·rename_i te hk hte
   split at hs
   ·rename_i ax ay hx hy
    split at hs
    ·rename_i ys hys
     have hyr := rowS_rep hT hti ht2 htt hk hys (ev_rep (Tms.of hf) hy)
     have hxr := ev_rep (Tms.of hf) hx
     split at hs
     ·
      rename_i i sz es
      split at hs
      case isFalse => cases hs
      rename_i hc
      simp only [Bool.and_eq_true, Nat.beq_eq, Nat.ble_eq] at hc
      obtain ⟨⟨⟨hsz, hfit⟩, h1⟩, hrc⟩ := hc
      subst hsz
      obtain ⟨hfr, rfl⟩ := putOwn_some hs
      have hok := ev_ok (fun t v hv => (hf.tm t v hv).2) hx
      simp only [AV.ok] at hok
      obtain ⟨f1, n1⟩ := hf.dem i
      have r1 := hr.dem i
      have hfit' : Nat.ble ((es.length + ys.length) * (te.bytes + 1)) most = true := by simpa using hfit
      have hid : ∀ d t k, i = .tmp d t k → g0.dp < d := by
       intro d t k e
       subst e
       rw [hok.1]; exact hdp
      simp only [RepA] at hxr
      rcases hxr with hxr | hxr
      ·exact append_full hT ho hcl hargs htys hdst hd hti hk hte f1 r1 hdp hfr h1 hfit' hxr hyr hrc
      ·have hxr0 := hxr
       obtain ⟨b, n, cp, vs, cc, e, hxe, hn, hncp, hus, hrf, hga, hL, hheap, hroom, hcells⟩ := hxr
       obtain ⟨us, hsrc, hyus, hyrf, hyone⟩ := hyr
       subst hn
       have hty := hT t ti hti
       have hte' := hT _ te hte
       have hu := hty.und hk
       obtain ⟨inf, z, hi, hsi, hby, hz, hzc⟩ := hte'.info
       have nf : NoIn (.tmp (demSt i s).g.dp dst 0) (demSt i s) := noIn_fresh f1 hfr
       by_cases hy0 : ys.length = 0
       ·have hys : ys = [] := List.length_eq_zero_iff.1 hy0
        subst hys
        have hrun := run_append_none (P := P) (ty := o.type) hu (hte'.size w) (some ⟨b, 0, none⟩) es.length cp hncp hsrc
        have f2 := f1.ren n1 nf (fun d t k e => by cases e; exact Nat.le_refl _)
        have r2 := r1.ren (i := i) (j := .tmp (demSt i s).g.dp dst 0) hid (fun d t k e => by cases e; exact hdp)
        refine ⟨_, w, _, _, exec_append ho hcl hargs htys (by rw [hxe]; exact hrun), .inl ⟨_, rfl, rfl⟩, ?_, r2⟩
        rw [hdst, List.append_nil]
        refine f2.take r2 hd ?_
        have : RepA w h (.own i te.size es) (.slice (some ⟨b, 0, none⟩) es.length cp) := by
         simp only [RepA]; exact .inr (by rw [← hxe]; exact hxr0)
        exact own_row (Owned.ren this) (limK_len rw es) (rawC_nil hrc)
       ··by_cases hcap : es.length + ys.length ≤ cp
         ·
          have hl1 : vs.length = es.length * te.size := hrf.length hus
          have hl2 : us.length = ys.length * te.size := hyrf.length hyus
          have hle : (es.length + ys.length) * te.size ≤ cp * te.size := Nat.mul_le_mul_right _ hcap
          have hle2 : es.length * te.size + us.length ≤ cc.size := by rw [hl2, ← Nat.add_mul]; omega
          have hrun := run_append_room' (P := P) t t2 o.type ti.elem e inf hu hi b es.length cp cc hheap (by rw [hsi]; exact hsrc) hy0 hyone hcap (by rw [hsi]; exact hle2)
          rw [hsi] at hrun
          have hvcell : ∀ (k : Nat) (u : Value), vs[k]? = some u → cc[k]? = some u := by
           intro k u hk'
           have := (hcells k u hk').1
           simp only [World.cell?, hheap, Nat.zero_add] at this
           simpa using this
          obtain ⟨f2, r2⟩ := f1.extend r1 (i := i) (j := .tmp (demSt i s).g.dp dst 0) n1 nf hid (fun d t k e => by cases e; rfl) hdp (b := b) (m := es.length * te.size) (n := limK (rawK rw es.length) (es ++ ys).length * te.size)
           (cc' := (cc.toList.take (es.length * te.size) ++ us ++ cc.toList.drop (es.length * te.size + us.length)).toArray) hga hheap hL (Nat.mul_le_mul_right _ (by cases rw <;> simp [limK, rawK]))
           (by
            intro k hk'
            simp only [List.append_assoc, List.getElem?_toArray]
            rw [List.getElem?_append_left (by simp; omega), List.getElem?_take, if_pos hk']
            simp)
          refine ⟨_, _, _, _, exec_append ho hcl hargs htys (by rw [hxe]; exact hrun), .inl ⟨_, rfl, rfl⟩, ?_, r2⟩
          rw [hdst]
          refine f2.take r2 hd ?_
          have hE : Ext w h.L (w.setRow b (cc.toList.take (es.length * te.size) ++ us ++ cc.toList.drop (es.length * te.size + us.length)).toArray) (LNew h.L b (limK (rawK rw es.length) (es ++ ys).length * te.size)) := by
           refine ⟨fun k => ?_, fun k q hq => ?_⟩
           ·unfold LNew
            split
            ·rename_i e; rw [e, hL]; exact Nat.mul_le_mul_right _ (by cases rw <;> simp [limK, rawK])
            ·exact Nat.le_refl _
           ·by_cases hk : k = b
            ·subst hk
             rw [hL] at hq
             rw [cell_setRow_same w k q cc _ e (0, 0) hheap]
             simp only [World.cell?, hheap]
             simp only [List.append_assoc, List.getElem?_toArray]
             rw [List.getElem?_append_left (by simp; omega), List.getElem?_take, if_pos hq]
             simp
            ·exact cell_setRow_other w b _ ⟨k, q, none⟩ hk
          refine rowAV_rep (vs := vs ++ us) (e := e) (by simp) hcap (by cases rw <;> simp [limK, rawK]) ?_ (RepF.ext hE _ _ (RepF.append hrf hyrf)) ?_ ?_ (setRow_heap w b cc _ e (0, 0) hheap) ?_ ?_
          ·intro q hq
           rcases List.mem_append.1 hq with hq | hq
           ·exact hus q hq
           ·exact hyus q hq
          ·simp [renGa, hga]
          ·simp [LNew]
          ·simp; omega
          ·intro k u hk'
           rw [Nat.zero_add, cell_setRow_same w b k cc _ e (0, 0) hheap]
           refine ⟨?_, ?_⟩
           ·simp only [List.append_assoc, List.getElem?_toArray]
            by_cases hlt : k < es.length * te.size
            ·rw [List.getElem?_append_left (by omega)] at hk'
             rw [List.getElem?_append_left (by simp; omega), List.getElem?_take, if_pos hlt]
             simpa using hvcell k u hk'
            ·rw [List.getElem?_append_right (by omega)] at hk'
             rw [List.getElem?_append_right (by simp; omega)]
             have hlt2 : k - vs.length < us.length := (List.getElem?_eq_some_iff.1 hk').1
             have hmin : (cc.toList.take (es.length * te.size)).length = vs.length := by simp; omega
             rw [hmin, List.getElem?_append_left hlt2, hk']
           ·rcases List.mem_append.1 (List.mem_of_getElem? hk') with hm | hm
            ·exact hcells.one u hm
            ·exact hyone u hm
         ·exact append_new hT ho hcl hargs htys hdst hd hti hk hte f1 r1 hdp hfr h1 hfit' hxe hus hrf (by omega) (.inr (.inr ⟨b, 0, rfl, hcells⟩)) hsrc hy0 hyus hyrf hyone
     ·
      split at hs
      case isFalse => cases hs
      rename_i hc
      simp only [Bool.and_eq_true, Nat.ble_eq] at hc
      obtain ⟨hfit, h1⟩ := hc
      obtain ⟨hfr, rfl⟩ := putOwn_some hs
      simp only [RepA, RepV] at hxr
      have := append_full hT (rw := rw) ho hcl hargs htys hdst hd hti hk hte hf hr hdp hfr (es := []) (ys := ys) h1 (by simpa using hfit) (by rw [hxr]; exact nils_full) hyr (by cases rw <;> rfl)
      simpa using this
     ·rename_i sz es
      split at hs
      case isFalse => cases hs
      rename_i hc
      simp only [Bool.and_eq_true, Nat.beq_eq, Nat.ble_eq] at hc
      obtain ⟨⟨⟨hsz, hfit⟩, h1⟩, hrc⟩ := hc
      subst hsz
      obtain ⟨hfr, rfl⟩ := putOwn_some hs
      simp only [RepA] at hxr
      exact append_full hT ho hcl hargs htys hdst hd hti hk hte hf hr hdp hfr h1 (by simpa using hfit) hxr hyr hrc
     ·cases hs
    ·cases hs
   ·cases hs
  ·cases hs
end
end Go.Abs
namespace Go.Abs
open Go
set_option linter.unusedVariables false
set_option linter.unusedSimpArgs false
def frzBx (bx : Nat → Nat → Option Box) (F : Nat → Nat → Bool) : Nat → Nat → Option Box := fun d t => match bx d t with
 | some b => some { cells := b.cells, frz := F d t || b.frz, ty := b.ty }
 | none => none
theorem frzBx_isSome (bx : Nat → Nat → Option Box) (F : Nat → Nat → Bool) (d t : Nat) : (frzBx bx F d t).isSome = (bx d t).isSome := by
 unfold frzBx; cases bx d t <;> rfl
theorem frzBx_some {bx : Nat → Nat → Option Box} {F : Nat → Nat → Bool} {d t : Nat} {bo : Box} (h : frzBx bx F d t = some bo) : ∃ b, bx d t = some b ∧ bo = { cells := b.cells, frz := F d t || b.frz, ty := b.ty } := by
 unfold frzBx at h
 cases hb : bx d t with
 | none => simp [hb] at h
 | some b => simp [hb] at h; exact ⟨b, rfl, h.symm⟩
open Classical in
noncomputable def LF (g : G) (w : World) (h : Gh) (F : Nat → Nat → Bool) (b : Nat) : Nat :=
 if ∃ d t, F d t = true ∧ (g.bx d t).isSome = true ∧ h.be d t = some b then (match w.heap[b]? with
  | some (.cells c _ _) => c.size
  | _ => 0) else h.L b
section
variable {P : Program} {T : Nat → Option TI} {g0 : G} {h0 : Gh} {w0 : World} {nt : Nat}
theorem LF_box {g : G} {w : World} {h : Gh} (hg : GI g w h) (F : Nat → Nat → Bool) {d t b : Nat} (hs : (g.bx d t).isSome = true) (hb : h.be d t = some b) {c : Array Value} {e : TypeId} (hh : w.heap[b]? = some (.cells c e (0, 0))) :
  LF g w h F b = if F d t then c.size else h.L b := by
 unfold LF
 by_cases hF : F d t = true
 ·rw [if_pos ⟨d, t, hF, hs, hb⟩, if_pos hF, hh]
 ·rw [if_neg, if_neg hF]
  rintro ⟨d', t', h1, h2, h3⟩
  obtain ⟨rfl, rfl⟩ := hg.inj d t d' t' b hs h2 hb h3
  exact hF h1
theorem LF_other {g : G} {w : World} {h : Gh} (F : Nat → Nat → Bool) {b : Nat} (hn : ∀ d t, (g.bx d t).isSome = true → h.be d t ≠ some b) : LF g w h F b = h.L b := by
 unfold LF
 rw [if_neg]
 rintro ⟨d, t, _, h2, h3⟩
 exact hn d t h2 h3
theorem LF_ext {g : G} {w : World} {h : Gh} (hg : GI g w h) (F : Nat → Nat → Bool) : Ext w h.L w (LF g w h F) := by
 refine ⟨fun b => ?_, fun _ _ _ => rfl⟩
 by_cases hn : ∃ d t, (g.bx d t).isSome = true ∧ h.be d t = some b
 ·obtain ⟨d, t, hs, hb⟩ := hn
  obtain ⟨bo, hbo⟩ := Option.isSome_iff_exists.1 hs
  obtain ⟨_, _, b', c, e, h3, h4, _, _, h7⟩ := hg.bx d t bo hbo
  rw [hb] at h3; cases h3
  rw [LF_box hg F hs hb h4, h7]
  split <;> split <;> omega
 ·rw [LF_other F (fun d t h1 h2 => hn ⟨d, t, h1, h2⟩)]
  exact Nat.le_refl _
mutual
 theorem RepA.lims {w : World} {h : Gh} {L' : Nat → Nat} (hE : Ext w h.L w L') (hga : ∀ i b, h.ga i = some b → L' b = h.L b) : ∀ (a : AV) (v : Value), RepA w h a v → RepA w { h with L := L' } a v
  | .d x, v, hr => by simp only [RepA] at hr ⊢; exact hr.ext hE
  | .own i sz es, v, hr => by
   simp only [RepA] at hr ⊢
   rcases hr with hr | ⟨b, n, c, vs, cc, e, rfl, hn, hc, hs, hf, hg, hL, hh, hrm, hcells⟩
   ·exact .inl (hr.ext hE)
   ·exact .inr ⟨b, n, c, vs, cc, e, rfl, hn, hc, hs, RepF.ext hE es vs hf, hg, by rw [← hL]; exact hga i b hg, hh, hrm, hcells⟩
  | .ptr d t off, v, hr => by simpa only [RepA] using hr
  | .fn f caps, v, hr => by
   simp only [RepA] at hr ⊢
   obtain ⟨cv, rfl, hc⟩ := hr
   exact ⟨cv, rfl, RepAs.lims hE hga caps _ hc⟩
  | .tup xs, v, hr => by
   simp only [RepA] at hr ⊢
   obtain ⟨cv, rfl, hc⟩ := hr
   exact ⟨cv, rfl, RepAs.lims hE hga xs _ hc⟩
  | .yld l, v, hr => by simpa only [RepA] using hr
  | .old _ _ _, v, hr => by simpa only [RepA] using hr
  | .raw o k i sz es, v, hr => hr.raw_map hE fun b hb => ⟨hb, hga i b hb, rfl⟩
 theorem RepAs.lims {w : World} {h : Gh} {L' : Nat → Nat} (hE : Ext w h.L w L') (hga : ∀ i b, h.ga i = some b → L' b = h.L b) : ∀ (as : List AV) (vs : List Value), RepAs w h as vs → RepAs w { h with L := L' } as vs
  | [], vs, hr => by simpa only [RepAs] using hr
  | a :: as, vs, hr => by
   simp only [RepAs] at hr ⊢
   obtain ⟨u, us, rfl, h1, h2⟩ := hr
   exact ⟨u, us, rfl, RepA.lims hE hga a u h1, RepAs.lims hE hga as us h2⟩
end
theorem RepBx.lims {w : World} {h : Gh} {ty : Nat × Nat} {L' : Nat → Nat} (hE : Ext w h.L w L') (hga : ∀ i b, h.ga i = some b → L' b = h.L b) (as : List AV) (vs : List Value) (hr : RepBx w h ty as vs) : RepBx w { h with L := L' } ty as vs :=
 ⟨RepAs.lims hE hga as vs hr.1, fun ht i sz es v hi hv => (hr.2 ht i sz es v hi hv).imp id fun ⟨b, n, c, cc, h1, h2, h3, h4, h5⟩ => ⟨b, n, c, cc, h1, h2, by show L' b = n; rw [hga i b h2, h3], h4, h5⟩⟩
def frzG (g : G) (F : Nat → Nat → Bool) : G := { bx := frzBx g.bx F, dp := g.dp, lp := g.lp }
noncomputable def frzH (g : G) (w : World) (h : Gh) (F : Nat → Nat → Bool) : Gh := { h with L := LF g w h F }
theorem LF_ga {g : G} {w : World} {h : Gh} (hg : GI g w h) (F : Nat → Nat → Bool) : ∀ i b, h.ga i = some b → LF g w h F b = h.L b :=
 fun i b hi => LF_other F (fun d t hs => hg.gaBx i b d t hi hs)
theorem RepA.frz {g : G} {w : World} {h : Gh} (hg : GI g w h) (F : Nat → Nat → Bool) {a : AV} {v : Value} (hr : RepA w h a v) : RepA w (frzH g w h F) a v :=
 RepA.lims (LF_ext hg F) (LF_ga hg F) a v hr
theorem KG_frz {g : G} {F : Nat → Nat → Bool} {n d t : Nat} : KG g n d t → KG (frzG g F) n d t := fun hk => ⟨hk.1, by
 show (frzBx g.bx F d t).isSome = true
 rw [frzBx_isSome]; exact hk.2⟩
theorem GI.frz {g : G} {w : World} {h : Gh} (hg : GI g w h) (F : Nat → Nat → Bool) : GI (frzG g F) w (frzH g w h F) where
 bx := fun d t bo hb => by
  obtain ⟨b0, hb0, rfl⟩ := frzBx_some hb
  obtain ⟨h1, h2, b, c, e, h3, h4, h5, h6, h7⟩ := hg.bx d t b0 hb0
  refine ⟨h1, AV.oks.mono (fun _ h => h) (fun _ _ => KG_frz) (fun _ h => h) _ h2, b, c, e, h3, h4, RepBx.lims (LF_ext hg F) (LF_ga hg F) _ _ h5, h6, ?_⟩
  show LF g w h F b = _
  rw [LF_box hg F (by rw [hb0]; rfl) h3 h4, h7]
  cases F d t <;> simp
 inj := fun d t d' t' b h1 h2 => hg.inj d t d' t' b (by rw [← frzBx_isSome g.bx F]; exact h1) (by rw [← frzBx_isSome g.bx F]; exact h2)
 gaBx := fun i b d t h1 h2 => hg.gaBx i b d t h1 (by rw [← frzBx_isSome g.bx F]; exact h2)
 gaInj := hg.gaInj
 gaLt := hg.gaLt
 gaC := hg.gaC
 lim := fun b hb => by
  show LF g w h F b = 0
  rw [LF_other F, hg.lim b hb]
  intro d t hs he
  obtain ⟨bo, hbo⟩ := Option.isSome_iff_exists.1 hs
  obtain ⟨_, _, b', c, e, h3, h4, _⟩ := hg.bx d t bo hbo
  rw [he] at h3; cases h3
  have := lt_of_heap h4
  omega
 lp := fun l r hl => by
  obtain ⟨hp, D, tmps, h1, h2, h3, h4⟩ := hg.lp l r hl
  refine ⟨hp, D, tmps, h1, h2, h3, fun t v hv => ?_⟩
  obtain ⟨h5, h6⟩ := h4 t v hv
  exact ⟨h5.frz hg F, AV.ok.mono (fun _ h => h) (fun _ _ => KG_frz) (fun _ h => h) _ h6⟩
 roInj := hg.roInj
 gaTop := hg.gaTop
theorem FI.frz {s : St} {a : Act} {w : World} {h : Gh} (hf : FI nt s a w h) (F : Nat → Nat → Bool) : FI nt { tm := s.tm, fr := s.fr, g := frzG s.g F } a w (frzH s.g w h F) where
 size := hf.size
 tm := fun t v hv => by
  obtain ⟨h1, h2⟩ := hf.tm t v hv
  exact ⟨h1.frz hf.gi F, AV.ok.mono (fun _ h => h) (fun _ _ => KG_frz) (fun _ h => h) _ h2⟩
 gi := hf.gi.frz F
 dfr := hf.dfr
theorem Rel.frz {g : G} {w : World} {h : Gh} (hg : GI g w h) (hr : Rel g0 h0 w0 g w h) (F : Nat → Nat → Bool) : Rel g0 h0 w0 (frzG g F) w (frzH g w h F) :=
 {os := hr.os
  tape := hr.tape
  output := hr.output
  size := hr.size
  ext := hr.ext.trans (LF_ext hg F)
  keep := fun b hb hm => by
   obtain ⟨a1, a2⟩ := hr.keep b hb hm
   refine ⟨a1, ?_⟩
   show LF g w h F b = _
   rw [LF_other F, a2]
   intro d t hs he
   rcases hr.bxMay d t b hs he with h2 | h2
   ·omega
   ·exact hm h2
  bxs := fun d t hs => by
   obtain ⟨a1, a2⟩ := hr.bxs d t hs
   exact ⟨by show (frzBx g.bx F d t).isSome = true; rw [frzBx_isSome]; exact a1, a2⟩
  ro := hr.ro
  ga := hr.ga
  bxMay := fun d t b hs hb => hr.bxMay d t b (by rw [← frzBx_isSome g.bx F]; exact hs) hb
  gaMay := hr.gaMay
  lpMay := hr.lpMay
  lpLen := hr.lpLen }
theorem RepA.ownData {w : World} {h : Gh} {a : AV} {v : Value} (hr : RepA w h a v) : RepA w h (ownData a) v := by
 cases a <;> first | exact hr | (simp only [Abs.ownData, RepA]; exact hr.own_sl) | (simp only [Abs.ownData, RepA]; exact hr.raw_old)
theorem ok_ownData {Q Q' : Id → Prop} {K : Nat → Nat → Prop} {Y : Nat → Prop} {a : AV} (hn : noTup a = true) (ho : a.ok Q K Y) : (ownData a).ok Q' K Y := by
 cases a <;> simp_all [Abs.ownData, AV.ok, noTup]
theorem RepA.thaw {g : G} {w : World} {h : Gh} (hg : GI g w h) {Q : Id → Prop} {K : Nat → Nat → Prop} {Y : Nat → Prop} {a : AV} {v : Value} (ho : a.ok Q K Y) (hr : RepA w h a v) :
  RepA w h (thaw g.bx a) v ∧ (thaw g.bx a).ok Q K Y := by
 unfold Abs.thaw
 split
 ·rename_i d t off
  split
  ·rename_i b hb
   split
   ·rename_i cs hfz hcs
    split
    ·rename_i hle
     have hle : off ≤ cs.length := by simpa using hle
     obtain ⟨h1, h2, b', c, e, h3, h4, ⟨h5, -⟩, h6, h7⟩ := hg.bx d t b hb
     simp only [RepA] at hr
     obtain ⟨b'', hb'', rfl⟩ := hr
     rw [hb''] at h3; cases h3
     have hv := RepAs.datas _ _ _ hcs h5
     have hl := hv.length
     refine ⟨?_, by simp [AV.ok]⟩
     simp only [RepA, RepV]
     rw [hfz] at h7
     refine ⟨_, off, c.toList.drop off, rfl, hv.drop, ?_, ?_⟩
     ·rw [h7, if_pos rfl]
      simp at hl ⊢; omega
     ·intro k u hk
      have hk' : c.toList[off + k]? = some u := by simpa [List.getElem?_drop] using hk
      refine ⟨?_, h6 u (List.mem_of_getElem? hk')⟩
      simp only [World.cell?, h4]
      simpa using hk'
    ·exact ⟨hr, ho⟩
   ·exact ⟨hr, ho⟩
  ·exact ⟨hr, ho⟩
 ·exact ⟨hr, ho⟩
def frzF : List AV → Nat → Nat → Bool
 | [], _, _ => false
 | .ptr d t _ :: rest, d', t' => (Nat.beq d' d && Nat.beq t' t) || frzF rest d' t'
 | _ :: rest, d', t' => frzF rest d' t'
theorem freezeBx_eq : ∀ (as : List AV) (bx : Nat → Nat → Option Box), freezeBx bx as = frzBx bx (frzF as)
 | [], bx => by
  funext d t
  unfold freezeBx frzBx frzF
  cases bx d t <;> simp
 | .ptr d1 t1 _ :: rest, bx => by
  rw [freezeBx, freezeBx_eq rest]
  funext d t
  unfold frzBx
  simp only [frzF]
  by_cases hc : (Nat.beq d d1 && Nat.beq t t1) = true
  ·obtain ⟨rfl, rfl⟩ : d = d1 ∧ t = t1 := by simpa using hc
   rw [if_pos hc]
   cases bx d t <;> simp
  ·rw [if_neg hc]
   have : (Nat.beq d d1 && Nat.beq t t1) = false := Bool.eq_false_iff.2 hc
   rw [this]
   cases bx d t <;> simp
 | .d _ :: rest, bx => by rw [freezeBx, freezeBx_eq rest]; rfl; all_goals (intro _ _ _ h; cases h)
 | .own _ _ _ :: rest, bx => by rw [freezeBx, freezeBx_eq rest]; rfl; all_goals (intro _ _ _ h; cases h)
 | .fn _ _ :: rest, bx => by rw [freezeBx, freezeBx_eq rest]; rfl; all_goals (intro _ _ _ h; cases h)
 | .tup _ :: rest, bx => by rw [freezeBx, freezeBx_eq rest]; rfl; all_goals (intro _ _ _ h; cases h)
 | .yld _ :: rest, bx => by rw [freezeBx, freezeBx_eq rest]; rfl; all_goals (intro _ _ _ h; cases h)
 | .raw _ _ _ _ _ :: rest, bx => by rw [freezeBx, freezeBx_eq rest]; rfl; all_goals (intro _ _ _ h; cases h)
 | .old _ _ _ :: rest, bx => by rw [freezeBx, freezeBx_eq rest]; rfl; all_goals (intro _ _ _ h; cases h)
theorem mkFn_sound {w : World} {h : Gh} {Q : Id → Prop} {K : Nat → Nat → Prop} {Y : Nat → Prop} {f : Fn} {caps : List AV} {cv : Array Value} (hr : RepAs w h caps cv.toList) (ho : AV.oks (fun _ => False) K Y caps) :
  RepA w h (mkFn f caps) (.func f #[] cv) ∧ (mkFn f caps).ok Q K Y := by
 unfold mkFn
 split
 ·rename_i ds hds
  refine ⟨?_, by simp [AV.ok]⟩
  simp only [RepA, RepV]
  exact ⟨cv, rfl, RepAs.datas _ _ _ hds hr⟩
 ·refine ⟨?_, by simpa only [AV.ok] using ho⟩
  simp only [RepA]
  exact ⟨cv, rfl, hr⟩
theorem evs_ok {Q : Id → Prop} {K : Nat → Nat → Prop} {Y : Nat → Prop} {tm : Nat → Option AV} (ht : ∀ t v, tm t = some v → v.ok Q K Y) : ∀ {xs : List Operand} {vs : List AV}, evs tm xs = some vs → AV.oks Q K Y vs
 | [], vs, h => by simp [evs] at h; subst h; simp [AV.oks]
 | x :: xs, vs, h => by
  simp only [evs] at h
  cases h1 : ev tm x with
  | none => simp [h1] at h
  | some v =>
   cases h2 : evs tm xs with
   | none => simp [h1, h2] at h
   | some us =>
    simp only [h1, h2, Option.some.injEq] at h; subst h
    simp only [AV.oks]
    exact ⟨ev_ok ht h1, evs_ok ht h2⟩
theorem thawed {g : G} {w : World} {h : Gh} (hg : GI g w h) {Q : Id → Prop} {K : Nat → Nat → Prop} {Y : Nat → Prop} : ∀ {as : List AV} {vs : List Value}, as.all noTup = true → AV.oks Q K Y as → RepAs w h as vs →
  RepAs w h (as.map fun a => thaw g.bx (ownData a)) vs ∧ AV.oks (fun _ => False) K Y (as.map fun a => thaw g.bx (ownData a))
 | [], vs, _, _, hr => by simp only [RepAs] at hr; subst hr; simp [RepAs, AV.oks]
 | a :: as, vs, hn, ho, hr => by
  simp only [RepAs, List.map_cons, AV.oks, List.all_cons, Bool.and_eq_true] at hr hn ho ⊢
  obtain ⟨u, us, rfl, h1, h2⟩ := hr
  obtain ⟨r1, o1⟩ := RepA.thaw hg (Q := fun _ => False) (ok_ownData hn.1 ho.1) h1.ownData
  obtain ⟨r2, o2⟩ := thawed hg hn.2 ho.2 h2
  exact ⟨⟨u, us, rfl, r1, r2⟩, o1, o2⟩
theorem makeFuncA_sound {hint : Hint} {o : Oper} {dst : Nat} {f : Fn} {first caps : Array Operand} (ho : o.op = .makeFunc f first caps) (hfst : first.isEmpty = true) (hdst : o.dst = some dst) (hd : dst < nt) {s s' : St} {a : Act} {w : World} {h : Gh}
  (hf : FI nt s a w h) (hr : Rel g0 h0 w0 s.g w h) (hs : makeFuncA hint dst f caps.toList s = some s') : Steps1 P nt g0 h0 w0 o s' a w := by
 unfold makeFuncA at hs
 split at hs
 case h_2 => cases hs
 rename_i as has
 split at hs
 case isFalse => cases hs
 rename_i hn
 have hfirst : first = #[] := by simpa using hfst
 subst hfirst
 have hrun : (execOp a.eval o).run P w = .ok (.value (.func f #[] (caps.map a.eval))) w := by simp [execOp, ho, Instr.makeFunc]
 have key : ∀ F : Nat → Nat → Bool, Steps1 P nt g0 h0 w0 o { tm := upd s.tm dst (some (mkFn f (as.map fun a => thaw (frzBx s.g.bx F) (ownData a)))), fr := s.fr, g := frzG s.g F } a w := by
  intro F
  have f1 := hf.frz F
  have r1 := hr.frz hf.gi F
  have hv := evs_rep (Tms.of f1) has
  have hk := evs_ok (fun t v hv => (f1.tm t v hv).2) has
  obtain ⟨r2, o2⟩ := thawed f1.gi hn hk hv
  have r2' : RepAs w (frzH s.g w h F) (as.map fun a => thaw (frzBx s.g.bx F) (ownData a)) (caps.map a.eval).toList := by simpa [frzG] using r2
  obtain ⟨r3, o3⟩ := mkFn_sound (Q := TmQ s.fr s.g.dp) (f := f) r2' o2
  refine ⟨_, w, _, _, hrun, .inl ⟨_, rfl, rfl⟩, ?_, r1⟩
  rw [hdst]
  exact f1.put hd r3 o3
 simp only [Option.some.injEq] at hs; subst hs
 split
 ·rw [freezeBx_eq]; exact key _
 ·have h0 := key (fun _ _ => false)
  have he : frzBx s.g.bx (fun _ _ => false) = s.g.bx := by
   funext d t
   unfold frzBx
   cases s.g.bx d t <;> simp
  rw [he] at h0
  simpa [frzG, he] using h0
theorem callB_sound (hT : TyOk P T) {o : Oper} {c : Call} (ho : o.op = .call c) {dst : Nat} (hdst : o.dst = some dst) (hd : dst < nt) {s s' : St} {a : Act} {w : World} {h : Gh}
  (hf : FI nt s a w h) (hr : Rel g0 h0 w0 s.g w h) (hdp : g0.dp < s.g.dp) {hint : Hint} (hs : callB T hint dst c s = some s') : Steps1 P nt g0 h0 w0 o s' a w := by
 unfold callB at hs
 split at hs
 ·rename_i happ
  have hcl : c.callee = .builtin .append := by
   revert happ
   cases c.callee with
   | builtin b => cases b <;> simp [isAppend]
   | _ => simp [isAppend]
  split at hs
  ·rename_i x y t t' hargs htys
   split at hs
   case h_2 => cases hs
   rename_i ti t2 hti ht2
   split at hs
   case isFalse => cases hs
   rename_i htt
   exact appendA_sound hT ho hcl (by simpa using congrArg List.toArray hargs) (by simpa using congrArg List.toArray htys) hti ht2 htt hdst hd hf hr hdp hs
  ·cases hs
 ·split at hs
  ·rename_i v hv
   simp only [Option.some.injEq] at hs; subst hs
   obtain ⟨u, hrun, hrep⟩ := lenA_run hT (Tms.of hf) (ty := o.type) hv
   refine step_value hdst hd hf hr (u := u) (by simpa [execOp, ho] using hrun) hrep ?_
   exact lenA_ok hv
  ·cases hs
theorem stepOp_sound (hT : TyOk P T) {hint : Hint} {o : Oper} {s s' : St} {a : Act} {w : World} {h : Gh}
  (hf : FI nt s a w h) (hr : Rel g0 h0 w0 s.g w h) (hdp : g0.dp < s.g.dp) (hs : stepOp T hint nt o s = some s') : Steps1 P nt g0 h0 w0 o s' a w := by
 unfold stepOp at hs
 split at hs
 ·rename_i hdst
  split at hs
  ·rename_i t p x hop
   exact storeA_sound hT hop hdst hf hr hdp hs
  ·cases hs
 ·rename_i dst hdst
  split at hs
  case isFalse => cases hs
  rename_i hlt
  have hd : dst < nt := by simpa using hlt
  split at hs
  ·rename_i t hop
   exact allocA_sound hT hop hdst hd hf hr hdp hs
  ·rename_i t x hop
   exact boxA_sound hT hop hdst hd hf hr hdp hs
  ·rename_i t p hop
   split at hs
   ·rename_i pv hpv
    split at hs
    ·rename_i v hv
     simp only [Option.some.injEq] at hs; subst hs
     have h1 := ev_rep (Tms.of hf) hpv
     have h2 := ev_ok (fun t v hv => (hf.tm t v hv).2) hpv
     obtain ⟨u, hrun, hrep, hok⟩ := loadA_sound hT hf.gi hv h1 (fun i hi => by cases i with
      | tmp _ _ _ => exact hi.elim
      | res _ => exact hi.elim
      | box _ _ _ => trivial) h2 (fun l hl => hl)
     exact step_value hdst hd hf hr (u := u) (by simp [execOp, hop, hrun]) hrep hok
    ·cases hs
   ·cases hs
  ·rename_i t n parts hop
   exact buildSliceA_sound hT hop hdst hd hf hr hdp hs
  ·rename_i c hop
   exact callB_sound hT hop hdst hd hf hr hdp hs
  ·rename_i f first caps hop
   split at hs
   ·rename_i hfst
    exact makeFuncA_sound hop hfst hdst hd hf hr hs
   ·cases hs
  ·split at hs
   ·rename_i v hv
    simp only [Option.some.injEq] at hs; subst hs
    obtain ⟨u, hrun, hrep⟩ := opP_sound hT (Tms.of hf) hv
    exact step_value hdst hd hf hr hrun hrep (opP_ok (fun t v hv => (hf.tm t v hv).2) hv)
   ·cases hs
end
end Go.Abs
namespace Go.Abs
open Go
set_option linter.unusedVariables false
set_option linter.unusedSimpArgs false
set_option linter.unnecessarySimpa false
set_option linter.unusedSectionVars false
variable [Tabs]
def FOk (P : Program) (f : FuncId) : Prop := ∃ fn c, P.funcs[f]? = some fn ∧ fn.body = some c ∧ (fn.name == "runtime.NumGoroutine") = false
theorem FOk.run {P : Program} {f : FuncId} (h : FOk P f) (args : Array Value) (w : World) : (callFunc f args).run P w = .ok (.enter f args) w := by
 obtain ⟨fn, c, h1, h2, h3⟩ := h
 have h4 : fn.name ≠ "runtime.NumGoroutine" := by simpa using h3
 simp [callFunc, h1, h4, h2]
def resVal : List Value → Value
 | [v] => v
 | vs => .tuple vs.toArray
def ResAt : Nat → List AV → Prop
 | _, [] => True
 | j, a :: as => (∀ i sz es, a = .own i sz es → i = .res j) ∧ ResAt (j + 1) as
def IsRes : Id → Prop
 | .res _ => True
 | _ => False
def OutM (g : G) (w : World) (h : Gh) : Out → Ending → Prop
 | .ret rs, .returned v => ∃ vs, v = resVal vs ∧ RepAs w h rs vs ∧ ResAt 0 rs ∧ rs.all noTup = true ∧ AV.oks IsRes (KG g g.dp) (YG g (g.dp + 1)) rs
 | .pan x, .panicked chain => ∃ v, chain = [{ v, recovered := false }] ∧ RepV w h.L x v
 | _, _ => False
def CallQ {R : Type} (k : Out → G → Option R) (r : R) (g : G) (h : Gh) (w : World) (e : Ending) (w' : World) : Prop :=
 ∃ out g' h', OutM g' w' h' out e ∧ GI g' w' h' ∧ Rel g h w g' w' h' ∧ g'.dp = g.dp ∧ g'.lp.map LoopRec.dp = g.lp.map LoopRec.dp ∧ k out g' = some r
def ESound (P : Program) {R : Type} (E : Cal → List AV → G → (Out → G → Option R) → Option R) : Prop :=
 ∀ cal args g k r, E cal args g k = some r → ∀ w h vs, GI g w h → RepAs w h args vs → AV.oks NoId (KG g g.dp) (YG g (g.dp + 1)) args → Tb g h w →
  match cal with
  | .fn (.func f) => FOk P f ∧ CallsIn Fence.wide 0 P f vs.toArray w (CallQ k r g h w)
  | .fn _ => False
  | .yld l => ∃ f tmps assign body, (Instr.yield (h.ro l).1 vs.toArray).run P w = .ok (.round (h.ro l).1 f tmps assign body) w ∧
    RoundIn Fence.wide 0 P (h.ro l).1 f tmps assign body w (CallQ k r g h w)
def H0 (L : Nat → Nat) : Gh := { L, be := fun _ _ => none, ga := fun _ => none, ro := fun _ => (0, 0) }
def OutD : Out → Prop
 | .ret rs => rs.all closedAV = true
 | .pan _ => True
def CSound (P : Program) (C : Fn → List D → Option Out) : Prop :=
 ∀ fn ds out, C fn ds = some out → ∀ w L vs, (∀ b, w.heap.size ≤ b → L b = 0) → RepVs w L ds vs → Tabs.p w → ∃ f, fn = .func f ∧ FOk P f ∧
  CallsIn Fence.wide 0 P f vs.toArray w (fun e w' => ∃ g' h', OutM g' w' h' out e ∧ OutD out ∧ GI g' w' h' ∧ Rel G0 (H0 L) w g' w' h')
theorem may_G0 {L : Nat → Nat} {b : Nat} : ¬ May G0 (H0 L) b := by
 rintro (⟨d, t, h, _⟩ | ⟨i, _, h⟩ | ⟨l, h, _⟩)
 ·cases h
 ·cases h
 ·cases h
def gaMix (ga ga' : Id → Option Nat) : Id → Option Nat
 | .res j => ga' (.res j)
 | k => ga k
section
variable {P : Program} {T : Nat → Option TI} {g0 : G} {h0 : Gh} {w0 : World} {nt : Nat}
theorem FI.pure {s : St} {a : Act} {w w' : World} {h h' : Gh} {g' : G} (hf : FI nt s a w h) (hr : Rel g0 h0 w0 s.g w h) (hG : GI g' w' h') (hR : Rel G0 (H0 h.L) w g' w' h') :
  FI nt s a w' { L := h'.L, be := h.be, ga := gaMix h.ga h'.ga, ro := h.ro } ∧ Rel g0 h0 w0 s.g w' { L := h'.L, be := h.be, ga := gaMix h.ga h'.ga, ro := h.ro } ∧ RowKit.Below w.heap.size w w' := by
 have hb : RowKit.Below w.heap.size w w' := ⟨hR.os, hR.tape, hR.output, hR.size, fun b hb => (hR.keep b hb may_G0).1⟩
 have hL : ∀ b, b < w.heap.size → h'.L b = h.L b := fun b hb => (hR.keep b hb may_G0).2
 have hnew : ∀ j b, h'.ga (.res j) = some b → w.heap.size ≤ b := fun j b hj => by
  rcases hR.gaMay (.res j) b (by intro _ _ _ e; cases e) hj with h1 | h1
  ·exact h1
  ·exact absurd h1 may_G0
 have hbl : ∀ d t b, (s.g.bx d t).isSome = true → h.be d t = some b → b < w.heap.size := fun d t b hs he => by
  obtain ⟨bo, hbo⟩ := Option.isSome_iff_exists.1 hs
  obtain ⟨_, _, b', c, e, h3, h4, _⟩ := hf.gi.bx d t bo hbo
  rw [he] at h3; cases h3
  exact lt_of_heap h4
 have hGI : GI s.g w' { L := h'.L, be := h.be, ga := gaMix h.ga h'.ga, ro := h.ro } := by
  refine hf.gi.grow (h' := { L := h'.L, be := h.be, ga := gaMix h.ga h'.ga, ro := h.ro }) hb hL hG.lim (fun _ _ _ => rfl) (fun _ _ => rfl) ?_ ?_ ?_ ?_ ?_
  ·intro i hi
   cases i with
   | box _ _ _ => rfl
   | tmp _ _ _ => exact hi.elim
   | res _ => exact hi.elim
  ·intro i b d t hi hs he
   have := hbl d t b hs he
   cases i with
   | box _ _ _ => exact hf.gi.gaBx _ b d t hi hs he
   | tmp _ _ _ => exact hf.gi.gaBx _ b d t hi hs he
   | res j => have := hnew j b hi; omega
  ·intro i j b hi hj
   cases i with
   | res i =>
    cases j with
    | res j => exact hG.gaInj _ _ b hi hj
    | box _ _ _ => have h1 := hnew i b hi; have h2 := hf.gi.gaLt _ b hj; omega
    | tmp _ _ _ => have h1 := hnew i b hi; have h2 := hf.gi.gaLt _ b hj; omega
   | box _ _ _ =>
    cases j with
    | res j => have h1 := hnew j b hj; have h2 := hf.gi.gaLt _ b hi; omega
    | box _ _ _ => exact hf.gi.gaInj _ _ b hi hj
    | tmp _ _ _ => exact hf.gi.gaInj _ _ b hi hj
   | tmp _ _ _ =>
    cases j with
    | res j => have h1 := hnew j b hj; have h2 := hf.gi.gaLt _ b hi; omega
    | box _ _ _ => exact hf.gi.gaInj _ _ b hi hj
    | tmp _ _ _ => exact hf.gi.gaInj _ _ b hi hj
  ·intro i b hi
   have old : ∀ i, h.ga i = some b → ∃ c e, w'.heap[b]? = some (.cells c e (0, 0)) := fun i hi => by
    obtain ⟨c, e, hc⟩ := hf.gi.gaC i b hi
    exact ⟨c, e, by rw [hb.block b (lt_of_heap hc), hc]⟩
   cases i with
   | res j => exact hG.gaC _ b hi
   | box _ _ _ => exact old _ hi
   | tmp _ _ _ => exact old _ hi
  ·intro d t j hd
   exact hf.gi.gaTop d t j hd
 refine ⟨⟨hf.size, ?_, hGI, dfr_grow hf.dfr hb⟩, ?_, hb⟩
 ·exact hf.tm_grow (h' := { L := h'.L, be := h.be, ga := gaMix h.ga h'.ga, ro := h.ro }) hb hL (fun _ _ _ => rfl) (fun _ _ => rfl) (fun i hi => by
   cases i with
   | res _ => exact hi.elim
   | _ => rfl)
 ·refine hr.grow (h' := { L := h'.L, be := h.be, ga := gaMix h.ga h'.ga, ro := h.ro }) hf.gi hb hL (fun d t _ hs => ⟨hs, rfl⟩) (fun _ _ => rfl) (fun _ _ _ _ => rfl) (fun d t b hs hb' => .inr ⟨d, t, hs, hb'⟩) ?_ (fun l hl => .inr ⟨hl, rfl⟩) (Nat.le_refl _)
  intro i b hi
  cases i with
  | res j => exact .inl (hnew j b hi)
  | box _ _ _ => exact .inr hi
  | tmp _ _ _ => exact .inr hi
theorem closed_rep {w : World} {h h' : Gh} (hL : h'.L = h.L) (hga : ∀ j, h'.ga (.res j) = h.ga (.res j)) : ∀ {rs : List AV} {vs : List Value} {j : Nat}, rs.all closedAV = true → ResAt j rs → RepAs w h rs vs → RepAs w h' rs vs
 | [], vs, _, _, _, hr => by simpa only [RepAs] using hr
 | a :: as, vs, j, hc, hp, hr => by
  simp only [List.all_cons, Bool.and_eq_true, ResAt, RepAs] at hc hp hr ⊢
  obtain ⟨u, us, rfl, h1, h2⟩ := hr
  refine ⟨u, us, rfl, ?_, closed_rep hL hga hc.2 hp.2 h2⟩
  cases a with
  | d x => simp only [RepA] at h1 ⊢; rw [hL]; exact h1
  | own i sz es =>
   have := hp.1 i sz es rfl
   subst this
   simp only [RepA, Owned] at h1 ⊢
   rw [hL, hga]; exact h1
  | _ => simp [closedAV] at hc
theorem closed_ok {Q : Id → Prop} {K K' : Nat → Nat → Prop} {Y Y' : Nat → Prop} : ∀ {rs : List AV}, rs.all closedAV = true → AV.oks Q K Y rs → AV.oks Q K' Y' rs
 | [], _, _ => by simp [AV.oks]
 | a :: as, hc, ho => by
  simp only [List.all_cons, Bool.and_eq_true, AV.oks] at hc ho ⊢
  refine ⟨?_, closed_ok hc.2 ho.2⟩
  cases a with
  | d x => simp [AV.ok]
  | own i sz es => simpa only [AV.ok] using ho.1
  | _ => simp [closedAV] at hc
def gaPut (ga : Id → Option Nat) (dp dst : Nat) : Id → Option Nat
 | .tmp d t j => if d = dp ∧ t = dst then ga (.res j) else ga (.tmp d t j)
 | .res _ => none
 | k => ga k
theorem gaPut_inv {ga : Id → Option Nat} {dp dst : Nat} {k : Id} {b : Nat} (h : gaPut ga dp dst k = some b) :
  (∃ j, k = .tmp dp dst j ∧ ga (.res j) = some b) ∨ ((∀ j, k ≠ .tmp dp dst j) ∧ (∀ j, k ≠ .res j) ∧ ga k = some b) := by
 cases k with
 | tmp d t j =>
  simp only [gaPut] at h
  split at h
  ·rename_i e; rw [e.1, e.2]; exact .inl ⟨j, rfl, h⟩
  ·rename_i e
   refine .inr ⟨fun j' e' => ?_, by simp, h⟩
   cases e'; exact e ⟨rfl, rfl⟩
 | box d t j => exact .inr ⟨by simp, by simp, h⟩
 | res j => cases h
theorem FI.putGa {s : St} {a : Act} {w : World} {h : Gh} (hf : FI nt s a w h) (hr : Rel g0 h0 w0 s.g w h) {dst : Nat} (hfr : s.fr dst = false) (hdp : g0.dp < s.g.dp) :
  FI nt s a w { h with ga := gaPut h.ga s.g.dp dst } ∧ Rel g0 h0 w0 s.g w { h with ga := gaPut h.ga s.g.dp dst } := by
 have box : ∀ i, IsBox i → gaPut h.ga s.g.dp dst i = h.ga i := by
  intro i hi
  cases i with
  | box _ _ _ => rfl
  | _ => exact hi.elim
 have tmq : ∀ i, TmQ s.fr s.g.dp i → gaPut h.ga s.g.dp dst i = h.ga i := by
  intro i hi
  cases i with
  | box _ _ _ => rfl
  | res _ => exact hi.elim
  | tmp d t j =>
   simp only [Abs.gaPut]
   rw [if_neg]
   rintro ⟨_, rfl⟩
   have := hi.2
   rw [hfr] at this; cases this
 refine ⟨⟨hf.size, ?_, ?_, hf.dfr⟩, ?_⟩
 ·intro t v hv
  obtain ⟨h1, h2⟩ := hf.tm t v hv
  exact ⟨RepA.ext (h := h) (h' := { h with ga := gaPut h.ga s.g.dp dst }) (Ext.refl w h.L) (fun _ _ _ _ h => h) (fun _ _ => rfl) (fun i b hi hb => ⟨by show gaPut h.ga s.g.dp dst i = some b; rw [tmq i hi, hb], rfl, rfl⟩) _ _ h2 h1, h2⟩
 ·refine { bx := ?_, inj := hf.gi.inj, gaBx := ?_, gaInj := ?_, gaLt := ?_, gaC := ?_, lim := hf.gi.lim, lp := ?_, roInj := hf.gi.roInj, gaTop := ?_ }
  ·intro d t bo hb
   obtain ⟨h1, h2, b', c, e, h3, h4, h5, h6, h7⟩ := hf.gi.bx d t bo hb
   exact ⟨h1, h2, b', c, e, h3, h4, RepBx.ext (h := h) (h' := { h with ga := gaPut h.ga s.g.dp dst }) (Ext.refl w h.L) (fun _ _ _ _ h => h) (fun _ _ => rfl) (fun i b hi hb => ⟨by show gaPut h.ga s.g.dp dst i = some b; rw [box i hi, hb], rfl, rfl⟩) _ _ h2 h5, h6, h7⟩
  ·intro k b d t hk hs
   rcases gaPut_inv hk with ⟨j, _, h1⟩ | ⟨_, _, h1⟩
   ·exact hf.gi.gaBx _ b d t h1 hs
   ·exact hf.gi.gaBx _ b d t h1 hs
  ·intro k k' b hk hk'
   rcases gaPut_inv hk with ⟨j, rfl, h1⟩ | ⟨a1, a2, h1⟩ <;> rcases gaPut_inv hk' with ⟨j', rfl, h2⟩ | ⟨b1, b2, h2⟩
   ·have := hf.gi.gaInj _ _ b h1 h2
    cases this; rfl
   ·exact absurd (hf.gi.gaInj _ _ b h2 h1) (b2 j)
   ·exact absurd (hf.gi.gaInj _ _ b h1 h2) (a2 j')
   ·exact hf.gi.gaInj _ _ b h1 h2
  ·intro k b hk
   rcases gaPut_inv hk with ⟨j, _, h1⟩ | ⟨_, _, h1⟩
   ·exact hf.gi.gaLt _ b h1
   ·exact hf.gi.gaLt _ b h1
  ·intro k b hk
   rcases gaPut_inv hk with ⟨j, _, h1⟩ | ⟨_, _, h1⟩
   ·exact hf.gi.gaC _ b h1
   ·exact hf.gi.gaC _ b h1
  ·intro l r hl
   obtain ⟨hp, D, tmps, h1, h2, h3, h4⟩ := hf.gi.lp l r hl
   refine ⟨hp, D, tmps, h1, h2, h3, fun t v hv => ?_⟩
   obtain ⟨h5, h6⟩ := h4 t v hv
   exact ⟨RepA.ext (h := h) (h' := { h with ga := gaPut h.ga s.g.dp dst }) (Ext.refl w h.L) (fun _ _ _ _ h => h) (fun _ _ => rfl) (fun _ _ h => h.elim) _ _ h6 h5, h6⟩
  ·intro d t k hd
   show Abs.gaPut h.ga s.g.dp dst (.tmp d t k) = none
   simp only [Abs.gaPut]
   rw [if_neg (by omega)]
   exact hf.gi.gaTop d t k hd
 ·exact
   {hr with
    ga := fun d t k hd => by
     rw [← hr.ga d t k hd]
     show Abs.gaPut h.ga s.g.dp dst (.tmp d t k) = _
     simp only [Abs.gaPut]
     rw [if_neg (by omega)]
    gaMay := fun k b hk hb => by
     rcases gaPut_inv hb with ⟨j, _, h1⟩ | ⟨_, _, h1⟩
     ·exact hr.gaMay _ b (by intro _ _ _ e; cases e) h1
     ·exact hr.gaMay k b hk h1 }
theorem renAVs_rep {w : World} {h : Gh} {dp dst : Nat} {K : Nat → Nat → Prop} {Y : Nat → Prop} {fr : Nat → Bool} (hfr : fr dst = true) : ∀ {rs : List AV} {vs : List Value} {j : Nat}, ResAt j rs → rs.all noTup = true → AV.oks IsRes K Y rs → RepAs w h rs vs →
  RepAs w { h with ga := gaPut h.ga dp dst } (renAVs dp dst j rs) vs ∧ AV.oks (TmQ fr dp) K Y (renAVs dp dst j rs)
 | [], vs, _, _, _, _, hr => by simp only [RepAs] at hr; subst hr; simp [renAVs, RepAs, AV.oks]
 | a :: as, vs, j, hp, hn, ho, hr => by
  simp only [ResAt, List.all_cons, Bool.and_eq_true, AV.oks, RepAs, renAVs] at hp hn ho hr ⊢
  obtain ⟨u, us, rfl, h1, h2⟩ := hr
  obtain ⟨r2, o2⟩ := renAVs_rep hfr hp.2 hn.2 ho.2 h2
  have key : RepA w { h with ga := gaPut h.ga dp dst } (renAV dp dst j a) u ∧ (renAV dp dst j a).ok (TmQ fr dp) K Y := by
   have same : (∀ i sz es, a ≠ .own i sz es) → (∀ o k i sz es, a ≠ .raw o k i sz es) → renAV dp dst j a = a → RepA w { h with ga := gaPut h.ga dp dst } a u ∧ a.ok (TmQ fr dp) K Y := by
    intro hne hnr _
    have hok : a.ok (fun _ => False) K Y := by
     cases a with
     | own i sz es => exact absurd rfl (hne i sz es)
     | raw o k i sz es => exact absurd rfl (hnr o k i sz es)
     | tup _ => simp [noTup] at hn
     | _ => simpa only [AV.ok] using ho.1
    exact ⟨RepA.ext (h := h) (h' := { h with ga := gaPut h.ga dp dst }) (Ext.refl w h.L) (fun _ _ _ _ h => h) (fun _ _ => rfl) (fun _ _ h => h.elim) _ _ hok h1, AV.ok.mono (fun _ h => h.elim) (fun _ _ h => h) (fun _ h => h) a hok⟩
   cases a with
   | own i sz es =>
    have := hp.1 i sz es rfl
    subst this
    simp only [renAV, AV.ok]
    refine ⟨?_, rfl, hfr⟩
    simp only [RepA, Owned] at h1 ⊢
    rcases h1 with h1 | ⟨b, n, c, vs, cc, e, q1, q2, q3, q4, q5, q6, q7⟩
    ·exact .inl h1
    ·exact .inr ⟨b, n, c, vs, cc, e, q1, q2, q3, q4, q5, by simpa [Abs.gaPut] using q6, q7⟩
   | raw o k i sz es => simp only [renAV, RepA, AV.ok]; exact ⟨h1.raw_old, trivial⟩
   | _ => exact same (by intros; simp) (by intros; simp) rfl
  exact ⟨⟨u, us, rfl, key.1, r2⟩, key.2, o2⟩
theorem putRes_sound {s s' : St} {a : Act} {w : World} {h : Gh} (hf : FI nt s a w h) (hr : Rel g0 h0 w0 s.g w h) (hdp : g0.dp < s.g.dp) {dst : Option Nat} {rs : List AV} (hs : putRes nt dst rs s = some s')
  {vs : List Value} (hrep : RepAs w h rs vs) (hp : ResAt 0 rs) (hn : rs.all noTup = true) (ho : AV.oks IsRes (KG s.g s.g.dp) (YG s.g s.g.dp) rs) :
  ∃ h', FI nt s' (a.put dst (resVal vs)) w h' ∧ Rel g0 h0 w0 s'.g w h' ∧ s'.g = s.g := by
 unfold putRes at hs
 split at hs
 ·cases hs
  exact ⟨h, hf, hr, rfl⟩
 ·rename_i d
  split at hs
  ·cases hs
  rename_i hfr
  have hfr : s.fr d = false := by simpa using hfr
  split at hs
  case isFalse => cases hs
  rename_i hlt
  have hd : d < nt := by simpa using hlt
  simp only [Option.some.injEq] at hs; subst hs
  obtain ⟨f1, r1⟩ := hf.putGa hr hfr hdp
  obtain ⟨p1, o1⟩ := renAVs_rep (dp := s.g.dp) (dst := d) (fr := setFr s.fr d) (by simp [setFr]) hp hn ho hrep
  refine ⟨_, ⟨by simp [Act.put, hf.size], ?_, f1.gi, f1.dfr⟩, r1, rfl⟩
  intro t v hv
  rw [getD_put a d t _ (by rw [hf.size]; exact hd)]
  rcases upd_some hv with ⟨rfl, rfl⟩ | ⟨hne, hv⟩
  ·rw [if_pos rfl]
   split
   ·rename_i x hx
    rw [hx] at p1 o1
    simp only [RepAs] at p1
    obtain ⟨u, us, rfl, q1, rfl⟩ := p1
    simp only [AV.oks] at o1
    exact ⟨q1, o1.1⟩
   ·rename_i hx
    have hv : resVal vs = .tuple vs.toArray := by
     have hl := RepAs.length p1
     cases vs with
     | nil => rfl
     | cons v0 vt =>
      cases vt with
      | nil =>
       exfalso
       cases hq : renAVs s.g.dp t 0 rs with
       | nil => rw [hq] at hl; simp at hl
       | cons y ys =>
        cases ys with
        | nil => exact hx y hq
        | cons _ _ => rw [hq] at hl; simp at hl
      | cons _ _ => rfl
    refine ⟨?_, ?_⟩
    ·simp only [RepA]
     exact ⟨vs.toArray, hv, p1⟩
    ·simpa only [AV.ok] using o1
  ·rw [if_neg hne]
   obtain ⟨h1, h2⟩ := f1.tm t v hv
   exact ⟨h1, AV.ok.mono setFr_mono (fun _ _ h => h) (fun _ h => h) v h2⟩
end
end Go.Abs
namespace Go.Abs
open Go
set_option linter.unusedVariables false
set_option linter.unusedSimpArgs false
def boxAt (f : Nat → Bool) : Id → Bool
 | .box d _ _ => f d
 | _ => false
def mine (dp : Nat) : Id → Bool
 | .box d _ _ => Nat.beq d dp
 | .tmp d _ _ => Nat.beq d dp
 | _ => false
mutual
 theorem RepA.demF {w : World} {h : Gh} (f : Nat → Bool) : ∀ (a : AV) (v : Value), RepA w h a v → RepA w h (demF f a) v
  | .d x, v, hr => by simpa only [Abs.demF] using hr
  | .own i sz es, v, hr => by
   cases i with
   | box d _ _ =>
    simp only [Abs.demF]
    cases f d with
    | true => simp only [RepA]; exact hr.own_sl
    | false => exact hr
   | tmp _ _ _ => simpa only [Abs.demF] using hr
   | res _ => simpa only [Abs.demF] using hr
  | .ptr _ _ _, v, hr => by simpa only [Abs.demF] using hr
  | .fn _ _, v, hr => by simpa only [Abs.demF] using hr
  | .tup xs, v, hr => by
   simp only [Abs.demF, RepA] at hr ⊢
   obtain ⟨cv, rfl, hc⟩ := hr
   exact ⟨cv, rfl, RepAs.demF f xs _ hc⟩
  | .yld _, v, hr => by simpa only [Abs.demF] using hr
  | .old _ _ _, v, hr => by simpa only [Abs.demF] using hr
  | .raw _ _ i _ _, v, hr => by
   cases i with
   | box d _ _ =>
    simp only [Abs.demF]
    cases f d with
    | true => simp only [RepA]; exact hr.raw_old
    | false => exact hr
   | tmp _ _ _ => simpa only [Abs.demF] using hr
   | res _ => simpa only [Abs.demF] using hr
 theorem RepAs.demF {w : World} {h : Gh} (f : Nat → Bool) : ∀ (as : List AV) (vs : List Value), RepAs w h as vs → RepAs w h (demFs f as) vs
  | [], vs, hr => by simpa only [demFs] using hr
  | a :: as, vs, hr => by
   simp only [demFs, RepAs] at hr ⊢
   obtain ⟨u, us, rfl, h1, h2⟩ := hr
   exact ⟨u, us, rfl, RepA.demF f a u h1, RepAs.demF f as us h2⟩
end
mutual
 theorem AV.ok.demF {Q : Id → Prop} {K : Nat → Nat → Prop} {Y : Nat → Prop} (f : Nat → Bool) : ∀ (a : AV), a.ok Q K Y → (demF f a).ok (fun j => Q j ∧ boxAt f j = false) K Y
  | .d _, _ => by simp [Abs.demF, AV.ok]
  | .own j _ _, h => by
   simp only [AV.ok] at h
   cases j with
   | box d _ _ =>
    simp only [Abs.demF]
    cases hd : f d with
    | true => simp [AV.ok]
    | false => simp only [AV.ok]; exact ⟨h, hd⟩
   | tmp _ _ _ => simp only [Abs.demF, AV.ok]; exact ⟨h, rfl⟩
   | res _ => simp only [Abs.demF, AV.ok]; exact ⟨h, rfl⟩
  | .ptr d1 t _, h => by simpa only [Abs.demF, AV.ok] using h
  | .fn _ caps, h => by simpa only [Abs.demF, AV.ok] using h
  | .tup xs, h => by simp only [Abs.demF, AV.ok] at h ⊢; exact AV.oks.demF f xs h
  | .yld l, h => by simpa only [Abs.demF, AV.ok] using h
  | .old _ _ _, _ => by simp [Abs.demF, AV.ok]
  | .raw _ _ j _ _, h => by
   simp only [AV.ok] at h
   cases j with
   | box d _ _ =>
    simp only [Abs.demF]
    cases hd : f d with
    | true => simp [AV.ok]
    | false => simp only [AV.ok]; exact ⟨h, hd⟩
   | tmp _ _ _ => simp only [Abs.demF, AV.ok]; exact ⟨h, rfl⟩
   | res _ => simp only [Abs.demF, AV.ok]; exact ⟨h, rfl⟩
 theorem AV.oks.demF {Q : Id → Prop} {K : Nat → Nat → Prop} {Y : Nat → Prop} (f : Nat → Bool) : ∀ (as : List AV), AV.oks Q K Y as → AV.oks (fun j => Q j ∧ boxAt f j = false) K Y (demFs f as)
  | [], _ => by simp [demFs, AV.oks]
  | a :: as, h => by simp only [demFs, AV.oks] at h ⊢; exact ⟨AV.ok.demF f a h.1, AV.oks.demF f as h.2⟩
end
theorem demFs_get (f : Nat → Bool) : ∀ (as : List AV) (k : Nat), (demFs f as)[k]? = (as[k]?).map (demF f)
 | [], k => by simp [demFs]
 | a :: as, 0 => by simp [demFs]
 | a :: as, k + 1 => by simp [demFs, demFs_get f as k]
theorem RepBx.demF {w : World} {h : Gh} {ty : Nat × Nat} (f : Nat → Bool) (as : List AV) (vs : List Value) (hr : RepBx w h ty as vs) : RepBx w h ty (demFs f as) vs := by
 refine ⟨RepAs.demF f as vs hr.1, fun ht j sz es v hi hv => ?_⟩
 rw [demFs_get] at hi
 cases ha : as[1]? with
 | none => rw [ha] at hi; cases hi
 | some a =>
  rw [ha] at hi
  simp only [Option.map_some, Option.some.injEq] at hi
  cases a with
  | own k z es' =>
   cases k with
   | box d t j' =>
    simp only [Abs.demF] at hi
    cases hd : f d with
    | true => rw [hd] at hi; cases hi
    | false => rw [hd] at hi; cases hi; exact hr.2 ht _ _ _ v ha hv
   | tmp d t j' => simp only [Abs.demF] at hi; cases hi; exact hr.2 ht _ _ _ v ha hv
   | res j' => simp only [Abs.demF] at hi; cases hi; exact hr.2 ht _ _ _ v ha hv
  | raw o k j' z es' =>
   cases j' with
   | box d t j'' =>
    simp only [Abs.demF] at hi
    cases hd : f d <;> rw [hd] at hi <;> cases hi
   | _ => simp only [Abs.demF] at hi; cases hi
  | _ => simp only [Abs.demF] at hi; cases hi
def kGa (dp : Nat) (ga : Id → Option Nat) : Id → Option Nat := fun i => match mine dp i with
 | true => none
 | false => ga i
def kunGa (dp : Nat) (ga ga' : Id → Option Nat) : Id → Option Nat := fun i => match mine dp i with
 | true => ga i
 | false => ga' i
def kH (g : G) (h : Gh) : Gh := { h with ga := kGa g.dp h.ga }
def kunH (g : G) (h h' : Gh) : Gh := { L := h'.L, be := fun d t => if Nat.beq d g.dp then h.be d t else h'.be d t, ga := kunGa g.dp h.ga h'.ga, ro := h'.ro }
theorem kGa_some {dp : Nat} {ga : Id → Option Nat} {i : Id} {b : Nat} (h : kGa dp ga i = some b) : mine dp i = false ∧ ga i = some b := by
 unfold kGa at h
 cases hm : mine dp i with
 | true => rw [hm] at h; cases h
 | false => rw [hm] at h; exact ⟨rfl, h⟩
theorem kGa_not {dp : Nat} {ga : Id → Option Nat} {i : Id} (h : mine dp i = false) : kGa dp ga i = ga i := by unfold kGa; rw [h]
theorem kunGa_mine {dp : Nat} {ga ga' : Id → Option Nat} {i : Id} (h : mine dp i = true) : kunGa dp ga ga' i = ga i := by unfold kunGa; rw [h]
theorem kunGa_not {dp : Nat} {ga ga' : Id → Option Nat} {i : Id} (h : mine dp i = false) : kunGa dp ga ga' i = ga' i := by unfold kunGa; rw [h]
theorem mine_tmp {dp d t j : Nat} : mine dp (.tmp d t j) = true ↔ d = dp := by simp [mine]
theorem boxAt_mine {dp : Nat} {i : Id} (hb : IsBox i) : boxAt (atD dp) i = mine dp i := by
 cases i <;> first | rfl | exact hb.elim
theorem boxOff_mine {dp : Nat} {i : Id} (hb : IsBox i) (h : boxAt (offD dp) i = false) : mine dp i = true := by
 cases i with
 | box d t j => simpa [boxAt, offD, mine] using h
 | _ => exact hb.elim
section
variable {g : G} {w : World} {h : Gh}
theorem k_bx {d t : Nat} {bo : Box} (hb : (kG g).bx d t = some bo) : d ≠ g.dp ∧ ∃ b0, g.bx d t = some b0 ∧ bo = { b0 with cells := demFs (atD g.dp) b0.cells } := by
 unfold kG at hb
 dsimp only at hb
 cases hd : Nat.beq d g.dp with
 | true => rw [hd] at hb; cases hb
 | false =>
  rw [hd] at hb
  dsimp only at hb
  refine ⟨(fun e => by rw [e, Nat.beq_refl] at hd; cases hd), ?_⟩
  cases hg : g.bx d t with
  | none => rw [hg] at hb; cases hb
  | some b0 => rw [hg] at hb; exact ⟨b0, rfl, by simpa [mapBx] using hb.symm⟩
theorem k_ne {d t : Nat} (hd : d ≠ g.dp) : (kG g).bx d t = mapBx (demFs (atD g.dp)) (g.bx d t) := by
 unfold kG
 dsimp only
 rw [show Nat.beq d g.dp = false from Bool.eq_false_iff.2 fun e => hd (Nat.eq_of_beq_eq_true e)]
theorem mapBx_isSome {φ : List AV → List AV} {o : Option Box} : (mapBx φ o).isSome = o.isSome := by cases o <;> rfl
theorem k_some {d t : Nat} (hs : ((kG g).bx d t).isSome = true) : d ≠ g.dp ∧ (g.bx d t).isSome = true := by
 obtain ⟨bo, hbo⟩ := Option.isSome_iff_exists.1 hs
 obtain ⟨h1, b0, h2, _⟩ := k_bx hbo
 exact ⟨h1, by rw [h2]; rfl⟩
theorem k_K {n : Nat} (hn : n < g.dp) {d t : Nat} (hk : KG g n d t) : KG (kG g) n d t := ⟨hk.1, by rw [k_ne (by have := hk.1; omega), mapBx_isSome]; exact hk.2⟩
theorem GI.keep (hg : GI g w h) (h1 : 1 ≤ g.dp) (hlp : ∀ (l : Nat) (r : LoopRec), g.lp[l]? = some r → r.dp < g.dp) : GI (kG g) w (kH g h) where
 bx := fun d t bo hb => by
  obtain ⟨hd, b0, hb0, rfl⟩ := k_bx hb
  obtain ⟨h2, h3, b, c, e, h4, h5, h6, h7, h8⟩ := hg.bx d t b0 hb0
  have hlt : d < g.dp := by omega
  have h3' := AV.oks.demF (atD g.dp) _ h3
  refine ⟨by show d ≤ g.dp - 1; omega, AV.oks.mono (fun _ hh => hh.1) (fun _ _ hk => k_K hlt hk) (fun _ hh => hh) _ h3', b, c, e, h4, h5, ?_, h7, h8⟩
  exact RepBx.ext (h := h) (h' := kH g h) (Ext.refl _ _) (fun _ _ _ _ hh => hh) (fun _ _ => rfl) (fun i b hi hib => by
   refine ⟨?_, rfl, rfl⟩
   show kGa g.dp h.ga i = some b
   rw [kGa_not (by rw [← boxAt_mine hi.1]; exact hi.2), hib]) _ _ h3' (RepBx.demF _ _ _ h6)
 inj := fun d t d' t' b ha hb hc hd => hg.inj d t d' t' b (k_some ha).2 (k_some hb).2 hc hd
 gaBx := fun i b d t hi hs => hg.gaBx i b d t (kGa_some hi).2 (k_some hs).2
 gaInj := fun i j b hi hj => hg.gaInj i j b (kGa_some hi).2 (kGa_some hj).2
 gaLt := fun i b hi => hg.gaLt i b (kGa_some hi).2
 gaC := fun i b hi => hg.gaC i b (kGa_some hi).2
 lim := hg.lim
 lp := fun l r hl => by
  obtain ⟨⟨p1, p2, p3⟩, D, tmps, q1, q2, q3, q4⟩ := hg.lp l r hl
  have hlt := hlp l r hl
  refine ⟨⟨p1, by show r.dp ≤ g.dp - 1; omega, p3⟩, D, tmps, q1, q2, q3, fun t v hv => ?_⟩
  obtain ⟨r1, r2⟩ := q4 t v hv
  exact ⟨RepA.ext (h := h) (h' := kH g h) (Ext.refl _ _) (fun _ _ _ _ hh => hh) (fun _ _ => rfl) (fun _ _ hh => hh.elim) _ _ r2 r1, AV.ok.mono (fun _ hh => hh) (fun _ _ hk => k_K hlt hk) (fun _ hh => hh) _ r2⟩
 roInj := hg.roInj
 gaTop := fun d t j hd => by
  show kGa g.dp h.ga (.tmp d t j) = none
  have hd : g.dp - 1 < d := hd
  cases hm : mine g.dp (.tmp d t j) with
  | true => unfold kGa; rw [hm]
  | false =>
   rw [kGa_not hm]
   exact hg.gaTop d t j (by
    have : d ≠ g.dp := fun e => by rw [mine_tmp.2 e] at hm; cases hm
    omega)
theorem may_k {b : Nat} (hm : May (kG g) (kH g h) b) : May g h b := by
 rcases hm with ⟨d, t, hs, hb⟩ | ⟨i, hi, hb⟩ | ⟨l, hl, hb⟩
 ·exact .inl ⟨d, t, (k_some hs).2, hb⟩
 ·exact .inr (.inl ⟨i, hi, (kGa_some hb).2⟩)
 ·exact .inr (.inr ⟨l, hl, hb⟩)
theorem kbox_aside (hg : GI g w h) {t b : Nat} (hs : (g.bx g.dp t).isSome = true) (hb : h.be g.dp t = some b) : b < w.heap.size ∧ ¬ May (kG g) (kH g h) b := by
 obtain ⟨bo, hbo⟩ := Option.isSome_iff_exists.1 hs
 obtain ⟨_, _, b', c, e, h3, h4, _⟩ := hg.bx _ t bo hbo
 rw [hb] at h3; cases h3
 refine ⟨lt_of_heap h4, ?_⟩
 rintro (⟨d, t', hs', hb'⟩ | ⟨i, hi, hb'⟩ | ⟨l, hl, rfl⟩)
 ·obtain ⟨hd, hs'⟩ := k_some hs'
  exact hd (hg.inj d t' g.dp t b hs' hs hb' hb).1
 ·exact hg.gaBx i b g.dp t (kGa_some hb').2 hs hb
 ·obtain ⟨_, D, tmps, q1, _⟩ := hg.lp l _ (List.getElem?_eq_getElem hl)
  have q1' : w.heap[(h.ro l).1]? = some (.loop _) := q1
  have h4' : w.heap[(h.ro l).1]? = some (.cells c e.1 (0, 0)) := h4
  rw [h4'] at q1'; cases q1'
theorem krow_aside (hg : GI g w h) {i : Id} {b : Nat} (hm : mine g.dp i = true) (hb : h.ga i = some b) : b < w.heap.size ∧ ¬ May (kG g) (kH g h) b := by
 obtain ⟨c, e, h4⟩ := hg.gaC _ b hb
 refine ⟨lt_of_heap h4, ?_⟩
 rintro (⟨d, t', hs', hb'⟩ | ⟨k, hi, hb'⟩ | ⟨l, hl, rfl⟩)
 ·obtain ⟨hd, hs'⟩ := k_some hs'
  exact hg.gaBx _ b d t' hb hs' hb'
 ·obtain ⟨k1, k2⟩ := kGa_some hb'
  rw [hg.gaInj k i b k2 hb, hm] at k1
  cases k1
 ·obtain ⟨_, D, tmps, q1, _⟩ := hg.lp l _ (List.getElem?_eq_getElem hl)
  have q1' : w.heap[(h.ro l).1]? = some (.loop _) := q1
  have h4' : w.heap[(h.ro l).1]? = some (.cells c e (0, 0)) := h4
  rw [h4'] at q1'; cases q1'
variable {g' : G} {w' : World} {h' : Gh}
theorem kun_eq {t : Nat} : (kunG g g').bx g.dp t = mapBx (demFs (offD g.dp)) (g.bx g.dp t) := by
 unfold kunG
 dsimp only
 rw [Nat.beq_refl]
theorem kun_ne {d t : Nat} (hd : d ≠ g.dp) : (kunG g g').bx d t = mapBx (demFs (atD g.dp)) (g'.bx d t) := by
 unfold kunG
 dsimp only
 rw [show Nat.beq d g.dp = false from Bool.eq_false_iff.2 fun e => hd (Nat.eq_of_beq_eq_true e)]
theorem kunbe_eq {t : Nat} : (kunH g h h').be g.dp t = h.be g.dp t := by
 unfold kunH; dsimp only; rw [if_pos (Nat.beq_refl _)]
theorem kunbe_ne {d t : Nat} (hd : d ≠ g.dp) : (kunH g h h').be d t = h'.be d t := by
 unfold kunH; dsimp only; rw [if_neg (fun e => hd (Nat.eq_of_beq_eq_true e))]
theorem mapBx_some {φ : List AV → List AV} {o : Option Box} {b : Box} (h : mapBx φ o = some b) : ∃ b0, o = some b0 ∧ b = { b0 with cells := φ b0.cells } := by
 cases o with
 | none => cases h
 | some b0 => exact ⟨b0, rfl, by simpa [mapBx] using h.symm⟩
theorem kept_row (hg : GI g w h) (hr : Rel (kG g) (kH g h) w g' w' h') {i : Id} {b : Nat} (hm : mine g.dp i = true) (hb : h.ga i = some b) : (kunH g h h').ga i = some b ∧ (kunH g h h').L b = h.L b ∧ w'.heap[b]? = w.heap[b]? := by
 obtain ⟨a1, a2⟩ := krow_aside hg hm hb
 obtain ⟨k1, k2⟩ := hr.keep b a1 a2
 exact ⟨by show kunGa g.dp h.ga h'.ga i = some b; rw [kunGa_mine hm, hb], k2, k1⟩
theorem kK_old (hr : Rel (kG g) (kH g h) w g' w' h') {n d t : Nat} (hn : n ≤ g.dp) (hk : KG g n d t) : KG (kunG g g') n d t := by
 refine ⟨hk.1, ?_⟩
 by_cases hd : d = g.dp
 ·subst hd; rw [kun_eq, mapBx_isSome]; exact hk.2
 ·rw [kun_ne hd, mapBx_isSome]
  exact (hr.bxs d t (by rw [k_ne hd, mapBx_isSome]; exact hk.2)).1
theorem kbe_old (hr : Rel (kG g) (kH g h) w g' w' h') {d t b : Nat} (hs : (g.bx d t).isSome = true) (hb : h.be d t = some b) : (kunH g h h').be d t = some b := by
 by_cases hd : d = g.dp
 ·subst hd; rw [kunbe_eq]; exact hb
 ·rw [kunbe_ne hd, (hr.bxs d t (by rw [k_ne hd, mapBx_isSome]; exact hs)).2]; exact hb
theorem unkeep (hg : GI g w h) (h1 : 1 ≤ g.dp) (hlp : ∀ (l : Nat) (r : LoopRec), g.lp[l]? = some r → r.dp < g.dp) (hg' : GI g' w' h') (hr : Rel (kG g) (kH g h) w g' w' h') (hdp : g'.dp = g.dp - 1) (hlps : g'.lp.map LoopRec.dp = g.lp.map LoopRec.dp) :
  GI (kunG g g') w' (kunH g h h') ∧ Rel g h w (kunG g g') w' (kunH g h h') := by
 have bxm : ∀ d t b, d ≠ g.dp → (g'.bx d t).isSome = true → h'.be d t = some b → w.heap.size ≤ b ∨ May (kG g) (kH g h) b := fun d t b _ hs hb => hr.bxMay d t b hs hb
 have gam : ∀ i b, mine g.dp i = false → h'.ga i = some b → (w.heap.size ≤ b ∨ May (kG g) (kH g h) b) ∨ h.ga i = some b := by
  intro i b hi hb
  cases i with
  | tmp d t j =>
   by_cases hd : d < g.dp
   ·right
    have e := hr.ga d t j (by show d ≤ g.dp - 1; omega)
    rw [e] at hb
    exact (kGa_some hb).2
   ·have hne : d ≠ g.dp := fun e => by rw [mine_tmp.2 e] at hi; cases hi
    rw [hg'.gaTop d t j (by rw [hdp]; omega)] at hb
    cases hb
  | box d t j => exact .inl (hr.gaMay _ b (by intro _ _ _ e; cases e) hb)
  | res j => exact .inl (hr.gaMay _ b (by intro _ _ _ e; cases e) hb)
 have asideB : ∀ {t b}, (g.bx g.dp t).isSome = true → h.be g.dp t = some b → ¬ (w.heap.size ≤ b ∨ May (kG g) (kH g h) b) := fun hs hb hh => by
  obtain ⟨a1, a2⟩ := kbox_aside hg hs hb
  rcases hh with hh | hh
  ·omega
  ·exact a2 hh
 have asideR : ∀ {i b}, mine g.dp i = true → h.ga i = some b → ¬ (w.heap.size ≤ b ∨ May (kG g) (kH g h) b) := fun hm hb hh => by
  obtain ⟨a1, a2⟩ := krow_aside hg hm hb
  rcases hh with hh | hh
  ·omega
  ·exact a2 hh
 have lpAt : ∀ (l : Nat) (r : LoopRec), g.lp[l]? = some r → ∃ r' : LoopRec, g'.lp[l]? = some r' ∧ r'.dp = r.dp := by
  intro l r hl
  have e : (g'.lp.map LoopRec.dp)[l]? = (g.lp.map LoopRec.dp)[l]? := by rw [hlps]
  rw [List.getElem?_map, List.getElem?_map, hl] at e
  cases hl' : g'.lp[l]? with
  | none => rw [hl'] at e; cases e
  | some r' => rw [hl'] at e; simp only [Option.map_some, Option.some.injEq] at e; exact ⟨r', rfl, e⟩
 have Kun : ∀ {n d t}, n < g.dp → KG g' n d t → KG (kunG g g') n d t := fun hn hk => ⟨hk.1, by rw [kun_ne (by have := hk.1; omega), mapBx_isSome]; exact hk.2⟩
 have hge : ∀ i b, mine g.dp i = false → h'.ga i = some b → (kunH g h h').ga i = some b := fun i b hi hb => by
  show kunGa g.dp h.ga h'.ga i = some b
  rw [kunGa_not hi]; exact hb
 have gaun : ∀ i b, (kunH g h h').ga i = some b → (mine g.dp i = true ∧ h.ga i = some b) ∨ (mine g.dp i = false ∧ h'.ga i = some b) := by
  intro i b hi
  have hi : kunGa g.dp h.ga h'.ga i = some b := hi
  cases hm : mine g.dp i with
  | true => rw [kunGa_mine hm] at hi; exact .inl ⟨rfl, hi⟩
  | false => rw [kunGa_not hm] at hi; exact .inr ⟨rfl, hi⟩
 have repnB : ∀ {Q : Id → Prop} {n : Nat} {Y : Nat → Prop} {ty : Nat × Nat} {as : List AV} {vs : List Value}, n < g.dp → (∀ i, Q i → mine g.dp i = false) → AV.oks Q (KG g' n) Y as → RepBx w' h' ty as vs → RepBx w' (kunH g h h') ty as vs := by
  intro Q n Y ty as vs hn hQ ho hrep
  exact RepBx.ext (h := h') (h' := kunH g h h') (Ext.refl _ _) (fun d t b hk hb => by rw [kunbe_ne (by have := hk.1; omega)]; exact hb) (fun _ _ => rfl) (fun i b hi hb => ⟨hge i b (hQ i hi) hb, rfl, rfl⟩) _ _ ho hrep
 have repn1 : ∀ {Q : Id → Prop} {n : Nat} {Y : Nat → Prop} {a : AV} {v : Value}, n < g.dp → (∀ i, Q i → mine g.dp i = false) → AV.ok Q (KG g' n) Y a → RepA w' h' a v → RepA w' (kunH g h h') a v := by
  intro Q n Y a v hn hQ ho hrep
  exact RepA.ext (h := h') (h' := kunH g h h') (Ext.refl _ _) (fun d t b hk hb => by rw [kunbe_ne (by have := hk.1; omega)]; exact hb) (fun _ _ => rfl) (fun i b hi hb => ⟨hge i b (hQ i hi) hb, rfl, rfl⟩) _ _ ho hrep
 refine ⟨⟨?_, ?_, ?_, ?_, ?_, ?_, hg'.lim, ?_, hg'.roInj, ?_⟩, ⟨hr.os, hr.tape, hr.output, hr.size, hr.ext, ?_, ?_, hr.ro, ?_, ?_, ?_, ?_, hr.lpLen⟩⟩
 ·intro d t bo hb
  by_cases hd : d = g.dp
  ·subst hd
   rw [kun_eq] at hb
   obtain ⟨bo0, hbo, rfl⟩ := mapBx_some hb
   obtain ⟨_, h3, b, c, e, h4, h5, h6, h7, h8⟩ := hg.bx _ t bo0 hbo
   obtain ⟨a1, a2⟩ := kbox_aside hg (by rw [hbo]; rfl) h4
   obtain ⟨k1, k2⟩ := hr.keep b a1 a2
   have hoks := AV.oks.demF (offD g.dp) _ h3
   refine ⟨Nat.le_refl _, ?_, b, c, e, by rw [kunbe_eq]; exact h4, by rw [k1]; exact h5, ?_, h7, ?_⟩
   ·refine AV.oks.mono (fun _ hh => hh.1) (fun _ _ hk => kK_old hr (Nat.le_refl _) hk) (fun l hl => ?_) _ hoks
    obtain ⟨r, hl1, hl2⟩ := hl
    obtain ⟨r', hl3, hl4⟩ := lpAt l r hl1
    exact ⟨r', hl3, by omega⟩
   ·refine RepBx.ext (h := h) (h' := kunH g h h') hr.ext (fun d t b hk hb => kbe_old hr hk.2 hb) (fun l hl => ?_) (fun i b hi hb => kept_row hg hr (boxOff_mine hi.1 hi.2) hb) _ _ hoks (RepBx.demF _ _ _ h6)
    exact hr.ro l (by obtain ⟨r, hl1, _⟩ := hl; exact (List.getElem?_eq_some_iff.1 hl1).1)
   ·show h'.L b = _
    rw [k2]
    exact h8
  ·rw [kun_ne hd] at hb
   obtain ⟨bo0, hbo, rfl⟩ := mapBx_some hb
   obtain ⟨h2, h3, b, c, e, h4, h5, h6, h7, h8⟩ := hg'.bx d t bo0 hbo
   have hlt : d < g.dp := by omega
   have h3' := AV.oks.demF (atD g.dp) _ h3
   refine ⟨by show d ≤ g.dp; omega, AV.oks.mono (fun _ hh => hh.1) (fun _ _ hk => Kun hlt hk) (fun _ hh => hh) _ h3', b, c, e, by rw [kunbe_ne hd]; exact h4, h5, repnB hlt (fun i hi => by rw [← boxAt_mine hi.1]; exact hi.2) h3' (RepBx.demF _ _ _ h6), h7, h8⟩
 ·intro d t d' t' b hs hs' hb hb'
  by_cases hd : d = g.dp
  ·by_cases hd' : d' = g.dp
   ·subst hd; subst hd'
    rw [kunbe_eq] at hb hb'
    rw [kun_eq, mapBx_isSome] at hs hs'
    exact hg.inj _ t _ t' b hs hs' hb hb'
   ·subst hd
    rw [kunbe_eq] at hb
    rw [kun_eq, mapBx_isSome] at hs
    rw [kunbe_ne hd'] at hb'
    rw [kun_ne hd', mapBx_isSome] at hs'
    exact absurd (bxm d' t' b hd' hs' hb') (asideB hs hb)
  ·by_cases hd' : d' = g.dp
   ·subst hd'
    rw [kunbe_eq] at hb'
    rw [kun_eq, mapBx_isSome] at hs'
    rw [kunbe_ne hd] at hb
    rw [kun_ne hd, mapBx_isSome] at hs
    exact absurd (bxm d t b hd hs hb) (asideB hs' hb')
   ·rw [kunbe_ne hd] at hb
    rw [kun_ne hd, mapBx_isSome] at hs
    rw [kunbe_ne hd'] at hb'
    rw [kun_ne hd', mapBx_isSome] at hs'
    exact hg'.inj d t d' t' b hs hs' hb hb'
 ·intro i b d t hi hs hb
  by_cases hd : d = g.dp
  ·subst hd
   rw [kunbe_eq] at hb
   rw [kun_eq, mapBx_isSome] at hs
   rcases gaun i b hi with ⟨hm, hi⟩ | ⟨hne, hi⟩
   ·exact hg.gaBx _ b _ t hi hs hb
   ·rcases gam i b hne hi with hh | hh
    ·exact asideB hs hb hh
    ·exact hg.gaBx _ b _ t hh hs hb
  ·rw [kunbe_ne hd] at hb
   rw [kun_ne hd, mapBx_isSome] at hs
   rcases gaun i b hi with ⟨hm, hi⟩ | ⟨hne, hi⟩
   ·exact asideR hm hi (bxm d t b hd hs hb)
   ·exact hg'.gaBx i b d t hi hs hb
 ·intro i j b hi hj
  rcases gaun i b hi with ⟨hm, hi⟩ | ⟨hne, hi⟩
  ·rcases gaun j b hj with ⟨hm2, hj⟩ | ⟨hne2, hj⟩
   ·exact hg.gaInj _ _ b hi hj
   ·rcases gam j b hne2 hj with hh | hh
    ·exact absurd hh (asideR hm hi)
    ·exact hg.gaInj _ _ b hi hh
  ·rcases gaun j b hj with ⟨hm2, hj⟩ | ⟨hne2, hj⟩
   ·rcases gam i b hne hi with hh | hh
    ·exact absurd hh (asideR hm2 hj)
    ·exact hg.gaInj _ _ b hh hj
   ·exact hg'.gaInj _ _ b hi hj
 ·intro i b hi
  rcases gaun i b hi with ⟨hm, hi⟩ | ⟨hne, hi⟩
  ·have := hg.gaLt _ b hi; have := hr.size; omega
  ·exact hg'.gaLt _ b hi
 ·intro i b hi
  rcases gaun i b hi with ⟨hm, hi⟩ | ⟨hne, hi⟩
  ·obtain ⟨c, e, hc⟩ := hg.gaC _ b hi
   obtain ⟨a1, a2⟩ := krow_aside hg hm hi
   exact ⟨c, e, by rw [(hr.keep b a1 a2).1]; exact hc⟩
  ·exact hg'.gaC _ b hi
 ·intro l r hl
  obtain ⟨⟨p1, p2, p3⟩, D, tmps, q1, q2, q3, q4⟩ := hg'.lp l r hl
  have hlt : r.dp < g.dp := by omega
  refine ⟨⟨p1, by show r.dp ≤ g.dp; omega, p3⟩, D, tmps, q1, q2, q3, fun t v hv => ?_⟩
  obtain ⟨r1, r2⟩ := q4 t v hv
  exact ⟨repn1 hlt (fun _ hh => hh.elim) r2 r1, AV.ok.mono (fun _ hh => hh) (fun _ _ hk => Kun hlt hk) (fun _ hh => hh) _ r2⟩
 ·intro d t j hd
  have hd : g.dp < d := hd
  show kunGa g.dp h.ga h'.ga (.tmp d t j) = none
  have hm : mine g.dp (.tmp d t j) = false := Bool.eq_false_iff.2 fun e => by have := mine_tmp.1 e; omega
  rw [kunGa_not hm]
  exact hg'.gaTop d t j (by rw [hdp]; omega)
 ·intro b hb hm
  exact hr.keep b hb (fun hh => hm (may_k hh))
 ·intro d t hs
  by_cases hd : d = g.dp
  ·subst hd; rw [kun_eq, kunbe_eq, mapBx_isSome]; exact ⟨hs, rfl⟩
  ·rw [kun_ne hd, kunbe_ne hd, mapBx_isSome]
   exact hr.bxs d t (by rw [k_ne hd, mapBx_isSome]; exact hs)
 ·intro d t j hd
  show kunGa g.dp h.ga h'.ga (.tmp d t j) = _
  cases hm : mine g.dp (.tmp d t j) with
  | true => rw [kunGa_mine hm]
  | false =>
   rw [kunGa_not hm]
   have hne : d ≠ g.dp := fun e => by rw [mine_tmp.2 e] at hm; cases hm
   rw [hr.ga d t j (by show d ≤ g.dp - 1; omega)]
   show kGa g.dp h.ga (.tmp d t j) = _
   rw [kGa_not hm]
 ·intro d t b hs hb
  by_cases hd : d = g.dp
  ·subst hd
   rw [kun_eq, mapBx_isSome] at hs
   rw [kunbe_eq] at hb
   exact .inr (.inl ⟨_, t, hs, hb⟩)
  ·rw [kun_ne hd, mapBx_isSome] at hs
   rw [kunbe_ne hd] at hb
   exact (hr.bxMay d t b hs hb).imp id may_k
 ·intro i b hi hb
  rcases gaun i b hb with ⟨hm, hb⟩ | ⟨hne, hb⟩
  ·cases i with
   | tmp d t j => have := mine_tmp.1 hm; have := hi _ _ _ rfl; omega
   | box d t j => exact .inr (.inr (.inl ⟨_, by simp, hb⟩))
   | res j => cases hm
  ·exact (hr.gaMay i b (fun d t j e => by have : g.dp < d := hi d t j e; show g.dp - 1 < d; omega) hb).imp id may_k
 ·intro l hl
  exact (hr.lpMay l hl).imp id may_k
theorem OutM.kun (h1 : 1 ≤ g.dp) (hdp : g'.dp = g.dp - 1) {out : Out} {e : Ending} (hm : OutM g' w' h' out e) : OutM (kunG g g') w' (kunH g h h') out e := by
 cases out with
 | pan x =>
  cases e with
  | panicked chain => exact hm
  | returned v => exact hm.elim
  | outgrown => exact hm.elim
 | ret rs =>
  cases e with
  | returned v =>
   obtain ⟨vs, rfl, h2, h3, h4, h5⟩ := hm
   refine ⟨vs, rfl, ?_, h3, h4, ?_⟩
   ·refine RepAs.ext (h := h') (h' := kunH g h h') (Ext.refl _ _) (fun d t b hk hb => by rw [kunbe_ne (by have := hk.1; omega)]; exact hb) (fun _ _ => rfl) (fun i b hi hb => ?_) _ _ h5 h2
    cases i with
    | res j => exact ⟨hb, rfl, rfl⟩
    | _ => exact hi.elim
   ·refine AV.oks.mono (fun _ hh => hh) (fun d t hk => ⟨by show d ≤ g.dp; have := hk.1; omega, by rw [kun_ne (by have := hk.1; omega), mapBx_isSome]; exact hk.2⟩) (fun l hl => ?_) _ h5
    obtain ⟨r, hl1, hl2⟩ := hl
    exact ⟨r, hl1, by show r.dp < g.dp + 1; omega⟩
  | panicked c => exact hm.elim
  | outgrown => exact hm.elim
end
end Go.Abs
namespace Go.Abs
open Go
set_option linter.unusedVariables false
set_option linter.unusedSimpArgs false
set_option linter.unnecessarySimpa false
set_option linter.unusedSectionVars false
variable [Tabs]
mutual
 theorem RepA.demBoxes {w : World} {h : Gh} : ∀ (a : AV) (v : Value), RepA w h a v → RepA w h (demBoxes a) v
  | .d x, v, hr => by simpa only [Abs.demBoxes] using hr
  | .own i sz es, v, hr => by
   cases i with
   | box _ _ _ => simp only [Abs.demBoxes, RepA]; exact hr.own_sl
   | tmp _ _ _ => simpa only [Abs.demBoxes] using hr
   | res _ => simpa only [Abs.demBoxes] using hr
  | .ptr _ _ _, v, hr => by simpa only [Abs.demBoxes] using hr
  | .fn _ _, v, hr => by simpa only [Abs.demBoxes] using hr
  | .tup xs, v, hr => by
   simp only [Abs.demBoxes, RepA] at hr ⊢
   obtain ⟨cv, rfl, hc⟩ := hr
   exact ⟨cv, rfl, RepAs.demBoxes xs _ hc⟩
  | .yld _, v, hr => by simpa only [Abs.demBoxes] using hr
  | .old _ _ _, v, hr => by simpa only [Abs.demBoxes] using hr
  | .raw _ _ i _ _, v, hr => by
   cases i with
   | box _ _ _ => simp only [Abs.demBoxes, RepA]; exact hr.raw_old
   | tmp _ _ _ => simpa only [Abs.demBoxes] using hr
   | res _ => simpa only [Abs.demBoxes] using hr
 theorem RepAs.demBoxes {w : World} {h : Gh} : ∀ (as : List AV) (vs : List Value), RepAs w h as vs → RepAs w h (demBoxess as) vs
  | [], vs, hr => by simpa only [demBoxess] using hr
  | a :: as, vs, hr => by
   simp only [demBoxess, RepAs] at hr ⊢
   obtain ⟨u, us, rfl, h1, h2⟩ := hr
   exact ⟨u, us, rfl, RepA.demBoxes a u h1, RepAs.demBoxes as us h2⟩
end
mutual
 theorem AV.ok.demBoxes {Q : Id → Prop} {K : Nat → Nat → Prop} {Y : Nat → Prop} : ∀ (a : AV), a.ok Q K Y → (demBoxes a).ok (fun j => Q j ∧ ¬ IsBox j) K Y
  | .d _, _ => by simp [Abs.demBoxes, AV.ok]
  | .own j _ _, h => by
   simp only [AV.ok] at h
   cases j with
   | box _ _ _ => simp [Abs.demBoxes, AV.ok]
   | tmp _ _ _ => simp only [Abs.demBoxes, AV.ok]; exact ⟨h, id⟩
   | res _ => simp only [Abs.demBoxes, AV.ok]; exact ⟨h, id⟩
  | .ptr d1 t _, h => by simpa only [Abs.demBoxes, AV.ok] using h
  | .fn _ caps, h => by simpa only [Abs.demBoxes, AV.ok] using h
  | .tup xs, h => by simp only [Abs.demBoxes, AV.ok] at h ⊢; exact AV.oks.demBoxes xs h
  | .yld l, h => by simpa only [Abs.demBoxes, AV.ok] using h
  | .old _ _ _, _ => by simp [Abs.demBoxes, AV.ok]
  | .raw _ _ j _ _, h => by
   simp only [AV.ok] at h
   cases j with
   | box _ _ _ => simp [Abs.demBoxes, AV.ok]
   | tmp _ _ _ => simp only [Abs.demBoxes, AV.ok]; exact ⟨h, id⟩
   | res _ => simp only [Abs.demBoxes, AV.ok]; exact ⟨h, id⟩
 theorem AV.oks.demBoxes {Q : Id → Prop} {K : Nat → Nat → Prop} {Y : Nat → Prop} : ∀ (as : List AV), AV.oks Q K Y as → AV.oks (fun j => Q j ∧ ¬ IsBox j) K Y (demBoxess as)
  | [], _ => by simp [demBoxess, AV.oks]
  | a :: as, h => by simp only [demBoxess, AV.oks] at h ⊢; exact ⟨AV.ok.demBoxes a h.1, AV.oks.demBoxes as h.2⟩
end
theorem mapTm_some {f : AV → AV} {tm : Nat → Option AV} {t : Nat} {v : AV} (h : mapTm f tm t = some v) : ∃ u, tm t = some u ∧ v = f u := by
 unfold mapTm at h
 cases hb : tm t with
 | none => simp [hb] at h
 | some b => simp [hb] at h; exact ⟨b, rfl, h.symm⟩
section
variable {P : Program} {T : Nat → Option TI} {g0 : G} {h0 : Gh} {w0 : World} {nt : Nat}
theorem not_may_own {g : G} {w : World} {h : Gh} (hg : GI g w h) {d t j b : Nat} (hb : h.ga (.tmp d t j) = some b) : ¬ May g h b := by
 rintro (⟨d', t', h1, h2⟩ | ⟨i, h1, h2⟩ | ⟨l, h1, h2⟩)
 ·exact hg.gaBx _ b d' t' hb h1 h2
 ·exact h1 d t j (hg.gaInj _ _ b h2 hb)
 ·obtain ⟨c, e, hc⟩ := hg.gaC _ b hb
  obtain ⟨r, hr⟩ : ∃ r, g.lp[l]? = some r := ⟨_, List.getElem?_eq_getElem h1⟩
  obtain ⟨_, D, tmps, h3, _⟩ := hg.lp l r hr
  rw [← h2, hc] at h3
  cases h3
theorem not_may_def {g : G} {w : World} {h : Gh} (hg : GI g w h) {D : Nat} {x : Option (List Deferred)} (hD : w.heap[D]? = some (.deferred x)) : ¬ May g h D := by
 rintro (⟨d', t', h1, h2⟩ | ⟨i, h1, h2⟩ | ⟨l, h1, h2⟩)
 ·obtain ⟨bo, hbo⟩ := Option.isSome_iff_exists.1 h1
  obtain ⟨_, _, b', c, e, h3, h4, _⟩ := hg.bx d' t' bo hbo
  rw [h2] at h3; cases h3
  rw [hD] at h4; cases h4
 ·obtain ⟨c, e, hc⟩ := hg.gaC _ D h2
  rw [hD] at hc; cases hc
 ·obtain ⟨r, hr⟩ : ∃ r, g.lp[l]? = some r := ⟨_, List.getElem?_eq_getElem h1⟩
  obtain ⟨_, D', tmps, h3, _⟩ := hg.lp l r hr
  rw [← h2, hD] at h3
  cases h3
theorem YG.lps {g g' : G} (h : g'.lp.map LoopRec.dp = g.lp.map LoopRec.dp) {n l : Nat} (hy : YG g n l) : YG g' n l := by
 obtain ⟨r, h1, h2⟩ := hy
 have h3 : (g'.lp.map LoopRec.dp)[l]? = some r.dp := by rw [h]; simp [h1]
 simp only [List.getElem?_map, Option.map_eq_some_iff] at h3
 obtain ⟨r', h4, h5⟩ := h3
 exact ⟨r', h4, by rw [h5]; exact h2⟩
theorem FI.behind {s : St} {a : Act} {w w' : World} {h h' : Gh} {g' : G} (hf : FI nt s a w h) (hG : GI g' w' h') (hR : Rel s.g h w g' w' h') (hdp : g'.dp = s.g.dp) (hlp : g'.lp.map LoopRec.dp = s.g.lp.map LoopRec.dp) :
  FI nt { tm := mapTm demBoxes s.tm, fr := s.fr, g := g' } a w' h' := by
 refine ⟨hf.size, ?_, hG, ?_⟩
 ·intro t v hv
  obtain ⟨u, hu, rfl⟩ := mapTm_some hv
  obtain ⟨h1, h2⟩ := hf.tm t u hu
  have o1 := AV.ok.demBoxes u h2
  refine ⟨RepA.ext hR.ext (fun d t b hk hb => by rw [(hR.bxs d t hk.2).2]; exact hb) (fun l hl => hR.ro l hl.lt) ?_ _ _ o1 (RepA.demBoxes u _ h1), ?_⟩
  ·rintro i b ⟨hi, hnb⟩ hb
   cases i with
   | box _ _ _ => exact absurd trivial hnb
   | res _ => exact hi.elim
   | tmp d t j =>
    have hd : d = s.g.dp := hi.1
    obtain ⟨k1, k2⟩ := hR.keep b (hf.gi.gaLt _ b hb) (not_may_own hf.gi hb)
    exact ⟨by rw [hR.ga d t j (by omega), hb], k2, k1⟩
  ·refine AV.ok.mono ?_ ?_ ?_ _ o1
   ·rintro i ⟨hi, _⟩
    show TmQ s.fr g'.dp i
    rw [hdp]; exact hi
   ·intro d t hk
    exact ⟨by rw [hdp]; exact hk.1, (hR.bxs d t hk.2).1⟩
   ·intro l hl
    show YG g' g'.dp l
    rw [hdp]; exact YG.lps hlp hl
 ·intro x hx D h1
  have h2 := hf.dfr x hx D h1
  rw [(hR.keep D (lt_of_heap h2) (not_may_def hf.gi h2)).1, h2]
def Marks (df : List Deferred) (flat : Bool) (l : List Deferred) : Prop :=
 (∀ x ∈ df, ∀ D, x.target ≠ .collected D) ∧ ∃ ms, l = ms ++ df ∧ ms.Nodup ∧ (∀ x ∈ ms, ∃ D, x = { target := .collected D, args := #[] }) ∧ (flat = true → ms = [])
theorem Marks.nil {f : Bool} : Marks [] f [] := ⟨(fun x hx => by cases hx), [], rfl, List.nodup_nil, (fun x hx => by cases hx), fun _ => rfl⟩
structure SI (nt : Nat) (g0 : G) (h0 : Gh) (w0 : World) (s : St) (a : Act) (w : World) (h : Gh) : Prop where
 fi : FI nt s a w h
 rel : Rel g0 h0 w0 s.g w h
 dp : s.g.dp = g0.dp + 1
 lps : s.g.lp.map LoopRec.dp = g0.lp.map LoopRec.dp
 nd : Marks h0.df h0.flat a.defers
 dnew : ∀ x ∈ a.defers, ∀ D, x.target = .collected D → w0.heap.size ≤ D
 lpd : ∀ r ∈ g0.lp, r.dp ≤ g0.dp
 bxd : (∀ d t, (g0.bx d t).isSome = true → d ≤ g0.dp) ∧ Tb g0 h0 w0
theorem SI.tb {nt : Nat} {g0 : G} {h0 : Gh} {w0 : World} {s : St} {a : Act} {w : World} {h : Gh} (hsi : SI nt g0 h0 w0 s a w h) : Tb s.g h w := hsi.bxd.2.rel hsi.rel
def NextOk {R : Type} (k : Ex → St → Option R) (r : R) (nt : Nat) (g0 : G) (h0 : Gh) (w0 : World) (next : Act → World → Prop) (Q : Exit → Act → World → Prop) : Prop :=
 (∀ s' a' w' h', SI nt g0 h0 w0 s' a' w' h' → k .normal s' = some r → next a' w') ∧
 ∀ x s' a' w' h' v, SI nt g0 h0 w0 s' a' w' h' → RepV w' h'.L x v → k (.panic x) s' = some r → Q (.panic [{ v, recovered := false }]) a' w'
def IsF (F : Fence) : Prop := F = Fence.wide ∨ ∃ l, F = Fence.wide.inRound l
theorem IsF.fn {F : Fence} (h : IsF F) (f : FuncId) : F.fn f := by rcases h with rfl | ⟨l, rfl⟩ <;> trivial
theorem IsF.depth {F : Fence} (h : IsF F) {n : Nat} : F.depth.isSome = true → 1 ≤ n := by rcases h with rfl | ⟨l, rfl⟩ <;> (intro h; cases h)
theorem IsF.calls {F : Fence} (h : IsF F) {n : Nat} {f : FuncId} {args : Array Value} {w : World} {R : Ending → World → Prop} (hc : CallsIn Fence.wide n P f args w R) : CallsIn F n P f args w R := by
 rcases h with rfl | ⟨l, rfl⟩
 ·exact hc
 ·exact hc
theorem IsF.round {F : Fence} (h : IsF F) {n l : Nat} {f : FuncId} {tmps : Array Value} {as body : Code} {w : World} {R : Ending → World → Prop} (hc : RoundIn Fence.wide n P l f tmps as body w R) : RoundIn F n P l f tmps as body w R := by
 rcases h with rfl | ⟨l, rfl⟩
 ·exact hc
 ·exact hc
theorem evs_datas {w : World} {h : Gh} {as : List AV} {ds : List D} {vs : List Value} (hd : AV.datas as = some ds) (hr : RepAs w h as vs) : RepVs w h.L ds vs := RepAs.datas as ds vs hd hr
theorem ownDatas {w : World} {h : Gh} {Q : Id → Prop} {K : Nat → Nat → Prop} {Y : Nat → Prop} : ∀ {as : List AV} {vs : List Value}, as.all noTup = true → AV.oks Q K Y as → RepAs w h as vs →
  RepAs w h (as.map ownData) vs ∧ AV.oks NoId K Y (as.map ownData)
 | [], vs, _, _, hr => by simp only [RepAs] at hr; subst hr; simp [RepAs, AV.oks]
 | a :: as, vs, hn, ho, hr => by
  simp only [RepAs, List.map_cons, AV.oks, List.all_cons, Bool.and_eq_true] at hr hn ho ⊢
  obtain ⟨u, us, rfl, h1, h2⟩ := hr
  obtain ⟨r2, o2⟩ := ownDatas hn.2 ho.2 h2
  exact ⟨⟨u, us, rfl, h1.ownData, r2⟩, ok_ownData hn.1 ho.1, o2⟩
theorem behindF_sound {R : Type} {cx : Cx R} (hnt : cx.nt = nt) {o : Oper} {s : St} {a : Act} {w : World} {h : Gh} (hsi : SI nt g0 h0 w0 s a w h) {k : Ex → St → Option R} {r : R} {next : Act → World → Prop} {Q : Exit → Act → World → Prop}
  (hk : NextOk k r nt g0 h0 w0 next Q) {e : Ending} {w' : World} {φ : AV → AV} {out : Out} {g' : G} {h' : Gh} (hm : OutM g' w' h' out e) (hR : Rel s.g h w g' w' h') (hdp : g'.dp = s.g.dp) (hlp : g'.lp.map LoopRec.dp = s.g.lp.map LoopRec.dp) (f1 : FI nt { tm := mapTm φ s.tm, fr := s.fr, g := g' } a w' h') (hb : behindF cx φ o.dst s k out g' = some r) :
  match e with
  | .returned v => next (a.put o.dst v) w'
  | .panicked chain => Q (.panic chain) a w'
  | .outgrown => LetsOut Q := by
 have r1 : Rel g0 h0 w0 g' w' h' := hsi.rel.call hR (by rw [hsi.dp]; omega)
 have hd0 : g0.dp < g'.dp := by rw [hdp, hsi.dp]; omega
 have hup : ∀ l, YG g' (g'.dp + 1) l → YG g' g'.dp l := by
  rintro l ⟨r, h1, _⟩
  refine ⟨r, h1, ?_⟩
  have hm : r.dp ∈ g0.lp.map LoopRec.dp := by rw [← hsi.lps, ← hlp]; exact List.mem_map_of_mem (List.mem_of_getElem? h1)
  obtain ⟨r0, hr0, hrd⟩ := List.mem_map.1 hm
  have := hsi.lpd r0 hr0
  omega
 cases out with
 | ret rs =>
  cases e with
  | returned v =>
   obtain ⟨vs, rfl, hrep, hp, hn, ho⟩ := hm
   simp only [Abs.behindF] at hb
   cases hput : putRes cx.nt o.dst rs { tm := mapTm φ s.tm, fr := s.fr, g := g' } with
   | none => simp [hput] at hb
   | some s' =>
    simp only [hput] at hb
    rw [hnt] at hput
    obtain ⟨h'', f2, r2, hg⟩ := putRes_sound f1 r1 hd0 hput hrep hp hn (AV.oks.mono (fun _ h => h) (fun _ _ h => h) (fun l hl => hup l hl) _ ho)
    refine hk.1 s' _ _ h'' ⟨f2, r2, ?_, ?_, ?_, ?_, ?_, ?_⟩ hb
    ·rw [hg]; exact hdp.trans hsi.dp
    ·rw [hg]; exact hlp.trans hsi.lps
    ·cases hd : o.dst <;> exact hsi.nd
    ·cases hd : o.dst <;> exact hsi.dnew
    ·exact hsi.lpd
    ·exact hsi.bxd
  | panicked _ => exact hm.elim
  | outgrown => exact hm.elim
 | pan x =>
  cases e with
  | returned v => exact hm.elim
  | panicked chain =>
   obtain ⟨v, rfl, hrep⟩ := hm
   simp only [Abs.behindF] at hb
   exact hk.2 x _ a w' h' v ⟨f1, r1, hdp.trans hsi.dp, hlp.trans hsi.lps, hsi.nd, hsi.dnew, hsi.lpd, hsi.bxd⟩ hrep hb
  | outgrown => exact hm.elim
theorem behind_eq {R : Type} {cx : Cx R} {dst : Option Nat} {s : St} {k : Ex → St → Option R} : behind cx dst s k = behindF cx demBoxes dst s k := by
 funext out g
 cases out <;> rfl
theorem behind_sound {R : Type} {cx : Cx R} (hnt : cx.nt = nt) {o : Oper} {s : St} {a : Act} {w : World} {h : Gh} (hsi : SI nt g0 h0 w0 s a w h) {k : Ex → St → Option R} {r : R} {next : Act → World → Prop} {Q : Exit → Act → World → Prop}
  (hk : NextOk k r nt g0 h0 w0 next Q) {e : Ending} {w' : World} (hq : CallQ (behind cx o.dst s k) r s.g h w e w') :
  match e with
  | .returned v => next (a.put o.dst v) w'
  | .panicked chain => Q (.panic chain) a w'
  | .outgrown => LetsOut Q := by
 obtain ⟨out, g', h', hm, hG, hR, hdp, hlp, hb⟩ := hq
 rw [behind_eq] at hb
 have := behindF_sound hnt hsi hk hm hR hdp hlp (hsi.fi.behind hG hR hdp hlp) hb
 cases e <;> exact this
theorem FI.kept {s : St} {a : Act} {w w' : World} {h h' : Gh} {g' : G} (hf : FI nt s a w h) (hr : Rel (kG s.g) (kH s.g h) w g' w' h') (hG : GI (kunG s.g g') w' (kunH s.g h h')) (hR : Rel s.g h w (kunG s.g g') w' (kunH s.g h h')) (hlp : g'.lp.map LoopRec.dp = s.g.lp.map LoopRec.dp) :
  FI nt { tm := mapTm (demF (offD s.g.dp)) s.tm, fr := s.fr, g := kunG s.g g' } a w' (kunH s.g h h') := by
 refine ⟨hf.size, ?_, hG, ?_⟩
 ·intro t v hv
  obtain ⟨u, hu, rfl⟩ := mapTm_some hv
  obtain ⟨h1, h2⟩ := hf.tm t u hu
  have o1 := AV.ok.demF (offD s.g.dp) u h2
  refine ⟨RepA.ext hR.ext (fun d t b hk hb => by rw [(hR.bxs d t hk.2).2]; exact hb) (fun l hl => hR.ro l hl.lt) ?_ _ _ o1 (RepA.demF _ u _ h1), ?_⟩
  ·rintro i b ⟨hi, hnb⟩ hb
   refine kept_row hf.gi hr ?_ hb
   cases i with
   | box d t j => exact boxOff_mine trivial hnb
   | res _ => exact hi.elim
   | tmp d t j => exact mine_tmp.2 hi.1
  ·refine AV.ok.mono (fun _ hi => hi.1) ?_ ?_ _ o1
   ·intro d t hk
    exact ⟨hk.1, (hR.bxs d t hk.2).1⟩
   ·intro l hl
    exact YG.lps hlp hl
 ·intro x hx D h1
  have h2 := hf.dfr x hx D h1
  rw [(hR.keep D (lt_of_heap h2) (not_may_def hf.gi h2)).1, h2]
theorem callE_sound {R : Type} {cx : Cx R} (hnt : cx.nt = nt) (hE : ESound P cx.E) {F : Fence} (hF : IsF F) {o : Oper} {fn : Fn} {as : List AV} {s : St} {k : Ex → St → Option R} {r : R}
  (hs : callE cx o.dst fn as s k = some r) {a : Act} {w : World} {h : Gh} (hsi : SI nt g0 h0 w0 s a w h) {next : Act → World → Prop} {Q : Exit → Act → World → Prop}
  (hk : NextOk k r nt g0 h0 w0 next Q) {vs : List Value} (hvs : RepAs w h as vs) (hvo : AV.oks NoId (KG s.g s.g.dp) (YG s.g (s.g.dp + 1)) as) :
  ∃ f', fn = .func f' ∧ FOk P f' ∧ CallsIn F 0 P f' vs.toArray w fun e w' => match e with
   | .returned v => next (a.put o.dst v) w'
   | .panicked chain => Q (.panic chain) a w'
   | .outgrown => LetsOut Q := by
 unfold callE at hs
 split at hs
 ·have := hE _ _ _ _ _ hs w h vs hsi.fi.gi hvs hvo hsi.tb
  cases fn with
  | func f' =>
   refine ⟨f', rfl, this.1, hF.calls (this.2.mono fun e w' hq => ?_)⟩
   have := behind_sound hnt hsi hk hq
   cases e <;> exact this
  | _ => exact this.elim
 ·split at hs
  case h_2 => cases hs
  rename_i hc
  simp only [Bool.and_eq_true, List.all_eq_true] at hc
  obtain ⟨⟨c1, c2⟩, c3⟩ := hc
  have c1 : 1 ≤ s.g.dp := Nat.le_of_ble_eq_true c1
  have hlp : ∀ (l : Nat) (r : LoopRec), s.g.lp[l]? = some r → r.dp < s.g.dp := fun l r hl => by
   have := c3 r (List.mem_of_getElem? hl)
   simpa using this
  have ho1 : AV.oks NoId (KG s.g (s.g.dp - 1)) (YG (kG s.g) (s.g.dp - 1 + 1)) as := AV.oks.upto as c2 hvo
  have ho2 : AV.oks NoId (KG (kG s.g) (kG s.g).dp) (YG (kG s.g) ((kG s.g).dp + 1)) as := AV.oks.mono (fun _ hh => hh) (fun d t hk => k_K (by show s.g.dp - 1 < s.g.dp; omega) hk) (fun _ hh => hh) _ ho1
  have hv' : RepAs w (kH s.g h) as vs := RepAs.ext (h := h) (h' := kH s.g h) (Ext.refl _ _) (fun _ _ _ _ hh => hh) (fun _ _ => rfl) (fun _ _ hh => hh.elim) _ _ hvo hvs
  have main := hE (.fn fn) as (kG s.g) _ r hs w (kH s.g h) vs (hsi.fi.gi.keep c1 hlp) hv' ho2 (hsi.tb.may fun b => may_k)
  cases fn with
  | func f' =>
   refine ⟨f', rfl, main.1, hF.calls (main.2.mono fun e w' hq => ?_)⟩
   obtain ⟨out, g', h', hm, hg', hrel, hd, hl, hb⟩ := hq
   obtain ⟨q1, q2⟩ := unkeep hsi.fi.gi c1 hlp hg' hrel hd hl
   have := behindF_sound hnt hsi hk (hm.kun c1 hd) q2 rfl hl (hsi.fi.kept hrel q1 q2 hl) hb
   cases e <;> exact this
  | _ => exact main.elim
theorem callA_sound {R : Type} {cx : Cx R} (hnt : cx.nt = nt) (hC : CSound P cx.C) (hE : ESound P cx.E) {F : Fence} (hF : IsF F) {eff : Bool} {o : Oper} {f : AV} {args : List AV} {s : St} {k : Ex → St → Option R} {r : R}
  (hs : callA cx eff o.dst f args s k = some r) {a : Act} {w : World} {h : Gh} (hsi : SI nt g0 h0 w0 s a w h) {next : Act → World → Prop} {Q : Exit → Act → World → Prop}
  (hk : NextOk k r nt g0 h0 w0 next Q) {fv : Value} {vs : List Value} (hfv : RepA w h f fv) (hvs : RepAs w h args vs) (hfo : f.ok (TmQ s.fr s.g.dp) (KG s.g s.g.dp) (YG s.g s.g.dp))
  (hn : args.all noTup = true) (hvo : AV.oks (TmQ s.fr s.g.dp) (KG s.g s.g.dp) (YG s.g s.g.dp) args) :
  o.uponIn F 0 P a next Q ((do let d ← Deferred.ofValue fv vs.toArray; invoke d.target d.args : Sem Next).run P w) := by
 obtain ⟨ra, oa'⟩ := ownDatas hn hvo hvs
 have up : ∀ l, YG s.g s.g.dp l → YG s.g (s.g.dp + 1) l := fun l ⟨r, h1, h2⟩ => ⟨r, h1, by omega⟩
 have oa : AV.oks NoId (KG s.g s.g.dp) (YG s.g (s.g.dp + 1)) (args.map ownData) := AV.oks.mono (fun _ h => h) (fun _ _ h => h) up _ oa'
 have eff1 : ∀ (fn : Fn) (caps : List AV) (cv : Array Value), fv = .func fn #[] cv → RepAs w h caps cv.toList → AV.oks NoId (KG s.g s.g.dp) (YG s.g (s.g.dp + 1)) caps →
   callE cx o.dst fn (args.map ownData ++ caps) s k = some r → o.uponIn F 0 P a next Q ((do let d ← Deferred.ofValue fv vs.toArray; invoke d.target d.args : Sem Next).run P w) := by
  intro fn caps cv hv hcr hco hrun
  obtain ⟨f', rfl, hok, hcall⟩ := callE_sound hnt hE hF hrun hsi hk (vs := vs ++ cv.toList) (ra.append hcr) (oks_append oa hco)
  have hr : (do let d ← Deferred.ofValue fv vs.toArray; invoke d.target d.args : Sem Next).run P w = .ok (.enter f' (vs ++ cv.toList).toArray) w := by
   rw [hv]
   have := hok.run (vs.toArray ++ cv) w
   have he : (vs ++ cv.toList).toArray = vs.toArray ++ cv := by apply Array.ext'; simp
   rw [he]
   simp [Deferred.ofValue, invoke, this]
  rw [hr]
  refine ⟨hF.depth, hcall.mono fun e w' hq => ?_⟩
  cases e <;> exact hq
 unfold callA at hs
 split at hs
 ·
  rename_i fn caps
  simp only [RepA, RepV] at hfv
  obtain ⟨cv, hv, hcr⟩ := hfv
  split at hs
  ·rename_i ds hds
   have hdr := evs_datas hds hvs
   have hall : RepVs w h.L (ds ++ caps) (vs ++ cv.toList) := hdr.append hcr
   cases hc : cx.C fn (ds ++ caps) with
   | none => simp [hc] at hs
   | some out =>
    obtain ⟨f', rfl, hok, hcall⟩ := hC _ _ _ hc w h.L _ hsi.fi.gi.lim hall hsi.tb.1
    have hr : (do let d ← Deferred.ofValue fv vs.toArray; invoke d.target d.args : Sem Next).run P w = .ok (.enter f' (vs ++ cv.toList).toArray) w := by
     rw [hv]
     have := hok.run (vs.toArray ++ cv) w
     have he : (vs ++ cv.toList).toArray = vs.toArray ++ cv := by apply Array.ext'; simp
     rw [he]
     simp [Deferred.ofValue, invoke, this]
    rw [hr]
    refine ⟨hF.depth, hF.calls (hcall.mono fun e w' hq => ?_)⟩
    obtain ⟨g', h', hm, hcl, hG, hR⟩ := hq
    obtain ⟨f1, r1, hb⟩ := hsi.fi.pure hsi.rel hG hR
    have hd0 : g0.dp < s.g.dp := by rw [hsi.dp]; omega
    cases out with
    | ret rs =>
     cases e with
     | returned v =>
      obtain ⟨vs', rfl, hrep, hp, hnt', ho⟩ := hm
      simp only [hc] at hs
      cases hput : putRes cx.nt o.dst rs s with
      | none => simp [hput] at hs
      | some s' =>
       simp only [hput] at hs
       rw [hnt] at hput
       have hrep' : RepAs w' { L := h'.L, be := h.be, ga := gaMix h.ga h'.ga, ro := h.ro } rs vs' := closed_rep (h := h') (h' := { L := h'.L, be := h.be, ga := gaMix h.ga h'.ga, ro := h.ro }) rfl (fun _ => rfl) hcl hp hrep
       obtain ⟨h'', f2, r2, hg⟩ := putRes_sound f1 r1 hd0 hput hrep' hp hnt' (closed_ok hcl ho)
       refine hk.1 s' _ _ h'' ⟨f2, r2, ?_, ?_, ?_, ?_, ?_, ?_⟩ hs
       ·rw [hg]; exact hsi.dp
       ·rw [hg]; exact hsi.lps
       ·cases hd : o.dst <;> exact hsi.nd
       ·cases hd : o.dst <;> exact hsi.dnew
       ·exact hsi.lpd
       ·exact hsi.bxd
     | panicked _ => exact hm.elim
     | outgrown => exact hm.elim
    | pan x =>
     cases e with
     | returned v => exact hm.elim
     | panicked chain =>
      obtain ⟨v, rfl, hrep⟩ := hm
      simp only [hc] at hs
      exact hk.2 x s a w' _ v ⟨f1, r1, hsi.dp, hsi.lps, hsi.nd, hsi.dnew, hsi.lpd, hsi.bxd⟩ hrep hs
     | outgrown => exact hm.elim
  ·split at hs
   case isFalse => cases hs
   exact eff1 fn (caps.map .d) cv hv (RepAs.of_d hcr) (oks_d caps) hs
 ·rename_i fn caps
  split at hs
  case isFalse => cases hs
  simp only [RepA, AV.ok] at hfv hfo
  obtain ⟨cv, hv, hcr⟩ := hfv
  exact eff1 fn caps cv hv hcr (AV.oks.mono (fun _ h => h) (fun _ _ h => h) up _ hfo) hs
 ·rename_i l
  split at hs
  case isFalse => cases hs
  simp only [RepA] at hfv
  have := hE _ _ _ _ _ hs w h vs hsi.fi.gi ra oa hsi.tb
  obtain ⟨f', tmps, as, body, hy, hround⟩ := this
  have hr : (do let d ← Deferred.ofValue fv vs.toArray; invoke d.target d.args : Sem Next).run P w = .ok (.round (h.ro l).1 f' tmps as body) w := by
   rw [hfv]
   simp [Deferred.ofValue, invoke, hy]
  rw [hr]
  refine ⟨hF.depth, hF.round (hround.mono fun e w' hq => ?_)⟩
  have := behind_sound hnt hsi hk hq
  cases e <;> exact this
 ·cases hs
end
end Go.Abs
namespace Go.Abs
open Go
set_option linter.unusedVariables false
set_option linter.unusedSimpArgs false
set_option linter.unnecessarySimpa false
set_option linter.unusedSectionVars false
variable [Tabs]
theorem putOwn_g {k : Option Nat} {dst sz : Nat} {es : List (List D)} {s s' : St} (h : putOwn k dst sz es s = some s') : s'.g = s.g := by
 unfold putOwn at h
 split at h
 ·cases h
 ·cases h; rfl
theorem letIn_g (nm : Id) (a : AV) (s : St) : (letIn nm a s).g.dp = s.g.dp ∧ (letIn nm a s).g.lp = s.g.lp := by cases a <;> exact ⟨rfl, rfl⟩
theorem stepOp_g {T : Nat → Option TI} {hint : Hint} {nt : Nat} {o : Oper} {s s' : St} (hs : stepOp T hint nt o s = some s') : s'.g.dp = s.g.dp ∧ s'.g.lp = s.g.lp := by
 unfold stepOp at hs
 split at hs
 ·split at hs
  ·unfold storeA at hs
   split at hs <;> try (cases hs; done)
   ·unfold storeB at hs
    split at hs <;> try (cases hs; done)
    dsimp only at hs
    repeat' (split at hs <;> try (cases hs; done))
    simp only [Option.some.injEq] at hs; subst hs
    exact letIn_g _ _ _
   ·unfold storeR at hs
    repeat' (split at hs <;> try (cases hs; done))
    simp only [Option.some.injEq] at hs; subst hs
    exact ⟨rfl, rfl⟩
  ·cases hs
 ·split at hs
  case isFalse => cases hs
  split at hs
  ·unfold allocA at hs
   split at hs <;> cases hs
   exact ⟨rfl, rfl⟩
  ·unfold boxA at hs
   split at hs <;> try (cases hs; done)
   split at hs <;> try (cases hs; done)
   dsimp only at hs
   repeat' (split at hs <;> try (cases hs; done))
   simp only [Option.some.injEq] at hs; subst hs
   exact letIn_g _ _ _
  ·repeat' (split at hs <;> try (cases hs; done))
   cases hs; exact ⟨rfl, rfl⟩
  ·unfold buildSliceA at hs
   repeat' (split at hs <;> try (cases hs; done))
   rw [putOwn_g hs]; exact ⟨rfl, rfl⟩
  ·unfold callB appendA at hs
   repeat' (split at hs <;> try (cases hs; done))
   all_goals first
    | (rw [putOwn_g hs]; exact ⟨rfl, rfl⟩)
    | (cases hs; exact ⟨rfl, rfl⟩)
  ·split at hs
   ·unfold makeFuncA at hs
    split at hs <;> try (cases hs; done)
    split at hs <;> try (cases hs; done)
    simp only [Option.some.injEq] at hs; subst hs
    exact ⟨rfl, rfl⟩
   ·cases hs
  ·split at hs
   ·cases hs; exact ⟨rfl, rfl⟩
   ·cases hs
theorem stepOp_noDefer {T : Nat → Option TI} {hint : Hint} {nt : Nat} {o : Oper} {s s' : St} (hs : stepOp T hint nt o s = some s') (c : Call) : o.op ≠ .defer c := by
 intro he
 unfold stepOp at hs
 rw [he] at hs
 split at hs
 ·cases hs
 ·split at hs
  ·simp [opP] at hs
  ·cases hs
theorem put_defers (a : Act) (d : Option Tmp) (v : Value) : (a.put d v).defers = a.defers := by cases d <;> rfl
section
variable {P : Program} {T : Nat → Option TI} {g0 : G} {h0 : Gh} {w0 : World} {nt : Nat}
theorem SI.hdp {s : St} {a : Act} {w : World} {h : Gh} (hsi : SI nt g0 h0 w0 s a w h) : g0.dp < s.g.dp := by rw [hsi.dp]; omega
theorem runOp_sound {R : Type} {cx : Cx R} (hT : TyOk P cx.T) (hnt : cx.nt = nt) (hC : CSound P cx.C) (hE : ESound P cx.E) {F : Fence} (hF : IsF F) {eff : Bool} {o : Oper} {s : St} {k : Ex → St → Option R} {r : R}
  (hs : runOp cx eff o s k = some r) {a : Act} {w : World} {h : Gh} (hsi : SI nt g0 h0 w0 s a w h) {next : Act → World → Prop} {Q : Exit → Act → World → Prop}
  (hk : NextOk k r nt g0 h0 w0 next Q) : o.wpIn F 0 P a w next Q := by
 refine ⟨fun f _ => hF.fn f, ?_⟩
 unfold runOp at hs
 split at hs
 ·rename_i f args hgo
  split at hs
  ·rename_i fa as hf has
   split at hs
   case isFalse => cases hs
   rename_i hn
   obtain ⟨c, hop, hcl, hca⟩ : ∃ c, o.op = .call c ∧ c.callee = .value f ∧ c.args.toList = args := by
    unfold goCall at hgo
    split at hgo
    ·rename_i c hop
     split at hgo
     ·rename_i f' hcl
      simp only [Option.some.injEq, Prod.mk.injEq] at hgo
      exact ⟨c, hop, by rw [hcl, hgo.1], hgo.2⟩
     ·cases hgo
    ·cases hgo
   have htm := Tms.of hsi.fi
   have hok := fun t v hv => (hsi.fi.tm t v hv).2
   have h1 := ev_rep htm hf
   have h2 := evs_rep htm has
   have key := callA_sound hnt hC hE hF hs hsi hk h1 h2 (ev_ok hok hf) hn (evs_ok hok has)
   rw [Oper.semAt_eq _ _ _ (by intro c'; rw [hop]; simp)]
   have he : execOp a.eval o = (do let d ← Deferred.ofValue (a.eval f) (args.map a.eval).toArray; invoke d.target d.args : Sem Next) := by
    have ha : (args.map a.eval).toArray = c.args.map a.eval := by
     rw [← hca]; apply Array.ext'; simp
    rw [ha]
    simp [execOp, hop, resolve, hcl]
   rw [he]
   exact key
  ·cases hs
 ·split at hs
  ·rename_i s' hst
   obtain ⟨nx, w', a', h', hrun, hdid, f', r'⟩ := stepOp_sound hT hsi.fi hsi.rel hsi.hdp (by rw [← hnt]; exact hst)
   obtain ⟨g1, g2⟩ := stepOp_g hst
   rw [Oper.semAt_eq _ _ _ (stepOp_noDefer hst), hrun]
   have hdf : a'.defers = a.defers := by
    rcases hdid with ⟨u, _, rfl⟩ | ⟨_, rfl⟩ <;> exact put_defers _ _ _
   have hsi' : SI nt g0 h0 w0 s' a' w' h' := ⟨f', r', by rw [g1]; exact hsi.dp, by rw [g2]; exact hsi.lps, by rw [hdf]; exact hsi.nd, by rw [hdf]; exact hsi.dnew, hsi.lpd, hsi.bxd⟩
   have := hk.1 s' a' w' h' hsi' hs
   rcases hdid with ⟨u, rfl, rfl⟩ | ⟨rfl, rfl⟩
   ·exact this
   ·exact this
  ·cases hs
theorem SI.passed {s s' : St} {a : Act} {w : World} {h : Gh} (hsi : SI nt g0 h0 w0 s a w h) {dst : Option Nat} (hp : putV nt dst (.tup []) s = some s') : SI nt g0 h0 w0 s' (a.put dst undef) w h := by
 unfold putV at hp
 split at hp
 ·rename_i d
  split at hp
  case isFalse => cases hp
  rename_i hd
  cases hp
  exact ⟨hsi.fi.put (by simpa using hd) (v := .tup []) (u := undef) (by simp only [RepA]; exact ⟨#[], rfl, by simp [RepAs]⟩) (by simp [AV.ok, AV.oks]), hsi.rel, hsi.dp, hsi.lps, hsi.nd, hsi.dnew, hsi.lpd, hsi.bxd⟩
 ·cases hp
  exact hsi
theorem guardV_yielded {ops : Array Oper} {s : St} {a : Act} {w : World} {h : Gh} (hf : FI nt s a w h) {g : Nat} {b : Option Bool} (hg : guardV ops s.tm g = some b) : yielded ops a.tmps g = b := by
 unfold guardV at hg
 unfold yielded
 cases ho : ops[g]? with
 | none => simp [ho] at hg
 | some o =>
  simp only [ho] at hg
  cases hd : o.dst with
  | none => simp [hd] at hg
  | some t =>
   simp only [hd] at hg
   simp only [Option.bind_some, hd]
   cases ht : s.tm t with
   | none => simp [ht] at hg
   | some v =>
    have hr := (hf.tm t v ht).1
    simp only [ht] at hg
    have hget : a.tmps.getD t undef = (a.tmps[t]?).getD undef := by simp [Array.getD_eq_getD_getElem?]
    rw [hget] at hr
    split at hg
    ·rename_i x hx
     cases hx
     cases hg
     simp only [RepA, RepV] at hr
     cases hq : a.tmps[t]? with
     | none => rw [hq] at hr; simp [undef] at hr
     | some u => rw [hq] at hr; simp at hr; rw [hr]
    ·rename_i hx
     cases hx
     cases hg
     simp only [RepA] at hr
     obtain ⟨cv, hcv, _⟩ := hr
     cases hq : a.tmps[t]? with
     | none => rfl
     | some u => rw [hq] at hcv; simp at hcv; rw [hcv]
    ·cases hg
theorem runG_sound {R : Type} {cx : Cx R} (hT : TyOk P cx.T) (hnt : cx.nt = nt) (hC : CSound P cx.C) (hE : ESound P cx.E) {F : Fence} (hF : IsF F) {eff : Bool} {ops : Array Oper} {o : Oper} {s : St} {k : Ex → St → Option R} {r : R}
  (hs : runG cx eff ops o s k = some r) {a : Act} {w : World} {h : Gh} (hsi : SI nt g0 h0 w0 s a w h) {next : Act → World → Prop} {Q : Exit → Act → World → Prop}
  (hk : NextOk k r nt g0 h0 w0 next Q) :
  if Region.wanted o (yielded ops a.tmps) then o.wpIn F 0 P a w next Q else (∀ f, o.about P w a.eval = some f → F.fn f) ∧ next (a.put o.dst undef) w := by
 unfold runG at hs
 split at hs
 ·rename_i hg
  rw [if_pos (by simp [Region.wanted, hg])]
  exact runOp_sound hT hnt hC hE hF hs hsi hk
 ·rename_i g want hg
  split at hs
  ·rename_i b hgv
   have hy := guardV_yielded hsi.fi hgv
   split at hs
   ·rename_i hb
    rw [if_pos (by simp [Region.wanted, hg, hy]; simpa using hb)]
    exact runOp_sound hT hnt hC hE hF hs hsi hk
   ·rename_i hb
    rw [if_neg (by simp [Region.wanted, hg, hy]; simpa using hb)]
    split at hs
    ·rename_i s' hp
     exact ⟨fun f _ => hF.fn f, hk.1 s' _ _ _ (hsi.passed (by rw [← hnt]; exact hp)) hs⟩
    ·cases hs
  ·rename_i hgv
   have hy := guardV_yielded hsi.fi hgv
   rw [if_neg (by simp [Region.wanted, hg, hy])]
   split at hs
   ·rename_i s' hp
    exact ⟨fun f _ => hF.fn f, hk.1 s' _ _ _ (hsi.passed (by rw [← hnt]; exact hp)) hs⟩
   ·cases hs
  ·cases hs
theorem runOps_part {R : Type} {cx : Cx R} (hT : TyOk P cx.T) (hnt : cx.nt = nt) (hC : CSound P cx.C) (hE : ESound P cx.E) {F : Fence} (hF : IsF F) {eff : Nat → Bool} {ops : Array Oper} {k : Ex → St → Option R} {r : R}
  {Q : Exit → Act → World → Prop} {tl : List Nat} (hk : NextOk k r nt g0 h0 w0 (wpOpsIn F 0 P ops Q tl) Q) :
  ∀ (n : Nat) (i : Nat) (l : List Oper), l = (ops.toList.drop i).take n → n = l.length → ∀ {s : St}, runOps cx eff ops l i s k = some r → ∀ {a : Act} {w : World} {h : Gh}, SI nt g0 h0 w0 s a w h → wpOpsIn F 0 P ops Q (List.range' i n ++ tl) a w := by
 intro n
 induction n with
 | zero =>
  intro i l hl hn s hs a w h hsi
  cases l with
  | cons _ _ => simp at hn
  | nil => exact hk.1 _ _ _ _ hsi hs
 | succ n ih =>
  intro i l hl hn s hs a w h hsi
  cases l with
  | nil => simp at hn
  | cons o rest =>
   have ho : ops[i]? = some o := by
    have : ((ops.toList.drop i).take (n + 1))[0]? = some o := by rw [← hl]; rfl
    simpa using this
   have hrest : rest = (ops.toList.drop (i + 1)).take n := by
    have : ((ops.toList.drop i).take (n + 1)).tail = rest := by rw [← hl]; rfl
    rw [← this]
    cases hd : ops.toList.drop i with
    | nil =>
     rw [hd] at hl
     simp at hl
    | cons y ys =>
     have : ops.toList.drop (i + 1) = ys := by
      rw [← List.tail_drop, hd]; rfl
     rw [this]; rfl
   simp only [List.range', List.cons_append, wpOpsIn, ho]
   simp only [runOps] at hs
   refine runG_sound hT hnt hC hE hF hs hsi ⟨?_, ?_⟩
   ·intro s' a' w' h' hsi' hs'
    exact ih (i + 1) rest hrest (by simpa using hn) hs' hsi'
   ·intro x s' a' w' h' v hsi' hv hs'
    exact hk.2 x s' a' w' h' v hsi' hv hs'
theorem panicOp_some {o : Oper} {x : Operand} (h : panicOp o = some x) : o.guard = none ∧ o.op = .panic x := by
 unfold panicOp at h
 split at h
 ·rename_i h1 h2
  simp only [Option.some.injEq] at h; subst h
  exact ⟨h1, h2⟩
 ·cases h
theorem runOpsP_sound {R : Type} {cx : Cx R} (hT : TyOk P cx.T) (hnt : cx.nt = nt) (hC : CSound P cx.C) (hE : ESound P cx.E) {F : Fence} (hF : IsF F) {ops : Array Oper} {k : Ex → St → Option R} {r : R}
  {Q : Exit → Act → World → Prop} (hk : NextOk k r nt g0 h0 w0 (Q .normal) Q) :
  ∀ (n : Nat) (i : Nat) (l : List Oper), l = ops.toList.drop i → n = l.length → ∀ {s : St}, runOpsP cx ops l i s k = some r → ∀ {a : Act} {w : World} {h : Gh}, SI nt g0 h0 w0 s a w h → wpOpsIn F 0 P ops Q (List.range' i n) a w := by
 intro n
 induction n with
 | zero =>
  intro i l hl hn s hs a w h hsi
  cases l with
  | cons _ _ => simp at hn
  | nil => exact hk.1 _ _ _ _ hsi hs
 | succ n ih =>
  intro i l hl hn s hs a w h hsi
  cases l with
  | nil => simp at hn
  | cons o rest =>
   have ho : ops[i]? = some o := by
    have : (ops.toList.drop i)[0]? = some o := by rw [← hl]; rfl
    simpa using this
   have hrest : rest = ops.toList.drop (i + 1) := by
    have : (ops.toList.drop i).tail = rest := by rw [← hl]; rfl
    rw [← this, List.tail_drop]
   simp only [List.range', wpOpsIn, ho]
   simp only [runOpsP] at hs
   cases hp : panicOp o with
   | some x =>
    simp only [hp] at hs
    obtain ⟨hg, hop⟩ := panicOp_some hp
    rw [if_pos (by simp [Region.wanted, hg])]
    split at hs
    ·rename_i t v hx
     have hv := ev_rep (Tms.of hsi.fi) hx
     simp only [RepA] at hv
     have hv0 := hv
     simp only [RepV] at hv
     obtain ⟨u, hxe, hu⟩ := hv
     refine ⟨fun f _ => hF.fn f, ?_⟩
     rw [Oper.semAt_eq _ _ _ (by intro c'; rw [hop]; simp)]
     have hrun : (execOp a.eval o).run P w = .halt (.panic (.iface t u)) w := by
      have h1 : (Instr.panic (.iface t u)).run P w = .halt (.panic (.iface t u)) w := rfl
      simp [execOp, hop, hxe, h1, Result.andThen]
     rw [hrun, Oper.uponIn_panic]
     exact hk.2 _ _ _ _ _ _ hsi (by rw [← hxe]; exact hv0) hs
    ·cases hs
   | none =>
    simp only [hp] at hs
    refine runG_sound hT hnt hC hE hF hs hsi ⟨?_, ?_⟩
    ·intro s' a' w' h' hsi' hs'
     exact ih (i + 1) rest hrest (by simpa using hn) hs' hsi'
    ·intro x s' a' w' h' v hsi' hv hs'
     exact hk.2 x s' a' w' h' v hsi' hv hs'
theorem regionP_sound {R : Type} {cx : Cx R} (hT : TyOk P cx.T) (hnt : cx.nt = nt) (hC : CSound P cx.C) (hE : ESound P cx.E) {F : Fence} (hF : IsF F) {id : Nat} {ops : Array Oper} {k : Ex → St → Option R} {r : R} {s : St}
  (hs : runOpsP cx ops ops.toList 0 s k = some r) {Q : Exit → Act → World → Prop} (hk : NextOk k r nt g0 h0 w0 (Q .normal) Q) {a : Act} {w : World} {h : Gh} (hsi : SI nt g0 h0 w0 s a w h) :
  (Code.region id ops false).wpIn F 0 P Q a w := by
 refine wpIn_region ?_
 have := runOpsP_sound hT hnt hC hE hF hk ops.toList.length 0 ops.toList (by simp) rfl hs hsi
 rwa [Array.length_toList, ← List.range_eq_range'] at this
end
end Go.Abs
namespace Go.Abs
open Go
set_option linter.unusedVariables false
set_option linter.unusedSimpArgs false
set_option linter.unnecessarySimpa false
set_option linter.unusedSectionVars false
variable [Tabs]
mutual
 theorem RepA.demAll {w : World} {h : Gh} : ∀ (a : AV) (v : Value), RepA w h a v → RepA w h (demAll a) v
  | .d x, v, hr => by simpa only [Abs.demAll] using hr
  | .own i sz es, v, hr => by simp only [Abs.demAll, RepA]; exact hr.own_sl
  | .ptr _ _ _, v, hr => by simpa only [Abs.demAll] using hr
  | .fn _ _, v, hr => by simpa only [Abs.demAll] using hr
  | .tup xs, v, hr => by
   simp only [Abs.demAll, RepA] at hr ⊢
   obtain ⟨cv, rfl, hc⟩ := hr
   exact ⟨cv, rfl, RepAs.demAll xs _ hc⟩
  | .yld _, v, hr => by simpa only [Abs.demAll] using hr
  | .old _ _ _, v, hr => by simpa only [Abs.demAll] using hr
  | .raw _ _ _ _ _, v, hr => by simp only [Abs.demAll, RepA]; exact hr.raw_old
 theorem RepAs.demAll {w : World} {h : Gh} : ∀ (as : List AV) (vs : List Value), RepAs w h as vs → RepAs w h (demAlls as) vs
  | [], vs, hr => by simpa only [demAlls] using hr
  | a :: as, vs, hr => by
   simp only [demAlls, RepAs] at hr ⊢
   obtain ⟨u, us, rfl, h1, h2⟩ := hr
   exact ⟨u, us, rfl, RepA.demAll a u h1, RepAs.demAll as us h2⟩
end
mutual
 theorem AV.ok.demAll {Q Q' : Id → Prop} {K : Nat → Nat → Prop} {Y : Nat → Prop} : ∀ (a : AV), a.ok Q K Y → (demAll a).ok Q' K Y
  | .d _, _ => by simp [Abs.demAll, AV.ok]
  | .own j _ _, h => by simp [Abs.demAll, AV.ok]
  | .ptr d1 t _, h => by simpa only [Abs.demAll, AV.ok] using h
  | .fn _ caps, h => by simpa only [Abs.demAll, AV.ok] using h
  | .tup xs, h => by simp only [Abs.demAll, AV.ok] at h ⊢; exact AV.oks.demAll xs h
  | .yld l, h => by simpa only [Abs.demAll, AV.ok] using h
  | .old _ _ _, _ => by simp [Abs.demAll, AV.ok]
  | .raw _ _ _ _ _, _ => by simp [Abs.demAll, AV.ok]
 theorem AV.oks.demAll {Q Q' : Id → Prop} {K : Nat → Nat → Prop} {Y : Nat → Prop} : ∀ (as : List AV), AV.oks Q K Y as → AV.oks Q' K Y (demAlls as)
  | [], _ => by simp [demAlls, AV.oks]
  | a :: as, h => by simp only [demAlls, AV.oks] at h ⊢; exact ⟨AV.ok.demAll a h.1, AV.oks.demAll as h.2⟩
end
mutual
 theorem AV.ok.within {Q : Id → Prop} {K : Nat → Nat → Prop} {Y : Nat → Prop} {dp : Nat} {bs : List Nat} : ∀ (a : AV), a.ok Q K Y → AV.within dp bs a = true → a.ok Q (fun d t => K d t ∧ (d = dp → bs.any (Nat.beq t ·) = true)) Y
  | .d _, _, _ => by simp [AV.ok]
  | .own j _ _, h, _ => by simpa only [AV.ok] using h
  | .ptr d1 t _, h, hw => by
   simp only [AV.ok, AV.within] at h hw ⊢
   refine ⟨h, fun e => ?_⟩
   subst e
   simpa using hw
  | .fn _ caps, h, hw => by simp only [AV.ok, AV.within] at h hw ⊢; exact AV.oks.within caps h hw
  | .tup xs, h, hw => by simp only [AV.ok, AV.within] at h hw ⊢; exact AV.oks.within xs h hw
  | .yld l, h, _ => by simpa only [AV.ok] using h
  | .raw _ _ _ _ _, h, _ => by simpa only [AV.ok] using h
  | .old _ _ _, _, _ => by simp [AV.ok]
 theorem AV.oks.within {Q : Id → Prop} {K : Nat → Nat → Prop} {Y : Nat → Prop} {dp : Nat} {bs : List Nat} : ∀ (as : List AV), AV.oks Q K Y as → AV.withins dp bs as = true → AV.oks Q (fun d t => K d t ∧ (d = dp → bs.any (Nat.beq t ·) = true)) Y as
  | [], _, _ => by simp [AV.oks]
  | a :: as, h, hw => by
   simp only [AV.oks, AV.withins, Bool.and_eq_true] at h hw ⊢
   exact ⟨AV.ok.within a h.1 hw.1, AV.oks.within as h.2 hw.2⟩
end
theorem look_map {α : Type} {l : List (Nat × α)} {β : Type} {f : Nat × α → Option β} {t : Nat} {v : β} (h : look (l.map fun p => (p.1, f p)) t = some v) : ∃ p ∈ l, p.1 = t ∧ f p = some v := by
 induction l with
 | nil => simp [look] at h
 | cons p l ih =>
  simp only [List.map_cons, look] at h
  split at h
  ·rename_i e
   exact ⟨p, by simp, by simpa using (by simpa using e : t = p.1).symm, h⟩
  ·obtain ⟨q, h1, h2⟩ := ih h
   exact ⟨q, by simp [h1], h2⟩
theorem look_some {α : Type} {l : List (Nat × α)} {β : Type} {f : Nat → Option β} {t : Nat} (h : (l.map (·.1)).any (Nat.beq t ·) = true) : look (l.map fun p => (p.1, f p.1)) t = f t := by
 induction l with
 | nil => simp at h
 | cons p l ih =>
  simp only [List.map_cons, look]
  split
  ·rename_i e
   have : t = p.1 := by simpa using e
   rw [this]
  ·rename_i e
   refine ih ?_
   simp only [List.map_cons, List.any_cons, Bool.or_eq_true] at h
   exact h.resolve_left e
section
variable {P : Program} {T : Nat → Option TI} {g0 : G} {h0 : Gh} {w0 : World} {nt : Nat}
theorem FI.retm {s : St} {a : Act} {w : World} {h : Gh} (hf : FI nt s a w h) {t : Nat} {v : AV} (hr : RepA w h v (a.tmps.getD t undef)) (hok : v.ok (TmQ s.fr s.g.dp) (KG s.g s.g.dp) (YG s.g s.g.dp)) :
  FI nt { s with tm := upd s.tm t (some v) } a w h where
 size := hf.size
 tm := fun u v' hv => by
  rcases upd_some hv with ⟨rfl, rfl⟩ | ⟨hne, hv⟩
  ·exact ⟨hr, hok⟩
  ·exact hf.tm u v' hv
 gi := hf.gi
 dfr := hf.dfr
theorem TmQ.mono_fr {fr fr' : Nat → Bool} {dp : Nat} (hfr : ∀ t, fr t = true → fr' t = true) : ∀ i, TmQ fr dp i → TmQ fr' dp i := by
 intro i hi
 cases i with
 | box _ _ _ => trivial
 | res _ => exact hi.elim
 | tmp a b c => exact ⟨hi.1, hfr _ hi.2⟩
theorem FI.frm {s : St} {a : Act} {w : World} {h : Gh} (hf : FI nt s a w h) {fr' : Nat → Bool} (hfr : ∀ t, s.fr t = true → fr' t = true) : FI nt { tm := s.tm, fr := fr', g := s.g } a w h where
 size := hf.size
 tm := fun t v hv => ⟨(hf.tm t v hv).1, AV.ok.mono (TmQ.mono_fr hfr) (fun _ _ h => h) (fun _ h => h) v (hf.tm t v hv).2⟩
 gi := hf.gi
 dfr := hf.dfr
theorem canonTm_fr : ∀ (kt : List (Nat × Option Nat)) (s : St) (fr' : Nat → Bool), canonTm kt { tm := s.tm, fr := fr', g := s.g } = { tm := (canonTm kt s).tm, fr := fr', g := (canonTm kt s).g }
 | [], s, fr' => rfl
 | (t, none) :: rest, s, fr' => by simp only [canonTm]; exact canonTm_fr rest s fr'
 | (t, some sz) :: rest, s, fr' => by
  simp only [canonTm]
  cases ht : s.tm t with
  | none => exact canonTm_fr rest s fr'
  | some a =>
   cases a with
   | own i z es => exact canonTm_fr rest { tm := upd (demSt (.tmp s.g.dp t 0) (demSt i s)).tm t (some (.own (.tmp s.g.dp t 0) z es)), fr := s.fr, g := (demSt (.tmp s.g.dp t 0) (demSt i s)).g } fr'
   | d x =>
    cases x with
    | nils => exact canonTm_fr rest { tm := upd (demSt (.tmp s.g.dp t 0) s).tm t (some (.own (.tmp s.g.dp t 0) sz [])), fr := s.fr, g := (demSt (.tmp s.g.dp t 0) s).g } fr'
    | _ => exact canonTm_fr rest s fr'
   | _ => exact canonTm_fr rest s fr'
theorem canonTm_sound : ∀ (kt : List (Nat × Option Nat)) {s : St} {a : Act} {w : World} {h : Gh}, (∀ p ∈ kt, p.2.isSome = true → s.fr p.1 = true) → FI nt s a w h → Rel g0 h0 w0 s.g w h → g0.dp < s.g.dp →
  ∃ h', FI nt (canonTm kt s) a w h' ∧ Rel g0 h0 w0 (canonTm kt s).g w h' ∧ (canonTm kt s).g.dp = s.g.dp ∧ (canonTm kt s).g.lp = s.g.lp ∧ (canonTm kt s).fr = s.fr
 | [], s, a, w, h, _, hf, hr, _ => ⟨h, hf, hr, rfl, rfl, rfl⟩
 | (t, none) :: rest, s, a, w, h, hk, hf, hr, hd => canonTm_sound rest (fun p hp => hk p (by simp [hp])) hf hr hd
 | (t, some sz) :: rest, s, a, w, h, hk, hf, hr, hd => by
  have hfr : s.fr t = true := hk (t, some sz) (by simp) rfl
  have keep := canonTm_sound rest (fun p hp => hk p (by simp [hp])) hf hr hd
  simp only [canonTm]
  cases ht : s.tm t with
  | none => exact keep
  | some av =>
   cases av with
   | own i z es =>
    obtain ⟨h1, h2⟩ := hf.tm t _ ht
    simp only [AV.ok] at h2
    obtain ⟨f1, n1⟩ := hf.dem i
    obtain ⟨f2, n2⟩ := f1.dem (.tmp s.g.dp t 0)
    have r2 := (hr.dem i).dem (.tmp s.g.dp t 0)
    have n1' := n1.dem (.tmp s.g.dp t 0)
    have f3 := f2.ren n1' n2 (fun d t' k e => by cases e; exact Nat.le_refl _)
    have r3 := r2.ren (i := i) (j := .tmp s.g.dp t 0) (fun d t' k e => by subst e; rw [h2.1]; exact hd) (fun d t' k e => by cases e; exact hd)
    have f4 := f3.retm (t := t) (v := .own (.tmp s.g.dp t 0) z es) (Owned.ren h1) (by simp only [AV.ok]; exact ⟨rfl, hfr⟩)
    exact canonTm_sound rest (fun p hp => hk p (by simp [hp])) f4 r3 hd
   | d x =>
    cases x with
    | nils =>
     obtain ⟨h1, h2⟩ := hf.tm t _ ht
     obtain ⟨f1, n1⟩ := hf.dem (.tmp s.g.dp t 0)
     have r1 := hr.dem (.tmp s.g.dp t 0)
     simp only [RepA, RepV] at h1
     have f2 := f1.retm (t := t) (v := .own (.tmp s.g.dp t 0) sz []) (by rw [h1]; exact full_own nils_full) (by simp only [AV.ok]; exact ⟨rfl, hfr⟩)
     exact canonTm_sound rest (fun p hp => hk p (by simp [hp])) f2 r1 hd
    | _ => exact keep
   | _ => exact keep
theorem FI.rebox {s : St} {a : Act} {w : World} {h : Gh} (hf : FI nt s a w h) (hr : Rel g0 h0 w0 s.g w h) {d u : Nat} {bo : Box} (hbo : s.g.bx d u = some bo) {cs' : List AV}
  (hrep : ∀ vs, RepAs w h bo.cells vs → RepAs w h cs' vs) (hty : bo.ty.1 = 0) (hok : AV.oks IsBox (KG s.g d) (YG s.g d) cs') :
  FI nt { s with g := { s.g with bx := putBx s.g.bx d u { bo with cells := cs' } } } a w h ∧ Rel g0 h0 w0 { s.g with bx := putBx s.g.bx d u { bo with cells := cs' } } w h := by
 have hsome : ∀ d' t', (putBx s.g.bx d u { bo with cells := cs' } d' t').isSome = (s.g.bx d' t').isSome := fun d' t' => putBx_isSome hbo d' t'
 have hK : ∀ n d' t', KG s.g n d' t' → KG { s.g with bx := putBx s.g.bx d u { bo with cells := cs' } } n d' t' := fun n d' t' hk => ⟨hk.1, by rw [hsome]; exact hk.2⟩
 refine ⟨⟨hf.size, ?_, ?_, hf.dfr⟩, ?_⟩
 ·intro t v hv
  obtain ⟨h5, h6⟩ := hf.tm t v hv
  exact ⟨h5, AV.ok.mono (fun _ h => h) (fun d' t' hk => hK _ d' t' hk) (fun _ h => h) v h6⟩
 ·refine { bx := ?_, inj := ?_, gaBx := ?_, gaInj := hf.gi.gaInj, gaLt := hf.gi.gaLt, gaC := hf.gi.gaC, lim := hf.gi.lim, lp := ?_, roInj := hf.gi.roInj, gaTop := hf.gi.gaTop }
  ·intro d' t' bo' hbo'
   have hq : putBx s.g.bx d u { bo with cells := cs' } d' t' = some bo' := hbo'
   rw [putBx_eq] at hq
   split at hq
   ·rename_i hdt
    cases hq
    obtain ⟨rfl, rfl⟩ := hdt
    obtain ⟨g1, g2, b2, c2, e2, h3, h4, h5, h6, h7⟩ := hf.gi.bx d' t' bo hbo
    exact ⟨g1, AV.oks.mono (fun _ h => h) (fun d t hk => hK _ d t hk) (fun _ h => h) _ hok, b2, c2, e2, h3, h4, RepBx.plain (hrep _ h5.1) hty, h6, h7⟩
   ·obtain ⟨g1, g2, b2, c2, e2, h3, h4, h5, h6, h7⟩ := hf.gi.bx d' t' bo' hq
    exact ⟨g1, AV.oks.mono (fun _ h => h) (fun d t hk => hK _ d t hk) (fun _ h => h) _ g2, b2, c2, e2, h3, h4, h5, h6, h7⟩
  ·intro d1 t1 d2 t2 b' h2 h3 h4 h5
   exact hf.gi.inj d1 t1 d2 t2 b' (by rw [← hsome]; exact h2) (by rw [← hsome]; exact h3) h4 h5
  ·intro i b' d1 t1 hi hs
   exact hf.gi.gaBx i b' d1 t1 hi (by rw [← hsome]; exact hs)
  ·intro l r hl
   obtain ⟨hp, D, tmps, h2, h3, h4, h5⟩ := hf.gi.lp l r hl
   refine ⟨hp, D, tmps, h2, h3, h4, fun t v hv => ?_⟩
   obtain ⟨h6, h7⟩ := h5 t v hv
   exact ⟨h6, AV.ok.mono (fun _ h => h) (fun d' t' hk => hK _ d' t' hk) (fun _ h => h) v h7⟩
 ·exact
   {hr with
    bxs := fun d' t' hs => by
     obtain ⟨a1, a2⟩ := hr.bxs d' t' hs
     exact ⟨by rw [hsome]; exact a1, a2⟩
    bxMay := fun d' t' b' hs hb' => hr.bxMay d' t' b' (by rw [← hsome]; exact hs) hb' }
theorem setCells_rep {w : World} {h : Gh} {cs : List AV} {j : Nat} {x y : AV} (hj : cs[j]? = some x) (hxy : ∀ v, RepA w h x v → RepA w h y v) : ∀ vs, RepAs w h cs vs → RepAs w h (setCells cs j [y]) vs := by
 intro vs hr
 have hlt : j < cs.length := (List.getElem?_eq_some_iff.1 hj).1
 have hv : vs = vs.take j ++ ((vs.drop j).take 1 ++ vs.drop (j + 1)) := by
  rw [← List.drop_drop, List.take_append_drop, List.take_append_drop]
 unfold setCells
 rw [List.append_assoc]
 rw [hv]
 refine RepAs.append hr.take (RepAs.append ?_ hr.drop)
 have h1 : RepAs w h ((cs.drop j).take 1) ((vs.drop j).take 1) := hr.drop.take
 have hd : (cs.drop j).take 1 = [x] := by
  rw [List.getElem?_eq_some_iff] at hj
  obtain ⟨h1, h2⟩ := hj
  rw [List.drop_eq_getElem_cons h1, h2]; rfl
 rw [hd] at h1
 simp only [RepAs] at h1 ⊢
 obtain ⟨u, us, he, h2, h3⟩ := h1
 exact ⟨u, us, he, hxy u h2, h3⟩
theorem oks_setCells {Q : Id → Prop} {K : Nat → Nat → Prop} {Y : Nat → Prop} {cs : List AV} {j : Nat} {y : AV} (h : AV.oks Q K Y cs) (hy : y.ok Q K Y) : AV.oks Q K Y (setCells cs j [y]) := by
 refine oks_of fun x hx => ?_
 unfold setCells at hx
 rcases List.mem_append.1 hx with hx | hx
 ·rcases List.mem_append.1 hx with hx | hx
  ·exact oks_mem h x (List.mem_of_mem_take hx)
  ·simp at hx; subst hx; exact hy
 ·exact oks_mem h x (List.mem_of_mem_drop hx)
theorem canonBox1_sound (t : Nat) : ∀ (fs : List (Nat × Nat)) {s : St} {a : Act} {w : World} {h : Gh}, FI nt s a w h → Rel g0 h0 w0 s.g w h →
  FI nt (canonBox1 t fs s) a w h ∧ Rel g0 h0 w0 (canonBox1 t fs s).g w h ∧ (canonBox1 t fs s).g.dp = s.g.dp ∧ (canonBox1 t fs s).g.lp = s.g.lp ∧ (canonBox1 t fs s).fr = s.fr
 | [], s, a, w, h, hf, hr => ⟨hf, hr, rfl, rfl, rfl⟩
 | (j, sz) :: rest, s, a, w, h, hf, hr => by
  have keep := canonBox1_sound t rest hf hr
  simp only [canonBox1]
  split
  ·rename_i b hb
   split
   ·rename_i hfz hcell
    obtain ⟨f1, n1⟩ := hf.dem (.box s.g.dp t j)
    have r1 := hr.dem (.box s.g.dp t j)
    split
    ·rename_i b1 hb1
     have hb1' : b1 = { b with cells := dems (.box s.g.dp t j) b.cells } := by
      obtain ⟨b2, h2, h3⟩ := demBx_some hb1
      rw [hb] at h2; cases h2; exact h3
     have hcell1 : b1.cells[j]? = some (.d .nils) := by
      rw [hb1']
      have : ∀ (xs : List AV) (i : Id) (j : Nat) (x : AV), xs[j]? = some x → (dems i xs)[j]? = some (dem i x) := by
       intro xs i
       induction xs with
       | nil => intro j x h; simp at h
       | cons y ys ih =>
        intro j x h
        cases j with
        | zero => simp at h; subst h; simp [dems]
        | succ j => simp only [dems, List.getElem?_cons_succ] at h ⊢; exact ih j x h
      have := this b.cells (.box s.g.dp t j) j _ hcell
      simpa [dem] using this
     obtain ⟨_, g2, _⟩ := f1.gi.bx s.g.dp t b1 hb1
     obtain ⟨f2, r2⟩ := f1.rebox r1 (d := s.g.dp) (u := t) hb1 (cs' := setCells b1.cells j [.own (.box s.g.dp t j) sz []])
      (setCells_rep hcell1 (fun v hv => by
       simp only [RepA, RepV] at hv
       rw [hv]; exact full_own nils_full))
      (by rw [hb1']; exact (Box.unlock hfz).2)
      (oks_setCells g2 (by simp only [AV.ok]; trivial))
     exact canonBox1_sound t rest f2 r2
    ·rename_i hb1
     exfalso
     have : (demBx (.box s.g.dp t j) s.g.bx s.g.dp t).isSome = true := by rw [demBx_isSome, hb]; rfl
     have hb1' : demBx (.box s.g.dp t j) s.g.bx s.g.dp t = none := hb1
     rw [hb1'] at this; cases this
   ·exact keep
  ·exact keep
theorem canonBox_sound : ∀ (kb : List (Nat × List (Nat × Nat))) {s : St} {a : Act} {w : World} {h : Gh}, FI nt s a w h → Rel g0 h0 w0 s.g w h →
  FI nt (canonBox kb s) a w h ∧ Rel g0 h0 w0 (canonBox kb s).g w h ∧ (canonBox kb s).g.dp = s.g.dp ∧ (canonBox kb s).g.lp = s.g.lp ∧ (canonBox kb s).fr = s.fr
 | [], s, a, w, h, hf, hr => ⟨hf, hr, rfl, rfl, rfl⟩
 | (t, fs) :: rest, s, a, w, h, hf, hr => by
  obtain ⟨f1, r1, e1, e2, e3⟩ := canonBox1_sound t fs hf hr
  obtain ⟨f2, r2, e4, e5, e6⟩ := canonBox_sound rest f1 r1
  exact ⟨f2, r2, e4.trans e1, e5.trans e2, e6.trans e3⟩
theorem canonBox1_fr (t : Nat) : ∀ (fs : List (Nat × Nat)) (s : St) (fr' : Nat → Bool), canonBox1 t fs { tm := s.tm, fr := fr', g := s.g } = { tm := (canonBox1 t fs s).tm, fr := fr', g := (canonBox1 t fs s).g }
 | [], s, fr' => rfl
 | (j, sz) :: rest, s, fr' => by
  simp only [canonBox1]
  cases hb : s.g.bx s.g.dp t with
  | none => exact canonBox1_fr t rest s fr'
  | some b =>
   simp only
   cases b.lock with
   | true => exact canonBox1_fr t rest s fr'
   | false =>
    cases b.cells[j]? with
    | none => exact canonBox1_fr t rest s fr'
    | some x =>
     cases x with
     | d y =>
      cases y with
      | nils =>
       simp only [demSt]
       cases demBx (.box s.g.dp t j) s.g.bx s.g.dp t with
       | none => exact canonBox1_fr t rest (demSt (.box s.g.dp t j) s) fr'
       | some b1 => exact canonBox1_fr t rest { tm := demTm (.box s.g.dp t j) s.tm, fr := s.fr, g := { bx := fun d' u' => if Nat.beq d' s.g.dp && Nat.beq u' t then some { b1 with cells := setCells b1.cells j [.own (.box s.g.dp t j) sz []] } else demBx (.box s.g.dp t j) s.g.bx d' u', dp := s.g.dp, lp := s.g.lp } } fr'
      | _ => exact canonBox1_fr t rest s fr'
     | _ => exact canonBox1_fr t rest s fr'
theorem canonBox_fr : ∀ (kb : List (Nat × List (Nat × Nat))) (s : St) (fr' : Nat → Bool), canonBox kb { tm := s.tm, fr := fr', g := s.g } = { tm := (canonBox kb s).tm, fr := fr', g := (canonBox kb s).g }
 | [], s, fr' => rfl
 | (t, fs) :: rest, s, fr' => by
  simp only [canonBox]
  rw [canonBox1_fr t fs s fr']
  exact canonBox_fr rest (canonBox1 t fs s) fr'
theorem keptTm_mem {tm : Nat → Option AV} {dp : Nat} {bs : List Nat} : ∀ {kt : List (Nat × Option Nat)}, keptTm tm dp bs kt = true → ∀ p ∈ kt, ∀ a, tm p.1 = some a → AV.within dp bs a = true
 | [], _, p, hp, _, _ => by simp at hp
 | (t, x) :: rest, hk, p, hp, a, ha => by
  simp only [keptTm, Bool.and_eq_true] at hk
  simp only [List.mem_cons] at hp
  rcases hp with rfl | hp
  ·have := hk.1
   rw [ha] at this; exact this
  ·exact keptTm_mem hk.2 p hp a ha
theorem keptBx_mem {bx : Nat → Nat → Option Box} {dp : Nat} {bs : List Nat} : ∀ {kb : List (Nat × List (Nat × Nat))}, keptBx bx dp bs kb = true → ∀ p ∈ kb, ∀ b, bx dp p.1 = some b → AV.withins dp bs b.cells = true
 | [], _, p, hp, _, _ => by simp at hp
 | (t, x) :: rest, hk, p, hp, a, ha => by
  simp only [keptBx, Bool.and_eq_true] at hk
  simp only [List.mem_cons] at hp
  rcases hp with rfl | hp
  ·have := hk.1
   rw [ha] at this; exact this
  ·exact keptBx_mem hk.2 p hp a ha
theorem keepOwn_rep {w : World} {h : Gh} {dp t : Nat} {a : AV} {v : Value} (hr : RepA w h a v) : RepA w h (keepOwn dp t a) v := by
 unfold keepOwn
 split
 ·split
  ·exact hr
  ·simp only [RepA]; exact hr.own_sl
 ·exact RepA.demAll _ _ hr
theorem keepOwn_ok {dp t : Nat} {fr : Nat → Bool} (hfr : fr t = true) {Q : Id → Prop} {K : Nat → Nat → Prop} {Y : Nat → Prop} {a : AV} (ho : a.ok Q K Y) : (keepOwn dp t a).ok (TmQ fr dp) K Y := by
 unfold keepOwn
 split
 ·split
  ·rename_i d u j z es e
   have : d = dp ∧ u = t := by simpa using e
   simp only [AV.ok]
   exact ⟨this.1, by rw [this.2]; exact hfr⟩
  ·simp [AV.ok]
 ·exact AV.ok.demAll _ ho
theorem headSt_sound {hint : Hint} {id : Nat} {s s' : St} (hs : headSt hint id s = some s') {a : Act} {w : World} {h : Gh} (hsi : SI nt g0 h0 w0 s a w h) : ∃ h', SI nt g0 h0 w0 s' a w h' := by
 unfold headSt at hs
 split at hs
 ·cases hs; exact ⟨h, hsi⟩
 rename_i kt kb hl
 dsimp only at hs
 split at hs
 case isFalse => cases hs
 rename_i hkept
 simp only [Bool.and_eq_true] at hkept
 simp only [Option.some.injEq] at hs
 have f0 := hsi.fi.frm (fr' := fun t => s.fr t || kt.any fun p => Nat.beq p.1 t && p.2.isSome) (fun t ht => by simp [ht])
 obtain ⟨h1, f1, r1, e1, e2, e3⟩ := canonTm_sound (g0 := g0) (h0 := h0) (w0 := w0) kt (s := { tm := s.tm, fr := fun t => s.fr t || kt.any fun p => Nat.beq p.1 t && p.2.isSome, g := s.g })
  (fun p hp hsome => by
   have : (kt.any fun q => Nat.beq q.1 p.1 && q.2.isSome) = true := List.any_eq_true.2 ⟨p, hp, by simp [hsome]⟩
   simp [this]) f0 hsi.rel hsi.hdp
 obtain ⟨f2, r2, e4, e5, e6⟩ := canonBox_sound kb f1 r1
 rw [canonTm_fr, canonBox_fr] at f2 r2 e4 e5
 rw [canonTm_fr] at e1 e2
 have hdp : (canonBox kb (canonTm kt s)).g.dp = s.g.dp := by
  have := e4; simp only at this; rw [this]
  have := e1; simp only at this; exact this
 have hlp : (canonBox kb (canonTm kt s)).g.lp = s.g.lp := by
  have := e5; simp only at this; rw [this]
  have := e2; simp only at this; exact this
 generalize hc : canonBox kb (canonTm kt s) = c at hs hkept f2 r2 hdp hlp
 simp only at r2
 subst hs
 have kg : ∀ n d t, KG c.g n d t ∧ (d = c.g.dp → (kb.map (·.1)).any (Nat.beq t ·) = true) → KG { c.g with bx := fun d t => if Nat.beq d c.g.dp then look (kb.map fun p => (p.1, c.g.bx c.g.dp p.1)) t else c.g.bx d t } n d t := by
  rintro n d t ⟨hk, hb⟩
  refine ⟨hk.1, ?_⟩
  show (if Nat.beq d c.g.dp then look (kb.map fun p => (p.1, c.g.bx c.g.dp p.1)) t else c.g.bx d t).isSome = true
  split
  ·rename_i e
   have e : d = c.g.dp := by simpa using e
   rw [look_some (f := fun q => c.g.bx c.g.dp q) (hb e), ← e]
   exact hk.2
  ·exact hk.2
 have bxsub : ∀ d t bo, (if Nat.beq d c.g.dp then look (kb.map fun p => (p.1, c.g.bx c.g.dp p.1)) t else c.g.bx d t) = some bo → c.g.bx d t = some bo ∧ (d = c.g.dp → ∃ p ∈ kb, p.1 = t) := by
  intro d t bo hb
  split at hb
  ·rename_i e
   have e : d = c.g.dp := by simpa using e
   obtain ⟨p, hp, ht, hv⟩ := look_map (f := fun p => c.g.bx c.g.dp p.1) hb
   exact ⟨by rw [e, ← ht]; exact hv, fun _ => ⟨p, hp, ht⟩⟩
  ·rename_i e
   exact ⟨hb, fun e' => absurd (by simpa using e') e⟩
 have low : ∀ n, n < c.g.dp → ∀ d t, KG c.g n d t → KG { c.g with bx := fun d t => if Nat.beq d c.g.dp then look (kb.map fun p => (p.1, c.g.bx c.g.dp p.1)) t else c.g.bx d t } n d t :=
  fun n hn d t hk => kg n d t ⟨hk, fun e => by have := hk.1; omega⟩
 have sub : ∀ d t, ((fun d t => if Nat.beq d c.g.dp then look (kb.map fun p => (p.1, c.g.bx c.g.dp p.1)) t else c.g.bx d t) d t).isSome = true → (c.g.bx d t).isSome = true := by
  intro d t hs
  obtain ⟨bo, hbo⟩ := Option.isSome_iff_exists.1 hs
  rw [(bxsub d t bo hbo).1]; rfl
 refine ⟨h1, ⟨f2.size, ?_, ?_, f2.dfr⟩, ?_, ?_, ?_, hsi.nd, hsi.dnew, hsi.lpd, hsi.bxd⟩
 ·intro t v hv
  obtain ⟨p, hp, ht, hx⟩ := look_map (f := fun (p : Nat × Option Nat) => match p.2 with
   | some _ => match c.tm p.1 with
    | some a => some (keepOwn c.g.dp p.1 a)
    | none => none
   | none => match c.tm p.1 with
    | some a => some (demAll a)
    | none => none) hv
  subst ht
  cases hq : c.tm p.1 with
  | none =>
   rw [hq] at hx
   cases hp2 : p.2 <;> rw [hp2] at hx <;> cases hx
  | some av =>
   rw [hq] at hx
   obtain ⟨g1, g2⟩ := f2.tm p.1 av hq
   have g3 := AV.ok.within av g2 (keptTm_mem hkept.1 p hp av hq)
   cases hp2 : p.2 with
   | none =>
    rw [hp2] at hx
    cases hx
    exact ⟨RepA.demAll _ _ g1, AV.ok.demAll _ (AV.ok.mono (fun _ h => h) (fun d t hk => kg _ d t hk) (fun _ h => h) _ g3)⟩
   | some sz =>
    rw [hp2] at hx
    cases hx
    refine ⟨keepOwn_rep g1, keepOwn_ok ?_ (AV.ok.mono (fun _ h => h) (fun d t hk => kg _ d t hk) (fun _ h => h) _ g3)⟩
    exact List.any_eq_true.2 ⟨p, hp, by simp [hp2]⟩
 ·refine { bx := ?_, inj := ?_, gaBx := ?_, gaInj := f2.gi.gaInj, gaLt := f2.gi.gaLt, gaC := f2.gi.gaC, lim := f2.gi.lim, lp := ?_, roInj := f2.gi.roInj, gaTop := f2.gi.gaTop }
  ·intro d t bo hbo
   obtain ⟨hb1, hb2⟩ := bxsub d t bo hbo
   obtain ⟨g1, g2, rest⟩ := f2.gi.bx d t bo hb1
   refine ⟨g1, ?_, rest⟩
   by_cases hd : d = c.g.dp
   ·obtain ⟨p, hp, ht⟩ := hb2 hd
    have g3 := AV.oks.within _ g2 (keptBx_mem hkept.2 p hp bo (by rw [ht, ← hd]; exact hb1))
    exact AV.oks.mono (fun _ h => h) (fun d t hk => kg _ d t hk) (fun _ h => h) _ g3
   ·exact AV.oks.mono (fun _ h => h) (low d (by simp only at g1; omega)) (fun _ h => h) _ g2
  ·intro d t d' t' b q1 q2
   exact f2.gi.inj d t d' t' b (sub d t q1) (sub d' t' q2)
  ·intro i b d t q1 q2
   exact f2.gi.gaBx i b d t q1 (sub d t q2)
  ·intro l r hl
   obtain ⟨hp, D, tmps, q1, q2, q3, q4⟩ := f2.gi.lp l r hl
   refine ⟨hp, D, tmps, q1, q2, q3, fun t v hv => ?_⟩
   obtain ⟨q5, q6⟩ := q4 t v hv
   refine ⟨q5, AV.ok.mono (fun _ h => h) (low r.dp ?_) (fun _ h => h) _ q6⟩
   have hl' : s.g.lp[l]? = some r := by rw [← hlp]; exact hl
   have hm : r.dp ∈ g0.lp.map LoopRec.dp := by rw [← hsi.lps]; exact List.mem_map_of_mem (List.mem_of_getElem? hl')
   obtain ⟨r0, hr0, hrd⟩ := List.mem_map.1 hm
   have := hsi.lpd r0 hr0
   have := hsi.dp
   omega
 ·exact
   {r2 with
    bxs := fun d t hs => by
     obtain ⟨a1, a2⟩ := r2.bxs d t hs
     refine ⟨?_, a2⟩
     show (if Nat.beq d c.g.dp then look (kb.map fun p => (p.1, c.g.bx c.g.dp p.1)) t else c.g.bx d t).isSome = true
     rw [if_neg]
     ·exact a1
     ·have := hsi.bxd.1 d t hs
      have := hsi.dp
      simp; omega
    bxMay := fun d t b hs hb => r2.bxMay d t b (sub d t hs) hb }
 ·show c.g.dp = _
  rw [hdp]; exact hsi.dp
 ·show c.g.lp.map _ = _
  rw [hlp]; exact hsi.lps
end
end Go.Abs
namespace Go.Abs
open Go
set_option linter.unusedVariables false
set_option linter.unusedSimpArgs false
set_option linter.unnecessarySimpa false
section
variable {P : Program} {F : Fence} {n : Nat} {b : Frame} {a : Act} {k : List Item} {cs : List Frame} {w : World} {Q : Exit → Act → World → Prop}
theorem stepR_scope {c : Code} : step P (lone (b.atR a (.code (.scope c) :: k)) cs w) = .next (lone (b.atR a (.code c :: .inScope c :: k)) cs w) :=
 step_lone_go (by simp [stepG, stepG.exec, Frame.atR])
theorem stepR_inScope {c : Code} : step P (lone (b.atR a (.inScope c :: k)) cs w) = .next (lone (b.atR a k) cs w) :=
 step_lone_go (by simp [stepG, stepG.exec, Frame.atR])
theorem wpIn_scope_straight {c : Code} (h : c.wpIn F n P (Exit.noGoto Q) a w) : (Code.scope c).wpIn F n P Q a w := by
 intro b k cs hro hb hr
 have h0 : (lone (b.atR a (.code (.scope c) :: k)) cs w).fenced P F := fenced_calm hb hr rfl
 obtain ⟨e, a₁, w₁, hq, harr⟩ := h b (.inScope c :: k) cs hro hb hr
 cases e with
 | normal => exact ⟨.normal, a₁, w₁, hq, .head h0 stepR_scope (StepsIn.trans harr (.one (fenced_calm hb hr rfl) stepR_inScope))⟩
 | exit id =>
  have hx : exitTo id (.inScope c :: k) = exitTo id k := by simp [exitTo]
  exact ⟨.exit id, a₁, w₁, hq, fun k' hk => .head h0 stepR_scope (harr.1 k' (by rw [hx]; exact hk)),
   fun hr' hk => let ⟨k₁, h1, h2⟩ := harr.2 hr' (by rw [hx]; exact hk); ⟨k₁, h1, .head h0 stepR_scope h2⟩⟩
 | goto l => exact hq.elim
 | ret => exact ⟨_, a₁, w₁, hq, .of_steps (.one h0 stepR_scope) harr⟩
 | panic ch => exact ⟨_, a₁, w₁, hq, .of_steps (.one h0 stepR_scope) harr⟩
 | outgrown => exact ⟨_, a₁, w₁, hq, .of_steps (.one h0 stepR_scope) harr⟩
end
mutual
 theorem RepA.world {w w' : World} {h : Gh} (hE : Ext w h.L w' h.L) (hga : ∀ i b, h.ga i = some b → w'.heap[b]? = w.heap[b]?) : ∀ (a : AV) (v : Value), RepA w h a v → RepA w' h a v
  | .d x, v, hr => by simp only [RepA] at hr ⊢; exact hr.ext hE
  | .own i sz es, v, hr => by
   simp only [RepA] at hr ⊢
   rcases hr with hr | ⟨b, n, c, vs, cc, e, rfl, hn, hc, hs, hf, hg, hL, hh, hrm, hcells⟩
   ·exact .inl (hr.ext hE)
   ·have hlen := hf.length hs
    exact .inr ⟨b, n, c, vs, cc, e, rfl, hn, hc, hs, RepF.ext hE es vs hf, hg, hL, by rw [hga i b hg]; exact hh, hrm, hcells.ext hE (by rw [hL, hlen, hn]; omega)⟩
  | .ptr d t off, v, hr => by simpa only [RepA] using hr
  | .fn f caps, v, hr => by
   simp only [RepA] at hr ⊢
   obtain ⟨cv, rfl, hc⟩ := hr
   exact ⟨cv, rfl, RepAs.world hE hga caps _ hc⟩
  | .tup xs, v, hr => by
   simp only [RepA] at hr ⊢
   obtain ⟨cv, rfl, hc⟩ := hr
   exact ⟨cv, rfl, RepAs.world hE hga xs _ hc⟩
  | .yld l, v, hr => by simpa only [RepA] using hr
  | .old _ _ _, v, hr => by simpa only [RepA] using hr
  | .raw o k i sz es, v, hr => hr.raw_map hE fun b hb => ⟨hb, rfl, hga i b hb⟩
 theorem RepAs.world {w w' : World} {h : Gh} (hE : Ext w h.L w' h.L) (hga : ∀ i b, h.ga i = some b → w'.heap[b]? = w.heap[b]?) : ∀ (as : List AV) (vs : List Value), RepAs w h as vs → RepAs w' h as vs
  | [], vs, hr => by simpa only [RepAs] using hr
  | a :: as, vs, hr => by
   simp only [RepAs] at hr ⊢
   obtain ⟨u, us, rfl, h1, h2⟩ := hr
   exact ⟨u, us, rfl, RepA.world hE hga a u h1, RepAs.world hE hga as us h2⟩
end
theorem RepBx.world {w w' : World} {h : Gh} {ty : Nat × Nat} (hE : Ext w h.L w' h.L) (hga : ∀ i b, h.ga i = some b → w'.heap[b]? = w.heap[b]?) (as : List AV) (vs : List Value) (hr : RepBx w h ty as vs) : RepBx w' h ty as vs :=
 ⟨RepAs.world hE hga as vs hr.1, fun ht i sz es v hi hv => (hr.2 ht i sz es v hi hv).imp id fun ⟨b, n, c, cc, h1, h2, h3, h4, h5⟩ => ⟨b, n, c, cc, h1, h2, h3, by rw [hga i b h2, h4], h5⟩⟩
theorem putObj_other {w : World} {l k : Nat} {o : Obj} (h : k ≠ l) : (w.putObj l o).heap[k]? = w.heap[k]? := World.putObj_heap_other h
theorem putObj_same {w : World} {l : Nat} {o o' : Obj} (h : w.heap[l]? = some o) : (w.putObj l o').heap[l]? = some o' := World.putObj_heap_same (lt_of_heap h)
theorem ext_putObj {w : World} {L : Nat} {r r' : Loop} (hL : w.heap[L]? = some (.loop r)) (X : Nat → Nat) : Ext w X (w.putObj L (.loop r')) X := by
 refine ⟨fun _ => Nat.le_refl _, fun b i _ => ?_⟩
 by_cases hb : b = L
 ·subst hb
  simp only [World.cell?, putObj_same hL, hL]
 ·simp only [World.cell?, putObj_other hb]
section
variable {P : Program} {T : Nat → Option TI} {g0 : G} {h0 : Gh} {w0 : World} {nt : Nat}
theorem GI.putLoop {g g' : G} {w : World} {h : Gh} (hg : GI g w h) {L : Nat} {r r' : Loop} (hL : w.heap[L]? = some (.loop r)) (hbx : g'.bx = g.bx) (hdp : g'.dp = g.dp)
  (hY : ∀ d l, d ≤ g.dp → YG g d l → YG g' d l) (hlen : g'.lp.length ≤ g.lp.length)
  (hlp : ∀ l rec, g'.lp[l]? = some rec → (g.lp[l]? = some rec ∧ (h.ro l).1 ≠ L ∧ ∀ n, YG g rec.dp n → YG g' rec.dp n) ∨ LoopOk g' (w.putObj L (.loop r')) h l rec) : GI g' (w.putObj L (.loop r')) h := by
 have hC : ∀ (b : Nat) (c : Array Value) (e : TypeId), w.heap[b]? = some (.cells c e (0, 0)) → (w.putObj L (.loop r')).heap[b]? = some (.cells c e (0, 0)) := fun b c e hb => by
  rw [putObj_other (by rintro rfl; rw [hb] at hL; cases hL), hb]
 have hE := ext_putObj (r' := r') hL h.L
 have hga : ∀ i b, h.ga i = some b → (w.putObj L (.loop r')).heap[b]? = w.heap[b]? := fun i b hi => by
  obtain ⟨c, e, hc⟩ := hg.gaC i b hi
  rw [hC b c e hc, hc]
 have hK : ∀ n d t, KG g n d t → KG g' n d t := fun n d t hk => ⟨hk.1, by rw [hbx]; exact hk.2⟩
 have hsz : (w.putObj L (.loop r')).heap.size = w.heap.size := by simp [World.putObj]
 refine { bx := ?_, inj := ?_, gaBx := ?_, gaInj := hg.gaInj, gaLt := ?_, gaC := ?_, lim := ?_, lp := ?_, roInj := ?_, gaTop := ?_ }
 ·intro d t bo hb
  rw [hbx] at hb
  obtain ⟨h1, h2, b', c, e, h3, h4, h5, h6, h7⟩ := hg.bx d t bo hb
  exact ⟨by rw [hdp]; exact h1, AV.oks.mono (fun _ h => h) (fun d t hk => hK _ d t hk) (fun l hl => hY d l h1 hl) _ h2, b', c, e, h3, hC _ _ _ h4, RepBx.world hE hga _ _ h5, h6, h7⟩
 ·intro d t d' t' b q1 q2
  rw [hbx] at q1 q2
  exact hg.inj d t d' t' b q1 q2
 ·intro i b d t q1 q2
  rw [hbx] at q2
  exact hg.gaBx i b d t q1 q2
 ·intro i b hi
  rw [hsz]; exact hg.gaLt i b hi
 ·intro i b hi
  obtain ⟨c, e, hc⟩ := hg.gaC i b hi
  exact ⟨c, e, hC b c e hc⟩
 ·intro b hb
  rw [hsz] at hb; exact hg.lim b hb
 ·intro l rec hl
  rcases hlp l rec hl with ⟨q1, q2, q3⟩ | hok
  ·obtain ⟨hp, D, tmps, h1, h2, h3, h4⟩ := hg.lp l rec q1
   refine ⟨⟨hp.1, by rw [hdp]; exact hp.2.1, hp.2.2⟩, D, tmps, ?_, ?_, h3, fun t v hv => ?_⟩
   ·rw [putObj_other q2, h1]
   ·rw [putObj_other (by rintro rfl; rw [h2] at hL; cases hL), h2]
   ·obtain ⟨h5, h6⟩ := h4 t v hv
    exact ⟨RepA.world hE hga _ _ h5, AV.ok.mono (fun _ h => h) (fun d t hk => hK _ d t hk) q3 _ h6⟩
  ·exact hok
 ·intro l l' hl hl' he
  exact hg.roInj l l' (by omega) (by omega) he
 ·intro d t j hd
  rw [hdp] at hd
  exact hg.gaTop d t j hd
theorem Rel.putLoop {g g' : G} {w : World} {h : Gh} (hr : Rel g0 h0 w0 g w h) {L : Nat} {r r' : Loop} (hL : w.heap[L]? = some (.loop r)) (hmay : w0.heap.size ≤ L ∨ May g0 h0 L) (hbx : g'.bx = g.bx)
  (hlen : g'.lp.length ≤ g.lp.length) (hlen0 : g0.lp.length ≤ g'.lp.length) : Rel g0 h0 w0 g' (w.putObj L (.loop r')) h where
 os := hr.os
 tape := hr.tape
 output := hr.output
 size := by simp [World.putObj]; exact hr.size
 ext := hr.ext.trans (ext_putObj hL h.L)
 keep := fun b hb hm => by
  obtain ⟨a1, a2⟩ := hr.keep b hb hm
  refine ⟨?_, a2⟩
  rw [putObj_other, a1]
  rintro rfl
  rcases hmay with h2 | h2
  ·omega
  ·exact hm h2
 bxs := fun d t hs => by rw [hbx]; exact hr.bxs d t hs
 ro := hr.ro
 ga := hr.ga
 bxMay := fun d t b hs hb => hr.bxMay d t b (by rw [← hbx]; exact hs) hb
 gaMay := hr.gaMay
 lpMay := fun l hl => hr.lpMay l (by omega)
 lpLen := hlen0
theorem enter_loop {F : Fence} {w : World} (fn : FuncId) (tmps : Array Value) (ps : Array Tmp) (assign body : Code)
  (hin : ∀ l, F.round = some l → ∃ r D, w.heap[l]? = some (.loop r) ∧ r.defers = D ∧ w.heap[D]? = some (.deferred (some []))) :
  ∃ L mark w1 D, (Instr.enterLoop fn tmps ps assign body F.round).run P w = .ok (L, mark) w1 ∧ RowKit.Below w.heap.size w w1 ∧ w.heap.size ≤ L ∧
   w1.heap[L]? = some (.loop { state := .ready, pending := none, fn, tmps, params := ps, assign, body, defers := D }) ∧ w1.heap[D]? = some (.deferred (some [])) ∧
   (mark = [] ∨ mark = [{ target := .collected D, args := #[] }] ∧ w.heap.size ≤ D) := by
 cases hr : F.round with
 | none =>
  refine ⟨_, _, _, w.heap.size, run_enterLoop_outer _ _ _ _ _, (below_alloc w _).trans (((RowKit.Below.refl _ _).alloc (by simp) _)), by omega, ?_, ?_, .inr ⟨rfl, Nat.le_refl _⟩⟩
  ·have := heap_new (w.alloc (.deferred (some []))) (.loop { state := .ready, pending := none, fn, tmps, params := ps, assign, body, defers := w.heap.size })
   rwa [World.size_alloc] at this
  ·rw [(below_alloc (w.alloc (.deferred (some []))) _).block w.heap.size (by simp), heap_new]
 | some l =>
  obtain ⟨r, D, h1, h2, h3⟩ := hin l hr
  refine ⟨_, _, _, D, run_enterLoop_inner h1 _ _ _ _ _, below_alloc w _, Nat.le_refl _, ?_, ?_, .inl rfl⟩
  ·rw [heap_new, h2]
  ·rw [(below_alloc w _).block D (lt_of_heap h3), h3]
end
end Go.Abs
namespace Go.Abs
open Go
set_option linter.unusedVariables false
set_option linter.unusedSimpArgs false
set_option linter.unnecessarySimpa false
set_option linter.unusedSectionVars false
variable [Tabs]
section
variable {P : Program} {T : Nat → Option TI} {g0 : G} {h0 : Gh} {w0 : World} {nt : Nat}
def ExQ (Q : Exit → Act → World → Prop) (a : Act) (w : World) (h : Gh) : Ex → Prop
 | .normal => Q .normal a w
 | .exit id => Q (.exit id) a w
 | .goto l => Q (.goto l) a w
 | .ret => Q .ret a w
 | .panic x => ∀ v, RepV w h.L x v → Q (.panic [{ v, recovered := false }]) a w
def ExOk {R : Type} (k : Ex → St → Option R) (r : R) (nt : Nat) (g0 : G) (h0 : Gh) (w0 : World) (Q : Exit → Act → World → Prop) : Prop :=
 ∀ ex s' a' w' h', SI nt g0 h0 w0 s' a' w' h' → k ex s' = some r → ExQ Q a' w' h' ex
theorem ExOk.next {R : Type} {k : Ex → St → Option R} {r : R} {Q : Exit → Act → World → Prop} (h : ExOk k r nt g0 h0 w0 Q) : NextOk k r nt g0 h0 w0 (Q .normal) Q :=
 ⟨fun s' a' w' h' hsi hk => h .normal s' a' w' h' hsi hk, fun x s' a' w' h' v hsi hv hk => h (.panic x) s' a' w' h' hsi hk v hv⟩
def FR (F : Fence) (g0 : G) (h0 : Gh) : Prop := F = Fence.wide ∨ ∃ l, l < g0.lp.length ∧ F = Fence.wide.inRound (h0.ro l).1
theorem FR.isF {F : Fence} (h : FR F g0 h0) : IsF F := by
 rcases h with rfl | ⟨l, _, rfl⟩
 ·exact .inl rfl
 ·exact .inr ⟨_, rfl⟩
theorem range_sound (hflat : h0.flat = false) {R : Type} [Same R] {cx : Cx R} (hnt : cx.nt = nt) (hE : ESound P cx.E) {F : Fence} (hF : FR F g0 h0) {f : Operand} {params : Array Tmp} {assign body : Code} {s : St} {k : Ex → St → Option R} {r : R}
  (hs : exec cx (.rangeFunc f params assign body) s k = some r) (hca : codeOk cx.hint assign = true) (hcb : codeOk cx.hint body = true) {a : Act} {w : World} {h : Gh} (hsi : SI nt g0 h0 w0 s a w h)
  {Q : Exit → Act → World → Prop} (hk : ExOk k r nt g0 h0 w0 Q) : (Code.rangeFunc f params assign body).wpIn F 0 P Q a w := by
 have hlen : s.g.lp.length = g0.lp.length := by
  have := congrArg List.length hsi.lps
  simpa using this
 refine wpIn_rangeFunc fun fn _ => ?_
 obtain ⟨L, mark, w1, D, hent, hb, hL, hl1, hd1, hmark⟩ := enter_loop (P := P) (F := F) (w := w) fn a.tmps params assign body (by
  intro l hl
  rcases hF with rfl | ⟨l0, hl0, rfl⟩
  ·cases hl
  ·cases hl
   obtain ⟨r0, hr0⟩ : ∃ r0, s.g.lp[l0]? = some r0 := ⟨_, List.getElem?_eq_getElem (by rw [hlen]; exact hl0)⟩
   obtain ⟨_, D, q, h1, h2, h3, _⟩ := hsi.fi.gi.lp l0 r0 hr0
   rw [hsi.rel.ro l0 hl0] at h1
   exact ⟨_, D, h1, rfl, h2⟩)
 obtain ⟨rec, hrec⟩ : ∃ rec : LoopRec, rec = { fid := cx.fid, dp := s.g.dp, nt := cx.nt, hint := cx.hint, tm := mapTm demAll s.tm, params := params.toList, assign, body, pend := none } := ⟨_, rfl⟩
 obtain ⟨g1, hg1⟩ : ∃ g1 : G, g1 = { s.g with lp := s.g.lp ++ [rec] } := ⟨_, rfl⟩
 obtain ⟨h1, hh1⟩ : ∃ h1 : Gh, h1 = { h with ro := fun l => if l = s.g.lp.length then (L, D) else h.ro l } := ⟨_, rfl⟩
 have hrold : ∀ l, l < s.g.lp.length → h1.ro l = h.ro l := fun l hl => by rw [hh1]; show (if l = _ then _ else _) = _; rw [if_neg (by omega)]
 have hrnew : h1.ro s.g.lp.length = (L, D) := by rw [hh1]; show (if _ = _ then _ else _) = _; rw [if_pos rfl]
 have hlold : ∀ l r, s.g.lp[l]? = some r → (h.ro l).1 < w.heap.size := fun l r hr => by
  obtain ⟨_, D, q, h1, _⟩ := hsi.fi.gi.lp l r hr
  exact lt_of_heap h1
 have lget : ∀ l r, g1.lp[l]? = some r → s.g.lp[l]? = some r ∨ l = s.g.lp.length ∧ r = rec := by
  intro l r hr
  rw [hg1] at hr
  simp only at hr
  by_cases hlt : l < s.g.lp.length
  ·rw [List.getElem?_append_left hlt] at hr; exact .inl hr
  ·rw [List.getElem?_append_right (by omega)] at hr
   have : l - s.g.lp.length = 0 := by
    by_cases h0 : l - s.g.lp.length = 0
    ·exact h0
    ·have : ([rec] : List LoopRec)[l - s.g.lp.length]? = none := by
      apply List.getElem?_eq_none; simp; omega
     rw [this] at hr; cases hr
   rw [this] at hr
   simp at hr
   exact .inr ⟨by omega, hr.symm⟩
 have yup : ∀ n l, YG s.g n l → YG g1 n l := by
  rintro n l ⟨r', q1, q2⟩
  refine ⟨r', ?_, q2⟩
  rw [hg1]
  show (s.g.lp ++ [rec])[l]? = some r'
  rw [List.getElem?_append_left (List.getElem?_eq_some_iff.1 q1).1, q1]
 have hGs : GI s.g w1 h1 := by
  refine hsi.fi.gi.grow hb (fun b _ => by rw [hh1]) (fun b hb' => ?_) (fun d t _ => by rw [hh1]) hrold (fun i _ => by rw [hh1]) ?_ ?_ ?_ ?_
  ·rw [hh1]; exact hsi.fi.gi.lim b (Nat.le_trans hb.size hb')
  ·rw [hh1]; exact hsi.fi.gi.gaBx
  ·rw [hh1]; exact hsi.fi.gi.gaInj
  ·intro i b hi
   rw [hh1] at hi
   obtain ⟨c, e, hc⟩ := hsi.fi.gi.gaC i b hi
   exact ⟨c, e, by rw [hb.block b (lt_of_heap hc), hc]⟩
  ·rw [hh1]; exact hsi.fi.gi.gaTop
 have ftm := hsi.fi.tm_grow (h' := h1) hb (fun b _ => by rw [hh1]) (fun d t _ => by rw [hh1]) hrold (fun i _ => by rw [hh1])
 have hG1 : GI g1 w1 h1 := by
  have hbx : g1.bx = s.g.bx := by rw [hg1]
  have hdp : g1.dp = s.g.dp := by rw [hg1]
  have hK : ∀ n d t, KG s.g n d t → KG g1 n d t := fun n d t hk => ⟨hk.1, by rw [hbx]; exact hk.2⟩
  refine { bx := ?_, inj := ?_, gaBx := ?_, gaInj := hGs.gaInj, gaLt := hGs.gaLt, gaC := hGs.gaC, lim := hGs.lim, lp := ?_, roInj := ?_, gaTop := ?_ }
  ·intro d t bo hbo
   rw [hbx] at hbo
   obtain ⟨q1, q2, rest⟩ := hGs.bx d t bo hbo
   exact ⟨by rw [hdp]; exact q1, AV.oks.mono (fun _ h => h) (fun d t hk => hK _ d t hk) (fun l hl => yup _ l hl) _ q2, rest⟩
  ·intro d t d' t' b q1 q2
   rw [hbx] at q1 q2
   exact hGs.inj d t d' t' b q1 q2
  ·intro i b d t q1 q2
   rw [hbx] at q2
   exact hGs.gaBx i b d t q1 q2
  ·intro l rr hl
   rcases lget l rr hl with hl | ⟨e1, e2⟩
   ·obtain ⟨hp, D, q, q1, q2, q3, q4⟩ := hGs.lp l rr hl
    exact ⟨⟨hp.1, by rw [hdp]; exact hp.2.1, hp.2.2⟩, D, q, q1, q2, q3, fun t v hv => ⟨(q4 t v hv).1, AV.ok.mono (fun _ h => h) (fun d t hk => hK _ d t hk) (fun l hl => yup _ l hl) _ (q4 t v hv).2⟩⟩
   ·rw [e1, e2]
    refine ⟨⟨(by rw [hrec]; intro e he; cases he), by rw [hrec, hdp]; exact Nat.le_refl _, by rw [hrec]; exact ⟨hca, hcb⟩⟩, D, (a.tmps, fn), ?_, hd1, ⟨by rw [hrec, hnt]; exact hsi.fi.size, by rw [hrnew]⟩, ?_⟩
    ·rw [hrnew]
     show w1.heap[L]? = _
     rw [hl1, hrec]
     simp [loopObj]
    ·intro t v hv
     rw [hrec] at hv
     obtain ⟨u, hu, rfl⟩ := mapTm_some hv
     obtain ⟨q1, q2⟩ := ftm t u hu
     refine ⟨RepA.demAll _ _ q1, ?_⟩
     rw [hrec]
     exact AV.ok.mono (fun _ h => h) (fun d t hk => hK _ d t hk) (fun l hl => yup _ l hl) _ (AV.ok.demAll (Q' := NoId) _ q2)
  ·intro l l' hl hl' he
   have hsz : g1.lp.length = s.g.lp.length + 1 := by rw [hg1]; simp
   by_cases e1 : l = s.g.lp.length <;> by_cases e2 : l' = s.g.lp.length
   ·omega
   ·exfalso
    have := hlold l' _ (List.getElem?_eq_getElem (by omega))
    rw [e1, hrnew, hrold l' (by omega)] at he
    simp only at he
    omega
   ·exfalso
    have := hlold l _ (List.getElem?_eq_getElem (by omega))
    rw [e2, hrnew, hrold l (by omega)] at he
    simp only at he
    omega
   ·exact hGs.roInj l l' (by omega) (by omega) he
  ·intro d t j hd
   rw [hdp] at hd
   exact hGs.gaTop d t j hd
 have hr1 : Rel g0 h0 w0 g1 w1 h1 := by
  have hbx : g1.bx = s.g.bx := by rw [hg1]
  refine hsi.rel.grow hsi.fi.gi hb (fun b _ => by rw [hh1]) (fun d t _ hs => ⟨by rw [hbx]; exact hs, by rw [hh1]⟩) (fun l hl => hrold l (by omega)) (fun d t j _ => by rw [hh1])
   (fun d t b hs hb' => .inr ⟨d, t, by rw [← hbx]; exact hs, by rw [hh1] at hb'; exact hb'⟩) (fun i b hi => .inr (by rw [hh1] at hi; exact hi)) ?_ ?_
  ·intro l hl
   have hsz : g1.lp.length = s.g.lp.length + 1 := by rw [hg1]; simp
   by_cases e1 : l = s.g.lp.length
   ·rw [e1, hrnew]; exact .inl hL
   ·exact .inr ⟨by omega, hrold l (by omega)⟩
  ·rw [hg1]; simp
 have after : ∀ (done : Out → G → Option R), (∀ out g, done out g = (match out with
   | .ret _ => match g.lp[s.g.lp.length]? with
    | some r => match r.pend with
     | some .normal => none
     | none => k .normal { tm := mapTm demAll s.tm, fr := fun _ => false, g := { g with lp := g.lp.take s.g.lp.length } }
     | some e => k e { tm := mapTm demAll s.tm, fr := fun _ => false, g := { g with lp := g.lp.take s.g.lp.length } }
    | none => none
   | .pan _ => none)) → ∀ e w', CallQ done r g1 h1 w1 e w' → rangePost F 0 P L Q { a with defers := mark ++ a.defers } e w' := by
  intro done hdone e w' hq
  obtain ⟨out, g', h', hm, hG, hR, hdp, hlp, hb'⟩ := hq
  rw [hdone] at hb'
  cases out with
  | pan x => cases hb'
  | ret rs =>
   cases e with
   | panicked _ => exact hm.elim
   | outgrown => exact hm.elim
   | returned v =>
    simp only at hb'
    cases hrl : g'.lp[s.g.lp.length]? with
    | none => simp [hrl] at hb'
    | some rl =>
     simp only [hrl] at hb'
     obtain ⟨hpd, D', q, q1, q2, q3, q4⟩ := hG.lp _ rl hrl
     have hlen1 : s.g.lp.length < g1.lp.length := by rw [hg1]; simp
     have hro : h'.ro s.g.lp.length = (L, D) := by rw [hR.ro _ hlen1, hrnew]
     rw [hro] at q1 q3
     simp only at q1 q3
     have hD' : D' = D := q3.2
     subst hD'
     have hlpe : g'.lp.map LoopRec.dp = s.g.lp.map LoopRec.dp ++ [s.g.dp] := by rw [hlp, hg1, hrec]; simp
     have hlen' : g'.lp.length = s.g.lp.length + 1 := by
      have := congrArg List.length hlpe
      simpa using this
     have fin : ∀ r' : Loop, SI nt g0 h0 w0 { tm := mapTm demAll s.tm, fr := fun _ => false, g := { g' with lp := g'.lp.take s.g.lp.length } } { a with defers := mark ++ a.defers } (w'.putObj L (.loop r')) h' := by
      intro r'
      have hlps : (g'.lp.take s.g.lp.length).map LoopRec.dp = s.g.lp.map LoopRec.dp := by
       rw [List.map_take, hlpe]
       rw [List.take_append_of_le_length (by simp), List.take_of_length_le (by simp)]
      have r2 : Rel g0 h0 w0 g' w' h' := hr1.call hR (by rw [hg1]; exact Nat.le_of_lt hsi.hdp)
      have hdp' : g'.dp = s.g.dp := by rw [hdp, hg1]
      have hdpl : rl.dp = s.g.dp := by
       have h3 : (g'.lp.map LoopRec.dp)[s.g.lp.length]? = some rl.dp := by simp [hrl]
       rw [hlpe, List.getElem?_append_right (by simp)] at h3
       simpa using h3.symm
      have ydown : ∀ d l, d ≤ s.g.dp → YG g' d l → YG { g' with lp := g'.lp.take s.g.lp.length } d l := by
       rintro d l hd ⟨r1, y1, y2⟩
       refine ⟨r1, ?_, y2⟩
       show (g'.lp.take s.g.lp.length)[l]? = some r1
       rw [List.getElem?_take]
       have hlt : l < g'.lp.length := (List.getElem?_eq_some_iff.1 y1).1
       by_cases he : l = s.g.lp.length
       ·rw [he, hrl] at y1; cases y1; omega
       ·rw [if_pos (by omega)]; exact y1
      have hGI : GI { g' with lp := g'.lp.take s.g.lp.length } (w'.putObj L (.loop r')) h' := by
       refine hG.putLoop q1 rfl rfl (fun d l hd => ydown d l (by rw [← hdp']; exact hd)) (by simp; omega) ?_
       intro l rec' hl
       have hl' : (g'.lp.take s.g.lp.length)[l]? = some rec' := hl
       rw [List.getElem?_take] at hl'
       split at hl'
       ·rename_i hlt
        refine .inl ⟨hl', ?_, ?_⟩
        ·intro he
         have := hG.roInj l s.g.lp.length (by omega) (by omega) (by rw [he, hro])
         omega
        ·intro n hn
         obtain ⟨hp', _⟩ := hG.lp l rec' hl'
         exact ydown _ n (by rw [← hdp']; exact hp'.2.1) hn
       ·cases hl'
      have hLm : w0.heap.size ≤ L ∨ May g0 h0 L := .inl (Nat.le_trans hsi.rel.size hL)
      have hRl : Rel g0 h0 w0 { g' with lp := g'.lp.take s.g.lp.length } (w'.putObj L (.loop r')) h' :=
       r2.putLoop q1 hLm rfl (by simp; omega) (by simp; omega)
      have hEx : Ext w1 h1.L (w'.putObj L (.loop r')) h'.L := hR.ext.trans (ext_putObj q1 h'.L)
      have hdef : ∀ X : Nat, w.heap[X]? = some (Obj.deferred (some [])) → (w'.putObj L (.loop r')).heap[X]? = some (Obj.deferred (some [])) := by
       intro X hX
       have hX1 : w1.heap[X]? = some (Obj.deferred (some [])) := by rw [hb.block X (lt_of_heap hX), hX]
       have hX' : w'.heap[X]? = some (Obj.deferred (some [])) := by rw [(hR.keep X (lt_of_heap hX1) (not_may_def hG1 hX1)).1, hX1]
       rw [putObj_other (by rintro rfl; rw [hX'] at q1; cases q1), hX']
      refine ⟨⟨hsi.fi.size, ?_, hGI, ?_⟩, hRl, ?_, ?_, ?_, ?_, hsi.lpd, hsi.bxd⟩
      ·intro t v hv
       obtain ⟨u, hu, rfl⟩ := mapTm_some hv
       obtain ⟨u1, u2⟩ := ftm t u hu
       have u3 := AV.ok.demAll (Q' := NoId) u u2
       have hbs : ∀ d t, (s.g.bx d t).isSome = true → (g'.bx d t).isSome = true ∧ h'.be d t = h1.be d t := fun d t hs => hR.bxs d t (by rw [hg1]; exact hs)
       refine ⟨RepA.ext hEx (fun d t b hk hb => by rw [(hbs d t hk.2).2]; exact hb) (fun l hl => hR.ro l (by have := hl.lt; omega)) (fun _ _ h => h.elim) _ _ u3 (RepA.demAll _ _ u1), ?_⟩
       refine AV.ok.mono (fun _ h => h.elim) (fun d t hk => ⟨by show d ≤ g'.dp; rw [hdp']; exact hk.1, (hbs d t hk.2).1⟩) (fun l hl => ?_) _ u3
       show YG { g' with lp := g'.lp.take s.g.lp.length } g'.dp l
       rw [hdp']
       exact YG.lps (g := s.g) (g' := { g' with lp := g'.lp.take s.g.lp.length }) hlps hl
      ·intro x hx
       simp only [List.mem_append] at hx
       rcases hx with hx | hx
       ·rcases hmark with rfl | ⟨rfl, _⟩
        ·cases hx
        ·simp only [List.mem_singleton] at hx
         subst hx
         intro X hX
         simp only [Deferred.mk.injEq, Target.collected.injEq, and_true] at hX
         subst hX
         rw [putObj_other (by rintro rfl; rw [q2] at q1; cases q1)]; exact q2
       ·exact fun X x1 => hdef X (hsi.fi.dfr x hx X x1)
      ·show g'.dp = _
       rw [hdp']; exact hsi.dp
      ·show (g'.lp.take s.g.lp.length).map LoopRec.dp = _
       rw [hlps]; exact hsi.lps
      ·rcases hmark with rfl | ⟨rfl, hD⟩
       ·simpa using hsi.nd
       ·obtain ⟨m1, ms, m2, m3, m4, m5⟩ := hsi.nd
        refine ⟨m1, { target := .collected D', args := #[] } :: ms, by simp [m2], ?_, ?_, fun hfl => by rw [hflat] at hfl; cases hfl⟩
        ·rw [List.nodup_cons]
         refine ⟨fun hx => ?_, m3⟩
         have x2 := hsi.fi.dfr _ (by rw [m2]; exact List.mem_append_left _ hx) D' rfl
         have := lt_of_heap x2
         omega
        ·intro x hx
         rcases List.mem_cons.1 hx with rfl | hx
         ·exact ⟨_, rfl⟩
         ·exact m4 x hx
      ·intro x hx X hX
       simp only [List.mem_append] at hx
       rcases hx with hx | hx
       ·rcases hmark with rfl | ⟨rfl, hD⟩
        ·cases hx
        ·simp only [List.mem_singleton] at hx
         subst hx
         simp only [Target.collected.injEq] at hX
         have := hsi.rel.size
         omega
       ·exact hsi.dnew x hx X hX
     cases hpe : rl.pend with
     | none =>
      simp only [hpe] at hb'
      have hend := run_endLoop (P := P) q1 (by simp [loopObj, hpe])
      refine ⟨_, _, hend, ?_⟩
      simp only [loopObj, hpe]
      exact hk .normal _ _ _ h' (fin _) hb'
     | some ex =>
      simp only [hpe] at hb'
      have hnn : ex ≠ .normal := by
       rintro rfl
       simp at hb'
      have hend := run_endLoop (P := P) q1 (by
       simp only [loopObj, hpe]
       cases ex <;> simp_all)
      refine ⟨_, _, hend, ?_⟩
      have hex := (hpd.1 ex hpe).resolve_left hnn
      cases ex with
      | normal => exact absurd rfl hnn
      | panic x => simp [exCode] at hex
      | exit id =>
       simp only [loopObj, hpe, exCode]
       exact wpIn_exit (hk (.exit id) _ _ _ h' (fin _) hb')
      | goto l =>
       simp only [loopObj, hpe, exCode]
       exact wpIn_goto (hk (.goto l) _ _ _ h' (fin _) hb')
      | ret =>
       simp only [loopObj, hpe, exCode]
       exact wpIn_ret (hk .ret _ _ _ h' (fin _) hb')
 have call : ∀ (fn' : Fn) (caps : List AV) (cv : Array Value) (done : Out → G → Option R), a.eval f = .func fn' #[] cv → RepAs w1 h1 caps cv.toList → AV.oks NoId (KG s.g s.g.dp) (YG s.g s.g.dp) caps →
   cx.E (.fn fn') (.yld s.g.lp.length :: caps) g1 done = some r → (∀ e w', CallQ done r g1 h1 w1 e w' → rangePost F 0 P L Q { a with defers := mark ++ a.defers } e w') →
   ∃ (l : Nat) (mark : List Deferred) (w₁ : World) (d : Deferred) (w₁' : World) (f' : FuncId) (args : Array Value) (w₂ : World),
   (Instr.enterLoop fn a.tmps params assign body F.round).run P w = .ok (l, mark) w₁ ∧
   (resolve a.eval (rangeCall f l) 0).run P w₁ = .ok d w₁' ∧
   (∀ f', Target.leads P w₁' d.target d.args = some f' → F.fn f') ∧
   (invoke d.target d.args).run P w₁' = .ok (.enter f' args) w₂ ∧
   (F.depth.isSome = true → 1 ≤ 0) ∧
   CallsIn F (0 - 1) P f' args w₂ (rangePost F 0 P l Q { a with defers := mark ++ a.defers }) := by
  intro fn' caps cv done hv hcr hco hrun hpost
  have hbx : g1.bx = s.g.bx := by rw [hg1]
  have hdp : g1.dp = s.g.dp := by rw [hg1]
  have := hE _ _ _ _ _ hrun w1 h1 (.func (.yield L) #[] #[] :: cv.toList) hG1 (by
   simp only [RepAs, RepA]
   exact ⟨_, _, rfl, by rw [hrnew], hcr⟩) (by
   simp only [AV.oks, AV.ok]
   refine ⟨⟨rec, ?_, ?_⟩, ?_⟩
   ·rw [hg1]; simp
   ·rw [hrec, hdp]; simp
   ·exact AV.oks.mono (fun _ h => h) (fun d t hk => ⟨by rw [hdp]; exact hk.1, by rw [hbx]; exact hk.2⟩) (fun l hl => by
     obtain ⟨r', y1, y2⟩ := yup _ l hl
     exact ⟨r', y1, by rw [hdp]; omega⟩) _ hco) (hsi.bxd.2.rel hr1)
  cases fn' with
  | func f' =>
   obtain ⟨hok, hcall⟩ := this
   refine ⟨L, mark, w1, { target := .fn (.func f') cv, args := #[] ++ #[.func (.yield L) #[] #[]] }, w1, f', (.func (.yield L) #[] #[] :: cv.toList).toArray, w1, hent, ?_, fun f' _ => hF.isF.fn f', ?_, hF.isF.depth, hF.isF.calls (hcall.mono hpost)⟩
   ·simp only [resolve, hv]
    simp [Deferred.ofValue, Act.eval]
   ·have := hok.run (#[.func (.yield L) #[] #[]] ++ cv) w1
    have he : (Value.func (.yield L) #[] #[] :: cv.toList).toArray = #[.func (.yield L) #[] #[]] ++ cv := by apply Array.ext'; simp
    rw [he]
    simpa [invoke] using this
  | _ => exact this.elim
 unfold exec at hs
 cases hf : ev s.tm f with
 | none => simp [hf] at hs
 | some av =>
  simp only [hf] at hs
  have f1 : FI nt s a w1 h1 := ⟨hsi.fi.size, ftm, hGs, dfr_grow hsi.fi.dfr hb⟩
  have hfv := ev_rep (Tms.of f1) hf
  have hfo := ev_ok (fun t v hv => (f1.tm t v hv).2) hf
  have hge : enterRange cx (mapTm demAll s.tm) s params.toList assign body = g1 := by rw [hg1, hrec]; rfl
  rw [hge] at hs
  cases av with
  | d x =>
   cases x with
   | fn fn' caps =>
    simp only [RepA, RepV] at hfv
    obtain ⟨cv, hv, hcr⟩ := hfv
    exact call fn' (caps.map .d) cv _ hv (RepAs.of_d hcr) (oks_d caps) hs (after _ (fun out g => by cases out <;> rfl))
   | _ => simp at hs
  | fn fn' caps =>
   simp only [RepA, AV.ok] at hfv hfo
   obtain ⟨cv, hv, hcr⟩ := hfv
   exact call fn' caps cv _ hv hcr hfo hs (after _ (fun out g => by cases out <;> rfl))
  | _ => simp at hs
end
end Go.Abs
