/- Ranges over functions. -/
import Derived.Test.YtehkgiofchmpaaaDoorAbsHead
import Derived.Scope
import Derived.RangeFuncNested
namespace Go.Abs
open Go
set_option linter.unusedVariables false
set_option linter.unusedSimpArgs false
set_option linter.unnecessarySimpa false

/-! ### A scope through which the run goes without a goto -/
section
variable {P : Program} {F : Fence} {n : Nat} {b : Frame} {a : Act} {k : List Item} {cs : List Frame} {w : World} {Q : Exit → Act → World → Prop}

theorem stepR_scope {c : Code} : step P (lone (b.atR a (.code (.scope c) :: k)) cs w) = .next (lone (b.atR a (.code c :: .inScope c :: k)) cs w) :=
  step_lone_go (by simp [stepG, stepG.exec, Frame.atR])
theorem stepR_inScope {c : Code} : step P (lone (b.atR a (.inScope c :: k)) cs w) = .next (lone (b.atR a k) cs w) :=
  step_lone_go (by simp [stepG, stepG.exec, Frame.atR])

theorem wpIn_scope_straight {c : Code} (h : c.wpIn F n P (Exit.noGoto Q) a w) : (Code.scope c).wpIn F n P Q a w := by
  intro b k cs hro hb hr
  have h0 : (lone (b.atR a (.code (.scope c) :: k)) cs w).fenced P F := fenced_calm hb hr rfl
  obtain ⟨e, a₁, w₁, hq, harr⟩ := h b (.inScope c :: k) cs hro hb hr
  cases e with
  | normal => exact ⟨.normal, a₁, w₁, hq, .head h0 stepR_scope (StepsIn.trans harr (.one (fenced_calm hb hr rfl) stepR_inScope))⟩
  | exit id =>
    have hx : exitTo id (.inScope c :: k) = exitTo id k := by simp [exitTo]
    exact ⟨.exit id, a₁, w₁, hq, fun k' hk => .head h0 stepR_scope (harr.1 k' (by rw [hx]; exact hk)),
      fun hr' hk => let ⟨k₁, h1, h2⟩ := harr.2 hr' (by rw [hx]; exact hk); ⟨k₁, h1, .head h0 stepR_scope h2⟩⟩
  | goto l => exact hq.elim
  | ret => exact ⟨_, a₁, w₁, hq, .of_steps (.one h0 stepR_scope) harr⟩
  | panic ch => exact ⟨_, a₁, w₁, hq, .of_steps (.one h0 stepR_scope) harr⟩
  | outgrown => exact ⟨_, a₁, w₁, hq, .of_steps (.one h0 stepR_scope) harr⟩
end

/-! ### A loop's record turns -/
mutual
  theorem RepA.world {w w' : World} {h : Gh} (hE : Ext w h.L w' h.L) (hga : ∀ i b, h.ga i = some b → w'.heap[b]? = w.heap[b]?) : ∀ (a : AV) (v : Value), RepA w h a v → RepA w' h a v
    | .d x, v, hr => by simp only [RepA] at hr ⊢; exact hr.ext hE
    | .own i sz es, v, hr => by
      simp only [RepA] at hr ⊢
      rcases hr with hr | ⟨b, n, c, vs, cc, e, rfl, hn, hc, hs, hf, hg, hL, hh, hrm, hcells⟩
      · exact .inl (hr.ext hE)
      · have hlen := hf.length hs
        exact .inr ⟨b, n, c, vs, cc, e, rfl, hn, hc, hs, RepF.ext hE es vs hf, hg, hL, by rw [hga i b hg]; exact hh, hrm, hcells.ext hE (by rw [hL, hlen, hn]; omega)⟩
    | .ptr d t off, v, hr => by simpa only [RepA] using hr
    | .fn f caps, v, hr => by
      simp only [RepA] at hr ⊢
      obtain ⟨cv, rfl, hc⟩ := hr
      exact ⟨cv, rfl, RepAs.world hE hga caps _ hc⟩
    | .tup xs, v, hr => by
      simp only [RepA] at hr ⊢
      obtain ⟨cv, rfl, hc⟩ := hr
      exact ⟨cv, rfl, RepAs.world hE hga xs _ hc⟩
    | .yld l, v, hr => by simpa only [RepA] using hr
    | .old _ _ _, v, hr => by simpa only [RepA] using hr
    | .raw o k i sz es, v, hr => hr.raw_map hE fun b hb => ⟨hb, rfl, hga i b hb⟩
  theorem RepAs.world {w w' : World} {h : Gh} (hE : Ext w h.L w' h.L) (hga : ∀ i b, h.ga i = some b → w'.heap[b]? = w.heap[b]?) : ∀ (as : List AV) (vs : List Value), RepAs w h as vs → RepAs w' h as vs
    | [], vs, hr => by simpa only [RepAs] using hr
    | a :: as, vs, hr => by
      simp only [RepAs] at hr ⊢
      obtain ⟨u, us, rfl, h1, h2⟩ := hr
      exact ⟨u, us, rfl, RepA.world hE hga a u h1, RepAs.world hE hga as us h2⟩
end

theorem RepBx.world {w w' : World} {h : Gh} {ty : Nat × Nat} (hE : Ext w h.L w' h.L) (hga : ∀ i b, h.ga i = some b → w'.heap[b]? = w.heap[b]?) (as : List AV) (vs : List Value) (hr : RepBx w h ty as vs) : RepBx w' h ty as vs :=
  ⟨RepAs.world hE hga as vs hr.1, fun ht i sz es v hi hv => (hr.2 ht i sz es v hi hv).imp id fun ⟨b, n, c, cc, h1, h2, h3, h4, h5⟩ => ⟨b, n, c, cc, h1, h2, h3, by rw [hga i b h2, h4], h5⟩⟩

theorem putObj_other {w : World} {l k : Nat} {o : Obj} (h : k ≠ l) : (w.putObj l o).heap[k]? = w.heap[k]? := World.putObj_heap_other h
theorem putObj_same {w : World} {l : Nat} {o o' : Obj} (h : w.heap[l]? = some o) : (w.putObj l o').heap[l]? = some o' := World.putObj_heap_same (lt_of_heap h)

theorem ext_putObj {w : World} {L : Nat} {r r' : Loop} (hL : w.heap[L]? = some (.loop r)) (X : Nat → Nat) : Ext w X (w.putObj L (.loop r')) X := by
  refine ⟨fun _ => Nat.le_refl _, fun b i _ => ?_⟩
  by_cases hb : b = L
  · subst hb
    simp only [World.cell?, putObj_same hL, hL]
  · simp only [World.cell?, putObj_other hb]

section
variable {P : Program} {T : Nat → Option TI} {g0 : G} {h0 : Gh} {w0 : World} {nt : Nat}

theorem GI.putLoop {g g' : G} {w : World} {h : Gh} (hg : GI g w h) {L : Nat} {r r' : Loop} (hL : w.heap[L]? = some (.loop r)) (hbx : g'.bx = g.bx) (hdp : g'.dp = g.dp)
    (hY : ∀ d l, d ≤ g.dp → YG g d l → YG g' d l) (hlen : g'.lp.length ≤ g.lp.length)
    (hlp : ∀ l rec, g'.lp[l]? = some rec → (g.lp[l]? = some rec ∧ (h.ro l).1 ≠ L ∧ ∀ n, YG g rec.dp n → YG g' rec.dp n) ∨ LoopOk g' (w.putObj L (.loop r')) h l rec) : GI g' (w.putObj L (.loop r')) h := by
  have hC : ∀ (b : Nat) (c : Array Value) (e : TypeId), w.heap[b]? = some (.cells c e (0, 0)) → (w.putObj L (.loop r')).heap[b]? = some (.cells c e (0, 0)) := fun b c e hb => by
    rw [putObj_other (by rintro rfl; rw [hb] at hL; cases hL), hb]
  have hE := ext_putObj (r' := r') hL h.L
  have hga : ∀ i b, h.ga i = some b → (w.putObj L (.loop r')).heap[b]? = w.heap[b]? := fun i b hi => by
    obtain ⟨c, e, hc⟩ := hg.gaC i b hi
    rw [hC b c e hc, hc]
  have hK : ∀ n d t, KG g n d t → KG g' n d t := fun n d t hk => ⟨hk.1, by rw [hbx]; exact hk.2⟩
  have hsz : (w.putObj L (.loop r')).heap.size = w.heap.size := by simp [World.putObj]
  refine { bx := ?_, inj := ?_, gaBx := ?_, gaInj := hg.gaInj, gaLt := ?_, gaC := ?_, lim := ?_, lp := ?_, roInj := ?_, gaTop := ?_ }
  · intro d t bo hb
    rw [hbx] at hb
    obtain ⟨h1, h2, b', c, e, h3, h4, h5, h6, h7⟩ := hg.bx d t bo hb
    exact ⟨by rw [hdp]; exact h1, AV.oks.mono (fun _ h => h) (fun d t hk => hK _ d t hk) (fun l hl => hY d l h1 hl) _ h2, b', c, e, h3, hC _ _ _ h4, RepBx.world hE hga _ _ h5, h6, h7⟩
  · intro d t d' t' b q1 q2
    rw [hbx] at q1 q2
    exact hg.inj d t d' t' b q1 q2
  · intro i b d t q1 q2
    rw [hbx] at q2
    exact hg.gaBx i b d t q1 q2
  · intro i b hi
    rw [hsz]; exact hg.gaLt i b hi
  · intro i b hi
    obtain ⟨c, e, hc⟩ := hg.gaC i b hi
    exact ⟨c, e, hC b c e hc⟩
  · intro b hb
    rw [hsz] at hb; exact hg.lim b hb
  · intro l rec hl
    rcases hlp l rec hl with ⟨q1, q2, q3⟩ | hok
    · obtain ⟨hp, D, tmps, h1, h2, h3, h4⟩ := hg.lp l rec q1
      refine ⟨⟨hp.1, by rw [hdp]; exact hp.2.1, hp.2.2⟩, D, tmps, ?_, ?_, h3, fun t v hv => ?_⟩
      · rw [putObj_other q2, h1]
      · rw [putObj_other (by rintro rfl; rw [h2] at hL; cases hL), h2]
      · obtain ⟨h5, h6⟩ := h4 t v hv
        exact ⟨RepA.world hE hga _ _ h5, AV.ok.mono (fun _ h => h) (fun d t hk => hK _ d t hk) q3 _ h6⟩
    · exact hok
  · intro l l' hl hl' he
    exact hg.roInj l l' (by omega) (by omega) he
  · intro d t j hd
    rw [hdp] at hd
    exact hg.gaTop d t j hd

theorem Rel.putLoop {g g' : G} {w : World} {h : Gh} (hr : Rel g0 h0 w0 g w h) {L : Nat} {r r' : Loop} (hL : w.heap[L]? = some (.loop r)) (hmay : w0.heap.size ≤ L ∨ May g0 h0 L) (hbx : g'.bx = g.bx)
    (hlen : g'.lp.length ≤ g.lp.length) (hlen0 : g0.lp.length ≤ g'.lp.length) : Rel g0 h0 w0 g' (w.putObj L (.loop r')) h where
  os := hr.os
  tape := hr.tape
  output := hr.output
  size := by simp [World.putObj]; exact hr.size
  ext := hr.ext.trans (ext_putObj hL h.L)
  keep := fun b hb hm => by
    obtain ⟨a1, a2⟩ := hr.keep b hb hm
    refine ⟨?_, a2⟩
    rw [putObj_other, a1]
    rintro rfl
    rcases hmay with h2 | h2
    · omega
    · exact hm h2
  bxs := fun d t hs => by rw [hbx]; exact hr.bxs d t hs
  ro := hr.ro
  ga := hr.ga
  bxMay := fun d t b hs hb => hr.bxMay d t b (by rw [← hbx]; exact hs) hb
  gaMay := hr.gaMay
  lpMay := fun l hl => hr.lpMay l (by omega)
  lpLen := hlen0

/-! ### Entering the statement -/
theorem enter_loop {F : Fence} {w : World} (fn : FuncId) (tmps : Array Value) (ps : Array Tmp) (assign body : Code)
    (hin : ∀ l, F.round = some l → ∃ r D, w.heap[l]? = some (.loop r) ∧ r.defers = D ∧ w.heap[D]? = some (.deferred (some []))) :
    ∃ L mark w1 D, (Instr.enterLoop fn tmps ps assign body F.round).run P w = .ok (L, mark) w1 ∧ RowKit.Below w.heap.size w w1 ∧ w.heap.size ≤ L ∧
      w1.heap[L]? = some (.loop { state := .ready, pending := none, fn, tmps, params := ps, assign, body, defers := D }) ∧ w1.heap[D]? = some (.deferred (some [])) ∧
      (mark = [] ∨ mark = [{ target := .collected D, args := #[] }] ∧ w.heap.size ≤ D) := by
  cases hr : F.round with
  | none =>
    refine ⟨_, _, _, w.heap.size, run_enterLoop_outer _ _ _ _ _, (below_alloc w _).trans (((RowKit.Below.refl _ _).alloc (by simp) _)), by omega, ?_, ?_, .inr ⟨rfl, Nat.le_refl _⟩⟩
    · have := heap_new (w.alloc (.deferred (some []))) (.loop { state := .ready, pending := none, fn, tmps, params := ps, assign, body, defers := w.heap.size })
      rwa [World.size_alloc] at this
    · rw [(below_alloc (w.alloc (.deferred (some []))) _).block w.heap.size (by simp), heap_new]
  | some l =>
    obtain ⟨r, D, h1, h2, h3⟩ := hin l hr
    refine ⟨_, _, _, D, run_enterLoop_inner h1 _ _ _ _ _, below_alloc w _, Nat.le_refl _, ?_, ?_, .inl rfl⟩
    · rw [heap_new, h2]
    · rw [(below_alloc w _).block D (lt_of_heap h3), h3]
end
end Go.Abs
