/- The end of a function. -/
import Derived.Test.YtehkgiofchmpaaaDoorAbsExec
namespace Go.Abs
open Go
set_option linter.unusedVariables false
set_option linter.unusedSimpArgs false
set_option linter.unnecessarySimpa false

section
variable {P : Program} {g0 : G} {h0 : Gh} {w0 : World} {nt : Nat}

/-! ### Marks -/
theorem ext_putDef {w : World} {D : Nat} {x y : Option (List Deferred)} (hD : w.heap[D]? = some (.deferred x)) (X : Nat → Nat) : Ext w X (w.putObj D (.deferred y)) X := by
  refine ⟨fun _ => Nat.le_refl _, fun b i _ => ?_⟩
  by_cases hb : b = D
  · subst hb
    simp only [World.cell?, putObj_same hD, hD]
  · simp only [World.cell?, putObj_other hb]

theorem Marks.tail {df : List Deferred} {fl : Bool} {D : Nat} {ds : List Deferred} (h : Marks df fl ({ target := .collected D, args := #[] } :: ds)) : Marks df fl ds ∧ ({ target := .collected D, args := #[] } : Deferred) ∉ ds := by
  obtain ⟨h1, ms, h2, h3, h4, h5⟩ := h
  cases ms with
  | nil =>
    have : ({ target := .collected D, args := #[] } : Deferred) ∈ df := by
      have h2 : _ = df := h2
      rw [← h2]; exact List.mem_cons_self
    exact absurd rfl (h1 _ this D)
  | cons m ms =>
    simp only [List.cons_append, List.cons.injEq] at h2
    obtain ⟨rfl, rfl⟩ := h2
    rw [List.nodup_cons] at h3
    refine ⟨⟨h1, ms, rfl, h3.2, fun x hx => h4 x (List.mem_cons_of_mem _ hx), fun hf => by cases h5 hf⟩, fun hm => ?_⟩
    rcases List.mem_append.1 hm with hm | hm
    · exact h3.1 hm
    · exact absurd rfl (h1 _ hm D)

theorem SI.shut {s : St} {a : Act} {w : World} {h : Gh} (hrod : ∀ l, l < g0.lp.length → (h0.ro l).2 < w0.heap.size) (hsi : SI nt g0 h0 w0 s a w h) {D : Nat} {ds : List Deferred} (hd : a.defers = { target := .collected D, args := #[] } :: ds) :
    SI nt g0 h0 w0 s { a with defers := ds } (w.putObj D (.deferred none)) h ∧ Ext w h.L (w.putObj D (.deferred none)) h.L ∧ (Instr.takeDeferred D).run P w = .ok [] (w.putObj D (.deferred none)) := by
  have hD := hsi.fi.dfr _ (by rw [hd]; exact List.mem_cons_self) D rfl
  have hnew : w0.heap.size ≤ D := hsi.dnew _ (by rw [hd]; exact List.mem_cons_self) D rfl
  have hE := ext_putDef (y := none) hD h.L
  have hC : ∀ (b : Nat) (c : Array Value) (e : TypeId), w.heap[b]? = some (.cells c e (0, 0)) → (w.putObj D (.deferred none)).heap[b]? = some (.cells c e (0, 0)) := fun b c e hb => by
    rw [putObj_other (by rintro rfl; rw [hb] at hD; cases hD), hb]
  have hga : ∀ i b, h.ga i = some b → (w.putObj D (.deferred none)).heap[b]? = w.heap[b]? := fun i b hi => by
    obtain ⟨c, e, hc⟩ := hsi.fi.gi.gaC i b hi
    rw [hC b c e hc, hc]
  have hlen : s.g.lp.length = g0.lp.length := by
    have := congrArg List.length hsi.lps
    simpa using this
  have hsz : (w.putObj D (.deferred none)).heap.size = w.heap.size := by simp [World.putObj]
  have hnd := hsi.nd
  rw [hd] at hnd
  obtain ⟨hnd2, hnd1⟩ := hnd.tail
  refine ⟨⟨⟨hsi.fi.size, ?_, ?_, ?_⟩, ?_, hsi.dp, hsi.lps, hnd2, ?_, hsi.lpd, hsi.bxd⟩, hE, run_takeDeferred hD⟩
  · intro t v hv
    obtain ⟨h1, h2⟩ := hsi.fi.tm t v hv
    exact ⟨RepA.world hE hga _ _ h1, h2⟩
  · refine { bx := ?_, inj := hsi.fi.gi.inj, gaBx := hsi.fi.gi.gaBx, gaInj := hsi.fi.gi.gaInj, gaLt := ?_, gaC := ?_, lim := ?_, lp := ?_, roInj := hsi.fi.gi.roInj, gaTop := hsi.fi.gi.gaTop }
    · intro d t bo hb
      obtain ⟨h1, h2, b', c, e, h3, h4, h5, h6, h7⟩ := hsi.fi.gi.bx d t bo hb
      exact ⟨h1, h2, b', c, e, h3, hC _ _ _ h4, RepBx.world hE hga _ _ h5, h6, h7⟩
    · intro i b hi
      rw [hsz]; exact hsi.fi.gi.gaLt i b hi
    · intro i b hi
      obtain ⟨c, e, hc⟩ := hsi.fi.gi.gaC i b hi
      exact ⟨c, e, hC b c e hc⟩
    · intro b hb
      rw [hsz] at hb; exact hsi.fi.gi.lim b hb
    · intro l r hl
      obtain ⟨hp, X, q, h1, h2, h3, h4⟩ := hsi.fi.gi.lp l r hl
      have hlt : l < g0.lp.length := by rw [← hlen]; exact (List.getElem?_eq_some_iff.1 hl).1
      refine ⟨hp, X, q, ?_, ?_, h3, fun t v hv => ⟨RepA.world hE hga _ _ (h4 t v hv).1, (h4 t v hv).2⟩⟩
      · rw [putObj_other (by rintro e; rw [e, hD] at h1; cases h1), h1]
      · rw [putObj_other, h2]
        rintro rfl
        have := hrod l hlt
        rw [h3.2, hsi.rel.ro l hlt] at hnew
        omega
  · intro x hxm X x1
    have x2 := hsi.fi.dfr x (by rw [hd]; exact List.mem_cons_of_mem _ hxm) X x1
    rw [putObj_other, x2]
    rintro rfl
    rw [x1] at hxm
    exact hnd1 hxm
  · exact
      { hsi.rel with
        size := by rw [hsz]; exact hsi.rel.size
        ext := hsi.rel.ext.trans hE
        keep := fun b hb hm => by
          obtain ⟨a1, a2⟩ := hsi.rel.keep b hb hm
          exact ⟨by rw [putObj_other (by omega), a1], a2⟩ }
  · intro x hx X hX
    exact hsi.dnew x (by rw [hd]; exact List.mem_cons_of_mem _ hx) X hX

theorem leaves_all {fn : Func} {R : Ending → World → Prop} {u : FrameMode} (hu : u ≠ .run) (hrod : ∀ l, l < g0.lp.length → (h0.ro l).2 < w0.heap.size) {s : St} {h : Gh} {tmps : Array Value} :
    ∀ (ds : List Deferred) {w : World}, SI nt g0 h0 w0 s { tmps, defers := ds } w h → (∀ w', SI nt g0 h0 w0 s { tmps, defers := h0.df } w' h → Ext w h.L w' h.L → LeavesInM Fence.wide 0 P fn tmps R h0.df u w') → LeavesInM Fence.wide 0 P fn tmps R ds u w := by
  intro ds
  induction ds with
  | nil =>
    intro w hsi hfin
    obtain ⟨_, ms, h2, _⟩ := hsi.nd
    have h2 : [] = ms ++ h0.df := h2
    have hdf : h0.df = [] := (List.append_eq_nil_iff.1 h2.symm).2
    have := hfin w (by rw [hdf]; exact hsi) (Ext.refl _ _)
    rw [hdf] at this
    exact this
  | cons d ds ih =>
    intro w hsi hfin
    obtain ⟨h1, ms, h2, h3, h4, h5⟩ := hsi.nd
    cases ms with
    | nil =>
      have h2 : d :: ds = h0.df := h2
      rw [h2] at hsi ⊢
      exact hfin w hsi (Ext.refl _ _)
    | cons m ms =>
      have h2 : d :: ds = m :: (ms ++ h0.df) := h2
      obtain ⟨rfl, rfl⟩ : d = m ∧ ds = ms ++ h0.df := by simpa using h2
      obtain ⟨D, hx⟩ := h4 d List.mem_cons_self
      obtain ⟨q1, q2, q3⟩ := SI.shut (P := P) hrod hsi (D := D) (ds := ms ++ h0.df) (by rw [hx])
      refine ⟨hu, .inl ⟨D, _, by rw [hx], q3, ?_⟩⟩
      exact ih q1 (fun w' h1 h2 => hfin w' h1 (q2.trans h2))

/-! ### Results -/
theorem loadVar_of_loadAt {t : TypeId} {pv u : Value} {w : World} (h : (Instr.loadAt t pv).run P w = .ok u w) : ∃ a, pv = .pointer (some a) ∧ (loadVar t a).run P w = .ok u w := by
  unfold Instr.loadAt at h
  cases pv with
  | pointer a =>
    cases a with
    | none => simp [Instr.sureAddr, asAddr, runtimePanic] at h
    | some a => exact ⟨a, rfl, by simpa [Instr.sureAddr, asAddr] using h⟩
  | _ => simp [Instr.sureAddr, asAddr, stuck] at h

theorem RepA.nrmA {T : Nat → Option TI} {t : Nat} {w : World} {h : Gh} {a : AV} {v : Value} (hr : RepA w h a v) : RepA w h (nrmA T t a) v := by
  cases a with
  | d x => simp only [Go.Abs.nrmA, RepA] at hr ⊢; exact hr.nrmD
  | _ => exact hr
theorem AV.ok.nrmA {T : Nat → Option TI} {t : Nat} {Q : Id → Prop} {K : Nat → Nat → Prop} {Y : Nat → Prop} {a : AV} (ho : a.ok Q K Y) : (nrmA T t a).ok Q K Y := by
  cases a with
  | d x => simp only [Go.Abs.nrmA, AV.ok]
  | _ => exact ho

theorem resVars_sound {T : Nat → Option TI} (hT : TyOk P T) {s : St} {a : Act} {w : World} {h : Gh} (hf : FI nt s a w h) : ∀ (l : List ResultVar) {rs : List AV}, resVars T s l = some rs →
    ∃ vs, RepAs w h rs vs ∧ AV.oks (TmQ s.fr s.g.dp) (KG s.g s.g.dp) (YG s.g s.g.dp) rs ∧
      (l.mapM (m := Sem) fun x => match x with
        | .tmp t => pure (a.tmps.getD t undef)
        | .cell x t => do loadVar t (← asAddr (a.tmps.getD x undef))).run P w = .ok vs w
  | [], rs, hs => by
    simp only [resVars, Option.some.injEq] at hs; subst hs
    exact ⟨[], by simp [RepAs], by simp [AV.oks], by simp⟩
  | .tmp t :: rest, rs, hs => by
    simp only [resVars] at hs
    cases ht : s.tm t with
    | none => simp [ht] at hs
    | some v =>
      cases hr : resVars T s rest with
      | none => simp [ht, hr] at hs
      | some as =>
        simp only [ht, hr, Option.some.injEq] at hs; subst hs
        obtain ⟨vs, q1, q2, q3⟩ := resVars_sound hT hf rest hr
        obtain ⟨p1, p2⟩ := hf.tm t v ht
        refine ⟨a.tmps.getD t undef :: vs, ⟨_, _, rfl, p1, q1⟩, ⟨p2, q2⟩, ?_⟩
        rw [List.mapM_cons]
        simp only [Sem.run_bind, Sem.run_pure, Result.andThen, q3]
  | .cell t ty :: rest, rs, hs => by
    simp only [resVars] at hs
    cases ht : s.tm t with
    | none => simp [ht] at hs
    | some p =>
      cases hl : loadA T s.g.bx ty p with
      | none => simp [ht, hl] at hs
      | some v =>
        cases hr : resVars T s rest with
        | none => simp [ht, hl, hr] at hs
        | some as =>
          simp only [ht, hl, hr, Option.some.injEq] at hs; subst hs
          obtain ⟨vs, q1, q2, q3⟩ := resVars_sound hT hf rest hr
          obtain ⟨p1, p2⟩ := hf.tm t p ht
          obtain ⟨u, hrun, hrep, hok⟩ := loadA_sound hT hf.gi hl p1 (fun i hi => by cases i with
            | tmp _ _ _ => exact hi.elim
            | res _ => exact hi.elim
            | box _ _ _ => trivial) p2 (fun l hl => hl)
          obtain ⟨ad, he, hrun'⟩ := loadVar_of_loadAt hrun
          refine ⟨u :: vs, ⟨_, _, rfl, RepA.nrmA hrep, q1⟩, ⟨AV.ok.nrmA hok, q2⟩, ?_⟩
          have hca : (do loadVar ty (← asAddr (a.tmps.getD t undef)) : Sem Value).run P w = .ok u w := by
            rw [he]; simpa [asAddr] using hrun'
          rw [List.mapM_cons]
          rw [Sem.run_bind, hca]
          simp only [Sem.run_bind, Sem.run_pure, Result.andThen, q3]
end
end Go.Abs
