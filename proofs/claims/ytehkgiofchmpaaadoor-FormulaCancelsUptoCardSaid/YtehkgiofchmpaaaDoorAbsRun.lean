/- Calls, by the depth of calls: sound. -/
import Derived.Test.YtehkgiofchmpaaaDoorAbsHide
namespace Go.Abs
open Go
set_option linter.unusedVariables false
set_option linter.unusedSimpArgs false
set_option linter.unnecessarySimpa false

/-- A contract proved by hand. -/
def KSound (P : Program) (f : FuncId) (kf : List D → Option Out) : Prop :=
  ∀ ds out, kf ds = some out → ∀ w L vs, (∀ b, w.heap.size ≤ b → L b = 0) → RepVs w L ds vs → FOk P f ∧
    CallsIn Fence.wide 0 P f vs.toArray w (fun e w' => ∃ g' h', OutM g' w' h' out e ∧ OutD out ∧ GI g' w' h' ∧ Rel G0 (H0 L) w g' w' h')

/-- A contract of a call that may turn boxes, proved by hand. -/
def XSound (P : Program) (f : FuncId) (x : List AV → G → Option (Bool × Out × G)) : Prop :=
  ∀ args g out g', x args g = some (true, out, g') → ∀ w h vs, GI g w h → RepAs w h args vs → AV.oks NoId (KG g g.dp) (YG g (g.dp + 1)) args → FOk P f ∧
    CallsIn Fence.wide 0 P f vs.toArray w (fun e w' => ∃ h', OutM g' w' h' out e ∧ GI g' w' h' ∧ Rel g h w g' w' h' ∧ g'.dp = g.dp ∧ g'.lp.map LoopRec.dp = g.lp.map LoopRec.dp)

structure PrOk (P : Program) (p : Pr) : Prop where
  mix : P.follows .mixedOrders = true
  T : TyOk P p.T
  F : ∀ f F, p.F f = some F → P.funcs[f]? = some F ∧ (F.name == "runtime.NumGoroutine") = false
  H : ∀ f F code, p.F f = some F → F.body = some code → codeOk (p.H f) code = true
  K : ∀ f kf, p.K f = some kf → KSound P f kf
  X : ∀ f x, p.X f = some x → XSound P f x := by intro f x h; cases h

section
variable {P : Program} {g0 : G} {h0 : Gh} {w0 : World} {nt : Nat}

/-- Entering a frame. -/
theorem GI.deeper {g : G} {w : World} {h : Gh} (hg : GI g w h) : GI { g with dp := g.dp + 1 } w h where
  bx := fun d t bo hb => by
    obtain ⟨h1, h2⟩ := hg.bx d t bo hb
    exact ⟨Nat.le_succ_of_le h1, h2⟩
  inj := hg.inj
  gaBx := hg.gaBx
  gaInj := hg.gaInj
  gaLt := hg.gaLt
  gaC := hg.gaC
  lim := hg.lim
  lp := fun l r hl => by
    obtain ⟨hp, rest⟩ := hg.lp l r hl
    exact ⟨⟨hp.1, Nat.le_succ_of_le hp.2.1, hp.2.2⟩, rest⟩
  roInj := hg.roInj
  gaTop := fun d t j hd => hg.gaTop d t j (by have hd : g.dp + 1 < d := hd; omega)

theorem Rel.deeper {g : G} {w : World} {h : Gh} (hg : GI g w h) : Rel g h w { g with dp := g.dp + 1 } w h :=
  let r := Rel.refl hg
  { os := r.os, tape := r.tape, output := r.output, size := r.size, ext := r.ext, keep := r.keep, bxs := r.bxs, ro := r.ro, ga := r.ga, bxMay := r.bxMay, gaMay := r.gaMay, lpMay := r.lpMay, lpLen := r.lpLen }

theorem argTm_get : ∀ {as : List AV} {vs : List Value} {t : Nat} {v : AV} {w : World} {h : Gh} {Q : Id → Prop} {K : Nat → Nat → Prop} {Y : Nat → Prop}, RepAs w h as vs → AV.oks Q K Y as → argTm as t = some v → ∃ u, vs[t]? = some u ∧ RepA w h v u ∧ v.ok Q K Y
  | [], vs, t, v, w, h, Q, K, Y, _, _, ht => by simp [argTm] at ht
  | a :: as, vs, t, v, w, h, Q, K, Y, hr, ho, ht => by
    simp only [RepAs, AV.oks] at hr ho
    obtain ⟨u, us, rfl, h1, h2⟩ := hr
    cases t with
    | zero => simp only [argTm, Option.some.injEq] at ht; subst ht; exact ⟨u, rfl, h1, ho.1⟩
    | succ t => simp only [argTm] at ht; simpa using argTm_get h2 ho.2 ht

mutual
  theorem RepA.base {w : World} {h : Gh} (df : List Deferred) (fl : Bool) : ∀ (a : AV) (v : Value), RepA w h a v → RepA w { h with df := df, flat := fl } a v
    | .d _, v, hr => by simpa only [RepA] using hr
    | .own _ _ _, v, hr => by simp only [RepA] at hr ⊢; exact hr
    | .ptr _ _ _, v, hr => by simpa only [RepA] using hr
    | .fn _ caps, v, hr => by
      simp only [RepA] at hr ⊢
      obtain ⟨cv, rfl, hc⟩ := hr
      exact ⟨cv, rfl, RepAs.base df fl caps _ hc⟩
    | .tup xs, v, hr => by
      simp only [RepA] at hr ⊢
      obtain ⟨cv, rfl, hc⟩ := hr
      exact ⟨cv, rfl, RepAs.base df fl xs _ hc⟩
    | .yld _, v, hr => by simpa only [RepA] using hr
    | .raw _ _ _ _ _, v, hr => by simp only [RepA] at hr ⊢; exact hr
    | .old _ _ _, v, hr => by simpa only [RepA] using hr
  theorem RepAs.base {w : World} {h : Gh} (df : List Deferred) (fl : Bool) : ∀ (as : List AV) (vs : List Value), RepAs w h as vs → RepAs w { h with df := df, flat := fl } as vs
    | [], vs, hr => by simpa only [RepAs] using hr
    | a :: as, vs, hr => by
      simp only [RepAs] at hr ⊢
      obtain ⟨u, us, rfl, h1, h2⟩ := hr
      exact ⟨u, us, rfl, RepA.base df fl a u h1, RepAs.base df fl as us h2⟩
end

theorem GI.base {g : G} {w : World} {h : Gh} (hg : GI g w h) (df : List Deferred) (fl : Bool) : GI g w { h with df := df, flat := fl } where
  bx := fun d t bo hb => by
    obtain ⟨h1, h2, b, c, e, h3, h4, h5, h6⟩ := hg.bx d t bo hb
    exact ⟨h1, h2, b, c, e, h3, h4, ⟨RepAs.base df fl _ _ h5.1, h5.2⟩, h6⟩
  inj := hg.inj
  gaBx := hg.gaBx
  gaInj := hg.gaInj
  gaLt := hg.gaLt
  gaC := hg.gaC
  lim := hg.lim
  lp := fun l r hl => by
    obtain ⟨hp, D, q, h1, h2, h3, h4⟩ := hg.lp l r hl
    exact ⟨hp, D, q, h1, h2, h3, fun t v hv => ⟨RepA.base df fl _ _ (h4 t v hv).1, (h4 t v hv).2⟩⟩
  roInj := hg.roInj
  gaTop := hg.gaTop

theorem Rel.based {g g' : G} {w w' : World} {h h' : Gh} {df : List Deferred} {fl : Bool} (r : Rel g { h with df := df, flat := fl } w g' w' h') : Rel g h w g' w' h' :=
  { os := r.os, tape := r.tape, output := r.output, size := r.size, ext := r.ext, keep := r.keep, bxs := r.bxs, ro := r.ro, ga := r.ga, bxMay := r.bxMay, gaMay := r.gaMay, lpMay := r.lpMay, lpLen := r.lpLen }
theorem Rel.base {g g' : G} {w w' : World} {h h' : Gh} (df : List Deferred) (fl : Bool) (r : Rel g h w g' w' h') : Rel g { h with df := df, flat := fl } w g' w' h' :=
  { os := r.os, tape := r.tape, output := r.output, size := r.size, ext := r.ext, keep := r.keep, bxs := r.bxs, ro := r.ro, ga := r.ga, bxMay := r.bxMay, gaMay := r.gaMay, lpMay := r.lpMay, lpLen := r.lpLen }
theorem Rel.to {g g' : G} {w w' : World} {h h' : Gh} (df : List Deferred) (fl : Bool) (r : Rel g h w g' w' h') : Rel g h w g' w' { h' with df := df, flat := fl } :=
  { os := r.os, tape := r.tape, output := r.output, size := r.size, ext := r.ext, keep := r.keep, bxs := r.bxs, ro := r.ro, ga := r.ga, bxMay := r.bxMay, gaMay := r.gaMay, lpMay := r.lpMay, lpLen := r.lpLen }

theorem CallQ.based {R : Type} {k : Out → G → Option R} {r : R} {g : G} {h : Gh} {w : World} {df : List Deferred} {fl : Bool} {e : Ending} {w' : World} (hq : CallQ k r g { h with df := df, flat := fl } w e w') : CallQ k r g h w e w' := by
  obtain ⟨out, g', h', h1, h2, h3, h4⟩ := hq
  exact ⟨out, g', h', h1, h2, h3.based, h4⟩

theorem SI.enter {g : G} {w : World} {h : Gh} (hdf : h.df = []) (hg : GI g w h) {args : List AV} {vs : List Value} (hr : RepAs w h args vs) (ho : AV.oks NoId (KG g g.dp) (YG g (g.dp + 1)) args) {n : Nat} (hn : args.length ≤ n) :
    SI n g h w { tm := argTm args, fr := fun _ => false, g := { g with dp := g.dp + 1 } } { tmps := vs.toArray ++ Array.replicate (n - vs.toArray.size) undef, defers := [] } w h := by
  have hlen := hr.length
  refine ⟨⟨?_, ?_, hg.deeper, fun x hx => by cases hx⟩, Rel.deeper hg, rfl, rfl, by rw [hdf]; exact Marks.nil, fun x hx => by (cases hx), ?_, ?_⟩
  · simp; omega
  · intro t v hv
    obtain ⟨u, hu, h1, h2⟩ := argTm_get hr ho hv
    refine ⟨?_, AV.ok.mono (fun _ h => h.elim) (fun d t hk => ⟨Nat.le_succ_of_le hk.1, hk.2⟩) (fun l hl => hl) _ h2⟩
    have hlt : t < vs.length := (List.getElem?_eq_some_iff.1 hu).1
    have : (vs.toArray ++ Array.replicate (n - vs.toArray.size) undef).getD t undef = u := by
      rw [Array.getD_eq_getD_getElem?, Array.getElem?_append_left (by simpa using hlt)]
      simp [hu]
    rw [this]; exact h1
  · intro r hr'
    obtain ⟨l, hl⟩ := List.getElem?_of_mem hr'
    exact (hg.lp l r hl).1.2.1
  · intro d t hs
    obtain ⟨bo, hbo⟩ := Option.isSome_iff_exists.1 hs
    exact (hg.bx d t bo hbo).1

theorem rod_of {g : G} {w : World} {h : Gh} (hg : GI g w h) : ∀ l, l < g.lp.length → (h.ro l).2 < w.heap.size := by
  intro l hl
  obtain ⟨_, D, q, h1, h2, h3, _⟩ := hg.lp l _ (List.getElem?_eq_getElem hl)
  rw [← h3.2]
  exact lt_of_heap h2

theorem SI.lpdp {s : St} {a : Act} {w : World} {h : Gh} (hsi : SI nt g0 h0 w0 s a w h) : ∀ r ∈ s.g.lp, r.dp ≤ g0.dp := by
  intro r hr
  have hm : r.dp ∈ g0.lp.map LoopRec.dp := by rw [← hsi.lps]; exact List.mem_map_of_mem hr
  obtain ⟨r0, hr0, hrd⟩ := List.mem_map.1 hm
  have := hsi.lpd r0 hr0
  omega

/-- The frame goes: what is left. -/
theorem SI.gone {s : St} {a : Act} {w : World} {h : Gh} (hsi : SI nt g0 h0 w0 s a w h) : GI (popG s.g (g0.dp + 1)) w { h with ga := gaClear h.ga (g0.dp + 1) } ∧ Rel g0 h0 w0 (popG s.g (g0.dp + 1)) w { h with ga := gaClear h.ga (g0.dp + 1) } :=
  ⟨hsi.fi.gi.pop hsi.dp hsi.lpdp, hsi.rel.pop (Nat.le_refl _) hsi.bxd⟩

theorem FI.notm {s : St} {a : Act} {w : World} {h : Gh} (hf : FI nt s a w h) : FI nt { tm := fun _ => none, fr := s.fr, g := s.g } a w h :=
  ⟨hf.size, fun t v hv => (by cases hv), hf.gi, hf.dfr⟩

theorem pre_of {g : G} {w : World} {h : Gh} (hg : GI g w h) {fr : Nat → Bool} : ∀ {rs : List AV} {vs : List Value}, AV.oks (TmQ fr g.dp) (KG g g.dp) (YG g g.dp) rs → RepAs w h rs vs →
    PreL g.bx g.dp w (fun d t => KG g g.dp d t ∧ d < g.dp) (YG g g.dp) (frzH g w h fun d _ => Nat.beq d g.dp) [] rs vs
  | [], vs, _, hr => by simpa only [PreL, RepAs] using hr
  | a :: as, vs, ho, hr => by
    simp only [RepAs, AV.oks, PreL] at hr ho ⊢
    obtain ⟨u, us, rfl, h1, h2⟩ := hr
    have hf := RepA.frz hg (fun d _ => Nat.beq d g.dp) h1
    refine ⟨u, us, rfl, pre_of hg ho.2 h2, ?_, ?_⟩
    · intro i sz es he
      subst he
      have hi := ho.1
      simp only [AV.ok] at hi
      refine ⟨fun k e => ?_, fun d t k e => ?_, hf.own_sl, fun _ => hf⟩
      · subst e; exact hi
      · subst e; exact hi.1
    · intro hne x hx
      exact retAV_sound hg a x u hx ho.1 hf

/-- The results are handed back. -/
theorem returned {T : Nat → Option TI} (hT : TyOk P T) {F : Func} {R : Type} {k : Out → G → Option R} {r : R} {s : St} {a : Act} {w : World} {h : Gh} (hsi : SI nt g0 h0 w0 s a w h) {rs rs' : List AV}
    (h1 : resVars T s F.results.toList = some rs) (h2 : retRes s.g.bx (g0.dp + 1) 0 [] rs = some rs') (hk : k (.ret rs') (popG { s.g with bx := demRes rs s.g.bx } (g0.dp + 1)) = some r) :
    ∃ v, (results F a.tmps).run P w = .ok v w ∧ CallQ k r g0 h0 w0 (.returned v) w := by
  obtain ⟨vs, hrep, hok, hrun⟩ := resVars_sound hT hsi.fi F.results.toList h1
  have hpre := pre_of hsi.fi.gi hok hrep
  rw [hsi.dp] at hpre
  have f1 := (hsi.fi.frz (fun d _ => Nat.beq d (g0.dp + 1))).notm
  have r1 := hsi.rel.frz hsi.fi.gi (fun d _ => Nat.beq d (g0.dp + 1))
  obtain ⟨h', f2, r2, p1, p2, p3, p4, p5, p6, p7, p8⟩ := retRes_sound (Nat.lt_succ_self _) rs h2 (g := frzG s.g fun d _ => Nat.beq d (g0.dp + 1)) (fr := s.fr) (a := a) hsi.dp f1 r1 hpre
  have hpop : popG { (frzG s.g fun d _ => Nat.beq d (g0.dp + 1)) with bx := demRes rs (frzG s.g fun d _ => Nat.beq d (g0.dp + 1)).bx } (g0.dp + 1) = popG { s.g with bx := demRes rs s.g.bx } (g0.dp + 1) := by
    unfold popG
    simp only [G.mk.injEq]
    refine ⟨?_, trivial, rfl⟩
    funext d t
    split
    · rfl
    · rename_i hne
      refine demRes_congr rs _ _ d t ?_
      show frzBx s.g.bx (fun d _ => Nat.beq d (g0.dp + 1)) d t = _
      unfold frzBx
      have hne' : Nat.beq d (g0.dp + 1) = false := Bool.eq_false_iff.2 hne
      cases s.g.bx d t with
      | none => rfl
      | some b => simp only [hne', Bool.false_or]
  have hlp : ∀ rr ∈ s.g.lp, rr.dp ≤ g0.dp := hsi.lpdp
  have gi := f2.gi.pop (dp := g0.dp) hsi.dp hlp
  have rl := r2.pop (Nat.le_refl _) hsi.bxd
  rw [hpop] at gi rl
  have hres : (results F a.tmps).run P w = .ok (resVal vs) w := by
    unfold results
    rw [Array.mapM_eq_mapM_toList, Sem.run_bind, map_eq_pure_bind, Sem.run_bind]
    have hr2 := hrun
    erw [hr2]
    simp only [Result.andThen, Sem.run_pure]
    cases vs with
    | nil => rfl
    | cons v vt =>
      cases vt with
      | nil => rfl
      | cons v2 vt2 => simp [resVal]
  refine ⟨resVal vs, hres, .ret rs', _, { h' with ga := gaClear h'.ga (g0.dp + 1) }, ⟨vs, rfl, ?_, p2, p3, ?_⟩, gi, rl, ?_, ?_, hk⟩
  · refine RepAs.ext (h := h') (h' := { h' with ga := gaClear h'.ga (g0.dp + 1) }) (Ext.refl _ _) (fun _ _ _ _ h => h) (fun _ _ => rfl) ?_ _ _ p4 p1
    intro i b hi hb
    cases i with
    | res j => exact ⟨hb, rfl, rfl⟩
    | _ => exact hi.elim
  · refine AV.oks.mono (fun _ h => h) ?_ ?_ _ p4
    · rintro d t ⟨hkg, hlt⟩
      refine ⟨by show d ≤ g0.dp + 1 - 1; omega, ?_⟩
      show (if Nat.beq d (g0.dp + 1) then none else demRes rs s.g.bx d t).isSome = true
      rw [if_neg (by have := hsi.dp; simp; omega)]
      have : ∀ (as : List AV) (bx : Nat → Nat → Option Box), (demRes as bx d t).isSome = (bx d t).isSome := by
        intro as
        induction as with
        | nil => intro bx; rfl
        | cons x xs ih =>
          intro bx
          cases x with
          | own i sz es => simp only [demRes]; rw [ih, demBx_isSome]
          | _ => exact ih bx
      rw [this]
      exact hkg.2
    · rintro l ⟨rr, q1, q2⟩
      exact ⟨rr, q1, by show rr.dp < g0.dp + 1 - 1 + 1; have := hsi.dp; omega⟩
  · show g0.dp + 1 - 1 = g0.dp
    omega
  · exact hsi.lps
end
end Go.Abs
