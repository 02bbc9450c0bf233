/- Closures; a step that is no call of Go code. -/
import Derived.Test.YtehkgiofchmpaaaDoorAbsApp
namespace Go.Abs
open Go
set_option linter.unusedVariables false
set_option linter.unusedSimpArgs false

/-! ### Freezing boxes -/
def frzBx (bx : Nat → Nat → Option Box) (F : Nat → Nat → Bool) : Nat → Nat → Option Box := fun d t => match bx d t with
  | some b => some { cells := b.cells, frz := F d t || b.frz, ty := b.ty }
  | none => none

theorem frzBx_isSome (bx : Nat → Nat → Option Box) (F : Nat → Nat → Bool) (d t : Nat) : (frzBx bx F d t).isSome = (bx d t).isSome := by
  unfold frzBx; cases bx d t <;> rfl

theorem frzBx_some {bx : Nat → Nat → Option Box} {F : Nat → Nat → Bool} {d t : Nat} {bo : Box} (h : frzBx bx F d t = some bo) : ∃ b, bx d t = some b ∧ bo = { cells := b.cells, frz := F d t || b.frz, ty := b.ty } := by
  unfold frzBx at h
  cases hb : bx d t with
  | none => simp [hb] at h
  | some b => simp [hb] at h; exact ⟨b, rfl, h.symm⟩

open Classical in
noncomputable def LF (g : G) (w : World) (h : Gh) (F : Nat → Nat → Bool) (b : Nat) : Nat :=
  if ∃ d t, F d t = true ∧ (g.bx d t).isSome = true ∧ h.be d t = some b then (match w.heap[b]? with
    | some (.cells c _ _) => c.size
    | _ => 0) else h.L b

section
variable {P : Program} {T : Nat → Option TI} {g0 : G} {h0 : Gh} {w0 : World} {nt : Nat}

theorem LF_box {g : G} {w : World} {h : Gh} (hg : GI g w h) (F : Nat → Nat → Bool) {d t b : Nat} (hs : (g.bx d t).isSome = true) (hb : h.be d t = some b) {c : Array Value} {e : TypeId} (hh : w.heap[b]? = some (.cells c e (0, 0))) :
    LF g w h F b = if F d t then c.size else h.L b := by
  unfold LF
  by_cases hF : F d t = true
  · rw [if_pos ⟨d, t, hF, hs, hb⟩, if_pos hF, hh]
  · rw [if_neg, if_neg hF]
    rintro ⟨d', t', h1, h2, h3⟩
    obtain ⟨rfl, rfl⟩ := hg.inj d t d' t' b hs h2 hb h3
    exact hF h1

theorem LF_other {g : G} {w : World} {h : Gh} (F : Nat → Nat → Bool) {b : Nat} (hn : ∀ d t, (g.bx d t).isSome = true → h.be d t ≠ some b) : LF g w h F b = h.L b := by
  unfold LF
  rw [if_neg]
  rintro ⟨d, t, _, h2, h3⟩
  exact hn d t h2 h3

theorem LF_ext {g : G} {w : World} {h : Gh} (hg : GI g w h) (F : Nat → Nat → Bool) : Ext w h.L w (LF g w h F) := by
  refine ⟨fun b => ?_, fun _ _ _ => rfl⟩
  by_cases hn : ∃ d t, (g.bx d t).isSome = true ∧ h.be d t = some b
  · obtain ⟨d, t, hs, hb⟩ := hn
    obtain ⟨bo, hbo⟩ := Option.isSome_iff_exists.1 hs
    obtain ⟨_, _, b', c, e, h3, h4, _, _, h7⟩ := hg.bx d t bo hbo
    rw [hb] at h3; cases h3
    rw [LF_box hg F hs hb h4, h7]
    split <;> split <;> omega
  · rw [LF_other F (fun d t h1 h2 => hn ⟨d, t, h1, h2⟩)]
    exact Nat.le_refl _

mutual
  /-- What a value stands for, when limits rise. -/
  theorem RepA.lims {w : World} {h : Gh} {L' : Nat → Nat} (hE : Ext w h.L w L') (hga : ∀ i b, h.ga i = some b → L' b = h.L b) : ∀ (a : AV) (v : Value), RepA w h a v → RepA w { h with L := L' } a v
    | .d x, v, hr => by simp only [RepA] at hr ⊢; exact hr.ext hE
    | .own i sz es, v, hr => by
      simp only [RepA] at hr ⊢
      rcases hr with hr | ⟨b, n, c, vs, cc, e, rfl, hn, hc, hs, hf, hg, hL, hh, hrm, hcells⟩
      · exact .inl (hr.ext hE)
      · exact .inr ⟨b, n, c, vs, cc, e, rfl, hn, hc, hs, RepF.ext hE es vs hf, hg, by rw [← hL]; exact hga i b hg, hh, hrm, hcells⟩
    | .ptr d t off, v, hr => by simpa only [RepA] using hr
    | .fn f caps, v, hr => by
      simp only [RepA] at hr ⊢
      obtain ⟨cv, rfl, hc⟩ := hr
      exact ⟨cv, rfl, RepAs.lims hE hga caps _ hc⟩
    | .tup xs, v, hr => by
      simp only [RepA] at hr ⊢
      obtain ⟨cv, rfl, hc⟩ := hr
      exact ⟨cv, rfl, RepAs.lims hE hga xs _ hc⟩
    | .yld l, v, hr => by simpa only [RepA] using hr
    | .old _ _ _, v, hr => by simpa only [RepA] using hr
    | .raw o k i sz es, v, hr => hr.raw_map hE fun b hb => ⟨hb, hga i b hb, rfl⟩
  theorem RepAs.lims {w : World} {h : Gh} {L' : Nat → Nat} (hE : Ext w h.L w L') (hga : ∀ i b, h.ga i = some b → L' b = h.L b) : ∀ (as : List AV) (vs : List Value), RepAs w h as vs → RepAs w { h with L := L' } as vs
    | [], vs, hr => by simpa only [RepAs] using hr
    | a :: as, vs, hr => by
      simp only [RepAs] at hr ⊢
      obtain ⟨u, us, rfl, h1, h2⟩ := hr
      exact ⟨u, us, rfl, RepA.lims hE hga a u h1, RepAs.lims hE hga as us h2⟩
end

theorem RepBx.lims {w : World} {h : Gh} {ty : Nat × Nat} {L' : Nat → Nat} (hE : Ext w h.L w L') (hga : ∀ i b, h.ga i = some b → L' b = h.L b) (as : List AV) (vs : List Value) (hr : RepBx w h ty as vs) : RepBx w { h with L := L' } ty as vs :=
  ⟨RepAs.lims hE hga as vs hr.1, fun ht i sz es v hi hv => (hr.2 ht i sz es v hi hv).imp id fun ⟨b, n, c, cc, h1, h2, h3, h4, h5⟩ => ⟨b, n, c, cc, h1, h2, by show L' b = n; rw [hga i b h2, h3], h4, h5⟩⟩

def frzG (g : G) (F : Nat → Nat → Bool) : G := { bx := frzBx g.bx F, dp := g.dp, lp := g.lp }
noncomputable def frzH (g : G) (w : World) (h : Gh) (F : Nat → Nat → Bool) : Gh := { h with L := LF g w h F }

theorem LF_ga {g : G} {w : World} {h : Gh} (hg : GI g w h) (F : Nat → Nat → Bool) : ∀ i b, h.ga i = some b → LF g w h F b = h.L b :=
  fun i b hi => LF_other F (fun d t hs => hg.gaBx i b d t hi hs)

theorem RepA.frz {g : G} {w : World} {h : Gh} (hg : GI g w h) (F : Nat → Nat → Bool) {a : AV} {v : Value} (hr : RepA w h a v) : RepA w (frzH g w h F) a v :=
  RepA.lims (LF_ext hg F) (LF_ga hg F) a v hr

theorem KG_frz {g : G} {F : Nat → Nat → Bool} {n d t : Nat} : KG g n d t → KG (frzG g F) n d t := fun hk => ⟨hk.1, by
  show (frzBx g.bx F d t).isSome = true
  rw [frzBx_isSome]; exact hk.2⟩

theorem GI.frz {g : G} {w : World} {h : Gh} (hg : GI g w h) (F : Nat → Nat → Bool) : GI (frzG g F) w (frzH g w h F) where
  bx := fun d t bo hb => by
    obtain ⟨b0, hb0, rfl⟩ := frzBx_some hb
    obtain ⟨h1, h2, b, c, e, h3, h4, h5, h6, h7⟩ := hg.bx d t b0 hb0
    refine ⟨h1, AV.oks.mono (fun _ h => h) (fun _ _ => KG_frz) (fun _ h => h) _ h2, b, c, e, h3, h4, RepBx.lims (LF_ext hg F) (LF_ga hg F) _ _ h5, h6, ?_⟩
    show LF g w h F b = _
    rw [LF_box hg F (by rw [hb0]; rfl) h3 h4, h7]
    cases F d t <;> simp
  inj := fun d t d' t' b h1 h2 => hg.inj d t d' t' b (by rw [← frzBx_isSome g.bx F]; exact h1) (by rw [← frzBx_isSome g.bx F]; exact h2)
  gaBx := fun i b d t h1 h2 => hg.gaBx i b d t h1 (by rw [← frzBx_isSome g.bx F]; exact h2)
  gaInj := hg.gaInj
  gaLt := hg.gaLt
  gaC := hg.gaC
  lim := fun b hb => by
    show LF g w h F b = 0
    rw [LF_other F, hg.lim b hb]
    intro d t hs he
    obtain ⟨bo, hbo⟩ := Option.isSome_iff_exists.1 hs
    obtain ⟨_, _, b', c, e, h3, h4, _⟩ := hg.bx d t bo hbo
    rw [he] at h3; cases h3
    have := lt_of_heap h4
    omega
  lp := fun l r hl => by
    obtain ⟨hp, D, tmps, h1, h2, h3, h4⟩ := hg.lp l r hl
    refine ⟨hp, D, tmps, h1, h2, h3, fun t v hv => ?_⟩
    obtain ⟨h5, h6⟩ := h4 t v hv
    exact ⟨h5.frz hg F, AV.ok.mono (fun _ h => h) (fun _ _ => KG_frz) (fun _ h => h) _ h6⟩
  roInj := hg.roInj
  gaTop := hg.gaTop

theorem FI.frz {s : St} {a : Act} {w : World} {h : Gh} (hf : FI nt s a w h) (F : Nat → Nat → Bool) : FI nt { tm := s.tm, fr := s.fr, g := frzG s.g F } a w (frzH s.g w h F) where
  size := hf.size
  tm := fun t v hv => by
    obtain ⟨h1, h2⟩ := hf.tm t v hv
    exact ⟨h1.frz hf.gi F, AV.ok.mono (fun _ h => h) (fun _ _ => KG_frz) (fun _ h => h) _ h2⟩
  gi := hf.gi.frz F
  dfr := hf.dfr

theorem Rel.frz {g : G} {w : World} {h : Gh} (hg : GI g w h) (hr : Rel g0 h0 w0 g w h) (F : Nat → Nat → Bool) : Rel g0 h0 w0 (frzG g F) w (frzH g w h F) :=
  { os := hr.os
    tape := hr.tape
    output := hr.output
    size := hr.size
    ext := hr.ext.trans (LF_ext hg F)
    keep := fun b hb hm => by
      obtain ⟨a1, a2⟩ := hr.keep b hb hm
      refine ⟨a1, ?_⟩
      show LF g w h F b = _
      rw [LF_other F, a2]
      intro d t hs he
      rcases hr.bxMay d t b hs he with h2 | h2
      · omega
      · exact hm h2
    bxs := fun d t hs => by
      obtain ⟨a1, a2⟩ := hr.bxs d t hs
      exact ⟨by show (frzBx g.bx F d t).isSome = true; rw [frzBx_isSome]; exact a1, a2⟩
    ro := hr.ro
    ga := hr.ga
    bxMay := fun d t b hs hb => hr.bxMay d t b (by rw [← frzBx_isSome g.bx F]; exact hs) hb
    gaMay := hr.gaMay
    lpMay := hr.lpMay
    lpLen := hr.lpLen }

/-! ### Closures -/
theorem RepA.ownData {w : World} {h : Gh} {a : AV} {v : Value} (hr : RepA w h a v) : RepA w h (ownData a) v := by
  cases a <;> first | exact hr | (simp only [Abs.ownData, RepA]; exact hr.own_sl) | (simp only [Abs.ownData, RepA]; exact hr.raw_old)

theorem ok_ownData {Q Q' : Id → Prop} {K : Nat → Nat → Prop} {Y : Nat → Prop} {a : AV} (hn : noTup a = true) (ho : a.ok Q K Y) : (ownData a).ok Q' K Y := by
  cases a <;> simp_all [Abs.ownData, AV.ok, noTup]

theorem RepA.thaw {g : G} {w : World} {h : Gh} (hg : GI g w h) {Q : Id → Prop} {K : Nat → Nat → Prop} {Y : Nat → Prop} {a : AV} {v : Value} (ho : a.ok Q K Y) (hr : RepA w h a v) :
    RepA w h (thaw g.bx a) v ∧ (thaw g.bx a).ok Q K Y := by
  unfold Abs.thaw
  split
  · rename_i d t off
    split
    · rename_i b hb
      split
      · rename_i cs hfz hcs
        split
        · rename_i hle
          have hle : off ≤ cs.length := by simpa using hle
          obtain ⟨h1, h2, b', c, e, h3, h4, ⟨h5, -⟩, h6, h7⟩ := hg.bx d t b hb
          simp only [RepA] at hr
          obtain ⟨b'', hb'', rfl⟩ := hr
          rw [hb''] at h3; cases h3
          have hv := RepAs.datas _ _ _ hcs h5
          have hl := hv.length
          refine ⟨?_, by simp [AV.ok]⟩
          simp only [RepA, RepV]
          rw [hfz] at h7
          refine ⟨_, off, c.toList.drop off, rfl, hv.drop, ?_, ?_⟩
          · rw [h7, if_pos rfl]
            simp at hl ⊢; omega
          · intro k u hk
            have hk' : c.toList[off + k]? = some u := by simpa [List.getElem?_drop] using hk
            refine ⟨?_, h6 u (List.mem_of_getElem? hk')⟩
            simp only [World.cell?, h4]
            simpa using hk'
        · exact ⟨hr, ho⟩
      · exact ⟨hr, ho⟩
    · exact ⟨hr, ho⟩
  · exact ⟨hr, ho⟩

/-- Freezing what the values point to, one after the other. -/
def frzF : List AV → Nat → Nat → Bool
  | [], _, _ => false
  | .ptr d t _ :: rest, d', t' => (Nat.beq d' d && Nat.beq t' t) || frzF rest d' t'
  | _ :: rest, d', t' => frzF rest d' t'

theorem freezeBx_eq : ∀ (as : List AV) (bx : Nat → Nat → Option Box), freezeBx bx as = frzBx bx (frzF as)
  | [], bx => by
    funext d t
    unfold freezeBx frzBx frzF
    cases bx d t <;> simp
  | .ptr d1 t1 _ :: rest, bx => by
    rw [freezeBx, freezeBx_eq rest]
    funext d t
    unfold frzBx
    simp only [frzF]
    by_cases hc : (Nat.beq d d1 && Nat.beq t t1) = true
    · obtain ⟨rfl, rfl⟩ : d = d1 ∧ t = t1 := by simpa using hc
      rw [if_pos hc]
      cases bx d t <;> simp
    · rw [if_neg hc]
      have : (Nat.beq d d1 && Nat.beq t t1) = false := Bool.eq_false_iff.2 hc
      rw [this]
      cases bx d t <;> simp
  | .d _ :: rest, bx => by rw [freezeBx, freezeBx_eq rest]; rfl; all_goals (intro _ _ _ h; cases h)
  | .own _ _ _ :: rest, bx => by rw [freezeBx, freezeBx_eq rest]; rfl; all_goals (intro _ _ _ h; cases h)
  | .fn _ _ :: rest, bx => by rw [freezeBx, freezeBx_eq rest]; rfl; all_goals (intro _ _ _ h; cases h)
  | .tup _ :: rest, bx => by rw [freezeBx, freezeBx_eq rest]; rfl; all_goals (intro _ _ _ h; cases h)
  | .yld _ :: rest, bx => by rw [freezeBx, freezeBx_eq rest]; rfl; all_goals (intro _ _ _ h; cases h)
  | .raw _ _ _ _ _ :: rest, bx => by rw [freezeBx, freezeBx_eq rest]; rfl; all_goals (intro _ _ _ h; cases h)
  | .old _ _ _ :: rest, bx => by rw [freezeBx, freezeBx_eq rest]; rfl; all_goals (intro _ _ _ h; cases h)

theorem mkFn_sound {w : World} {h : Gh} {Q : Id → Prop} {K : Nat → Nat → Prop} {Y : Nat → Prop} {f : Fn} {caps : List AV} {cv : Array Value} (hr : RepAs w h caps cv.toList) (ho : AV.oks (fun _ => False) K Y caps) :
    RepA w h (mkFn f caps) (.func f #[] cv) ∧ (mkFn f caps).ok Q K Y := by
  unfold mkFn
  split
  · rename_i ds hds
    refine ⟨?_, by simp [AV.ok]⟩
    simp only [RepA, RepV]
    exact ⟨cv, rfl, RepAs.datas _ _ _ hds hr⟩
  · refine ⟨?_, by simpa only [AV.ok] using ho⟩
    simp only [RepA]
    exact ⟨cv, rfl, hr⟩

theorem RepAs.mapA {w : World} {h : Gh} {f : AV → AV} (hf : ∀ a v, RepA w h a v → RepA w h (f a) v) : ∀ {as : List AV} {vs : List Value}, RepAs w h as vs → RepAs w h (as.map f) vs
  | [], vs, hr => by simpa only [List.map_nil] using hr
  | a :: as, vs, hr => by
    simp only [RepAs, List.map_cons] at hr ⊢
    obtain ⟨u, us, rfl, h1, h2⟩ := hr
    exact ⟨u, us, rfl, hf a u h1, RepAs.mapA hf h2⟩

theorem evs_ok {Q : Id → Prop} {K : Nat → Nat → Prop} {Y : Nat → Prop} {tm : Nat → Option AV} (ht : ∀ t v, tm t = some v → v.ok Q K Y) : ∀ {xs : List Operand} {vs : List AV}, evs tm xs = some vs → AV.oks Q K Y vs
  | [], vs, h => by simp [evs] at h; subst h; simp [AV.oks]
  | x :: xs, vs, h => by
    simp only [evs] at h
    cases h1 : ev tm x with
    | none => simp [h1] at h
    | some v =>
      cases h2 : evs tm xs with
      | none => simp [h1, h2] at h
      | some us =>
        simp only [h1, h2, Option.some.injEq] at h; subst h
        simp only [AV.oks]
        exact ⟨ev_ok ht h1, evs_ok ht h2⟩

theorem thawed {g : G} {w : World} {h : Gh} (hg : GI g w h) {Q : Id → Prop} {K : Nat → Nat → Prop} {Y : Nat → Prop} : ∀ {as : List AV} {vs : List Value}, as.all noTup = true → AV.oks Q K Y as → RepAs w h as vs →
    RepAs w h (as.map fun a => thaw g.bx (ownData a)) vs ∧ AV.oks (fun _ => False) K Y (as.map fun a => thaw g.bx (ownData a))
  | [], vs, _, _, hr => by simp only [RepAs] at hr; subst hr; simp [RepAs, AV.oks]
  | a :: as, vs, hn, ho, hr => by
    simp only [RepAs, List.map_cons, AV.oks, List.all_cons, Bool.and_eq_true] at hr hn ho ⊢
    obtain ⟨u, us, rfl, h1, h2⟩ := hr
    obtain ⟨r1, o1⟩ := RepA.thaw hg (Q := fun _ => False) (ok_ownData hn.1 ho.1) h1.ownData
    obtain ⟨r2, o2⟩ := thawed hg hn.2 ho.2 h2
    exact ⟨⟨u, us, rfl, r1, r2⟩, o1, o2⟩

theorem makeFuncA_sound {hint : Hint} {o : Oper} {dst : Nat} {f : Fn} {first caps : Array Operand} (ho : o.op = .makeFunc f first caps) (hfst : first.isEmpty = true) (hdst : o.dst = some dst) (hd : dst < nt) {s s' : St} {a : Act} {w : World} {h : Gh}
    (hf : FI nt s a w h) (hr : Rel g0 h0 w0 s.g w h) (hs : makeFuncA hint dst f caps.toList s = some s') : Steps1 P nt g0 h0 w0 o s' a w := by
  unfold makeFuncA at hs
  split at hs
  case h_2 => cases hs
  rename_i as has
  split at hs
  case isFalse => cases hs
  rename_i hn
  have hfirst : first = #[] := by simpa using hfst
  subst hfirst
  have hrun : (execOp a.eval o).run P w = .ok (.value (.func f #[] (caps.map a.eval))) w := by simp [execOp, ho, Instr.makeFunc]
  -- where boxes are frozen
  have key : ∀ F : Nat → Nat → Bool, Steps1 P nt g0 h0 w0 o { tm := upd s.tm dst (some (mkFn f (as.map fun a => thaw (frzBx s.g.bx F) (ownData a)))), fr := s.fr, g := frzG s.g F } a w := by
    intro F
    have f1 := hf.frz F
    have r1 := hr.frz hf.gi F
    have hv := evs_rep (Tms.of f1) has
    have hk := evs_ok (fun t v hv => (f1.tm t v hv).2) has
    obtain ⟨r2, o2⟩ := thawed f1.gi hn hk hv
    have r2' : RepAs w (frzH s.g w h F) (as.map fun a => thaw (frzBx s.g.bx F) (ownData a)) (caps.map a.eval).toList := by simpa [frzG] using r2
    obtain ⟨r3, o3⟩ := mkFn_sound (Q := TmQ s.fr s.g.dp) (f := f) r2' o2
    refine ⟨_, w, _, _, hrun, .inl ⟨_, rfl, rfl⟩, ?_, r1⟩
    rw [hdst]
    exact f1.put hd r3 o3
  simp only [Option.some.injEq] at hs; subst hs
  split
  · rw [freezeBx_eq]; exact key _
  · have h0 := key (fun _ _ => false)
    have he : frzBx s.g.bx (fun _ _ => false) = s.g.bx := by
      funext d t
      unfold frzBx
      cases s.g.bx d t <;> simp
    rw [he] at h0
    simpa [frzG, he] using h0

/-! ### A step that is no call of Go code -/
theorem callB_sound (hT : TyOk P T) {o : Oper} {c : Call} (ho : o.op = .call c) {dst : Nat} (hdst : o.dst = some dst) (hd : dst < nt) {s s' : St} {a : Act} {w : World} {h : Gh}
    (hf : FI nt s a w h) (hr : Rel g0 h0 w0 s.g w h) (hdp : g0.dp < s.g.dp) {hint : Hint} (hs : callB T hint dst c s = some s') : Steps1 P nt g0 h0 w0 o s' a w := by
  unfold callB at hs
  split at hs
  · rename_i happ
    have hcl : c.callee = .builtin .append := by
      revert happ
      cases c.callee with
      | builtin b => cases b <;> simp [isAppend]
      | _ => simp [isAppend]
    split at hs
    · rename_i x y t t' hargs htys
      split at hs
      case h_2 => cases hs
      rename_i ti t2 hti ht2
      split at hs
      case isFalse => cases hs
      rename_i htt
      exact appendA_sound hT ho hcl (by simpa using congrArg List.toArray hargs) (by simpa using congrArg List.toArray htys) hti ht2 htt hdst hd hf hr hdp hs
    · cases hs
  · split at hs
    · rename_i v hv
      simp only [Option.some.injEq] at hs; subst hs
      obtain ⟨u, hrun, hrep⟩ := lenA_run hT (Tms.of hf) (ty := o.type) hv
      refine step_value hdst hd hf hr (u := u) (by simpa [execOp, ho] using hrun) hrep ?_
      exact lenA_ok hv
    · cases hs

theorem stepOp_sound (hT : TyOk P T) {hint : Hint} {o : Oper} {s s' : St} {a : Act} {w : World} {h : Gh}
    (hf : FI nt s a w h) (hr : Rel g0 h0 w0 s.g w h) (hdp : g0.dp < s.g.dp) (hs : stepOp T hint nt o s = some s') : Steps1 P nt g0 h0 w0 o s' a w := by
  unfold stepOp at hs
  split at hs
  · rename_i hdst
    split at hs
    · rename_i t p x hop
      exact storeA_sound hT hop hdst hf hr hdp hs
    · cases hs
  · rename_i dst hdst
    split at hs
    case isFalse => cases hs
    rename_i hlt
    have hd : dst < nt := by simpa using hlt
    split at hs
    · rename_i t hop
      exact allocA_sound hT hop hdst hd hf hr hdp hs
    · rename_i t x hop
      exact boxA_sound hT hop hdst hd hf hr hdp hs
    · rename_i t p hop
      split at hs
      · rename_i pv hpv
        split at hs
        · rename_i v hv
          simp only [Option.some.injEq] at hs; subst hs
          have h1 := ev_rep (Tms.of hf) hpv
          have h2 := ev_ok (fun t v hv => (hf.tm t v hv).2) hpv
          obtain ⟨u, hrun, hrep, hok⟩ := loadA_sound hT hf.gi hv h1 (fun i hi => by cases i with
            | tmp _ _ _ => exact hi.elim
            | res _ => exact hi.elim
            | box _ _ _ => trivial) h2 (fun l hl => hl)
          exact step_value hdst hd hf hr (u := u) (by simp [execOp, hop, hrun]) hrep hok
        · cases hs
      · cases hs
    · rename_i t n parts hop
      exact buildSliceA_sound hT hop hdst hd hf hr hdp hs
    · rename_i c hop
      exact callB_sound hT hop hdst hd hf hr hdp hs
    · rename_i f first caps hop
      split at hs
      · rename_i hfst
        exact makeFuncA_sound hop hfst hdst hd hf hr hs
      · cases hs
    · split at hs
      · rename_i v hv
        simp only [Option.some.injEq] at hs; subst hs
        obtain ⟨u, hrun, hrep⟩ := opP_sound hT (Tms.of hf) hv
        exact step_value hdst hd hf hr hrun hrep (opP_ok (fun t v hv => (hf.tm t v hv).2) hv)
      · cases hs
end
end Go.Abs
