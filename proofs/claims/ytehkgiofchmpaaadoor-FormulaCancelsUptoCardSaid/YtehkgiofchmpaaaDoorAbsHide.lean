/- A frame's boxes, hidden from a closure that does not know them: they stay as they are. -/
import Derived.Test.YtehkgiofchmpaaaDoorAbsPop
namespace Go.Abs
open Go
set_option linter.unusedVariables false
set_option linter.unusedSimpArgs false

def hidGa (dp : Nat) (ga : Id → Option Nat) : Id → Option Nat
  | .tmp d t j => if Nat.beq d dp then none else ga (.tmp d t j)
  | i => ga i
def unGa (dp : Nat) (ga ga' : Id → Option Nat) : Id → Option Nat
  | .tmp d t j => if Nat.beq d dp then ga (.tmp d t j) else ga' (.tmp d t j)
  | i => ga' i

def hidH (g : G) (h : Gh) : Gh := { h with ga := hidGa g.dp h.ga }
def unH (g : G) (h h' : Gh) : Gh := { L := h'.L, be := fun d t => if Nat.beq d g.dp then h.be d t else h'.be d t, ga := unGa g.dp h.ga h'.ga, ro := h'.ro }

section
variable {g : G} {w : World} {h : Gh}

theorem hid_bx {d t : Nat} {o : Option Box} (hb : (hidG g).bx d t = o) (hs : o.isSome = true) : d ≠ g.dp ∧ g.bx d t = o := by
  unfold hidG at hb
  dsimp only at hb
  split at hb
  · rw [← hb] at hs; cases hs
  · rename_i hne
    exact ⟨fun e => hne (by rw [e]; exact Nat.beq_refl _), hb⟩
theorem hid_ne {d t : Nat} (hd : d ≠ g.dp) : (hidG g).bx d t = g.bx d t := by
  unfold hidG
  dsimp only
  rw [if_neg]
  intro e; exact hd (Nat.eq_of_beq_eq_true e)
theorem hidGa_some {i : Id} {b : Nat} (hi : hidGa g.dp h.ga i = some b) : h.ga i = some b := by
  cases i with
  | tmp d t j =>
    simp only [hidGa] at hi
    split at hi
    · cases hi
    · exact hi
  | _ => exact hi

theorem hid_K {n : Nat} (hn : n < g.dp) {d t : Nat} (hk : KG g n d t) : KG (hidG g) n d t := ⟨hk.1, by rw [hid_ne (by have := hk.1; omega)]; exact hk.2⟩

theorem GI.hid (hg : GI g w h) (h1 : 1 ≤ g.dp) (hlp : ∀ (l : Nat) (r : LoopRec), g.lp[l]? = some r → r.dp < g.dp) : GI (hidG g) w (hidH g h) where
  bx := fun d t bo hb => by
    obtain ⟨hd, hb⟩ := hid_bx hb rfl
    obtain ⟨h2, h3, b, c, e, h4, h5, h6, h7, h8⟩ := hg.bx d t bo hb
    have hlt : d < g.dp := by omega
    refine ⟨by show d ≤ g.dp - 1; omega, AV.oks.mono (fun _ hh => hh) (fun _ _ hk => hid_K hlt hk) (fun _ hh => hh) _ h3, b, c, e, h4, h5, ?_, h7, h8⟩
    exact RepBx.ext (h := h) (h' := hidH g h) (Ext.refl _ _) (fun _ _ _ _ hh => hh) (fun _ _ => rfl) (fun i b hi hib => by
      cases i with
      | box _ _ _ => exact ⟨hib, rfl, rfl⟩
      | _ => exact hi.elim) _ _ h3 h6
  inj := fun d t d' t' b ha hb hc hd => by
    obtain ⟨o, ho⟩ := Option.isSome_iff_exists.1 ha
    obtain ⟨o', ho'⟩ := Option.isSome_iff_exists.1 hb
    obtain ⟨_, ho⟩ := hid_bx ho rfl
    obtain ⟨_, ho'⟩ := hid_bx ho' rfl
    exact hg.inj d t d' t' b (by rw [ho]; rfl) (by rw [ho']; rfl) hc hd
  gaBx := fun i b d t hi hs => by
    obtain ⟨o, ho⟩ := Option.isSome_iff_exists.1 hs
    obtain ⟨_, ho⟩ := hid_bx ho rfl
    exact hg.gaBx i b d t (hidGa_some hi) (by rw [ho]; rfl)
  gaInj := fun i j b hi hj => hg.gaInj i j b (hidGa_some hi) (hidGa_some hj)
  gaLt := fun i b hi => hg.gaLt i b (hidGa_some hi)
  gaC := fun i b hi => hg.gaC i b (hidGa_some hi)
  lim := hg.lim
  lp := fun l r hl => by
    obtain ⟨⟨p1, p2, p3⟩, D, tmps, q1, q2, q3, q4⟩ := hg.lp l r hl
    have hlt := hlp l r hl
    refine ⟨⟨p1, by show r.dp ≤ g.dp - 1; omega, p3⟩, D, tmps, q1, q2, q3, fun t v hv => ?_⟩
    obtain ⟨r1, r2⟩ := q4 t v hv
    exact ⟨RepA.ext (h := h) (h' := hidH g h) (Ext.refl _ _) (fun _ _ _ _ hh => hh) (fun _ _ => rfl) (fun _ _ hh => hh.elim) _ _ r2 r1, AV.ok.mono (fun _ hh => hh) (fun _ _ hk => hid_K hlt hk) (fun _ hh => hh) _ r2⟩
  roInj := hg.roInj
  gaTop := fun d t j hd => by
    show hidGa g.dp h.ga (.tmp d t j) = none
    simp only [hidGa]
    have hd : g.dp - 1 < d := hd
    split
    · rfl
    · rename_i hne
      exact hg.gaTop d t j (by
        have : d ≠ g.dp := fun e => hne (by rw [e]; exact Nat.beq_refl _)
        omega)

theorem may_hid {b : Nat} (hm : May (hidG g) (hidH g h) b) : May g h b := by
  rcases hm with ⟨d, t, hs, hb⟩ | ⟨i, hi, hb⟩ | ⟨l, hl, hb⟩
  · obtain ⟨o, ho⟩ := Option.isSome_iff_exists.1 hs
    obtain ⟨_, ho⟩ := hid_bx ho rfl
    exact .inl ⟨d, t, by rw [ho]; rfl, hb⟩
  · exact .inr (.inl ⟨i, hi, hidGa_some hb⟩)
  · exact .inr (.inr ⟨l, hl, hb⟩)

/-- A hidden box is not among what may turn. -/
theorem box_aside (hg : GI g w h) {t b : Nat} (hs : (g.bx g.dp t).isSome = true) (hb : h.be g.dp t = some b) : b < w.heap.size ∧ ¬ May (hidG g) (hidH g h) b := by
  obtain ⟨bo, hbo⟩ := Option.isSome_iff_exists.1 hs
  obtain ⟨_, _, b', c, e, h3, h4, _⟩ := hg.bx _ t bo hbo
  rw [hb] at h3; cases h3
  refine ⟨lt_of_heap h4, ?_⟩
  rintro (⟨d, t', hs', hb'⟩ | ⟨i, hi, hb'⟩ | ⟨l, hl, rfl⟩)
  · obtain ⟨o, ho⟩ := Option.isSome_iff_exists.1 hs'
    obtain ⟨hd, ho⟩ := hid_bx ho rfl
    exact hd (hg.inj d t' g.dp t b (by rw [ho]; rfl) hs hb' hb).1
  · exact hg.gaBx i b g.dp t (hidGa_some hb') hs hb
  · obtain ⟨_, D, tmps, q1, _⟩ := hg.lp l _ (List.getElem?_eq_getElem hl)
    have q1' : w.heap[(h.ro l).1]? = some (.loop _) := q1
    have h4' : w.heap[(h.ro l).1]? = some (.cells c e.1 (0, 0)) := h4
    rw [h4'] at q1'; cases q1'
/-- Nor is a row of the frame's. -/
theorem row_aside (hg : GI g w h) {t j b : Nat} (hb : h.ga (.tmp g.dp t j) = some b) : b < w.heap.size ∧ ¬ May (hidG g) (hidH g h) b := by
  obtain ⟨c, e, h4⟩ := hg.gaC _ b hb
  refine ⟨lt_of_heap h4, ?_⟩
  rintro (⟨d, t', hs', hb'⟩ | ⟨i, hi, hb'⟩ | ⟨l, hl, rfl⟩)
  · obtain ⟨o, ho⟩ := Option.isSome_iff_exists.1 hs'
    obtain ⟨hd, ho⟩ := hid_bx ho rfl
    exact hg.gaBx _ b d t' hb (by rw [ho]; rfl) hb'
  · exact hi _ _ _ (hg.gaInj i _ b (hidGa_some hb') hb)
  · obtain ⟨_, D, tmps, q1, _⟩ := hg.lp l _ (List.getElem?_eq_getElem hl)
    have q1' : w.heap[(h.ro l).1]? = some (.loop _) := q1
    have h4' : w.heap[(h.ro l).1]? = some (.cells c e (0, 0)) := h4
    rw [h4'] at q1'; cases q1'

variable {g' : G} {w' : World} {h' : Gh}

theorem un_eq {t : Nat} : (unG g g').bx g.dp t = (g.bx g.dp t).map fun b => { b with cells := demAlls b.cells } := by
  unfold unG
  dsimp only
  rw [if_pos (Nat.beq_refl _)]
  cases g.bx g.dp t <;> rfl
theorem un_ne {d t : Nat} (hd : d ≠ g.dp) : (unG g g').bx d t = g'.bx d t := by
  unfold unG
  dsimp only
  rw [if_neg (fun e => hd (Nat.eq_of_beq_eq_true e))]
theorem unbe_eq {t : Nat} : (unH g h h').be g.dp t = h.be g.dp t := by
  unfold unH; dsimp only; rw [if_pos (Nat.beq_refl _)]
theorem unbe_ne {d t : Nat} (hd : d ≠ g.dp) : (unH g h h').be d t = h'.be d t := by
  unfold unH; dsimp only; rw [if_neg (fun e => hd (Nat.eq_of_beq_eq_true e))]

/-- The boxes are as they were, the callee's work beside them. -/
theorem unhide (hg : GI g w h) (h1 : 1 ≤ g.dp) (hlp : ∀ (l : Nat) (r : LoopRec), g.lp[l]? = some r → r.dp < g.dp) (hg' : GI g' w' h') (hr : Rel (hidG g) (hidH g h) w g' w' h') (hdp : g'.dp = g.dp - 1) (hlps : g'.lp.map LoopRec.dp = g.lp.map LoopRec.dp) :
    GI (unG g g') w' (unH g h h') ∧ Rel g h w (unG g g') w' (unH g h h') := by
  -- what a box of the callee's side is
  have bxm : ∀ d t b, d ≠ g.dp → (g'.bx d t).isSome = true → h'.be d t = some b → w.heap.size ≤ b ∨ May (hidG g) (hidH g h) b := fun d t b _ hs hb => hr.bxMay d t b hs hb
  have gam : ∀ i b, (∀ t j, i ≠ .tmp g.dp t j) → h'.ga i = some b → (w.heap.size ≤ b ∨ May (hidG g) (hidH g h) b) ∨ h.ga i = some b := by
    intro i b hi hb
    cases i with
    | tmp d t j =>
      by_cases hd : d < g.dp
      · right
        have e := hr.ga d t j (by show d ≤ g.dp - 1; omega)
        rw [e] at hb
        exact hidGa_some hb
      · have hne : d ≠ g.dp := fun e => hi t j (by rw [e])
        rw [hg'.gaTop d t j (by rw [hdp]; omega)] at hb
        cases hb
    | box d t j => exact .inl (hr.gaMay _ b (by intro _ _ _ e; cases e) hb)
    | res j => exact .inl (hr.gaMay _ b (by intro _ _ _ e; cases e) hb)
  have asideB : ∀ {t b}, (g.bx g.dp t).isSome = true → h.be g.dp t = some b → ¬ (w.heap.size ≤ b ∨ May (hidG g) (hidH g h) b) := fun hs hb hh => by
    obtain ⟨a1, a2⟩ := box_aside hg hs hb
    rcases hh with hh | hh
    · omega
    · exact a2 hh
  have asideR : ∀ {t j b}, h.ga (.tmp g.dp t j) = some b → ¬ (w.heap.size ≤ b ∨ May (hidG g) (hidH g h) b) := fun hb hh => by
    obtain ⟨a1, a2⟩ := row_aside hg hb
    rcases hh with hh | hh
    · omega
    · exact a2 hh
  have lpAt : ∀ (l : Nat) (r : LoopRec), g.lp[l]? = some r → ∃ r' : LoopRec, g'.lp[l]? = some r' ∧ r'.dp = r.dp := by
    intro l r hl
    have e : (g'.lp.map LoopRec.dp)[l]? = (g.lp.map LoopRec.dp)[l]? := by rw [hlps]
    rw [List.getElem?_map, List.getElem?_map, hl] at e
    cases hl' : g'.lp[l]? with
    | none => rw [hl'] at e; cases e
    | some r' => rw [hl'] at e; simp only [Option.map_some, Option.some.injEq] at e; exact ⟨r', rfl, e⟩
  have Kun : ∀ {n d t}, n < g.dp → KG g' n d t → KG (unG g g') n d t := fun hn hk => ⟨hk.1, by rw [un_ne (by have := hk.1; omega)]; exact hk.2⟩
  have Kold : ∀ {n d t}, n ≤ g.dp → KG g n d t → KG (unG g g') n d t := fun {n d t} hn hk => by
    refine ⟨hk.1, ?_⟩
    by_cases hd : d = g.dp
    · subst hd; rw [un_eq]
      obtain ⟨bo, hbo⟩ := Option.isSome_iff_exists.1 hk.2
      rw [hbo]; rfl
    · rw [un_ne hd]
      exact (hr.bxs d t (by rw [hid_ne hd]; exact hk.2)).1
  have beold : ∀ {d t b}, (g.bx d t).isSome = true → h.be d t = some b → (unH g h h').be d t = some b := fun {d t b} hs hb => by
    by_cases hd : d = g.dp
    · subst hd; rw [unbe_eq]; exact hb
    · rw [unbe_ne hd, (hr.bxs d t (by rw [hid_ne hd]; exact hs)).2]; exact hb
  have hge : ∀ i b, (∀ t j, i ≠ .tmp g.dp t j) → h'.ga i = some b → (unH g h h').ga i = some b := fun i b hi hb => by
    cases i with
    | tmp d t j =>
      show unGa g.dp h.ga h'.ga (.tmp d t j) = some b
      simp only [unGa]
      rw [if_neg (fun e => hi t j (by rw [Nat.eq_of_beq_eq_true e]))]
      exact hb
    | _ => exact hb
  -- a name on the new side
  have gaun : ∀ i b, (unH g h h').ga i = some b → (∃ t j, i = .tmp g.dp t j ∧ h.ga i = some b) ∨ ((∀ t j, i ≠ .tmp g.dp t j) ∧ h'.ga i = some b) := by
    intro i b hi
    cases i with
    | tmp d t j =>
      have hi : unGa g.dp h.ga h'.ga (.tmp d t j) = some b := hi
      simp only [unGa] at hi
      split at hi
      · rename_i e
        have e := Nat.eq_of_beq_eq_true e
        subst e
        exact .inl ⟨t, j, rfl, hi⟩
      · rename_i e
        exact .inr ⟨fun t' j' he => by cases he; exact e (Nat.beq_refl _), hi⟩
    | box d t j => exact .inr ⟨(fun _ _ e => by cases e), hi⟩
    | res j => exact .inr ⟨(fun _ _ e => by cases e), hi⟩
  -- what stands for what on the callee's side still does
  have repn : ∀ {Q : Id → Prop} {n : Nat} {Y : Nat → Prop} {as : List AV} {vs : List Value}, n < g.dp → (∀ i, Q i → ∀ t j, i ≠ .tmp g.dp t j) → AV.oks Q (KG g' n) Y as → RepAs w' h' as vs → RepAs w' (unH g h h') as vs := by
    intro Q n Y as vs hn hQ ho hrep
    exact RepAs.ext (h := h') (h' := unH g h h') (Ext.refl _ _) (fun d t b hk hb => by rw [unbe_ne (by have := hk.1; omega)]; exact hb) (fun _ _ => rfl) (fun i b hi hb => ⟨hge i b (hQ i hi) hb, rfl, rfl⟩) _ _ ho hrep
  have repnB : ∀ {Q : Id → Prop} {n : Nat} {Y : Nat → Prop} {ty : Nat × Nat} {as : List AV} {vs : List Value}, n < g.dp → (∀ i, Q i → ∀ t j, i ≠ .tmp g.dp t j) → AV.oks Q (KG g' n) Y as → RepBx w' h' ty as vs → RepBx w' (unH g h h') ty as vs := by
    intro Q n Y ty as vs hn hQ ho hrep
    exact RepBx.ext (h := h') (h' := unH g h h') (Ext.refl _ _) (fun d t b hk hb => by rw [unbe_ne (by have := hk.1; omega)]; exact hb) (fun _ _ => rfl) (fun i b hi hb => ⟨hge i b (hQ i hi) hb, rfl, rfl⟩) _ _ ho hrep
  have repn1 : ∀ {Q : Id → Prop} {n : Nat} {Y : Nat → Prop} {a : AV} {v : Value}, n < g.dp → (∀ i, Q i → ∀ t j, i ≠ .tmp g.dp t j) → AV.ok Q (KG g' n) Y a → RepA w' h' a v → RepA w' (unH g h h') a v := by
    intro Q n Y a v hn hQ ho hrep
    exact RepA.ext (h := h') (h' := unH g h h') (Ext.refl _ _) (fun d t b hk hb => by rw [unbe_ne (by have := hk.1; omega)]; exact hb) (fun _ _ => rfl) (fun i b hi hb => ⟨hge i b (hQ i hi) hb, rfl, rfl⟩) _ _ ho hrep
  have boxQ : ∀ i, IsBox i → ∀ t j, i ≠ .tmp g.dp t j := fun i hi t j e => by subst e; exact hi.elim
  refine ⟨⟨?_, ?_, ?_, ?_, ?_, ?_, hg'.lim, ?_, hg'.roInj, ?_⟩, ⟨hr.os, hr.tape, hr.output, hr.size, hr.ext, ?_, ?_, hr.ro, ?_, ?_, ?_, ?_, hr.lpLen⟩⟩
  · intro d t bo hb
    by_cases hd : d = g.dp
    · subst hd
      rw [un_eq] at hb
      obtain ⟨bo0, hbo, rfl⟩ := Option.map_eq_some_iff.1 hb
      obtain ⟨_, h3, b, c, e, h4, h5, h6, h7, h8⟩ := hg.bx _ t bo0 hbo
      obtain ⟨a1, a2⟩ := box_aside hg (by rw [hbo]; rfl) h4
      obtain ⟨k1, k2⟩ := hr.keep b a1 a2
      have hoks : AV.oks NoId (KG g g.dp) (YG g g.dp) (demAlls bo0.cells) := AV.oks.demAll _ h3
      refine ⟨Nat.le_refl _, ?_, b, c, e, by rw [unbe_eq]; exact h4, by rw [k1]; exact h5, ?_, h7, ?_⟩
      · refine AV.oks.mono (fun _ hh => hh.elim) (fun _ _ hk => Kold (Nat.le_refl _) hk) (fun l hl => ?_) _ hoks
        obtain ⟨r, hl1, hl2⟩ := hl
        obtain ⟨r', hl3, hl4⟩ := lpAt l r hl1
        exact ⟨r', hl3, by omega⟩
      · refine RepBx.ext (h := h) (h' := unH g h h') hr.ext (fun d t b hk hb => beold hk.2 hb) (fun l hl => ?_) (fun _ _ hh => hh.elim) _ _ hoks (RepBx.noOwn (w' := w) (h' := h) (RepAs.demAll _ _ h6.1) (fun i sz es hh => by
          have := oks_at hoks hh
          simp only [AV.ok, NoId] at this))
        exact hr.ro l (by obtain ⟨r, hl1, _⟩ := hl; exact (List.getElem?_eq_some_iff.1 hl1).1)
      · show h'.L b = _
        rw [k2]
        exact h8
    · rw [un_ne hd] at hb
      obtain ⟨h2, h3, b, c, e, h4, h5, h6, h7, h8⟩ := hg'.bx d t bo hb
      have hlt : d < g.dp := by omega
      refine ⟨by show d ≤ g.dp; omega, AV.oks.mono (fun _ hh => hh) (fun _ _ hk => Kun hlt hk) (fun _ hh => hh) _ h3, b, c, e, by rw [unbe_ne hd]; exact h4, h5, repnB hlt boxQ h3 h6, h7, h8⟩
  · intro d t d' t' b hs hs' hb hb'
    by_cases hd : d = g.dp
    · by_cases hd' : d' = g.dp
      · subst hd; subst hd'
        rw [unbe_eq] at hb hb'
        rw [un_eq] at hs hs'
        exact hg.inj _ t _ t' b (by simpa using hs) (by simpa using hs') hb hb'
      · subst hd
        rw [unbe_eq] at hb
        rw [un_eq] at hs
        rw [unbe_ne hd'] at hb'
        rw [un_ne hd'] at hs'
        exact absurd (bxm d' t' b hd' hs' hb') (asideB (by simpa using hs) hb)
    · by_cases hd' : d' = g.dp
      · subst hd'
        rw [unbe_eq] at hb'
        rw [un_eq] at hs'
        rw [unbe_ne hd] at hb
        rw [un_ne hd] at hs
        exact absurd (bxm d t b hd hs hb) (asideB (by simpa using hs') hb')
      · rw [unbe_ne hd] at hb
        rw [un_ne hd] at hs
        rw [unbe_ne hd'] at hb'
        rw [un_ne hd'] at hs'
        exact hg'.inj d t d' t' b hs hs' hb hb'
  · intro i b d t hi hs hb
    by_cases hd : d = g.dp
    · subst hd
      rw [unbe_eq] at hb
      rw [un_eq] at hs
      have hs : (g.bx g.dp t).isSome = true := by simpa using hs
      rcases gaun i b hi with ⟨t', j', rfl, hi⟩ | ⟨hne, hi⟩
      · exact hg.gaBx _ b _ t hi hs hb
      · rcases gam i b hne hi with hh | hh
        · exact asideB hs hb hh
        · exact hg.gaBx _ b _ t hh hs hb
    · rw [unbe_ne hd] at hb
      rw [un_ne hd] at hs
      rcases gaun i b hi with ⟨t', j', rfl, hi⟩ | ⟨hne, hi⟩
      · exact asideR hi (bxm d t b hd hs hb)
      · exact hg'.gaBx i b d t hi hs hb
  · intro i j b hi hj
    rcases gaun i b hi with ⟨t1, j1, rfl, hi⟩ | ⟨hne, hi⟩
    · rcases gaun j b hj with ⟨t2, j2, rfl, hj⟩ | ⟨hne2, hj⟩
      · exact hg.gaInj _ _ b hi hj
      · rcases gam j b hne2 hj with hh | hh
        · exact absurd hh (asideR hi)
        · exact hg.gaInj _ _ b hi hh
    · rcases gaun j b hj with ⟨t2, j2, rfl, hj⟩ | ⟨hne2, hj⟩
      · rcases gam i b hne hi with hh | hh
        · exact absurd hh (asideR hj)
        · exact hg.gaInj _ _ b hh hj
      · exact hg'.gaInj _ _ b hi hj
  · intro i b hi
    rcases gaun i b hi with ⟨t1, j1, rfl, hi⟩ | ⟨hne, hi⟩
    · have := hg.gaLt _ b hi; have := hr.size; omega
    · exact hg'.gaLt _ b hi
  · intro i b hi
    rcases gaun i b hi with ⟨t1, j1, rfl, hi⟩ | ⟨hne, hi⟩
    · obtain ⟨c, e, hc⟩ := hg.gaC _ b hi
      obtain ⟨a1, a2⟩ := row_aside hg hi
      exact ⟨c, e, by rw [(hr.keep b a1 a2).1]; exact hc⟩
    · exact hg'.gaC _ b hi
  · intro l r hl
    obtain ⟨⟨p1, p2, p3⟩, D, tmps, q1, q2, q3, q4⟩ := hg'.lp l r hl
    have hlt : r.dp < g.dp := by omega
    refine ⟨⟨p1, by show r.dp ≤ g.dp; omega, p3⟩, D, tmps, q1, q2, q3, fun t v hv => ?_⟩
    obtain ⟨r1, r2⟩ := q4 t v hv
    exact ⟨repn1 hlt (fun _ hh => hh.elim) r2 r1, AV.ok.mono (fun _ hh => hh) (fun _ _ hk => Kun hlt hk) (fun _ hh => hh) _ r2⟩
  · intro d t j hd
    have hd : g.dp < d := hd
    show unGa g.dp h.ga h'.ga (.tmp d t j) = none
    simp only [unGa]
    rw [if_neg (fun e => by have := Nat.eq_of_beq_eq_true e; omega)]
    exact hg'.gaTop d t j (by rw [hdp]; omega)
  · intro b hb hm
    exact hr.keep b hb (fun hh => hm (may_hid hh))
  · intro d t hs
    by_cases hd : d = g.dp
    · subst hd; rw [un_eq, unbe_eq]; exact ⟨by simpa using hs, rfl⟩
    · rw [un_ne hd, unbe_ne hd]
      exact hr.bxs d t (by rw [hid_ne hd]; exact hs)
  · intro d t j hd
    show unGa g.dp h.ga h'.ga (.tmp d t j) = _
    simp only [unGa]
    split
    · rfl
    · rename_i hne
      have hne : d ≠ g.dp := fun e => hne (by rw [e]; exact Nat.beq_refl _)
      rw [hr.ga d t j (by show d ≤ g.dp - 1; omega)]
      show hidGa g.dp h.ga (.tmp d t j) = _
      simp only [hidGa]
      rw [if_neg (fun e => hne (Nat.eq_of_beq_eq_true e))]
  · intro d t b hs hb
    by_cases hd : d = g.dp
    · subst hd
      rw [un_eq] at hs
      rw [unbe_eq] at hb
      exact .inr (.inl ⟨_, t, by simpa using hs, hb⟩)
    · rw [un_ne hd] at hs
      rw [unbe_ne hd] at hb
      exact (hr.bxMay d t b hs hb).imp id may_hid
  · intro i b hi hb
    rcases gaun i b hb with ⟨t1, j1, rfl, hb⟩ | ⟨hne, hb⟩
    · have := hi _ _ _ rfl; omega
    · exact (hr.gaMay i b (fun d t j e => by have : g.dp < d := hi d t j e; show g.dp - 1 < d; omega) hb).imp id may_hid
  · intro l hl
    exact (hr.lpMay l hl).imp id may_hid

theorem OutM.un (h1 : 1 ≤ g.dp) (hdp : g'.dp = g.dp - 1) {out : Out} {e : Ending} (hm : OutM g' w' h' out e) : OutM (unG g g') w' (unH g h h') out e := by
  cases out with
  | pan x =>
    cases e with
    | panicked chain => exact hm
    | returned v => exact hm.elim
    | outgrown => exact hm.elim
  | ret rs =>
    cases e with
    | returned v =>
      obtain ⟨vs, rfl, h2, h3, h4, h5⟩ := hm
      refine ⟨vs, rfl, ?_, h3, h4, ?_⟩
      · refine RepAs.ext (h := h') (h' := unH g h h') (Ext.refl _ _) (fun d t b hk hb => by rw [unbe_ne (by have := hk.1; omega)]; exact hb) (fun _ _ => rfl) (fun i b hi hb => ?_) _ _ h5 h2
        cases i with
        | res j => exact ⟨hb, rfl, rfl⟩
        | _ => exact hi.elim
      · refine AV.oks.mono (fun _ hh => hh) (fun d t hk => ⟨by show d ≤ g.dp; have := hk.1; omega, by rw [un_ne (by have := hk.1; omega)]; exact hk.2⟩) (fun l hl => ?_) _ h5
        obtain ⟨r, hl1, hl2⟩ := hl
        exact ⟨r, hl1, by show r.dp < g.dp + 1; omega⟩
    | panicked c => exact hm.elim
    | outgrown => exact hm.elim
end

/-- HIDING IS SOUND. -/
theorem hideE_sound {P : Program} {R : Type} (on : Bool) {E : Cal → List AV → G → (Out → G → Option R) → Option R} (hE : ESound P E) : ESound P (hideE on E) := by
  intro cal args g k r hr w h vs hg hv ho
  cases cal with
  | yld l => exact hE (.yld l) args g k r hr w h vs hg hv ho
  | fn f =>
    unfold hideE at hr
    dsimp only at hr
    split at hr
    case isFalse => exact hE (.fn f) args g k r hr w h vs hg hv ho
    rename_i hc
    simp only [Bool.and_eq_true, List.all_eq_true] at hc
    obtain ⟨⟨⟨_, c1⟩, c2⟩, c3⟩ := hc
    have c1 : 1 ≤ g.dp := Nat.le_of_ble_eq_true c1
    have hlp : ∀ (l : Nat) (r : LoopRec), g.lp[l]? = some r → r.dp < g.dp := fun l r hl => by
      have := c3 r (List.mem_of_getElem? hl)
      simpa using this
    have ho1 : AV.oks NoId (KG g (g.dp - 1)) (YG (hidG g) (g.dp - 1 + 1)) args := AV.oks.upto args c2 ho
    have ho2 : AV.oks NoId (KG (hidG g) (hidG g).dp) (YG (hidG g) ((hidG g).dp + 1)) args := AV.oks.mono (fun _ hh => hh) (fun d t hk => hid_K (by show g.dp - 1 < g.dp; omega) hk) (fun _ hh => hh) _ ho1
    have hv' : RepAs w (hidH g h) args vs := RepAs.ext (h := h) (h' := hidH g h) (Ext.refl _ _) (fun _ _ _ _ hh => hh) (fun _ _ => rfl) (fun _ _ hh => hh.elim) _ _ ho hv
    have main := hE (.fn f) args (hidG g) _ r hr w (hidH g h) vs (hg.hid c1 hlp) hv' ho2
    cases f with
    | func f =>
      refine ⟨main.1, main.2.mono ?_⟩
      rintro e w' ⟨out, g', h', hm, hg', hrel, hd, hl, hk⟩
      obtain ⟨q1, q2⟩ := unhide hg c1 hlp hg' hrel hd hl
      exact ⟨out, unG g g', unH g h h', hm.un c1 hd, q1, q2, rfl, hl, hk⟩
    | _ => exact main
end Go.Abs
