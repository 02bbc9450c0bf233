/- A frame's boxes, put aside with their rows while a call runs that does not know them. -/
import Derived.Test.YtehkgiofchmpaaaDoorAbsCall
namespace Go.Abs
open Go
set_option linter.unusedVariables false
set_option linter.unusedSimpArgs false

def boxAt (f : Nat → Bool) : Id → Bool
  | .box d _ _ => f d
  | _ => false
/-- The frame's own names. -/
def mine (dp : Nat) : Id → Bool
  | .box d _ _ => Nat.beq d dp
  | .tmp d _ _ => Nat.beq d dp
  | _ => false

mutual
  theorem RepA.demF {w : World} {h : Gh} (f : Nat → Bool) : ∀ (a : AV) (v : Value), RepA w h a v → RepA w h (demF f a) v
    | .d x, v, hr => by simpa only [Abs.demF] using hr
    | .own i sz es, v, hr => by
      cases i with
      | box d _ _ =>
        simp only [Abs.demF]
        cases f d with
        | true => simp only [RepA]; exact hr.own_sl
        | false => exact hr
      | tmp _ _ _ => simpa only [Abs.demF] using hr
      | res _ => simpa only [Abs.demF] using hr
    | .ptr _ _ _, v, hr => by simpa only [Abs.demF] using hr
    | .fn _ _, v, hr => by simpa only [Abs.demF] using hr
    | .tup xs, v, hr => by
      simp only [Abs.demF, RepA] at hr ⊢
      obtain ⟨cv, rfl, hc⟩ := hr
      exact ⟨cv, rfl, RepAs.demF f xs _ hc⟩
    | .yld _, v, hr => by simpa only [Abs.demF] using hr
    | .old _ _ _, v, hr => by simpa only [Abs.demF] using hr
    | .raw _ _ i _ _, v, hr => by
      cases i with
      | box d _ _ =>
        simp only [Abs.demF]
        cases f d with
        | true => simp only [RepA]; exact hr.raw_old
        | false => exact hr
      | tmp _ _ _ => simpa only [Abs.demF] using hr
      | res _ => simpa only [Abs.demF] using hr
  theorem RepAs.demF {w : World} {h : Gh} (f : Nat → Bool) : ∀ (as : List AV) (vs : List Value), RepAs w h as vs → RepAs w h (demFs f as) vs
    | [], vs, hr => by simpa only [demFs] using hr
    | a :: as, vs, hr => by
      simp only [demFs, RepAs] at hr ⊢
      obtain ⟨u, us, rfl, h1, h2⟩ := hr
      exact ⟨u, us, rfl, RepA.demF f a u h1, RepAs.demF f as us h2⟩
end

mutual
  theorem AV.ok.demF {Q : Id → Prop} {K : Nat → Nat → Prop} {Y : Nat → Prop} (f : Nat → Bool) : ∀ (a : AV), a.ok Q K Y → (demF f a).ok (fun j => Q j ∧ boxAt f j = false) K Y
    | .d _, _ => by simp [Abs.demF, AV.ok]
    | .own j _ _, h => by
      simp only [AV.ok] at h
      cases j with
      | box d _ _ =>
        simp only [Abs.demF]
        cases hd : f d with
        | true => simp [AV.ok]
        | false => simp only [AV.ok]; exact ⟨h, hd⟩
      | tmp _ _ _ => simp only [Abs.demF, AV.ok]; exact ⟨h, rfl⟩
      | res _ => simp only [Abs.demF, AV.ok]; exact ⟨h, rfl⟩
    | .ptr d1 t _, h => by simpa only [Abs.demF, AV.ok] using h
    | .fn _ caps, h => by simpa only [Abs.demF, AV.ok] using h
    | .tup xs, h => by simp only [Abs.demF, AV.ok] at h ⊢; exact AV.oks.demF f xs h
    | .yld l, h => by simpa only [Abs.demF, AV.ok] using h
    | .old _ _ _, _ => by simp [Abs.demF, AV.ok]
    | .raw _ _ j _ _, h => by
      simp only [AV.ok] at h
      cases j with
      | box d _ _ =>
        simp only [Abs.demF]
        cases hd : f d with
        | true => simp [AV.ok]
        | false => simp only [AV.ok]; exact ⟨h, hd⟩
      | tmp _ _ _ => simp only [Abs.demF, AV.ok]; exact ⟨h, rfl⟩
      | res _ => simp only [Abs.demF, AV.ok]; exact ⟨h, rfl⟩
  theorem AV.oks.demF {Q : Id → Prop} {K : Nat → Nat → Prop} {Y : Nat → Prop} (f : Nat → Bool) : ∀ (as : List AV), AV.oks Q K Y as → AV.oks (fun j => Q j ∧ boxAt f j = false) K Y (demFs f as)
    | [], _ => by simp [demFs, AV.oks]
    | a :: as, h => by simp only [demFs, AV.oks] at h ⊢; exact ⟨AV.ok.demF f a h.1, AV.oks.demF f as h.2⟩
end

theorem demFs_get (f : Nat → Bool) : ∀ (as : List AV) (k : Nat), (demFs f as)[k]? = (as[k]?).map (demF f)
  | [], k => by simp [demFs]
  | a :: as, 0 => by simp [demFs]
  | a :: as, k + 1 => by simp [demFs, demFs_get f as k]

theorem RepBx.demF {w : World} {h : Gh} {ty : Nat × Nat} (f : Nat → Bool) (as : List AV) (vs : List Value) (hr : RepBx w h ty as vs) : RepBx w h ty (demFs f as) vs := by
  refine ⟨RepAs.demF f as vs hr.1, fun ht j sz es v hi hv => ?_⟩
  rw [demFs_get] at hi
  cases ha : as[1]? with
  | none => rw [ha] at hi; cases hi
  | some a =>
    rw [ha] at hi
    simp only [Option.map_some, Option.some.injEq] at hi
    cases a with
    | own k z es' =>
      cases k with
      | box d t j' =>
        simp only [Abs.demF] at hi
        cases hd : f d with
        | true => rw [hd] at hi; cases hi
        | false => rw [hd] at hi; cases hi; exact hr.2 ht _ _ _ v ha hv
      | tmp d t j' => simp only [Abs.demF] at hi; cases hi; exact hr.2 ht _ _ _ v ha hv
      | res j' => simp only [Abs.demF] at hi; cases hi; exact hr.2 ht _ _ _ v ha hv
    | raw o k j' z es' =>
      cases j' with
      | box d t j'' =>
        simp only [Abs.demF] at hi
        cases hd : f d <;> rw [hd] at hi <;> cases hi
      | _ => simp only [Abs.demF] at hi; cases hi
    | _ => simp only [Abs.demF] at hi; cases hi

def kGa (dp : Nat) (ga : Id → Option Nat) : Id → Option Nat := fun i => match mine dp i with
  | true => none
  | false => ga i
def kunGa (dp : Nat) (ga ga' : Id → Option Nat) : Id → Option Nat := fun i => match mine dp i with
  | true => ga i
  | false => ga' i
def kH (g : G) (h : Gh) : Gh := { h with ga := kGa g.dp h.ga }
def kunH (g : G) (h h' : Gh) : Gh := { L := h'.L, be := fun d t => if Nat.beq d g.dp then h.be d t else h'.be d t, ga := kunGa g.dp h.ga h'.ga, ro := h'.ro }

theorem kGa_some {dp : Nat} {ga : Id → Option Nat} {i : Id} {b : Nat} (h : kGa dp ga i = some b) : mine dp i = false ∧ ga i = some b := by
  unfold kGa at h
  cases hm : mine dp i with
  | true => rw [hm] at h; cases h
  | false => rw [hm] at h; exact ⟨rfl, h⟩
theorem kGa_not {dp : Nat} {ga : Id → Option Nat} {i : Id} (h : mine dp i = false) : kGa dp ga i = ga i := by unfold kGa; rw [h]
theorem kunGa_mine {dp : Nat} {ga ga' : Id → Option Nat} {i : Id} (h : mine dp i = true) : kunGa dp ga ga' i = ga i := by unfold kunGa; rw [h]
theorem kunGa_not {dp : Nat} {ga ga' : Id → Option Nat} {i : Id} (h : mine dp i = false) : kunGa dp ga ga' i = ga' i := by unfold kunGa; rw [h]
theorem mine_tmp {dp d t j : Nat} : mine dp (.tmp d t j) = true ↔ d = dp := by simp [mine]
theorem boxAt_mine {dp : Nat} {i : Id} (hb : IsBox i) : boxAt (atD dp) i = mine dp i := by
  cases i <;> first | rfl | exact hb.elim
theorem boxOff_mine {dp : Nat} {i : Id} (hb : IsBox i) (h : boxAt (offD dp) i = false) : mine dp i = true := by
  cases i with
  | box d t j => simpa [boxAt, offD, mine] using h
  | _ => exact hb.elim

section
variable {g : G} {w : World} {h : Gh}

theorem k_bx {d t : Nat} {bo : Box} (hb : (kG g).bx d t = some bo) : d ≠ g.dp ∧ ∃ b0, g.bx d t = some b0 ∧ bo = { b0 with cells := demFs (atD g.dp) b0.cells } := by
  unfold kG at hb
  dsimp only at hb
  cases hd : Nat.beq d g.dp with
  | true => rw [hd] at hb; cases hb
  | false =>
    rw [hd] at hb
    dsimp only at hb
    refine ⟨(fun e => by rw [e, Nat.beq_refl] at hd; cases hd), ?_⟩
    cases hg : g.bx d t with
    | none => rw [hg] at hb; cases hb
    | some b0 => rw [hg] at hb; exact ⟨b0, rfl, by simpa [mapBx] using hb.symm⟩
theorem k_ne {d t : Nat} (hd : d ≠ g.dp) : (kG g).bx d t = mapBx (demFs (atD g.dp)) (g.bx d t) := by
  unfold kG
  dsimp only
  rw [show Nat.beq d g.dp = false from Bool.eq_false_iff.2 fun e => hd (Nat.eq_of_beq_eq_true e)]
theorem mapBx_isSome {φ : List AV → List AV} {o : Option Box} : (mapBx φ o).isSome = o.isSome := by cases o <;> rfl
theorem k_some {d t : Nat} (hs : ((kG g).bx d t).isSome = true) : d ≠ g.dp ∧ (g.bx d t).isSome = true := by
  obtain ⟨bo, hbo⟩ := Option.isSome_iff_exists.1 hs
  obtain ⟨h1, b0, h2, _⟩ := k_bx hbo
  exact ⟨h1, by rw [h2]; rfl⟩

theorem k_K {n : Nat} (hn : n < g.dp) {d t : Nat} (hk : KG g n d t) : KG (kG g) n d t := ⟨hk.1, by rw [k_ne (by have := hk.1; omega), mapBx_isSome]; exact hk.2⟩

theorem GI.keep (hg : GI g w h) (h1 : 1 ≤ g.dp) (hlp : ∀ (l : Nat) (r : LoopRec), g.lp[l]? = some r → r.dp < g.dp) : GI (kG g) w (kH g h) where
  bx := fun d t bo hb => by
    obtain ⟨hd, b0, hb0, rfl⟩ := k_bx hb
    obtain ⟨h2, h3, b, c, e, h4, h5, h6, h7, h8⟩ := hg.bx d t b0 hb0
    have hlt : d < g.dp := by omega
    have h3' := AV.oks.demF (atD g.dp) _ h3
    refine ⟨by show d ≤ g.dp - 1; omega, AV.oks.mono (fun _ hh => hh.1) (fun _ _ hk => k_K hlt hk) (fun _ hh => hh) _ h3', b, c, e, h4, h5, ?_, h7, h8⟩
    exact RepBx.ext (h := h) (h' := kH g h) (Ext.refl _ _) (fun _ _ _ _ hh => hh) (fun _ _ => rfl) (fun i b hi hib => by
      refine ⟨?_, rfl, rfl⟩
      show kGa g.dp h.ga i = some b
      rw [kGa_not (by rw [← boxAt_mine hi.1]; exact hi.2), hib]) _ _ h3' (RepBx.demF _ _ _ h6)
  inj := fun d t d' t' b ha hb hc hd => hg.inj d t d' t' b (k_some ha).2 (k_some hb).2 hc hd
  gaBx := fun i b d t hi hs => hg.gaBx i b d t (kGa_some hi).2 (k_some hs).2
  gaInj := fun i j b hi hj => hg.gaInj i j b (kGa_some hi).2 (kGa_some hj).2
  gaLt := fun i b hi => hg.gaLt i b (kGa_some hi).2
  gaC := fun i b hi => hg.gaC i b (kGa_some hi).2
  lim := hg.lim
  lp := fun l r hl => by
    obtain ⟨⟨p1, p2, p3⟩, D, tmps, q1, q2, q3, q4⟩ := hg.lp l r hl
    have hlt := hlp l r hl
    refine ⟨⟨p1, by show r.dp ≤ g.dp - 1; omega, p3⟩, D, tmps, q1, q2, q3, fun t v hv => ?_⟩
    obtain ⟨r1, r2⟩ := q4 t v hv
    exact ⟨RepA.ext (h := h) (h' := kH g h) (Ext.refl _ _) (fun _ _ _ _ hh => hh) (fun _ _ => rfl) (fun _ _ hh => hh.elim) _ _ r2 r1, AV.ok.mono (fun _ hh => hh) (fun _ _ hk => k_K hlt hk) (fun _ hh => hh) _ r2⟩
  roInj := hg.roInj
  gaTop := fun d t j hd => by
    show kGa g.dp h.ga (.tmp d t j) = none
    have hd : g.dp - 1 < d := hd
    cases hm : mine g.dp (.tmp d t j) with
    | true => unfold kGa; rw [hm]
    | false =>
      rw [kGa_not hm]
      exact hg.gaTop d t j (by
        have : d ≠ g.dp := fun e => by rw [mine_tmp.2 e] at hm; cases hm
        omega)

theorem may_k {b : Nat} (hm : May (kG g) (kH g h) b) : May g h b := by
  rcases hm with ⟨d, t, hs, hb⟩ | ⟨i, hi, hb⟩ | ⟨l, hl, hb⟩
  · exact .inl ⟨d, t, (k_some hs).2, hb⟩
  · exact .inr (.inl ⟨i, hi, (kGa_some hb).2⟩)
  · exact .inr (.inr ⟨l, hl, hb⟩)

/-- A box put aside is not among what may turn. -/
theorem kbox_aside (hg : GI g w h) {t b : Nat} (hs : (g.bx g.dp t).isSome = true) (hb : h.be g.dp t = some b) : b < w.heap.size ∧ ¬ May (kG g) (kH g h) b := by
  obtain ⟨bo, hbo⟩ := Option.isSome_iff_exists.1 hs
  obtain ⟨_, _, b', c, e, h3, h4, _⟩ := hg.bx _ t bo hbo
  rw [hb] at h3; cases h3
  refine ⟨lt_of_heap h4, ?_⟩
  rintro (⟨d, t', hs', hb'⟩ | ⟨i, hi, hb'⟩ | ⟨l, hl, rfl⟩)
  · obtain ⟨hd, hs'⟩ := k_some hs'
    exact hd (hg.inj d t' g.dp t b hs' hs hb' hb).1
  · exact hg.gaBx i b g.dp t (kGa_some hb').2 hs hb
  · obtain ⟨_, D, tmps, q1, _⟩ := hg.lp l _ (List.getElem?_eq_getElem hl)
    have q1' : w.heap[(h.ro l).1]? = some (.loop _) := q1
    have h4' : w.heap[(h.ro l).1]? = some (.cells c e.1 (0, 0)) := h4
    rw [h4'] at q1'; cases q1'
/-- Nor is a row of the frame's. -/
theorem krow_aside (hg : GI g w h) {i : Id} {b : Nat} (hm : mine g.dp i = true) (hb : h.ga i = some b) : b < w.heap.size ∧ ¬ May (kG g) (kH g h) b := by
  obtain ⟨c, e, h4⟩ := hg.gaC _ b hb
  refine ⟨lt_of_heap h4, ?_⟩
  rintro (⟨d, t', hs', hb'⟩ | ⟨k, hi, hb'⟩ | ⟨l, hl, rfl⟩)
  · obtain ⟨hd, hs'⟩ := k_some hs'
    exact hg.gaBx _ b d t' hb hs' hb'
  · obtain ⟨k1, k2⟩ := kGa_some hb'
    rw [hg.gaInj k i b k2 hb, hm] at k1
    cases k1
  · obtain ⟨_, D, tmps, q1, _⟩ := hg.lp l _ (List.getElem?_eq_getElem hl)
    have q1' : w.heap[(h.ro l).1]? = some (.loop _) := q1
    have h4' : w.heap[(h.ro l).1]? = some (.cells c e (0, 0)) := h4
    rw [h4'] at q1'; cases q1'

variable {g' : G} {w' : World} {h' : Gh}

theorem kun_eq {t : Nat} : (kunG g g').bx g.dp t = mapBx (demFs (offD g.dp)) (g.bx g.dp t) := by
  unfold kunG
  dsimp only
  rw [Nat.beq_refl]
theorem kun_ne {d t : Nat} (hd : d ≠ g.dp) : (kunG g g').bx d t = mapBx (demFs (atD g.dp)) (g'.bx d t) := by
  unfold kunG
  dsimp only
  rw [show Nat.beq d g.dp = false from Bool.eq_false_iff.2 fun e => hd (Nat.eq_of_beq_eq_true e)]
theorem kunbe_eq {t : Nat} : (kunH g h h').be g.dp t = h.be g.dp t := by
  unfold kunH; dsimp only; rw [if_pos (Nat.beq_refl _)]
theorem kunbe_ne {d t : Nat} (hd : d ≠ g.dp) : (kunH g h h').be d t = h'.be d t := by
  unfold kunH; dsimp only; rw [if_neg (fun e => hd (Nat.eq_of_beq_eq_true e))]
theorem mapBx_some {φ : List AV → List AV} {o : Option Box} {b : Box} (h : mapBx φ o = some b) : ∃ b0, o = some b0 ∧ b = { b0 with cells := φ b0.cells } := by
  cases o with
  | none => cases h
  | some b0 => exact ⟨b0, rfl, by simpa [mapBx] using h.symm⟩

/-- What the call does to none of the frame's rows. -/
theorem kept_row (hg : GI g w h) (hr : Rel (kG g) (kH g h) w g' w' h') {i : Id} {b : Nat} (hm : mine g.dp i = true) (hb : h.ga i = some b) : (kunH g h h').ga i = some b ∧ (kunH g h h').L b = h.L b ∧ w'.heap[b]? = w.heap[b]? := by
  obtain ⟨a1, a2⟩ := krow_aside hg hm hb
  obtain ⟨k1, k2⟩ := hr.keep b a1 a2
  exact ⟨by show kunGa g.dp h.ga h'.ga i = some b; rw [kunGa_mine hm, hb], k2, k1⟩

theorem kK_old (hr : Rel (kG g) (kH g h) w g' w' h') {n d t : Nat} (hn : n ≤ g.dp) (hk : KG g n d t) : KG (kunG g g') n d t := by
  refine ⟨hk.1, ?_⟩
  by_cases hd : d = g.dp
  · subst hd; rw [kun_eq, mapBx_isSome]; exact hk.2
  · rw [kun_ne hd, mapBx_isSome]
    exact (hr.bxs d t (by rw [k_ne hd, mapBx_isSome]; exact hk.2)).1
theorem kbe_old (hr : Rel (kG g) (kH g h) w g' w' h') {d t b : Nat} (hs : (g.bx d t).isSome = true) (hb : h.be d t = some b) : (kunH g h h').be d t = some b := by
  by_cases hd : d = g.dp
  · subst hd; rw [kunbe_eq]; exact hb
  · rw [kunbe_ne hd, (hr.bxs d t (by rw [k_ne hd, mapBx_isSome]; exact hs)).2]; exact hb

/-- The boxes and their rows are as they were, the callee's work beside them. -/
theorem unkeep (hg : GI g w h) (h1 : 1 ≤ g.dp) (hlp : ∀ (l : Nat) (r : LoopRec), g.lp[l]? = some r → r.dp < g.dp) (hg' : GI g' w' h') (hr : Rel (kG g) (kH g h) w g' w' h') (hdp : g'.dp = g.dp - 1) (hlps : g'.lp.map LoopRec.dp = g.lp.map LoopRec.dp) :
    GI (kunG g g') w' (kunH g h h') ∧ Rel g h w (kunG g g') w' (kunH g h h') := by
  have bxm : ∀ d t b, d ≠ g.dp → (g'.bx d t).isSome = true → h'.be d t = some b → w.heap.size ≤ b ∨ May (kG g) (kH g h) b := fun d t b _ hs hb => hr.bxMay d t b hs hb
  have gam : ∀ i b, mine g.dp i = false → h'.ga i = some b → (w.heap.size ≤ b ∨ May (kG g) (kH g h) b) ∨ h.ga i = some b := by
    intro i b hi hb
    cases i with
    | tmp d t j =>
      by_cases hd : d < g.dp
      · right
        have e := hr.ga d t j (by show d ≤ g.dp - 1; omega)
        rw [e] at hb
        exact (kGa_some hb).2
      · have hne : d ≠ g.dp := fun e => by rw [mine_tmp.2 e] at hi; cases hi
        rw [hg'.gaTop d t j (by rw [hdp]; omega)] at hb
        cases hb
    | box d t j => exact .inl (hr.gaMay _ b (by intro _ _ _ e; cases e) hb)
    | res j => exact .inl (hr.gaMay _ b (by intro _ _ _ e; cases e) hb)
  have asideB : ∀ {t b}, (g.bx g.dp t).isSome = true → h.be g.dp t = some b → ¬ (w.heap.size ≤ b ∨ May (kG g) (kH g h) b) := fun hs hb hh => by
    obtain ⟨a1, a2⟩ := kbox_aside hg hs hb
    rcases hh with hh | hh
    · omega
    · exact a2 hh
  have asideR : ∀ {i b}, mine g.dp i = true → h.ga i = some b → ¬ (w.heap.size ≤ b ∨ May (kG g) (kH g h) b) := fun hm hb hh => by
    obtain ⟨a1, a2⟩ := krow_aside hg hm hb
    rcases hh with hh | hh
    · omega
    · exact a2 hh
  have lpAt : ∀ (l : Nat) (r : LoopRec), g.lp[l]? = some r → ∃ r' : LoopRec, g'.lp[l]? = some r' ∧ r'.dp = r.dp := by
    intro l r hl
    have e : (g'.lp.map LoopRec.dp)[l]? = (g.lp.map LoopRec.dp)[l]? := by rw [hlps]
    rw [List.getElem?_map, List.getElem?_map, hl] at e
    cases hl' : g'.lp[l]? with
    | none => rw [hl'] at e; cases e
    | some r' => rw [hl'] at e; simp only [Option.map_some, Option.some.injEq] at e; exact ⟨r', rfl, e⟩
  have Kun : ∀ {n d t}, n < g.dp → KG g' n d t → KG (kunG g g') n d t := fun hn hk => ⟨hk.1, by rw [kun_ne (by have := hk.1; omega), mapBx_isSome]; exact hk.2⟩
  have hge : ∀ i b, mine g.dp i = false → h'.ga i = some b → (kunH g h h').ga i = some b := fun i b hi hb => by
    show kunGa g.dp h.ga h'.ga i = some b
    rw [kunGa_not hi]; exact hb
  have gaun : ∀ i b, (kunH g h h').ga i = some b → (mine g.dp i = true ∧ h.ga i = some b) ∨ (mine g.dp i = false ∧ h'.ga i = some b) := by
    intro i b hi
    have hi : kunGa g.dp h.ga h'.ga i = some b := hi
    cases hm : mine g.dp i with
    | true => rw [kunGa_mine hm] at hi; exact .inl ⟨rfl, hi⟩
    | false => rw [kunGa_not hm] at hi; exact .inr ⟨rfl, hi⟩
  have repnB : ∀ {Q : Id → Prop} {n : Nat} {Y : Nat → Prop} {ty : Nat × Nat} {as : List AV} {vs : List Value}, n < g.dp → (∀ i, Q i → mine g.dp i = false) → AV.oks Q (KG g' n) Y as → RepBx w' h' ty as vs → RepBx w' (kunH g h h') ty as vs := by
    intro Q n Y ty as vs hn hQ ho hrep
    exact RepBx.ext (h := h') (h' := kunH g h h') (Ext.refl _ _) (fun d t b hk hb => by rw [kunbe_ne (by have := hk.1; omega)]; exact hb) (fun _ _ => rfl) (fun i b hi hb => ⟨hge i b (hQ i hi) hb, rfl, rfl⟩) _ _ ho hrep
  have repn1 : ∀ {Q : Id → Prop} {n : Nat} {Y : Nat → Prop} {a : AV} {v : Value}, n < g.dp → (∀ i, Q i → mine g.dp i = false) → AV.ok Q (KG g' n) Y a → RepA w' h' a v → RepA w' (kunH g h h') a v := by
    intro Q n Y a v hn hQ ho hrep
    exact RepA.ext (h := h') (h' := kunH g h h') (Ext.refl _ _) (fun d t b hk hb => by rw [kunbe_ne (by have := hk.1; omega)]; exact hb) (fun _ _ => rfl) (fun i b hi hb => ⟨hge i b (hQ i hi) hb, rfl, rfl⟩) _ _ ho hrep
  refine ⟨⟨?_, ?_, ?_, ?_, ?_, ?_, hg'.lim, ?_, hg'.roInj, ?_⟩, ⟨hr.os, hr.tape, hr.output, hr.size, hr.ext, ?_, ?_, hr.ro, ?_, ?_, ?_, ?_, hr.lpLen⟩⟩
  · intro d t bo hb
    by_cases hd : d = g.dp
    · subst hd
      rw [kun_eq] at hb
      obtain ⟨bo0, hbo, rfl⟩ := mapBx_some hb
      obtain ⟨_, h3, b, c, e, h4, h5, h6, h7, h8⟩ := hg.bx _ t bo0 hbo
      obtain ⟨a1, a2⟩ := kbox_aside hg (by rw [hbo]; rfl) h4
      obtain ⟨k1, k2⟩ := hr.keep b a1 a2
      have hoks := AV.oks.demF (offD g.dp) _ h3
      refine ⟨Nat.le_refl _, ?_, b, c, e, by rw [kunbe_eq]; exact h4, by rw [k1]; exact h5, ?_, h7, ?_⟩
      · refine AV.oks.mono (fun _ hh => hh.1) (fun _ _ hk => kK_old hr (Nat.le_refl _) hk) (fun l hl => ?_) _ hoks
        obtain ⟨r, hl1, hl2⟩ := hl
        obtain ⟨r', hl3, hl4⟩ := lpAt l r hl1
        exact ⟨r', hl3, by omega⟩
      · refine RepBx.ext (h := h) (h' := kunH g h h') hr.ext (fun d t b hk hb => kbe_old hr hk.2 hb) (fun l hl => ?_) (fun i b hi hb => kept_row hg hr (boxOff_mine hi.1 hi.2) hb) _ _ hoks (RepBx.demF _ _ _ h6)
        exact hr.ro l (by obtain ⟨r, hl1, _⟩ := hl; exact (List.getElem?_eq_some_iff.1 hl1).1)
      · show h'.L b = _
        rw [k2]
        exact h8
    · rw [kun_ne hd] at hb
      obtain ⟨bo0, hbo, rfl⟩ := mapBx_some hb
      obtain ⟨h2, h3, b, c, e, h4, h5, h6, h7, h8⟩ := hg'.bx d t bo0 hbo
      have hlt : d < g.dp := by omega
      have h3' := AV.oks.demF (atD g.dp) _ h3
      refine ⟨by show d ≤ g.dp; omega, AV.oks.mono (fun _ hh => hh.1) (fun _ _ hk => Kun hlt hk) (fun _ hh => hh) _ h3', b, c, e, by rw [kunbe_ne hd]; exact h4, h5, repnB hlt (fun i hi => by rw [← boxAt_mine hi.1]; exact hi.2) h3' (RepBx.demF _ _ _ h6), h7, h8⟩
  · intro d t d' t' b hs hs' hb hb'
    by_cases hd : d = g.dp
    · by_cases hd' : d' = g.dp
      · subst hd; subst hd'
        rw [kunbe_eq] at hb hb'
        rw [kun_eq, mapBx_isSome] at hs hs'
        exact hg.inj _ t _ t' b hs hs' hb hb'
      · subst hd
        rw [kunbe_eq] at hb
        rw [kun_eq, mapBx_isSome] at hs
        rw [kunbe_ne hd'] at hb'
        rw [kun_ne hd', mapBx_isSome] at hs'
        exact absurd (bxm d' t' b hd' hs' hb') (asideB hs hb)
    · by_cases hd' : d' = g.dp
      · subst hd'
        rw [kunbe_eq] at hb'
        rw [kun_eq, mapBx_isSome] at hs'
        rw [kunbe_ne hd] at hb
        rw [kun_ne hd, mapBx_isSome] at hs
        exact absurd (bxm d t b hd hs hb) (asideB hs' hb')
      · rw [kunbe_ne hd] at hb
        rw [kun_ne hd, mapBx_isSome] at hs
        rw [kunbe_ne hd'] at hb'
        rw [kun_ne hd', mapBx_isSome] at hs'
        exact hg'.inj d t d' t' b hs hs' hb hb'
  · intro i b d t hi hs hb
    by_cases hd : d = g.dp
    · subst hd
      rw [kunbe_eq] at hb
      rw [kun_eq, mapBx_isSome] at hs
      rcases gaun i b hi with ⟨hm, hi⟩ | ⟨hne, hi⟩
      · exact hg.gaBx _ b _ t hi hs hb
      · rcases gam i b hne hi with hh | hh
        · exact asideB hs hb hh
        · exact hg.gaBx _ b _ t hh hs hb
    · rw [kunbe_ne hd] at hb
      rw [kun_ne hd, mapBx_isSome] at hs
      rcases gaun i b hi with ⟨hm, hi⟩ | ⟨hne, hi⟩
      · exact asideR hm hi (bxm d t b hd hs hb)
      · exact hg'.gaBx i b d t hi hs hb
  · intro i j b hi hj
    rcases gaun i b hi with ⟨hm, hi⟩ | ⟨hne, hi⟩
    · rcases gaun j b hj with ⟨hm2, hj⟩ | ⟨hne2, hj⟩
      · exact hg.gaInj _ _ b hi hj
      · rcases gam j b hne2 hj with hh | hh
        · exact absurd hh (asideR hm hi)
        · exact hg.gaInj _ _ b hi hh
    · rcases gaun j b hj with ⟨hm2, hj⟩ | ⟨hne2, hj⟩
      · rcases gam i b hne hi with hh | hh
        · exact absurd hh (asideR hm2 hj)
        · exact hg.gaInj _ _ b hh hj
      · exact hg'.gaInj _ _ b hi hj
  · intro i b hi
    rcases gaun i b hi with ⟨hm, hi⟩ | ⟨hne, hi⟩
    · have := hg.gaLt _ b hi; have := hr.size; omega
    · exact hg'.gaLt _ b hi
  · intro i b hi
    rcases gaun i b hi with ⟨hm, hi⟩ | ⟨hne, hi⟩
    · obtain ⟨c, e, hc⟩ := hg.gaC _ b hi
      obtain ⟨a1, a2⟩ := krow_aside hg hm hi
      exact ⟨c, e, by rw [(hr.keep b a1 a2).1]; exact hc⟩
    · exact hg'.gaC _ b hi
  · intro l r hl
    obtain ⟨⟨p1, p2, p3⟩, D, tmps, q1, q2, q3, q4⟩ := hg'.lp l r hl
    have hlt : r.dp < g.dp := by omega
    refine ⟨⟨p1, by show r.dp ≤ g.dp; omega, p3⟩, D, tmps, q1, q2, q3, fun t v hv => ?_⟩
    obtain ⟨r1, r2⟩ := q4 t v hv
    exact ⟨repn1 hlt (fun _ hh => hh.elim) r2 r1, AV.ok.mono (fun _ hh => hh) (fun _ _ hk => Kun hlt hk) (fun _ hh => hh) _ r2⟩
  · intro d t j hd
    have hd : g.dp < d := hd
    show kunGa g.dp h.ga h'.ga (.tmp d t j) = none
    have hm : mine g.dp (.tmp d t j) = false := Bool.eq_false_iff.2 fun e => by have := mine_tmp.1 e; omega
    rw [kunGa_not hm]
    exact hg'.gaTop d t j (by rw [hdp]; omega)
  · intro b hb hm
    exact hr.keep b hb (fun hh => hm (may_k hh))
  · intro d t hs
    by_cases hd : d = g.dp
    · subst hd; rw [kun_eq, kunbe_eq, mapBx_isSome]; exact ⟨hs, rfl⟩
    · rw [kun_ne hd, kunbe_ne hd, mapBx_isSome]
      exact hr.bxs d t (by rw [k_ne hd, mapBx_isSome]; exact hs)
  · intro d t j hd
    show kunGa g.dp h.ga h'.ga (.tmp d t j) = _
    cases hm : mine g.dp (.tmp d t j) with
    | true => rw [kunGa_mine hm]
    | false =>
      rw [kunGa_not hm]
      have hne : d ≠ g.dp := fun e => by rw [mine_tmp.2 e] at hm; cases hm
      rw [hr.ga d t j (by show d ≤ g.dp - 1; omega)]
      show kGa g.dp h.ga (.tmp d t j) = _
      rw [kGa_not hm]
  · intro d t b hs hb
    by_cases hd : d = g.dp
    · subst hd
      rw [kun_eq, mapBx_isSome] at hs
      rw [kunbe_eq] at hb
      exact .inr (.inl ⟨_, t, hs, hb⟩)
    · rw [kun_ne hd, mapBx_isSome] at hs
      rw [kunbe_ne hd] at hb
      exact (hr.bxMay d t b hs hb).imp id may_k
  · intro i b hi hb
    rcases gaun i b hb with ⟨hm, hb⟩ | ⟨hne, hb⟩
    · cases i with
      | tmp d t j => have := mine_tmp.1 hm; have := hi _ _ _ rfl; omega
      | box d t j => exact .inr (.inr (.inl ⟨_, by simp, hb⟩))
      | res j => cases hm
    · exact (hr.gaMay i b (fun d t j e => by have : g.dp < d := hi d t j e; show g.dp - 1 < d; omega) hb).imp id may_k
  · intro l hl
    exact (hr.lpMay l hl).imp id may_k

theorem OutM.kun (h1 : 1 ≤ g.dp) (hdp : g'.dp = g.dp - 1) {out : Out} {e : Ending} (hm : OutM g' w' h' out e) : OutM (kunG g g') w' (kunH g h h') out e := by
  cases out with
  | pan x =>
    cases e with
    | panicked chain => exact hm
    | returned v => exact hm.elim
    | outgrown => exact hm.elim
  | ret rs =>
    cases e with
    | returned v =>
      obtain ⟨vs, rfl, h2, h3, h4, h5⟩ := hm
      refine ⟨vs, rfl, ?_, h3, h4, ?_⟩
      · refine RepAs.ext (h := h') (h' := kunH g h h') (Ext.refl _ _) (fun d t b hk hb => by rw [kunbe_ne (by have := hk.1; omega)]; exact hb) (fun _ _ => rfl) (fun i b hi hb => ?_) _ _ h5 h2
        cases i with
        | res j => exact ⟨hb, rfl, rfl⟩
        | _ => exact hi.elim
      · refine AV.oks.mono (fun _ hh => hh) (fun d t hk => ⟨by show d ≤ g.dp; have := hk.1; omega, by rw [kun_ne (by have := hk.1; omega), mapBx_isSome]; exact hk.2⟩) (fun l hl => ?_) _ h5
        obtain ⟨r, hl1, hl2⟩ := hl
        exact ⟨r, hl1, by show r.dp < g.dp + 1; omega⟩
    | panicked c => exact hm.elim
    | outgrown => exact hm.elim
end
end Go.Abs
