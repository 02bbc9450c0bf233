/- A frame goes. -/
import Derived.Test.YtehkgiofchmpaaaDoorAbsRet
namespace Go.Abs
open Go
set_option linter.unusedVariables false
set_option linter.unusedSimpArgs false
set_option linter.unnecessarySimpa false

section
variable {P : Program} {g0 : G} {h0 : Gh} {w0 : World} {nt : Nat}

def gaClear (ga : Id → Option Nat) (dp : Nat) : Id → Option Nat
  | .tmp d t j => if d = dp then none else ga (.tmp d t j)
  | k => ga k

theorem gaClear_inv {ga : Id → Option Nat} {dp : Nat} {k : Id} {b : Nat} (h : gaClear ga dp k = some b) : ga k = some b ∧ ∀ t j, k ≠ .tmp dp t j := by
  cases k with
  | tmp d t j =>
    simp only [gaClear] at h
    split at h
    · cases h
    · rename_i e
      exact ⟨h, fun t' j' e' => by cases e'; exact e rfl⟩
  | box d t j => exact ⟨h, by simp⟩
  | res j => exact ⟨h, by simp⟩

theorem GI.pop {g : G} {w : World} {h : Gh} (hg : GI g w h) {dp : Nat} (hdp : g.dp = dp + 1) (hlp : ∀ r ∈ g.lp, r.dp ≤ dp) : GI (popG g (dp + 1)) w { h with ga := gaClear h.ga (dp + 1) } := by
  have hbx : ∀ d t, (popG g (dp + 1)).bx d t = if d = dp + 1 then none else g.bx d t := by
    intro d t
    show (if Nat.beq d (dp + 1) then none else g.bx d t) = _
    by_cases e : d = dp + 1
    · rw [if_pos (by simpa using e), if_pos e]
    · rw [if_neg (by simpa using e), if_neg e]
  have hsub : ∀ d t bo, (popG g (dp + 1)).bx d t = some bo → g.bx d t = some bo ∧ d ≤ dp := by
    intro d t bo hb
    rw [hbx] at hb
    split at hb
    · cases hb
    · rename_i e
      have := (hg.bx d t bo hb).1
      exact ⟨hb, by omega⟩
  have hsome : ∀ d t, ((popG g (dp + 1)).bx d t).isSome = true → (g.bx d t).isSome = true := by
    intro d t hs
    obtain ⟨bo, hbo⟩ := Option.isSome_iff_exists.1 hs
    rw [(hsub d t bo hbo).1]; rfl
  have hK : ∀ n, n ≤ dp → ∀ d t, KG g n d t → KG (popG g (dp + 1)) n d t := fun n hn d t hk => ⟨hk.1, by rw [hbx, if_neg (by have := hk.1; omega)]; exact hk.2⟩
  have hga : ∀ i b, IsBox i → h.ga i = some b → gaClear h.ga (dp + 1) i = some b ∧ h.L b = h.L b ∧ w.heap[b]? = w.heap[b]? := by
    intro i b hi hb
    cases i with
    | box _ _ _ => exact ⟨hb, rfl, rfl⟩
    | _ => exact hi.elim
  refine { bx := ?_, inj := ?_, gaBx := ?_, gaInj := ?_, gaLt := ?_, gaC := ?_, lim := hg.lim, lp := ?_, roInj := hg.roInj, gaTop := ?_ }
  · intro d t bo hbo
    obtain ⟨q1, q2⟩ := hsub d t bo hbo
    obtain ⟨h1, h2, b', c, e, h3, h4, h5, h6, h7⟩ := hg.bx d t bo q1
    refine ⟨q2, AV.oks.mono (fun _ h => h) (hK d q2) (fun _ h => h) _ h2, b', c, e, h3, h4, ?_, h6, h7⟩
    exact RepBx.ext (h := h) (h' := { h with ga := gaClear h.ga (dp + 1) }) (Ext.refl w h.L) (fun _ _ _ _ h => h) (fun _ _ => rfl) hga _ _ h2 h5
  · intro d t d' t' b q1 q2
    exact hg.inj d t d' t' b (hsome d t q1) (hsome d' t' q2)
  · intro i b d t q1 q2
    exact hg.gaBx i b d t (gaClear_inv q1).1 (hsome d t q2)
  · intro i j b q1 q2
    exact hg.gaInj i j b (gaClear_inv q1).1 (gaClear_inv q2).1
  · intro i b q1
    exact hg.gaLt i b (gaClear_inv q1).1
  · intro i b q1
    exact hg.gaC i b (gaClear_inv q1).1
  · intro l r hl
    obtain ⟨hp, D, tmps, h1, h2, h3, h4⟩ := hg.lp l r hl
    have hrd := hlp r (List.mem_of_getElem? hl)
    refine ⟨⟨hp.1, hrd, hp.2.2⟩, D, tmps, h1, h2, h3, fun t v hv => ?_⟩
    obtain ⟨h5, h6⟩ := h4 t v hv
    exact ⟨RepA.ext (h := h) (h' := { h with ga := gaClear h.ga (dp + 1) }) (Ext.refl w h.L) (fun _ _ _ _ h => h) (fun _ _ => rfl) (fun _ _ h => h.elim) _ _ h6 h5, AV.ok.mono (fun _ h => h) (hK r.dp hrd) (fun _ h => h) _ h6⟩
  · intro d t j hd
    show gaClear h.ga (dp + 1) (.tmp d t j) = none
    simp only [gaClear]
    split
    · rfl
    · refine hg.gaTop d t j ?_
      have hd : dp < d := hd
      omega

theorem Rel.pop {g : G} {w : World} {h : Gh} (hr : Rel g0 h0 w0 g w h) {dp : Nat} (h0dp : g0.dp ≤ dp) (hbxd : ∀ d t, (g0.bx d t).isSome = true → d ≤ dp) : Rel g0 h0 w0 (popG g (dp + 1)) w { h with ga := gaClear h.ga (dp + 1) } := by
  have hbx : ∀ d t, (popG g (dp + 1)).bx d t = if d = dp + 1 then none else g.bx d t := by
    intro d t
    show (if Nat.beq d (dp + 1) then none else g.bx d t) = _
    by_cases e : d = dp + 1
    · rw [if_pos (by simpa using e), if_pos e]
    · rw [if_neg (by simpa using e), if_neg e]
  exact
    { hr with
      bxs := fun d t hs => by
        obtain ⟨a1, a2⟩ := hr.bxs d t hs
        exact ⟨by rw [hbx, if_neg (by have := hbxd d t hs; omega)]; exact a1, a2⟩
      ga := fun d t j hd => by
        rw [← hr.ga d t j hd]
        show gaClear h.ga (dp + 1) (.tmp d t j) = _
        simp only [gaClear]
        rw [if_neg (by omega)]
      bxMay := fun d t b hs hb => hr.bxMay d t b (by
        rw [hbx] at hs
        split at hs
        · cases hs
        · exact hs) hb
      gaMay := fun i b hi hb => hr.gaMay i b hi (gaClear_inv hb).1 }

/-! ### What is handed back -/
mutual
  theorem retAV_sound {g : G} {w : World} {h : Gh} (hg : GI g w h) {dp : Nat} {Q : Id → Prop} {Y : Nat → Prop} : ∀ (a x : AV) (v : Value), retAV g.bx dp a = some x → a.ok Q (KG g dp) Y → RepA w (frzH g w h fun d _ => Nat.beq d dp) a v →
      RepA w (frzH g w h fun d _ => Nat.beq d dp) x v ∧ x.ok (fun _ => False) (fun d t => KG g dp d t ∧ d < dp) Y ∧ noTup x = true
    | .d y, x, v, hx, ho, hr => by
      simp only [retAV, Option.some.injEq] at hx; subst hx
      exact ⟨hr, by simp [AV.ok], rfl⟩
    | .own i sz es, x, v, hx, ho, hr => by
      simp only [retAV, Option.some.injEq] at hx; subst hx
      exact ⟨by simp only [RepA]; exact hr.own_sl, by simp [AV.ok], rfl⟩
    | .ptr d1 t off, x, v, hx, ho, hr => by
      simp only [retAV] at hx
      simp only [AV.ok] at ho
      split at hx
      · rename_i hlt
        have hlt : d1 < dp := by simpa using hlt
        simp only [Option.some.injEq] at hx; subst hx
        exact ⟨hr, by simp only [AV.ok]; exact ⟨ho, hlt⟩, rfl⟩
      · rename_i hlt
        have hd : d1 = dp := by
          have h1 : ¬ d1 < dp := by simpa using hlt
          have h2 := ho.1
          omega
        split at hx
        · rename_i b hb
          split at hx
          · rename_i cs hcs
            split at hx
            case isFalse => cases hx
            rename_i hle
            have hle : off ≤ cs.length := by simpa using hle
            simp only [Option.some.injEq] at hx; subst hx
            have hbf : (frzG g fun d _ => Nat.beq d dp).bx d1 t = some { cells := b.cells, frz := true, ty := b.ty } := by
              show frzBx g.bx (fun d _ => Nat.beq d dp) d1 t = _
              unfold frzBx
              rw [hb, hd]
              simp
            obtain ⟨h1, h2, b', c, e, h3, h4, ⟨h5, -⟩, h6, h7⟩ := (hg.frz fun d _ => Nat.beq d dp).bx d1 t _ hbf
            simp only [RepA] at hr
            obtain ⟨b'', hb'', rfl⟩ := hr
            rw [hb''] at h3; cases h3
            have hv := RepAs.datas _ _ _ hcs h5
            have hl := hv.length
            refine ⟨?_, by simp [AV.ok], rfl⟩
            simp only [RepA, RepV]
            refine ⟨_, off, c.toList.drop off, rfl, hv.drop, ?_, ?_⟩
            · rw [h7, if_pos rfl]
              simp at hl ⊢; omega
            · intro k u hk
              have hk' : c.toList[off + k]? = some u := by simpa [List.getElem?_drop] using hk
              refine ⟨?_, h6 u (List.mem_of_getElem? hk')⟩
              simp only [World.cell?, h4]
              simpa using hk'
          · cases hx
        · cases hx
    | .fn f caps, x, v, hx, ho, hr => by
      simp only [retAV] at hx
      split at hx
      · rename_i cs hcs
        simp only [Option.some.injEq] at hx; subst hx
        simp only [AV.ok] at ho
        simp only [RepA] at hr
        obtain ⟨cv, rfl, hc⟩ := hr
        obtain ⟨q1, q2⟩ := retAVs_sound hg caps cs _ hcs ho hc
        obtain ⟨p1, p2⟩ := mkFn_sound (Q := fun _ => False) (f := f) q1 q2
        refine ⟨p1, p2, ?_⟩
        unfold mkFn
        split <;> rfl
      · cases hx
    | .tup xs, x, v, hx, ho, hr => by simp [retAV] at hx
    | .yld l, x, v, hx, ho, hr => by
      simp only [retAV, Option.some.injEq] at hx; subst hx
      exact ⟨hr, by simpa only [AV.ok] using ho, rfl⟩
  theorem retAVs_sound {g : G} {w : World} {h : Gh} (hg : GI g w h) {dp : Nat} {Q : Id → Prop} {Y : Nat → Prop} : ∀ (as xs : List AV) (vs : List Value), retAVs g.bx dp as = some xs → AV.oks Q (KG g dp) Y as → RepAs w (frzH g w h fun d _ => Nat.beq d dp) as vs →
      RepAs w (frzH g w h fun d _ => Nat.beq d dp) xs vs ∧ AV.oks (fun _ => False) (fun d t => KG g dp d t ∧ d < dp) Y xs
    | [], xs, vs, hx, ho, hr => by
      simp only [retAVs, Option.some.injEq] at hx; subst hx
      exact ⟨by simpa only [RepAs] using hr, by simp [AV.oks]⟩
    | a :: as, xs, vs, hx, ho, hr => by
      simp only [retAVs] at hx
      cases h1 : retAV g.bx dp a with
      | none => simp [h1] at hx
      | some x =>
        cases h2 : retAVs g.bx dp as with
        | none => simp [h1, h2] at hx
        | some ys =>
          simp only [h1, h2, Option.some.injEq] at hx; subst hx
          simp only [AV.oks, RepAs] at ho hr ⊢
          obtain ⟨u, us, rfl, q1, q2⟩ := hr
          obtain ⟨p1, p2, _⟩ := retAV_sound hg a x u h1 ho.1 q1
          obtain ⟨p3, p4⟩ := retAVs_sound hg as ys us h2 ho.2 q2
          exact ⟨⟨u, us, rfl, p1, p3⟩, p2, p4⟩
end

/-- What is known of the results ahead of their renaming. -/
def PreL (bx : Nat → Nat → Option Box) (dp : Nat) (w : World) (K : Nat → Nat → Prop) (Y : Nat → Prop) (h : Gh) (seen : List Id) : List AV → List Value → Prop
  | [], vs => vs = []
  | a :: as, vs => ∃ u us, vs = u :: us ∧ PreL bx dp w K Y h seen as us ∧
      (∀ i sz es, a = .own i sz es → (∀ k, i ≠ .res k) ∧ (∀ d t k, i = .tmp d t k → d = dp) ∧ RepV w h.L (.sl sz es) u ∧ (i ∉ seen → RepA w h (.own i sz es) u)) ∧
      ((∀ i sz es, a ≠ .own i sz es) → ∀ x, retAV bx dp a = some x → RepA w h x u ∧ x.ok (fun _ => False) K Y ∧ noTup x = true)

theorem PreL.step {bx : Nat → Nat → Option Box} {dp : Nat} {w : World} {K : Nat → Nat → Prop} {Y : Nat → Prop} {h h' : Gh} {seen seen' : List Id} (hL : h'.L = h.L) (hbe : h'.be = h.be) (hro : h'.ro = h.ro)
    (hs : ∀ i, (∀ k, i ≠ .res k) → i ∉ seen' → i ∉ seen ∧ h'.ga i = h.ga i) : ∀ {as : List AV} {vs : List Value}, PreL bx dp w K Y h seen as vs → PreL bx dp w K Y h' seen' as vs
  | [], vs, hp => by simpa only [PreL] using hp
  | a :: as, vs, hp => by
    simp only [PreL] at hp ⊢
    obtain ⟨u, us, rfl, h1, h2, h3⟩ := hp
    refine ⟨u, us, rfl, PreL.step hL hbe hro hs h1, ?_, ?_⟩
    · intro i sz es he
      obtain ⟨q1, q2, q3, q4⟩ := h2 i sz es he
      refine ⟨q1, q2, by rw [hL]; exact q3, fun hn => ?_⟩
      obtain ⟨s1, s2⟩ := hs i q1 hn
      have := q4 s1
      simp only [RepA, Owned] at this ⊢
      rw [hL, s2]; exact this
    · intro hne x hx
      obtain ⟨q1, q2, q3⟩ := h3 hne x hx
      refine ⟨RepA.ext (h := h) (h' := h') (by rw [hL]; exact Ext.refl w h.L) (fun d t b _ hb => by rw [hbe]; exact hb) (fun l _ => by rw [hro]) (fun _ _ h => h.elim) _ _ q2 q1, q2, q3⟩

theorem retRes_sound {bx : Nat → Nat → Option Box} {dp : Nat} {K : Nat → Nat → Prop} {Y : Nat → Prop} {w : World} {fr : Nat → Bool} {a : Act} (hd0 : g0.dp < dp) : ∀ (as : List AV) {j : Nat} {seen : List Id} {xs : List AV}, retRes bx dp j seen as = some xs →
    ∀ {g : G} {h : Gh} {vs : List Value}, g.dp = dp → FI nt { tm := fun _ => none, fr, g } a w h → Rel g0 h0 w0 g w h → PreL bx dp w K Y h seen as vs →
    ∃ h', FI nt { tm := fun _ => none, fr, g := { g with bx := demRes as g.bx } } a w h' ∧ Rel g0 h0 w0 { g with bx := demRes as g.bx } w h' ∧ RepAs w h' xs vs ∧ ResAt j xs ∧ xs.all noTup = true ∧ AV.oks IsRes K Y xs ∧
      h'.L = h.L ∧ (∀ k, k < j → h'.ga (.res k) = h.ga (.res k)) ∧ h'.be = h.be ∧ h'.ro = h.ro
  | [], j, seen, xs, hx, g, h, vs, hdp, hf, hr, hp => by
    simp only [retRes, Option.some.injEq] at hx; subst hx
    simp only [PreL] at hp; subst hp
    exact ⟨h, hf, hr, by simp [RepAs], by simp [ResAt], rfl, by simp [AV.oks], rfl, fun _ _ => rfl, rfl, rfl⟩
  | a0 :: as, j, seen, xs, hx, g, h, vs, hdp, hf, hr, hp => by
    simp only [PreL] at hp
    obtain ⟨u, us, rfl, hp1, hp2, hp3⟩ := hp
    have other : (∀ i sz es, a0 ≠ .own i sz es) → demRes (a0 :: as) g.bx = demRes as g.bx → (∃ x ys, retAV bx dp a0 = some x ∧ retRes bx dp (j + 1) seen as = some ys ∧ xs = x :: ys) →
        ∃ h', FI nt { tm := fun _ => none, fr, g := { g with bx := demRes (a0 :: as) g.bx } } a w h' ∧ Rel g0 h0 w0 { g with bx := demRes (a0 :: as) g.bx } w h' ∧ RepAs w h' xs (u :: us) ∧ ResAt j xs ∧ xs.all noTup = true ∧ AV.oks IsRes K Y xs ∧
          h'.L = h.L ∧ (∀ k, k < j → h'.ga (.res k) = h.ga (.res k)) ∧ h'.be = h.be ∧ h'.ro = h.ro := by
      rintro hne hdem ⟨x, ys, hxa, hys, rfl⟩
      obtain ⟨q1, q2, q3⟩ := hp3 hne x hxa
      obtain ⟨h', f1, r1, p1, p2, p3, p4, p5, p6, p7, p8⟩ := retRes_sound hd0 as hys hdp hf hr hp1
      rw [hdem]
      refine ⟨h', f1, r1, ⟨u, us, rfl, ?_, p1⟩, ⟨?_, p2⟩, ?_, ⟨AV.ok.mono (fun _ h => h.elim) (fun _ _ h => h) (fun _ h => h) _ q2, p4⟩, p5, fun k hk => p6 k (by omega), p7, p8⟩
      · exact RepA.ext (h := h) (h' := h') (by rw [p5]; exact Ext.refl w h.L) (fun d t b _ hb => by rw [p7]; exact hb) (fun l _ => by rw [p8]) (fun _ _ h => h.elim) _ _ q2 q1
      · intro i sz es he
        rw [he] at q2
        simp only [AV.ok] at q2
      · simp [q3, p3]
    cases a0 with
    | own i sz es =>
      obtain ⟨q1, q2, q3, q4⟩ := hp2 i sz es rfl
      simp only [retRes] at hx
      cases hys : retRes bx dp (j + 1) (i :: seen) as with
      | none => simp [hys] at hx
      | some ys =>
        simp only [hys, Option.some.injEq] at hx
        obtain ⟨f1, n1⟩ := hf.dem i
        have r1 := hr.dem (s := { tm := fun _ => none, fr, g }) i
        by_cases hseen : i ∈ seen
        · have hany : (seen.any fun k => decide (k = i)) = true := List.any_eq_true.2 ⟨i, hseen, by simp⟩
          rw [hany] at hx
          simp only [if_true] at hx
          subst hx
          obtain ⟨h', f2, r2, p1, p2, p3, p4, p5, p6, p7, p8⟩ := retRes_sound hd0 as hys (g := { g with bx := demBx i g.bx }) hdp f1 r1
            (PreL.step (h := h) (h' := h) (seen := seen) (seen' := i :: seen) rfl rfl rfl (fun k _ hk => ⟨fun hh => hk (by simp [hh]), rfl⟩) hp1)
          refine ⟨h', f2, r2, ⟨u, us, rfl, ?_, p1⟩, ⟨by intro i' sz' es' he; simp at he, p2⟩, ?_, ⟨by simp [AV.ok], p4⟩, p5, fun k hk => p6 k (by omega), p7, p8⟩
          · simp only [RepA]; rw [p5]; exact q3
          · simp [noTup, p3]
        · have hany : (seen.any fun k => decide (k = i)) = false := by
            rw [List.any_eq_false]
            intro k hk he
            simp at he; subst he; exact hseen hk
          rw [hany] at hx
          simp only [Bool.false_eq_true, if_false] at hx
          subst hx
          have nres : NoIn (.res j) (demSt i { tm := fun _ => none, fr, g }) := by
            refine ⟨fun t v hv => ?_, fun d t bo hb => ?_⟩
            · cases hv
            · obtain ⟨_, h2, _⟩ := f1.gi.bx d t bo hb
              exact AV.oks.mono (fun k hk e => by subst e; exact hk) (fun _ _ _ => trivial) (fun _ _ => trivial) _ h2
          have f2 := f1.ren n1 nres (by intro d t k e; cases e)
          have r2 := r1.ren (i := i) (j := .res j) (fun d t k e => by rw [q2 d t k e]; exact hd0) (by intro d t k e; cases e)
          have hgr : ∀ k, k ≠ i → k ≠ .res j → renGa h.ga i (.res j) k = h.ga k := by
            intro k h1 h2
            unfold renGa
            rw [if_neg h2, if_neg h1]
          obtain ⟨h', f3, r3, p1, p2, p3, p4, p5, p6, p7, p8⟩ := retRes_sound hd0 as hys (g := { g with bx := demBx i g.bx }) (h := { h with ga := renGa h.ga i (.res j) }) hdp f2 r2
            (PreL.step (h := h) (h' := { h with ga := renGa h.ga i (.res j) }) (seen := seen) (seen' := i :: seen) rfl rfl rfl (fun k hk hns => ⟨fun hh => hns (by simp [hh]), hgr k (fun e => hns (by simp [e])) (hk j)⟩) hp1)
          have own := Owned.ren (j := .res j) (q4 hseen)
          refine ⟨h', f3, r3, ⟨u, us, rfl, ?_, p1⟩, ⟨by intro i' sz' es' he; cases he; rfl, p2⟩, ?_, ⟨by simp only [AV.ok]; trivial, p4⟩, p5, fun k hk => ?_, p7, p8⟩
          · simp only [RepA, Owned] at own ⊢
            rw [p5, p6 j (by omega)]
            exact own
          · simp [noTup, p3]
          · rw [p6 k (by omega)]
            exact hgr _ (fun e => q1 k e.symm) (by intro e; cases e; omega)
    | d y =>
      refine other (by intros; simp) rfl ?_
      simp only [retRes] at hx
      cases h1 : retAV bx dp (.d y) with
      | none => simp [h1] at hx
      | some x =>
        cases h2 : retRes bx dp (j + 1) seen as with
        | none => simp [h1, h2] at hx
        | some ys => simp only [h1, h2, Option.some.injEq] at hx; exact ⟨x, ys, rfl, rfl, hx.symm⟩
    | ptr d1 t off =>
      refine other (by intros; simp) rfl ?_
      simp only [retRes] at hx
      cases h1 : retAV bx dp (.ptr d1 t off) with
      | none => simp [h1] at hx
      | some x =>
        cases h2 : retRes bx dp (j + 1) seen as with
        | none => simp [h1, h2] at hx
        | some ys => simp only [h1, h2, Option.some.injEq] at hx; exact ⟨x, ys, rfl, rfl, hx.symm⟩
    | fn f caps =>
      refine other (by intros; simp) rfl ?_
      simp only [retRes] at hx
      cases h1 : retAV bx dp (.fn f caps) with
      | none => simp [h1] at hx
      | some x =>
        cases h2 : retRes bx dp (j + 1) seen as with
        | none => simp [h1, h2] at hx
        | some ys => simp only [h1, h2, Option.some.injEq] at hx; exact ⟨x, ys, rfl, rfl, hx.symm⟩
    | tup ts =>
      refine other (by intros; simp) rfl ?_
      simp only [retRes] at hx
      cases h1 : retAV bx dp (.tup ts) with
      | none => simp [h1] at hx
      | some x =>
        cases h2 : retRes bx dp (j + 1) seen as with
        | none => simp [h1, h2] at hx
        | some ys => simp only [h1, h2, Option.some.injEq] at hx; exact ⟨x, ys, rfl, rfl, hx.symm⟩
    | yld l =>
      refine other (by intros; simp) rfl ?_
      simp only [retRes] at hx
      cases h1 : retAV bx dp (.yld l) with
      | none => simp [h1] at hx
      | some x =>
        cases h2 : retRes bx dp (j + 1) seen as with
        | none => simp [h1, h2] at hx
        | some ys => simp only [h1, h2, Option.some.injEq] at hx; exact ⟨x, ys, rfl, rfl, hx.symm⟩
    | raw o k i sz es => simp [retRes, retAV] at hx
    | old o z n => simp [retRes, retAV] at hx

theorem demRes_congr : ∀ (as : List AV) (bx bx' : Nat → Nat → Option Box) (d t : Nat), bx d t = bx' d t → demRes as bx d t = demRes as bx' d t
  | [], bx, bx', d, t, h => h
  | .own i _ _ :: rest, bx, bx', d, t, h => demRes_congr rest _ _ d t (by unfold demBx; rw [h])
  | .d _ :: rest, bx, bx', d, t, h => demRes_congr rest _ _ d t h
  | .ptr _ _ _ :: rest, bx, bx', d, t, h => demRes_congr rest _ _ d t h
  | .fn _ _ :: rest, bx, bx', d, t, h => demRes_congr rest _ _ d t h
  | .tup _ :: rest, bx, bx', d, t, h => demRes_congr rest _ _ d t h
  | .yld _ :: rest, bx, bx', d, t, h => demRes_congr rest _ _ d t h
  | .raw _ _ _ _ _ :: rest, bx, bx', d, t, h => demRes_congr rest _ _ d t h
  | .old _ _ _ :: rest, bx, bx', d, t, h => demRes_congr rest _ _ d t h
end
end Go.Abs
