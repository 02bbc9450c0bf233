/- The head of a loop. -/
import Derived.Test.YtehkgiofchmpaaaDoorAbsReg
namespace Go.Abs
open Go
set_option linter.unusedVariables false
set_option linter.unusedSimpArgs false
set_option linter.unnecessarySimpa false

mutual
  theorem RepA.demAll {w : World} {h : Gh} : ∀ (a : AV) (v : Value), RepA w h a v → RepA w h (demAll a) v
    | .d x, v, hr => by simpa only [Abs.demAll] using hr
    | .own i sz es, v, hr => by simp only [Abs.demAll, RepA]; exact hr.own_sl
    | .ptr _ _ _, v, hr => by simpa only [Abs.demAll] using hr
    | .fn _ _, v, hr => by simpa only [Abs.demAll] using hr
    | .tup xs, v, hr => by
      simp only [Abs.demAll, RepA] at hr ⊢
      obtain ⟨cv, rfl, hc⟩ := hr
      exact ⟨cv, rfl, RepAs.demAll xs _ hc⟩
    | .yld _, v, hr => by simpa only [Abs.demAll] using hr
    | .old _ _ _, v, hr => by simpa only [Abs.demAll] using hr
    | .raw _ _ _ _ _, v, hr => by simp only [Abs.demAll, RepA]; exact hr.raw_old
  theorem RepAs.demAll {w : World} {h : Gh} : ∀ (as : List AV) (vs : List Value), RepAs w h as vs → RepAs w h (demAlls as) vs
    | [], vs, hr => by simpa only [demAlls] using hr
    | a :: as, vs, hr => by
      simp only [demAlls, RepAs] at hr ⊢
      obtain ⟨u, us, rfl, h1, h2⟩ := hr
      exact ⟨u, us, rfl, RepA.demAll a u h1, RepAs.demAll as us h2⟩
end

mutual
  theorem AV.ok.demAll {Q Q' : Id → Prop} {K : Nat → Nat → Prop} {Y : Nat → Prop} : ∀ (a : AV), a.ok Q K Y → (demAll a).ok Q' K Y
    | .d _, _ => by simp [Abs.demAll, AV.ok]
    | .own j _ _, h => by simp [Abs.demAll, AV.ok]
    | .ptr d1 t _, h => by simpa only [Abs.demAll, AV.ok] using h
    | .fn _ caps, h => by simpa only [Abs.demAll, AV.ok] using h
    | .tup xs, h => by simp only [Abs.demAll, AV.ok] at h ⊢; exact AV.oks.demAll xs h
    | .yld l, h => by simpa only [Abs.demAll, AV.ok] using h
    | .old _ _ _, _ => by simp [Abs.demAll, AV.ok]
    | .raw _ _ _ _ _, _ => by simp [Abs.demAll, AV.ok]
  theorem AV.oks.demAll {Q Q' : Id → Prop} {K : Nat → Nat → Prop} {Y : Nat → Prop} : ∀ (as : List AV), AV.oks Q K Y as → AV.oks Q' K Y (demAlls as)
    | [], _ => by simp [demAlls, AV.oks]
    | a :: as, h => by simp only [demAlls, AV.oks] at h ⊢; exact ⟨AV.ok.demAll a h.1, AV.oks.demAll as h.2⟩
end

mutual
  /-- Within what is kept. -/
  theorem AV.ok.within {Q : Id → Prop} {K : Nat → Nat → Prop} {Y : Nat → Prop} {dp : Nat} {bs : List Nat} : ∀ (a : AV), a.ok Q K Y → AV.within dp bs a = true → a.ok Q (fun d t => K d t ∧ (d = dp → bs.any (Nat.beq t ·) = true)) Y
    | .d _, _, _ => by simp [AV.ok]
    | .own j _ _, h, _ => by simpa only [AV.ok] using h
    | .ptr d1 t _, h, hw => by
      simp only [AV.ok, AV.within] at h hw ⊢
      refine ⟨h, fun e => ?_⟩
      subst e
      simpa using hw
    | .fn _ caps, h, hw => by simp only [AV.ok, AV.within] at h hw ⊢; exact AV.oks.within caps h hw
    | .tup xs, h, hw => by simp only [AV.ok, AV.within] at h hw ⊢; exact AV.oks.within xs h hw
    | .yld l, h, _ => by simpa only [AV.ok] using h
    | .raw _ _ _ _ _, h, _ => by simpa only [AV.ok] using h
    | .old _ _ _, _, _ => by simp [AV.ok]
  theorem AV.oks.within {Q : Id → Prop} {K : Nat → Nat → Prop} {Y : Nat → Prop} {dp : Nat} {bs : List Nat} : ∀ (as : List AV), AV.oks Q K Y as → AV.withins dp bs as = true → AV.oks Q (fun d t => K d t ∧ (d = dp → bs.any (Nat.beq t ·) = true)) Y as
    | [], _, _ => by simp [AV.oks]
    | a :: as, h, hw => by
      simp only [AV.oks, AV.withins, Bool.and_eq_true] at h hw ⊢
      exact ⟨AV.ok.within a h.1 hw.1, AV.oks.within as h.2 hw.2⟩
end

theorem look_map {α : Type} {l : List (Nat × α)} {β : Type} {f : Nat × α → Option β} {t : Nat} {v : β} (h : look (l.map fun p => (p.1, f p)) t = some v) : ∃ p ∈ l, p.1 = t ∧ f p = some v := by
  induction l with
  | nil => simp [look] at h
  | cons p l ih =>
    simp only [List.map_cons, look] at h
    split at h
    · rename_i e
      exact ⟨p, by simp, by simpa using (by simpa using e : t = p.1).symm, h⟩
    · obtain ⟨q, h1, h2⟩ := ih h
      exact ⟨q, by simp [h1], h2⟩

theorem look_some {α : Type} {l : List (Nat × α)} {β : Type} {f : Nat → Option β} {t : Nat} (h : (l.map (·.1)).any (Nat.beq t ·) = true) : look (l.map fun p => (p.1, f p.1)) t = f t := by
  induction l with
  | nil => simp at h
  | cons p l ih =>
    simp only [List.map_cons, look]
    split
    · rename_i e
      have : t = p.1 := by simpa using e
      rw [this]
    · rename_i e
      refine ih ?_
      simp only [List.map_cons, List.any_cons, Bool.or_eq_true] at h
      exact h.resolve_left e

section
variable {P : Program} {T : Nat → Option TI} {g0 : G} {h0 : Gh} {w0 : World} {nt : Nat}

theorem FI.retm {s : St} {a : Act} {w : World} {h : Gh} (hf : FI nt s a w h) {t : Nat} {v : AV} (hr : RepA w h v (a.tmps.getD t undef)) (hok : v.ok (TmQ s.fr s.g.dp) (KG s.g s.g.dp) (YG s.g s.g.dp)) :
    FI nt { s with tm := upd s.tm t (some v) } a w h where
  size := hf.size
  tm := fun u v' hv => by
    rcases upd_some hv with ⟨rfl, rfl⟩ | ⟨hne, hv⟩
    · exact ⟨hr, hok⟩
    · exact hf.tm u v' hv
  gi := hf.gi
  dfr := hf.dfr

theorem TmQ.mono_fr {fr fr' : Nat → Bool} {dp : Nat} (hfr : ∀ t, fr t = true → fr' t = true) : ∀ i, TmQ fr dp i → TmQ fr' dp i := by
  intro i hi
  cases i with
  | box _ _ _ => trivial
  | res _ => exact hi.elim
  | tmp a b c => exact ⟨hi.1, hfr _ hi.2⟩

theorem FI.frm {s : St} {a : Act} {w : World} {h : Gh} (hf : FI nt s a w h) {fr' : Nat → Bool} (hfr : ∀ t, s.fr t = true → fr' t = true) : FI nt { tm := s.tm, fr := fr', g := s.g } a w h where
  size := hf.size
  tm := fun t v hv => ⟨(hf.tm t v hv).1, AV.ok.mono (TmQ.mono_fr hfr) (fun _ _ h => h) (fun _ h => h) v (hf.tm t v hv).2⟩
  gi := hf.gi
  dfr := hf.dfr

theorem canonTm_fr : ∀ (kt : List (Nat × Option Nat)) (s : St) (fr' : Nat → Bool), canonTm kt { tm := s.tm, fr := fr', g := s.g } = { tm := (canonTm kt s).tm, fr := fr', g := (canonTm kt s).g }
  | [], s, fr' => rfl
  | (t, none) :: rest, s, fr' => by simp only [canonTm]; exact canonTm_fr rest s fr'
  | (t, some sz) :: rest, s, fr' => by
    simp only [canonTm]
    cases ht : s.tm t with
    | none => exact canonTm_fr rest s fr'
    | some a =>
      cases a with
      | own i z es => exact canonTm_fr rest { tm := upd (demSt (.tmp s.g.dp t 0) (demSt i s)).tm t (some (.own (.tmp s.g.dp t 0) z es)), fr := s.fr, g := (demSt (.tmp s.g.dp t 0) (demSt i s)).g } fr'
      | d x =>
        cases x with
        | nils => exact canonTm_fr rest { tm := upd (demSt (.tmp s.g.dp t 0) s).tm t (some (.own (.tmp s.g.dp t 0) sz [])), fr := s.fr, g := (demSt (.tmp s.g.dp t 0) s).g } fr'
        | _ => exact canonTm_fr rest s fr'
      | _ => exact canonTm_fr rest s fr'

theorem canonTm_sound : ∀ (kt : List (Nat × Option Nat)) {s : St} {a : Act} {w : World} {h : Gh}, (∀ p ∈ kt, p.2.isSome = true → s.fr p.1 = true) → FI nt s a w h → Rel g0 h0 w0 s.g w h → g0.dp < s.g.dp →
    ∃ h', FI nt (canonTm kt s) a w h' ∧ Rel g0 h0 w0 (canonTm kt s).g w h' ∧ (canonTm kt s).g.dp = s.g.dp ∧ (canonTm kt s).g.lp = s.g.lp ∧ (canonTm kt s).fr = s.fr
  | [], s, a, w, h, _, hf, hr, _ => ⟨h, hf, hr, rfl, rfl, rfl⟩
  | (t, none) :: rest, s, a, w, h, hk, hf, hr, hd => canonTm_sound rest (fun p hp => hk p (by simp [hp])) hf hr hd
  | (t, some sz) :: rest, s, a, w, h, hk, hf, hr, hd => by
    have hfr : s.fr t = true := hk (t, some sz) (by simp) rfl
    have keep := canonTm_sound rest (fun p hp => hk p (by simp [hp])) hf hr hd
    simp only [canonTm]
    cases ht : s.tm t with
    | none => exact keep
    | some av =>
      cases av with
      | own i z es =>
        obtain ⟨h1, h2⟩ := hf.tm t _ ht
        simp only [AV.ok] at h2
        obtain ⟨f1, n1⟩ := hf.dem i
        obtain ⟨f2, n2⟩ := f1.dem (.tmp s.g.dp t 0)
        have r2 := (hr.dem i).dem (.tmp s.g.dp t 0)
        have n1' := n1.dem (.tmp s.g.dp t 0)
        have f3 := f2.ren n1' n2 (fun d t' k e => by cases e; exact Nat.le_refl _)
        have r3 := r2.ren (i := i) (j := .tmp s.g.dp t 0) (fun d t' k e => by subst e; rw [h2.1]; exact hd) (fun d t' k e => by cases e; exact hd)
        have f4 := f3.retm (t := t) (v := .own (.tmp s.g.dp t 0) z es) (Owned.ren h1) (by simp only [AV.ok]; exact ⟨rfl, hfr⟩)
        exact canonTm_sound rest (fun p hp => hk p (by simp [hp])) f4 r3 hd
      | d x =>
        cases x with
        | nils =>
          obtain ⟨h1, h2⟩ := hf.tm t _ ht
          obtain ⟨f1, n1⟩ := hf.dem (.tmp s.g.dp t 0)
          have r1 := hr.dem (.tmp s.g.dp t 0)
          simp only [RepA, RepV] at h1
          have f2 := f1.retm (t := t) (v := .own (.tmp s.g.dp t 0) sz []) (by rw [h1]; exact full_own nils_full) (by simp only [AV.ok]; exact ⟨rfl, hfr⟩)
          exact canonTm_sound rest (fun p hp => hk p (by simp [hp])) f2 r1 hd
        | _ => exact keep
      | _ => exact keep

/-- A box's cells read anew. -/
theorem FI.rebox {s : St} {a : Act} {w : World} {h : Gh} (hf : FI nt s a w h) (hr : Rel g0 h0 w0 s.g w h) {d u : Nat} {bo : Box} (hbo : s.g.bx d u = some bo) {cs' : List AV}
    (hrep : ∀ vs, RepAs w h bo.cells vs → RepAs w h cs' vs) (hty : bo.ty.1 = 0) (hok : AV.oks IsBox (KG s.g d) (YG s.g d) cs') :
    FI nt { s with g := { s.g with bx := putBx s.g.bx d u { bo with cells := cs' } } } a w h ∧ Rel g0 h0 w0 { s.g with bx := putBx s.g.bx d u { bo with cells := cs' } } w h := by
  have hsome : ∀ d' t', (putBx s.g.bx d u { bo with cells := cs' } d' t').isSome = (s.g.bx d' t').isSome := fun d' t' => putBx_isSome hbo d' t'
  have hK : ∀ n d' t', KG s.g n d' t' → KG { s.g with bx := putBx s.g.bx d u { bo with cells := cs' } } n d' t' := fun n d' t' hk => ⟨hk.1, by rw [hsome]; exact hk.2⟩
  refine ⟨⟨hf.size, ?_, ?_, hf.dfr⟩, ?_⟩
  · intro t v hv
    obtain ⟨h5, h6⟩ := hf.tm t v hv
    exact ⟨h5, AV.ok.mono (fun _ h => h) (fun d' t' hk => hK _ d' t' hk) (fun _ h => h) v h6⟩
  · refine { bx := ?_, inj := ?_, gaBx := ?_, gaInj := hf.gi.gaInj, gaLt := hf.gi.gaLt, gaC := hf.gi.gaC, lim := hf.gi.lim, lp := ?_, roInj := hf.gi.roInj, gaTop := hf.gi.gaTop }
    · intro d' t' bo' hbo'
      have hq : putBx s.g.bx d u { bo with cells := cs' } d' t' = some bo' := hbo'
      rw [putBx_eq] at hq
      split at hq
      · rename_i hdt
        cases hq
        obtain ⟨rfl, rfl⟩ := hdt
        obtain ⟨g1, g2, b2, c2, e2, h3, h4, h5, h6, h7⟩ := hf.gi.bx d' t' bo hbo
        exact ⟨g1, AV.oks.mono (fun _ h => h) (fun d t hk => hK _ d t hk) (fun _ h => h) _ hok, b2, c2, e2, h3, h4, RepBx.plain (hrep _ h5.1) hty, h6, h7⟩
      · obtain ⟨g1, g2, b2, c2, e2, h3, h4, h5, h6, h7⟩ := hf.gi.bx d' t' bo' hq
        exact ⟨g1, AV.oks.mono (fun _ h => h) (fun d t hk => hK _ d t hk) (fun _ h => h) _ g2, b2, c2, e2, h3, h4, h5, h6, h7⟩
    · intro d1 t1 d2 t2 b' h2 h3 h4 h5
      exact hf.gi.inj d1 t1 d2 t2 b' (by rw [← hsome]; exact h2) (by rw [← hsome]; exact h3) h4 h5
    · intro i b' d1 t1 hi hs
      exact hf.gi.gaBx i b' d1 t1 hi (by rw [← hsome]; exact hs)
    · intro l r hl
      obtain ⟨hp, D, tmps, h2, h3, h4, h5⟩ := hf.gi.lp l r hl
      refine ⟨hp, D, tmps, h2, h3, h4, fun t v hv => ?_⟩
      obtain ⟨h6, h7⟩ := h5 t v hv
      exact ⟨h6, AV.ok.mono (fun _ h => h) (fun d' t' hk => hK _ d' t' hk) (fun _ h => h) v h7⟩
  · exact
      { hr with
        bxs := fun d' t' hs => by
          obtain ⟨a1, a2⟩ := hr.bxs d' t' hs
          exact ⟨by rw [hsome]; exact a1, a2⟩
        bxMay := fun d' t' b' hs hb' => hr.bxMay d' t' b' (by rw [← hsome]; exact hs) hb' }

theorem setCells_rep {w : World} {h : Gh} {cs : List AV} {j : Nat} {x y : AV} (hj : cs[j]? = some x) (hxy : ∀ v, RepA w h x v → RepA w h y v) : ∀ vs, RepAs w h cs vs → RepAs w h (setCells cs j [y]) vs := by
  intro vs hr
  have hlt : j < cs.length := (List.getElem?_eq_some_iff.1 hj).1
  have hv : vs = vs.take j ++ ((vs.drop j).take 1 ++ vs.drop (j + 1)) := by
    rw [← List.drop_drop, List.take_append_drop, List.take_append_drop]
  unfold setCells
  rw [List.append_assoc]
  rw [hv]
  refine RepAs.append hr.take (RepAs.append ?_ hr.drop)
  have h1 : RepAs w h ((cs.drop j).take 1) ((vs.drop j).take 1) := hr.drop.take
  have hd : (cs.drop j).take 1 = [x] := by
    rw [List.getElem?_eq_some_iff] at hj
    obtain ⟨h1, h2⟩ := hj
    rw [List.drop_eq_getElem_cons h1, h2]; rfl
  rw [hd] at h1
  simp only [RepAs] at h1 ⊢
  obtain ⟨u, us, he, h2, h3⟩ := h1
  exact ⟨u, us, he, hxy u h2, h3⟩

theorem oks_setCells {Q : Id → Prop} {K : Nat → Nat → Prop} {Y : Nat → Prop} {cs : List AV} {j : Nat} {y : AV} (h : AV.oks Q K Y cs) (hy : y.ok Q K Y) : AV.oks Q K Y (setCells cs j [y]) := by
  refine oks_of fun x hx => ?_
  unfold setCells at hx
  rcases List.mem_append.1 hx with hx | hx
  · rcases List.mem_append.1 hx with hx | hx
    · exact oks_mem h x (List.mem_of_mem_take hx)
    · simp at hx; subst hx; exact hy
  · exact oks_mem h x (List.mem_of_mem_drop hx)

theorem canonBox1_sound (t : Nat) : ∀ (fs : List (Nat × Nat)) {s : St} {a : Act} {w : World} {h : Gh}, FI nt s a w h → Rel g0 h0 w0 s.g w h →
    FI nt (canonBox1 t fs s) a w h ∧ Rel g0 h0 w0 (canonBox1 t fs s).g w h ∧ (canonBox1 t fs s).g.dp = s.g.dp ∧ (canonBox1 t fs s).g.lp = s.g.lp ∧ (canonBox1 t fs s).fr = s.fr
  | [], s, a, w, h, hf, hr => ⟨hf, hr, rfl, rfl, rfl⟩
  | (j, sz) :: rest, s, a, w, h, hf, hr => by
    have keep := canonBox1_sound t rest hf hr
    simp only [canonBox1]
    split
    · rename_i b hb
      split
      · rename_i hfz hcell
        obtain ⟨f1, n1⟩ := hf.dem (.box s.g.dp t j)
        have r1 := hr.dem (.box s.g.dp t j)
        split
        · rename_i b1 hb1
          have hb1' : b1 = { b with cells := dems (.box s.g.dp t j) b.cells } := by
            obtain ⟨b2, h2, h3⟩ := demBx_some hb1
            rw [hb] at h2; cases h2; exact h3
          have hcell1 : b1.cells[j]? = some (.d .nils) := by
            rw [hb1']
            have : ∀ (xs : List AV) (i : Id) (j : Nat) (x : AV), xs[j]? = some x → (dems i xs)[j]? = some (dem i x) := by
              intro xs i
              induction xs with
              | nil => intro j x h; simp at h
              | cons y ys ih =>
                intro j x h
                cases j with
                | zero => simp at h; subst h; simp [dems]
                | succ j => simp only [dems, List.getElem?_cons_succ] at h ⊢; exact ih j x h
            have := this b.cells (.box s.g.dp t j) j _ hcell
            simpa [dem] using this
          obtain ⟨_, g2, _⟩ := f1.gi.bx s.g.dp t b1 hb1
          obtain ⟨f2, r2⟩ := f1.rebox r1 (d := s.g.dp) (u := t) hb1 (cs' := setCells b1.cells j [.own (.box s.g.dp t j) sz []])
            (setCells_rep hcell1 (fun v hv => by
              simp only [RepA, RepV] at hv
              rw [hv]; exact full_own nils_full))
            (by rw [hb1']; exact (Box.unlock hfz).2)
            (oks_setCells g2 (by simp only [AV.ok]; trivial))
          exact canonBox1_sound t rest f2 r2
        · rename_i hb1
          exfalso
          have : (demBx (.box s.g.dp t j) s.g.bx s.g.dp t).isSome = true := by rw [demBx_isSome, hb]; rfl
          have hb1' : demBx (.box s.g.dp t j) s.g.bx s.g.dp t = none := hb1
          rw [hb1'] at this; cases this
      · exact keep
    · exact keep

theorem canonBox_sound : ∀ (kb : List (Nat × List (Nat × Nat))) {s : St} {a : Act} {w : World} {h : Gh}, FI nt s a w h → Rel g0 h0 w0 s.g w h →
    FI nt (canonBox kb s) a w h ∧ Rel g0 h0 w0 (canonBox kb s).g w h ∧ (canonBox kb s).g.dp = s.g.dp ∧ (canonBox kb s).g.lp = s.g.lp ∧ (canonBox kb s).fr = s.fr
  | [], s, a, w, h, hf, hr => ⟨hf, hr, rfl, rfl, rfl⟩
  | (t, fs) :: rest, s, a, w, h, hf, hr => by
    obtain ⟨f1, r1, e1, e2, e3⟩ := canonBox1_sound t fs hf hr
    obtain ⟨f2, r2, e4, e5, e6⟩ := canonBox_sound rest f1 r1
    exact ⟨f2, r2, e4.trans e1, e5.trans e2, e6.trans e3⟩

theorem canonBox1_fr (t : Nat) : ∀ (fs : List (Nat × Nat)) (s : St) (fr' : Nat → Bool), canonBox1 t fs { tm := s.tm, fr := fr', g := s.g } = { tm := (canonBox1 t fs s).tm, fr := fr', g := (canonBox1 t fs s).g }
  | [], s, fr' => rfl
  | (j, sz) :: rest, s, fr' => by
    simp only [canonBox1]
    cases hb : s.g.bx s.g.dp t with
    | none => exact canonBox1_fr t rest s fr'
    | some b =>
      simp only
      cases b.lock with
      | true => exact canonBox1_fr t rest s fr'
      | false =>
        cases b.cells[j]? with
        | none => exact canonBox1_fr t rest s fr'
        | some x =>
          cases x with
          | d y =>
            cases y with
            | nils =>
              simp only [demSt]
              cases demBx (.box s.g.dp t j) s.g.bx s.g.dp t with
              | none => exact canonBox1_fr t rest (demSt (.box s.g.dp t j) s) fr'
              | some b1 => exact canonBox1_fr t rest { tm := demTm (.box s.g.dp t j) s.tm, fr := s.fr, g := { bx := fun d' u' => if Nat.beq d' s.g.dp && Nat.beq u' t then some { b1 with cells := setCells b1.cells j [.own (.box s.g.dp t j) sz []] } else demBx (.box s.g.dp t j) s.g.bx d' u', dp := s.g.dp, lp := s.g.lp } } fr'
            | _ => exact canonBox1_fr t rest s fr'
          | _ => exact canonBox1_fr t rest s fr'

theorem canonBox_fr : ∀ (kb : List (Nat × List (Nat × Nat))) (s : St) (fr' : Nat → Bool), canonBox kb { tm := s.tm, fr := fr', g := s.g } = { tm := (canonBox kb s).tm, fr := fr', g := (canonBox kb s).g }
  | [], s, fr' => rfl
  | (t, fs) :: rest, s, fr' => by
    simp only [canonBox]
    rw [canonBox1_fr t fs s fr']
    exact canonBox_fr rest (canonBox1 t fs s) fr'

theorem keptTm_mem {tm : Nat → Option AV} {dp : Nat} {bs : List Nat} : ∀ {kt : List (Nat × Option Nat)}, keptTm tm dp bs kt = true → ∀ p ∈ kt, ∀ a, tm p.1 = some a → AV.within dp bs a = true
  | [], _, p, hp, _, _ => by simp at hp
  | (t, x) :: rest, hk, p, hp, a, ha => by
    simp only [keptTm, Bool.and_eq_true] at hk
    simp only [List.mem_cons] at hp
    rcases hp with rfl | hp
    · have := hk.1
      rw [ha] at this; exact this
    · exact keptTm_mem hk.2 p hp a ha

theorem keptBx_mem {bx : Nat → Nat → Option Box} {dp : Nat} {bs : List Nat} : ∀ {kb : List (Nat × List (Nat × Nat))}, keptBx bx dp bs kb = true → ∀ p ∈ kb, ∀ b, bx dp p.1 = some b → AV.withins dp bs b.cells = true
  | [], _, p, hp, _, _ => by simp at hp
  | (t, x) :: rest, hk, p, hp, a, ha => by
    simp only [keptBx, Bool.and_eq_true] at hk
    simp only [List.mem_cons] at hp
    rcases hp with rfl | hp
    · have := hk.1
      rw [ha] at this; exact this
    · exact keptBx_mem hk.2 p hp a ha

theorem keepOwn_rep {w : World} {h : Gh} {dp t : Nat} {a : AV} {v : Value} (hr : RepA w h a v) : RepA w h (keepOwn dp t a) v := by
  unfold keepOwn
  split
  · split
    · exact hr
    · simp only [RepA]; exact hr.own_sl
  · exact RepA.demAll _ _ hr

theorem keepOwn_ok {dp t : Nat} {fr : Nat → Bool} (hfr : fr t = true) {Q : Id → Prop} {K : Nat → Nat → Prop} {Y : Nat → Prop} {a : AV} (ho : a.ok Q K Y) : (keepOwn dp t a).ok (TmQ fr dp) K Y := by
  unfold keepOwn
  split
  · split
    · rename_i d u j z es e
      have : d = dp ∧ u = t := by simpa using e
      simp only [AV.ok]
      exact ⟨this.1, by rw [this.2]; exact hfr⟩
    · simp [AV.ok]
  · exact AV.ok.demAll _ ho

theorem headSt_sound {hint : Hint} {id : Nat} {s s' : St} (hs : headSt hint id s = some s') {a : Act} {w : World} {h : Gh} (hsi : SI nt g0 h0 w0 s a w h) : ∃ h', SI nt g0 h0 w0 s' a w h' := by
  unfold headSt at hs
  split at hs
  · cases hs; exact ⟨h, hsi⟩
  rename_i kt kb hl
  dsimp only at hs
  split at hs
  case isFalse => cases hs
  rename_i hkept
  simp only [Bool.and_eq_true] at hkept
  simp only [Option.some.injEq] at hs
  -- all names that are to be kept are let in
  have f0 := hsi.fi.frm (fr' := fun t => s.fr t || kt.any fun p => Nat.beq p.1 t && p.2.isSome) (fun t ht => by simp [ht])
  obtain ⟨h1, f1, r1, e1, e2, e3⟩ := canonTm_sound (g0 := g0) (h0 := h0) (w0 := w0) kt (s := { tm := s.tm, fr := fun t => s.fr t || kt.any fun p => Nat.beq p.1 t && p.2.isSome, g := s.g })
    (fun p hp hsome => by
      have : (kt.any fun q => Nat.beq q.1 p.1 && q.2.isSome) = true := List.any_eq_true.2 ⟨p, hp, by simp [hsome]⟩
      simp [this]) f0 hsi.rel hsi.hdp
  obtain ⟨f2, r2, e4, e5, e6⟩ := canonBox_sound kb f1 r1
  rw [canonTm_fr, canonBox_fr] at f2 r2 e4 e5
  rw [canonTm_fr] at e1 e2
  have hdp : (canonBox kb (canonTm kt s)).g.dp = s.g.dp := by
    have := e4; simp only at this; rw [this]
    have := e1; simp only at this; exact this
  have hlp : (canonBox kb (canonTm kt s)).g.lp = s.g.lp := by
    have := e5; simp only at this; rw [this]
    have := e2; simp only at this; exact this
  generalize hc : canonBox kb (canonTm kt s) = c at hs hkept f2 r2 hdp hlp
  simp only at r2
  subst hs
  -- what is kept
  have kg : ∀ n d t, KG c.g n d t ∧ (d = c.g.dp → (kb.map (·.1)).any (Nat.beq t ·) = true) → KG { c.g with bx := fun d t => if Nat.beq d c.g.dp then look (kb.map fun p => (p.1, c.g.bx c.g.dp p.1)) t else c.g.bx d t } n d t := by
    rintro n d t ⟨hk, hb⟩
    refine ⟨hk.1, ?_⟩
    show (if Nat.beq d c.g.dp then look (kb.map fun p => (p.1, c.g.bx c.g.dp p.1)) t else c.g.bx d t).isSome = true
    split
    · rename_i e
      have e : d = c.g.dp := by simpa using e
      rw [look_some (f := fun q => c.g.bx c.g.dp q) (hb e), ← e]
      exact hk.2
    · exact hk.2
  have bxsub : ∀ d t bo, (if Nat.beq d c.g.dp then look (kb.map fun p => (p.1, c.g.bx c.g.dp p.1)) t else c.g.bx d t) = some bo → c.g.bx d t = some bo ∧ (d = c.g.dp → ∃ p ∈ kb, p.1 = t) := by
    intro d t bo hb
    split at hb
    · rename_i e
      have e : d = c.g.dp := by simpa using e
      obtain ⟨p, hp, ht, hv⟩ := look_map (f := fun p => c.g.bx c.g.dp p.1) hb
      exact ⟨by rw [e, ← ht]; exact hv, fun _ => ⟨p, hp, ht⟩⟩
    · rename_i e
      exact ⟨hb, fun e' => absurd (by simpa using e') e⟩
  have low : ∀ n, n < c.g.dp → ∀ d t, KG c.g n d t → KG { c.g with bx := fun d t => if Nat.beq d c.g.dp then look (kb.map fun p => (p.1, c.g.bx c.g.dp p.1)) t else c.g.bx d t } n d t :=
    fun n hn d t hk => kg n d t ⟨hk, fun e => by have := hk.1; omega⟩
  have sub : ∀ d t, ((fun d t => if Nat.beq d c.g.dp then look (kb.map fun p => (p.1, c.g.bx c.g.dp p.1)) t else c.g.bx d t) d t).isSome = true → (c.g.bx d t).isSome = true := by
    intro d t hs
    obtain ⟨bo, hbo⟩ := Option.isSome_iff_exists.1 hs
    rw [(bxsub d t bo hbo).1]; rfl
  refine ⟨h1, ⟨f2.size, ?_, ?_, f2.dfr⟩, ?_, ?_, ?_, hsi.nd, hsi.dnew, hsi.lpd, hsi.bxd⟩
  · intro t v hv
    obtain ⟨p, hp, ht, hx⟩ := look_map (f := fun (p : Nat × Option Nat) => match p.2 with
      | some _ => match c.tm p.1 with
        | some a => some (keepOwn c.g.dp p.1 a)
        | none => none
      | none => match c.tm p.1 with
        | some a => some (demAll a)
        | none => none) hv
    subst ht
    cases hq : c.tm p.1 with
    | none =>
      rw [hq] at hx
      cases hp2 : p.2 <;> rw [hp2] at hx <;> cases hx
    | some av =>
      rw [hq] at hx
      obtain ⟨g1, g2⟩ := f2.tm p.1 av hq
      have g3 := AV.ok.within av g2 (keptTm_mem hkept.1 p hp av hq)
      cases hp2 : p.2 with
      | none =>
        rw [hp2] at hx
        cases hx
        exact ⟨RepA.demAll _ _ g1, AV.ok.demAll _ (AV.ok.mono (fun _ h => h) (fun d t hk => kg _ d t hk) (fun _ h => h) _ g3)⟩
      | some sz =>
        rw [hp2] at hx
        cases hx
        refine ⟨keepOwn_rep g1, keepOwn_ok ?_ (AV.ok.mono (fun _ h => h) (fun d t hk => kg _ d t hk) (fun _ h => h) _ g3)⟩
        exact List.any_eq_true.2 ⟨p, hp, by simp [hp2]⟩
  · refine { bx := ?_, inj := ?_, gaBx := ?_, gaInj := f2.gi.gaInj, gaLt := f2.gi.gaLt, gaC := f2.gi.gaC, lim := f2.gi.lim, lp := ?_, roInj := f2.gi.roInj, gaTop := f2.gi.gaTop }
    · intro d t bo hbo
      obtain ⟨hb1, hb2⟩ := bxsub d t bo hbo
      obtain ⟨g1, g2, rest⟩ := f2.gi.bx d t bo hb1
      refine ⟨g1, ?_, rest⟩
      by_cases hd : d = c.g.dp
      · obtain ⟨p, hp, ht⟩ := hb2 hd
        have g3 := AV.oks.within _ g2 (keptBx_mem hkept.2 p hp bo (by rw [ht, ← hd]; exact hb1))
        exact AV.oks.mono (fun _ h => h) (fun d t hk => kg _ d t hk) (fun _ h => h) _ g3
      · exact AV.oks.mono (fun _ h => h) (low d (by simp only at g1; omega)) (fun _ h => h) _ g2
    · intro d t d' t' b q1 q2
      exact f2.gi.inj d t d' t' b (sub d t q1) (sub d' t' q2)
    · intro i b d t q1 q2
      exact f2.gi.gaBx i b d t q1 (sub d t q2)
    · intro l r hl
      obtain ⟨hp, D, tmps, q1, q2, q3, q4⟩ := f2.gi.lp l r hl
      refine ⟨hp, D, tmps, q1, q2, q3, fun t v hv => ?_⟩
      obtain ⟨q5, q6⟩ := q4 t v hv
      refine ⟨q5, AV.ok.mono (fun _ h => h) (low r.dp ?_) (fun _ h => h) _ q6⟩
      have hl' : s.g.lp[l]? = some r := by rw [← hlp]; exact hl
      have hm : r.dp ∈ g0.lp.map LoopRec.dp := by rw [← hsi.lps]; exact List.mem_map_of_mem (List.mem_of_getElem? hl')
      obtain ⟨r0, hr0, hrd⟩ := List.mem_map.1 hm
      have := hsi.lpd r0 hr0
      have := hsi.dp
      omega
  · exact
      { r2 with
        bxs := fun d t hs => by
          obtain ⟨a1, a2⟩ := r2.bxs d t hs
          refine ⟨?_, a2⟩
          show (if Nat.beq d c.g.dp then look (kb.map fun p => (p.1, c.g.bx c.g.dp p.1)) t else c.g.bx d t).isSome = true
          rw [if_neg]
          · exact a1
          · have := hsi.bxd d t hs
            have := hsi.dp
            simp; omega
        bxMay := fun d t b hs hb => r2.bxMay d t b (sub d t hs) hb }
  · show c.g.dp = _
    rw [hdp]; exact hsi.dp
  · show c.g.lp.map _ = _
    rw [hlp]; exact hsi.lps
end
end Go.Abs
