/- Calls of Go code. -/
import Derived.Test.YtehkgiofchmpaaaDoorAbsKeep
namespace Go.Abs
open Go
set_option linter.unusedVariables false
set_option linter.unusedSimpArgs false
set_option linter.unnecessarySimpa false

mutual
  theorem RepA.demBoxes {w : World} {h : Gh} : ∀ (a : AV) (v : Value), RepA w h a v → RepA w h (demBoxes a) v
    | .d x, v, hr => by simpa only [Abs.demBoxes] using hr
    | .own i sz es, v, hr => by
      cases i with
      | box _ _ _ => simp only [Abs.demBoxes, RepA]; exact hr.own_sl
      | tmp _ _ _ => simpa only [Abs.demBoxes] using hr
      | res _ => simpa only [Abs.demBoxes] using hr
    | .ptr _ _ _, v, hr => by simpa only [Abs.demBoxes] using hr
    | .fn _ _, v, hr => by simpa only [Abs.demBoxes] using hr
    | .tup xs, v, hr => by
      simp only [Abs.demBoxes, RepA] at hr ⊢
      obtain ⟨cv, rfl, hc⟩ := hr
      exact ⟨cv, rfl, RepAs.demBoxes xs _ hc⟩
    | .yld _, v, hr => by simpa only [Abs.demBoxes] using hr
    | .old _ _ _, v, hr => by simpa only [Abs.demBoxes] using hr
    | .raw _ _ i _ _, v, hr => by
      cases i with
      | box _ _ _ => simp only [Abs.demBoxes, RepA]; exact hr.raw_old
      | tmp _ _ _ => simpa only [Abs.demBoxes] using hr
      | res _ => simpa only [Abs.demBoxes] using hr
  theorem RepAs.demBoxes {w : World} {h : Gh} : ∀ (as : List AV) (vs : List Value), RepAs w h as vs → RepAs w h (demBoxess as) vs
    | [], vs, hr => by simpa only [demBoxess] using hr
    | a :: as, vs, hr => by
      simp only [demBoxess, RepAs] at hr ⊢
      obtain ⟨u, us, rfl, h1, h2⟩ := hr
      exact ⟨u, us, rfl, RepA.demBoxes a u h1, RepAs.demBoxes as us h2⟩
end

mutual
  theorem AV.ok.demBoxes {Q : Id → Prop} {K : Nat → Nat → Prop} {Y : Nat → Prop} : ∀ (a : AV), a.ok Q K Y → (demBoxes a).ok (fun j => Q j ∧ ¬ IsBox j) K Y
    | .d _, _ => by simp [Abs.demBoxes, AV.ok]
    | .own j _ _, h => by
      simp only [AV.ok] at h
      cases j with
      | box _ _ _ => simp [Abs.demBoxes, AV.ok]
      | tmp _ _ _ => simp only [Abs.demBoxes, AV.ok]; exact ⟨h, id⟩
      | res _ => simp only [Abs.demBoxes, AV.ok]; exact ⟨h, id⟩
    | .ptr d1 t _, h => by simpa only [Abs.demBoxes, AV.ok] using h
    | .fn _ caps, h => by simpa only [Abs.demBoxes, AV.ok] using h
    | .tup xs, h => by simp only [Abs.demBoxes, AV.ok] at h ⊢; exact AV.oks.demBoxes xs h
    | .yld l, h => by simpa only [Abs.demBoxes, AV.ok] using h
    | .old _ _ _, _ => by simp [Abs.demBoxes, AV.ok]
    | .raw _ _ j _ _, h => by
      simp only [AV.ok] at h
      cases j with
      | box _ _ _ => simp [Abs.demBoxes, AV.ok]
      | tmp _ _ _ => simp only [Abs.demBoxes, AV.ok]; exact ⟨h, id⟩
      | res _ => simp only [Abs.demBoxes, AV.ok]; exact ⟨h, id⟩
  theorem AV.oks.demBoxes {Q : Id → Prop} {K : Nat → Nat → Prop} {Y : Nat → Prop} : ∀ (as : List AV), AV.oks Q K Y as → AV.oks (fun j => Q j ∧ ¬ IsBox j) K Y (demBoxess as)
    | [], _ => by simp [demBoxess, AV.oks]
    | a :: as, h => by simp only [demBoxess, AV.oks] at h ⊢; exact ⟨AV.ok.demBoxes a h.1, AV.oks.demBoxes as h.2⟩
end

theorem mapTm_some {f : AV → AV} {tm : Nat → Option AV} {t : Nat} {v : AV} (h : mapTm f tm t = some v) : ∃ u, tm t = some u ∧ v = f u := by
  unfold mapTm at h
  cases hb : tm t with
  | none => simp [hb] at h
  | some b => simp [hb] at h; exact ⟨b, rfl, h.symm⟩

section
variable {P : Program} {T : Nat → Option TI} {g0 : G} {h0 : Gh} {w0 : World} {nt : Nat}

/-- A callee does not turn a row that a temporary owns. -/
theorem not_may_own {g : G} {w : World} {h : Gh} (hg : GI g w h) {d t j b : Nat} (hb : h.ga (.tmp d t j) = some b) : ¬ May g h b := by
  rintro (⟨d', t', h1, h2⟩ | ⟨i, h1, h2⟩ | ⟨l, h1, h2⟩)
  · exact hg.gaBx _ b d' t' hb h1 h2
  · exact h1 d t j (hg.gaInj _ _ b h2 hb)
  · obtain ⟨c, e, hc⟩ := hg.gaC _ b hb
    obtain ⟨r, hr⟩ : ∃ r, g.lp[l]? = some r := ⟨_, List.getElem?_eq_getElem h1⟩
    obtain ⟨_, D, tmps, h3, _⟩ := hg.lp l r hr
    rw [← h2, hc] at h3
    cases h3

/-- Nor a mark's block. -/
theorem not_may_def {g : G} {w : World} {h : Gh} (hg : GI g w h) {D : Nat} {x : Option (List Deferred)} (hD : w.heap[D]? = some (.deferred x)) : ¬ May g h D := by
  rintro (⟨d', t', h1, h2⟩ | ⟨i, h1, h2⟩ | ⟨l, h1, h2⟩)
  · obtain ⟨bo, hbo⟩ := Option.isSome_iff_exists.1 h1
    obtain ⟨_, _, b', c, e, h3, h4, _⟩ := hg.bx d' t' bo hbo
    rw [h2] at h3; cases h3
    rw [hD] at h4; cases h4
  · obtain ⟨c, e, hc⟩ := hg.gaC _ D h2
    rw [hD] at hc; cases hc
  · obtain ⟨r, hr⟩ : ∃ r, g.lp[l]? = some r := ⟨_, List.getElem?_eq_getElem h1⟩
    obtain ⟨_, D', tmps, h3, _⟩ := hg.lp l r hr
    rw [← h2, hD] at h3
    cases h3

theorem YG.lps {g g' : G} (h : g'.lp.map LoopRec.dp = g.lp.map LoopRec.dp) {n l : Nat} (hy : YG g n l) : YG g' n l := by
  obtain ⟨r, h1, h2⟩ := hy
  have h3 : (g'.lp.map LoopRec.dp)[l]? = some r.dp := by rw [h]; simp [h1]
  simp only [List.getElem?_map, Option.map_eq_some_iff] at h3
  obtain ⟨r', h4, h5⟩ := h3
  exact ⟨r', h4, by rw [h5]; exact h2⟩

/-- The caller's frame behind a call that may turn boxes. -/
theorem FI.behind {s : St} {a : Act} {w w' : World} {h h' : Gh} {g' : G} (hf : FI nt s a w h) (hG : GI g' w' h') (hR : Rel s.g h w g' w' h') (hdp : g'.dp = s.g.dp) (hlp : g'.lp.map LoopRec.dp = s.g.lp.map LoopRec.dp) :
    FI nt { tm := mapTm demBoxes s.tm, fr := s.fr, g := g' } a w' h' := by
  refine ⟨hf.size, ?_, hG, ?_⟩
  · intro t v hv
    obtain ⟨u, hu, rfl⟩ := mapTm_some hv
    obtain ⟨h1, h2⟩ := hf.tm t u hu
    have o1 := AV.ok.demBoxes u h2
    refine ⟨RepA.ext hR.ext (fun d t b hk hb => by rw [(hR.bxs d t hk.2).2]; exact hb) (fun l hl => hR.ro l hl.lt) ?_ _ _ o1 (RepA.demBoxes u _ h1), ?_⟩
    · rintro i b ⟨hi, hnb⟩ hb
      cases i with
      | box _ _ _ => exact absurd trivial hnb
      | res _ => exact hi.elim
      | tmp d t j =>
        have hd : d = s.g.dp := hi.1
        obtain ⟨k1, k2⟩ := hR.keep b (hf.gi.gaLt _ b hb) (not_may_own hf.gi hb)
        exact ⟨by rw [hR.ga d t j (by omega), hb], k2, k1⟩
    · refine AV.ok.mono ?_ ?_ ?_ _ o1
      · rintro i ⟨hi, _⟩
        show TmQ s.fr g'.dp i
        rw [hdp]; exact hi
      · intro d t hk
        exact ⟨by rw [hdp]; exact hk.1, (hR.bxs d t hk.2).1⟩
      · intro l hl
        show YG g' g'.dp l
        rw [hdp]; exact YG.lps hlp hl
  · intro x hx D h1
    have h2 := hf.dfr x hx D h1
    rw [(hR.keep D (lt_of_heap h2) (not_may_def hf.gi h2)).1, h2]

/-- The calls that a frame has deferred: those of its beginning, and marks of loops over functions. -/
def Marks (df : List Deferred) (flat : Bool) (l : List Deferred) : Prop :=
  (∀ x ∈ df, ∀ D, x.target ≠ .collected D) ∧ ∃ ms, l = ms ++ df ∧ ms.Nodup ∧ (∀ x ∈ ms, ∃ D, x = { target := .collected D, args := #[] }) ∧ (flat = true → ms = [])

theorem Marks.nil {f : Bool} : Marks [] f [] := ⟨(fun x hx => by cases hx), [], rfl, List.nodup_nil, (fun x hx => by cases hx), fun _ => rfl⟩

/-- What holds of a frame as it runs. -/
structure SI (nt : Nat) (g0 : G) (h0 : Gh) (w0 : World) (s : St) (a : Act) (w : World) (h : Gh) : Prop where
  fi : FI nt s a w h
  rel : Rel g0 h0 w0 s.g w h
  dp : s.g.dp = g0.dp + 1
  lps : s.g.lp.map LoopRec.dp = g0.lp.map LoopRec.dp
  nd : Marks h0.df h0.flat a.defers
  dnew : ∀ x ∈ a.defers, ∀ D, x.target = .collected D → w0.heap.size ≤ D
  lpd : ∀ r ∈ g0.lp, r.dp ≤ g0.dp
  bxd : ∀ d t, (g0.bx d t).isSome = true → d ≤ g0.dp

def NextOk {R : Type} (k : Ex → St → Option R) (r : R) (nt : Nat) (g0 : G) (h0 : Gh) (w0 : World) (next : Act → World → Prop) (Q : Exit → Act → World → Prop) : Prop :=
  (∀ s' a' w' h', SI nt g0 h0 w0 s' a' w' h' → k .normal s' = some r → next a' w') ∧
  ∀ x s' a' w' h' v, SI nt g0 h0 w0 s' a' w' h' → RepV w' h'.L x v → k (.panic x) s' = some r → Q (.panic [{ v, recovered := false }]) a' w'

def IsF (F : Fence) : Prop := F = Fence.wide ∨ ∃ l, F = Fence.wide.inRound l

theorem IsF.fn {F : Fence} (h : IsF F) (f : FuncId) : F.fn f := by rcases h with rfl | ⟨l, rfl⟩ <;> trivial
theorem IsF.depth {F : Fence} (h : IsF F) {n : Nat} : F.depth.isSome = true → 1 ≤ n := by rcases h with rfl | ⟨l, rfl⟩ <;> (intro h; cases h)
theorem IsF.calls {F : Fence} (h : IsF F) {n : Nat} {f : FuncId} {args : Array Value} {w : World} {R : Ending → World → Prop} (hc : CallsIn Fence.wide n P f args w R) : CallsIn F n P f args w R := by
  rcases h with rfl | ⟨l, rfl⟩
  · exact hc
  · exact hc
theorem IsF.round {F : Fence} (h : IsF F) {n l : Nat} {f : FuncId} {tmps : Array Value} {as body : Code} {w : World} {R : Ending → World → Prop} (hc : RoundIn Fence.wide n P l f tmps as body w R) : RoundIn F n P l f tmps as body w R := by
  rcases h with rfl | ⟨l, rfl⟩
  · exact hc
  · exact hc

theorem evs_datas {w : World} {h : Gh} {as : List AV} {ds : List D} {vs : List Value} (hd : AV.datas as = some ds) (hr : RepAs w h as vs) : RepVs w h.L ds vs := RepAs.datas as ds vs hd hr

theorem ownDatas {w : World} {h : Gh} {Q : Id → Prop} {K : Nat → Nat → Prop} {Y : Nat → Prop} : ∀ {as : List AV} {vs : List Value}, as.all noTup = true → AV.oks Q K Y as → RepAs w h as vs →
    RepAs w h (as.map ownData) vs ∧ AV.oks NoId K Y (as.map ownData)
  | [], vs, _, _, hr => by simp only [RepAs] at hr; subst hr; simp [RepAs, AV.oks]
  | a :: as, vs, hn, ho, hr => by
    simp only [RepAs, List.map_cons, AV.oks, List.all_cons, Bool.and_eq_true] at hr hn ho ⊢
    obtain ⟨u, us, rfl, h1, h2⟩ := hr
    obtain ⟨r2, o2⟩ := ownDatas hn.2 ho.2 h2
    exact ⟨⟨u, us, rfl, h1.ownData, r2⟩, ok_ownData hn.1 ho.1, o2⟩

/-- The end of a call that may turn boxes. -/
theorem behindF_sound {R : Type} {cx : Cx R} (hnt : cx.nt = nt) {o : Oper} {s : St} {a : Act} {w : World} {h : Gh} (hsi : SI nt g0 h0 w0 s a w h) {k : Ex → St → Option R} {r : R} {next : Act → World → Prop} {Q : Exit → Act → World → Prop}
    (hk : NextOk k r nt g0 h0 w0 next Q) {e : Ending} {w' : World} {φ : AV → AV} {out : Out} {g' : G} {h' : Gh} (hm : OutM g' w' h' out e) (hR : Rel s.g h w g' w' h') (hdp : g'.dp = s.g.dp) (hlp : g'.lp.map LoopRec.dp = s.g.lp.map LoopRec.dp) (f1 : FI nt { tm := mapTm φ s.tm, fr := s.fr, g := g' } a w' h') (hb : behindF cx φ o.dst s k out g' = some r) :
    match e with
    | .returned v => next (a.put o.dst v) w'
    | .panicked chain => Q (.panic chain) a w'
    | .outgrown => LetsOut Q := by
  have r1 : Rel g0 h0 w0 g' w' h' := hsi.rel.call hR (by rw [hsi.dp]; omega)
  have hd0 : g0.dp < g'.dp := by rw [hdp, hsi.dp]; omega
  have hup : ∀ l, YG g' (g'.dp + 1) l → YG g' g'.dp l := by
    rintro l ⟨r, h1, _⟩
    refine ⟨r, h1, ?_⟩
    have hm : r.dp ∈ g0.lp.map LoopRec.dp := by rw [← hsi.lps, ← hlp]; exact List.mem_map_of_mem (List.mem_of_getElem? h1)
    obtain ⟨r0, hr0, hrd⟩ := List.mem_map.1 hm
    have := hsi.lpd r0 hr0
    omega
  cases out with
  | ret rs =>
    cases e with
    | returned v =>
      obtain ⟨vs, rfl, hrep, hp, hn, ho⟩ := hm
      simp only [Abs.behindF] at hb
      cases hput : putRes cx.nt o.dst rs { tm := mapTm φ s.tm, fr := s.fr, g := g' } with
      | none => simp [hput] at hb
      | some s' =>
        simp only [hput] at hb
        rw [hnt] at hput
        obtain ⟨h'', f2, r2, hg⟩ := putRes_sound f1 r1 hd0 hput hrep hp hn (AV.oks.mono (fun _ h => h) (fun _ _ h => h) (fun l hl => hup l hl) _ ho)
        refine hk.1 s' _ _ h'' ⟨f2, r2, ?_, ?_, ?_, ?_, ?_, ?_⟩ hb
        · rw [hg]; exact hdp.trans hsi.dp
        · rw [hg]; exact hlp.trans hsi.lps
        · cases hd : o.dst <;> exact hsi.nd
        · cases hd : o.dst <;> exact hsi.dnew
        · exact hsi.lpd
        · exact hsi.bxd
    | panicked _ => exact hm.elim
    | outgrown => exact hm.elim
  | pan x =>
    cases e with
    | returned v => exact hm.elim
    | panicked chain =>
      obtain ⟨v, rfl, hrep⟩ := hm
      simp only [Abs.behindF] at hb
      exact hk.2 x _ a w' h' v ⟨f1, r1, hdp.trans hsi.dp, hlp.trans hsi.lps, hsi.nd, hsi.dnew, hsi.lpd, hsi.bxd⟩ hrep hb
    | outgrown => exact hm.elim

theorem behind_eq {R : Type} {cx : Cx R} {dst : Option Nat} {s : St} {k : Ex → St → Option R} : behind cx dst s k = behindF cx demBoxes dst s k := by
  funext out g
  cases out <;> rfl
theorem behind_sound {R : Type} {cx : Cx R} (hnt : cx.nt = nt) {o : Oper} {s : St} {a : Act} {w : World} {h : Gh} (hsi : SI nt g0 h0 w0 s a w h) {k : Ex → St → Option R} {r : R} {next : Act → World → Prop} {Q : Exit → Act → World → Prop}
    (hk : NextOk k r nt g0 h0 w0 next Q) {e : Ending} {w' : World} (hq : CallQ (behind cx o.dst s k) r s.g h w e w') :
    match e with
    | .returned v => next (a.put o.dst v) w'
    | .panicked chain => Q (.panic chain) a w'
    | .outgrown => LetsOut Q := by
  obtain ⟨out, g', h', hm, hG, hR, hdp, hlp, hb⟩ := hq
  rw [behind_eq] at hb
  have := behindF_sound hnt hsi hk hm hR hdp hlp (hsi.fi.behind hG hR hdp hlp) hb
  cases e <;> exact this

/-- Behind a call with the frame's boxes put aside. -/
theorem FI.kept {s : St} {a : Act} {w w' : World} {h h' : Gh} {g' : G} (hf : FI nt s a w h) (hr : Rel (kG s.g) (kH s.g h) w g' w' h') (hG : GI (kunG s.g g') w' (kunH s.g h h')) (hR : Rel s.g h w (kunG s.g g') w' (kunH s.g h h')) (hlp : g'.lp.map LoopRec.dp = s.g.lp.map LoopRec.dp) :
    FI nt { tm := mapTm (demF (offD s.g.dp)) s.tm, fr := s.fr, g := kunG s.g g' } a w' (kunH s.g h h') := by
  refine ⟨hf.size, ?_, hG, ?_⟩
  · intro t v hv
    obtain ⟨u, hu, rfl⟩ := mapTm_some hv
    obtain ⟨h1, h2⟩ := hf.tm t u hu
    have o1 := AV.ok.demF (offD s.g.dp) u h2
    refine ⟨RepA.ext hR.ext (fun d t b hk hb => by rw [(hR.bxs d t hk.2).2]; exact hb) (fun l hl => hR.ro l hl.lt) ?_ _ _ o1 (RepA.demF _ u _ h1), ?_⟩
    · rintro i b ⟨hi, hnb⟩ hb
      refine kept_row hf.gi hr ?_ hb
      cases i with
      | box d t j => exact boxOff_mine trivial hnb
      | res _ => exact hi.elim
      | tmp d t j => exact mine_tmp.2 hi.1
    · refine AV.ok.mono (fun _ hi => hi.1) ?_ ?_ _ o1
      · intro d t hk
        exact ⟨hk.1, (hR.bxs d t hk.2).1⟩
      · intro l hl
        exact YG.lps hlp hl
  · intro x hx D h1
    have h2 := hf.dfr x hx D h1
    rw [(hR.keep D (lt_of_heap h2) (not_may_def hf.gi h2)).1, h2]

theorem callE_sound {R : Type} {cx : Cx R} (hnt : cx.nt = nt) (hE : ESound P cx.E) {F : Fence} (hF : IsF F) {o : Oper} {fn : Fn} {as : List AV} {s : St} {k : Ex → St → Option R} {r : R}
    (hs : callE cx o.dst fn as s k = some r) {a : Act} {w : World} {h : Gh} (hsi : SI nt g0 h0 w0 s a w h) {next : Act → World → Prop} {Q : Exit → Act → World → Prop}
    (hk : NextOk k r nt g0 h0 w0 next Q) {vs : List Value} (hvs : RepAs w h as vs) (hvo : AV.oks NoId (KG s.g s.g.dp) (YG s.g (s.g.dp + 1)) as) :
    ∃ f', fn = .func f' ∧ FOk P f' ∧ CallsIn F 0 P f' vs.toArray w fun e w' => match e with
      | .returned v => next (a.put o.dst v) w'
      | .panicked chain => Q (.panic chain) a w'
      | .outgrown => LetsOut Q := by
  unfold callE at hs
  split at hs
  · have := hE _ _ _ _ _ hs w h vs hsi.fi.gi hvs hvo
    cases fn with
    | func f' =>
      refine ⟨f', rfl, this.1, hF.calls (this.2.mono fun e w' hq => ?_)⟩
      have := behind_sound hnt hsi hk hq
      cases e <;> exact this
    | _ => exact this.elim
  · split at hs
    case h_2 => cases hs
    rename_i hc
    simp only [Bool.and_eq_true, List.all_eq_true] at hc
    obtain ⟨⟨c1, c2⟩, c3⟩ := hc
    have c1 : 1 ≤ s.g.dp := Nat.le_of_ble_eq_true c1
    have hlp : ∀ (l : Nat) (r : LoopRec), s.g.lp[l]? = some r → r.dp < s.g.dp := fun l r hl => by
      have := c3 r (List.mem_of_getElem? hl)
      simpa using this
    have ho1 : AV.oks NoId (KG s.g (s.g.dp - 1)) (YG (kG s.g) (s.g.dp - 1 + 1)) as := AV.oks.upto as c2 hvo
    have ho2 : AV.oks NoId (KG (kG s.g) (kG s.g).dp) (YG (kG s.g) ((kG s.g).dp + 1)) as := AV.oks.mono (fun _ hh => hh) (fun d t hk => k_K (by show s.g.dp - 1 < s.g.dp; omega) hk) (fun _ hh => hh) _ ho1
    have hv' : RepAs w (kH s.g h) as vs := RepAs.ext (h := h) (h' := kH s.g h) (Ext.refl _ _) (fun _ _ _ _ hh => hh) (fun _ _ => rfl) (fun _ _ hh => hh.elim) _ _ hvo hvs
    have main := hE (.fn fn) as (kG s.g) _ r hs w (kH s.g h) vs (hsi.fi.gi.keep c1 hlp) hv' ho2
    cases fn with
    | func f' =>
      refine ⟨f', rfl, main.1, hF.calls (main.2.mono fun e w' hq => ?_)⟩
      obtain ⟨out, g', h', hm, hg', hrel, hd, hl, hb⟩ := hq
      obtain ⟨q1, q2⟩ := unkeep hsi.fi.gi c1 hlp hg' hrel hd hl
      have := behindF_sound hnt hsi hk (hm.kun c1 hd) q2 rfl hl (hsi.fi.kept hrel q1 q2 hl) hb
      cases e <;> exact this
    | _ => exact main.elim

theorem callA_sound {R : Type} {cx : Cx R} (hnt : cx.nt = nt) (hC : CSound P cx.C) (hE : ESound P cx.E) {F : Fence} (hF : IsF F) {eff : Bool} {o : Oper} {f : AV} {args : List AV} {s : St} {k : Ex → St → Option R} {r : R}
    (hs : callA cx eff o.dst f args s k = some r) {a : Act} {w : World} {h : Gh} (hsi : SI nt g0 h0 w0 s a w h) {next : Act → World → Prop} {Q : Exit → Act → World → Prop}
    (hk : NextOk k r nt g0 h0 w0 next Q) {fv : Value} {vs : List Value} (hfv : RepA w h f fv) (hvs : RepAs w h args vs) (hfo : f.ok (TmQ s.fr s.g.dp) (KG s.g s.g.dp) (YG s.g s.g.dp))
    (hn : args.all noTup = true) (hvo : AV.oks (TmQ s.fr s.g.dp) (KG s.g s.g.dp) (YG s.g s.g.dp) args) :
    o.uponIn F 0 P a next Q ((do let d ← Deferred.ofValue fv vs.toArray; invoke d.target d.args : Sem Next).run P w) := by
  obtain ⟨ra, oa'⟩ := ownDatas hn hvo hvs
  have up : ∀ l, YG s.g s.g.dp l → YG s.g (s.g.dp + 1) l := fun l ⟨r, h1, h2⟩ => ⟨r, h1, by omega⟩
  have oa : AV.oks NoId (KG s.g s.g.dp) (YG s.g (s.g.dp + 1)) (args.map ownData) := AV.oks.mono (fun _ h => h) (fun _ _ h => h) up _ oa'
  -- a call that may turn boxes
  have eff1 : ∀ (fn : Fn) (caps : List AV) (cv : Array Value), fv = .func fn #[] cv → RepAs w h caps cv.toList → AV.oks NoId (KG s.g s.g.dp) (YG s.g (s.g.dp + 1)) caps →
      callE cx o.dst fn (args.map ownData ++ caps) s k = some r → o.uponIn F 0 P a next Q ((do let d ← Deferred.ofValue fv vs.toArray; invoke d.target d.args : Sem Next).run P w) := by
    intro fn caps cv hv hcr hco hrun
    obtain ⟨f', rfl, hok, hcall⟩ := callE_sound hnt hE hF hrun hsi hk (vs := vs ++ cv.toList) (ra.append hcr) (oks_append oa hco)
    have hr : (do let d ← Deferred.ofValue fv vs.toArray; invoke d.target d.args : Sem Next).run P w = .ok (.enter f' (vs ++ cv.toList).toArray) w := by
      rw [hv]
      have := hok.run (vs.toArray ++ cv) w
      have he : (vs ++ cv.toList).toArray = vs.toArray ++ cv := by apply Array.ext'; simp
      rw [he]
      simp [Deferred.ofValue, invoke, this]
    rw [hr]
    refine ⟨hF.depth, hcall.mono fun e w' hq => ?_⟩
    cases e <;> exact hq
  unfold callA at hs
  split at hs
  · -- data
    rename_i fn caps
    simp only [RepA, RepV] at hfv
    obtain ⟨cv, hv, hcr⟩ := hfv
    split at hs
    · rename_i ds hds
      have hdr := evs_datas hds hvs
      have hall : RepVs w h.L (ds ++ caps) (vs ++ cv.toList) := hdr.append hcr
      cases hc : cx.C fn (ds ++ caps) with
      | none => simp [hc] at hs
      | some out =>
        obtain ⟨f', rfl, hok, hcall⟩ := hC _ _ _ hc w h.L _ hsi.fi.gi.lim hall
        have hr : (do let d ← Deferred.ofValue fv vs.toArray; invoke d.target d.args : Sem Next).run P w = .ok (.enter f' (vs ++ cv.toList).toArray) w := by
          rw [hv]
          have := hok.run (vs.toArray ++ cv) w
          have he : (vs ++ cv.toList).toArray = vs.toArray ++ cv := by apply Array.ext'; simp
          rw [he]
          simp [Deferred.ofValue, invoke, this]
        rw [hr]
        refine ⟨hF.depth, hF.calls (hcall.mono fun e w' hq => ?_)⟩
        obtain ⟨g', h', hm, hcl, hG, hR⟩ := hq
        obtain ⟨f1, r1, hb⟩ := hsi.fi.pure hsi.rel hG hR
        have hd0 : g0.dp < s.g.dp := by rw [hsi.dp]; omega
        cases out with
        | ret rs =>
          cases e with
          | returned v =>
            obtain ⟨vs', rfl, hrep, hp, hnt', ho⟩ := hm
            simp only [hc] at hs
            cases hput : putRes cx.nt o.dst rs s with
            | none => simp [hput] at hs
            | some s' =>
              simp only [hput] at hs
              rw [hnt] at hput
              have hrep' : RepAs w' { L := h'.L, be := h.be, ga := gaMix h.ga h'.ga, ro := h.ro } rs vs' := closed_rep (h := h') (h' := { L := h'.L, be := h.be, ga := gaMix h.ga h'.ga, ro := h.ro }) rfl (fun _ => rfl) hcl hp hrep
              obtain ⟨h'', f2, r2, hg⟩ := putRes_sound f1 r1 hd0 hput hrep' hp hnt' (closed_ok hcl ho)
              refine hk.1 s' _ _ h'' ⟨f2, r2, ?_, ?_, ?_, ?_, ?_, ?_⟩ hs
              · rw [hg]; exact hsi.dp
              · rw [hg]; exact hsi.lps
              · cases hd : o.dst <;> exact hsi.nd
              · cases hd : o.dst <;> exact hsi.dnew
              · exact hsi.lpd
              · exact hsi.bxd
          | panicked _ => exact hm.elim
          | outgrown => exact hm.elim
        | pan x =>
          cases e with
          | returned v => exact hm.elim
          | panicked chain =>
            obtain ⟨v, rfl, hrep⟩ := hm
            simp only [hc] at hs
            exact hk.2 x s a w' _ v ⟨f1, r1, hsi.dp, hsi.lps, hsi.nd, hsi.dnew, hsi.lpd, hsi.bxd⟩ hrep hs
          | outgrown => exact hm.elim
    · split at hs
      case isFalse => cases hs
      exact eff1 fn (caps.map .d) cv hv (RepAs.of_d hcr) (oks_d caps) hs
  · rename_i fn caps
    split at hs
    case isFalse => cases hs
    simp only [RepA, AV.ok] at hfv hfo
    obtain ⟨cv, hv, hcr⟩ := hfv
    exact eff1 fn caps cv hv hcr (AV.oks.mono (fun _ h => h) (fun _ _ h => h) up _ hfo) hs
  · rename_i l
    split at hs
    case isFalse => cases hs
    simp only [RepA] at hfv
    have := hE _ _ _ _ _ hs w h vs hsi.fi.gi ra oa
    obtain ⟨f', tmps, as, body, hy, hround⟩ := this
    have hr : (do let d ← Deferred.ofValue fv vs.toArray; invoke d.target d.args : Sem Next).run P w = .ok (.round (h.ro l).1 f' tmps as body) w := by
      rw [hfv]
      simp [Deferred.ofValue, invoke, hy]
    rw [hr]
    refine ⟨hF.depth, hF.round (hround.mono fun e w' hq => ?_)⟩
    have := behind_sound hnt hsi hk hq
    cases e <;> exact this
  · cases hs
end
end Go.Abs
