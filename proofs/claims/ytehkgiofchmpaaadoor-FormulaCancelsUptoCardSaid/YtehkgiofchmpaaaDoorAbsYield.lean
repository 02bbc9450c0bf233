/- Rounds of a loop; calls, by their depth: sound. -/
import Derived.Test.YtehkgiofchmpaaaDoorAbsDfr
namespace Go.Abs
open Go
set_option linter.unusedVariables false
set_option linter.unusedSimpArgs false
set_option linter.unnecessarySimpa false

section
variable {P : Program} {g0 : G} {h0 : Gh} {w0 : World} {nt : Nat}

theorem setPend_get {g : G} {l : Nat} {e : Option Ex} {j : Nat} {rec : LoopRec} (h : (setPend l e g).lp[j]? = some rec) : ∃ r, g.lp[j]? = some r ∧ ((j ≠ l ∧ rec = r) ∨ (j = l ∧ rec = { r with pend := e })) := by
  have h' : (g.lp.modify l fun r => { r with pend := e })[j]? = some rec := h
  rw [List.getElem?_modify] at h'
  cases hg : g.lp[j]? with
  | none => rw [hg] at h'; cases h'
  | some r =>
    rw [hg] at h'
    simp only [Option.map_eq_map, Option.map_some] at h'
    refine ⟨r, rfl, ?_⟩
    by_cases hj : l = j
    · rw [if_pos hj] at h'; cases h'; exact .inr ⟨hj.symm, rfl⟩
    · rw [if_neg hj] at h'; cases h'; exact .inl ⟨fun e => hj e.symm, rfl⟩

theorem setPend_dps (g : G) (l : Nat) (e : Option Ex) : (setPend l e g).lp.map LoopRec.dp = g.lp.map LoopRec.dp := by
  apply List.ext_getElem?
  intro i
  simp only [List.getElem?_map, setPend, List.getElem?_modify]
  cases g.lp[i]? with
  | none => rfl
  | some r => simp only [Option.map_some]; split <;> rfl

theorem GI.setPend {g : G} {w : World} {h : Gh} (hg : GI g w h) {l : Nat} {r : LoopRec} {q : Array Value × FuncId} {D : Nat} (hl : g.lp[l]? = some r) (hL : w.heap[(h.ro l).1]? = some (.loop (loopObj r q D))) {e : Option Ex}
    (he : ∀ e', e = some e' → e' = .normal ∨ (exCode e').isSome = true) : GI (setPend l e g) (w.putObj (h.ro l).1 (.loop (loopObj { r with pend := e } q D))) h := by
  have hY : ∀ d j, YG g d j → YG (Abs.setPend l e g) d j := fun d j hy => YG.lps (setPend_dps g l e) hy
  refine hg.putLoop hL rfl rfl (fun d j _ hy => hY d j hy) (by simp [Abs.setPend]) ?_
  intro j rec hj
  obtain ⟨r1, h1, h2⟩ := setPend_get hj
  rcases h2 with ⟨hne, rfl⟩ | ⟨rfl, rfl⟩
  · refine .inl ⟨h1, ?_, fun n hn => hY _ n hn⟩
    intro heq
    exact hne (hg.roInj j l (List.getElem?_eq_some_iff.1 h1).1 (List.getElem?_eq_some_iff.1 hl).1 heq)
  · rw [hl] at h1; cases h1
    right
    obtain ⟨hp, D', q', h3, h4, h5, h6⟩ := hg.lp j r hl
    rw [hL] at h3
    have hq : q' = q ∧ D' = D := by
      have := h3
      simp only [Option.some.injEq, Obj.loop.injEq, loopObj, Loop.mk.injEq] at this
      exact ⟨Prod.ext this.2.2.2.1.symm this.2.2.1.symm, this.2.2.2.2.2.2.2.symm⟩
    obtain ⟨rfl, rfl⟩ := hq
    refine ⟨⟨he, hp.2⟩, D', q', putObj_same hL, ?_, h5, fun t v hv => ?_⟩
    · rw [putObj_other (by rintro e; rw [e, hL] at h4; cases h4), h4]
    · obtain ⟨p1, p2⟩ := h6 t v hv
      refine ⟨RepA.world (ext_putObj hL h.L) (fun i b hi => ?_) _ _ p1, AV.ok.mono (fun _ h => h) (fun _ _ h => h) (fun n hn => hY _ n hn) _ p2⟩
      obtain ⟨c, e, hc⟩ := hg.gaC i b hi
      rw [putObj_other (by rintro e; rw [e, hL] at hc; cases hc)]

theorem SI.setPend {s : St} {a : Act} {w : World} {h : Gh} (hsi : SI nt g0 h0 w0 s a w h) {l : Nat} {r : LoopRec} {q : Array Value × FuncId} {D : Nat} (hl : s.g.lp[l]? = some r) (hl0 : l < g0.lp.length) (hL : w.heap[(h.ro l).1]? = some (.loop (loopObj r q D))) {e : Option Ex}
    (he : ∀ e', e = some e' → e' = .normal ∨ (exCode e').isSome = true) : SI nt g0 h0 w0 { tm := s.tm, fr := s.fr, g := setPend l e s.g } a (w.putObj (h.ro l).1 (.loop (loopObj { r with pend := e } q D))) h := by
  have hlen : s.g.lp.length = g0.lp.length := by
    have := congrArg List.length hsi.lps
    simpa using this
  have hga : ∀ i b, h.ga i = some b → (w.putObj (h.ro l).1 (.loop (loopObj { r with pend := e } q D))).heap[b]? = w.heap[b]? := fun i b hi => by
    obtain ⟨c, e, hc⟩ := hsi.fi.gi.gaC i b hi
    rw [putObj_other (by rintro e; rw [e, hL] at hc; cases hc)]
  refine ⟨⟨hsi.fi.size, fun t v hv => ?_, hsi.fi.gi.setPend hl hL he, fun x hx => ?_⟩, ?_, hsi.dp, ?_, hsi.nd, hsi.dnew, hsi.lpd, hsi.bxd⟩
  · obtain ⟨h1, h2⟩ := hsi.fi.tm t v hv
    exact ⟨RepA.world (ext_putObj hL h.L) hga _ _ h1, AV.ok.mono (fun _ h => h) (fun _ _ h => h) (fun n hn => YG.lps (setPend_dps s.g l e) hn) _ h2⟩
  · intro X x1
    have x2 := hsi.fi.dfr x hx X x1
    rw [putObj_other (by rintro e; rw [e, hL] at x2; cases x2), x2]
  · exact hsi.rel.putLoop hL (hsi.rel.lpMay l (by omega)) rfl (by simp [Abs.setPend]) (by simp [Abs.setPend]; omega)
  · rw [setPend_dps]; exact hsi.lps

/-! ### yield's arguments -/
theorem fold_set (t : Nat) : ∀ (ps : List Nat) (vs : List Value) (T0 : Array Value), ps.any (Nat.beq t ·) = false → ((ps.zip vs).foldl (fun T (p : Nat × Value) => T.setIfInBounds p.1 p.2) T0)[t]? = T0[t]?
  | [], vs, T0, _ => by simp
  | p :: ps, [], T0, _ => by simp
  | p :: ps, v :: vs, T0, hp => by
    simp only [List.any_cons, Bool.or_eq_false_iff] at hp
    simp only [List.zip_cons_cons, List.foldl_cons]
    rw [fold_set t ps vs _ hp.2, Array.getElem?_setIfInBounds_ne]
    intro e; rw [e] at hp; simp at hp

theorem fold_size : ∀ (ps : List Nat) (vs : List Value) (T0 : Array Value), ((ps.zip vs).foldl (fun T (p : Nat × Value) => T.setIfInBounds p.1 p.2) T0).size = T0.size
  | [], vs, T0 => by simp
  | p :: ps, [], T0 => by simp
  | p :: ps, v :: vs, T0 => by
    simp only [List.zip_cons_cons, List.foldl_cons]
    rw [fold_size ps vs]; simp

theorem fold_look {w : World} {h : Gh} {n : Nat} : ∀ (ps : List Nat) (ds : List D) (vs : List Value) (T0 : Array Value) (tm : Nat → Option AV), distinct ps = true → ps.all (Nat.blt · n) = true → T0.size = n → ds.length = ps.length → RepVs w h.L ds vs →
    (∀ t v, tm t = some v → RepA w h v (T0.getD t undef)) → ∀ t v, (match look (ps.zip (ds.map fun x => some (AV.d x))) t with
      | some a => some a
      | none => tm t) = some v → RepA w h v (((ps.zip vs).foldl (fun T (p : Nat × Value) => T.setIfInBounds p.1 p.2) T0).getD t undef)
  | [], ds, vs, T0, tm, _, _, _, _, _, htm, t, v, hv => by
    simp [look] at hv
    simpa using htm t v hv
  | p :: ps, [], vs, T0, tm, _, _, _, hl, _, _, t, v, hv => by simp at hl
  | p :: ps, d :: ds, vs, T0, tm, hd, hb, hs, hl, hr, htm, t, v, hv => by
    simp only [RepVs] at hr
    obtain ⟨u, us, rfl, h1, h2⟩ := hr
    simp only [distinct, Bool.and_eq_true, Bool.not_eq_true'] at hd
    simp only [List.all_cons, Bool.and_eq_true] at hb
    have hlt : p < T0.size := by rw [hs]; simpa using hb.1
    simp only [List.zip_cons_cons, List.map_cons, List.foldl_cons, look] at hv ⊢
    by_cases ht : t = p
    · subst ht
      rw [if_pos (by simp)] at hv
      simp only [Option.some.injEq] at hv
      subst hv
      rw [Array.getD_eq_getD_getElem?, fold_set t ps us _ hd.1]
      simp only [Array.getElem?_setIfInBounds_self_of_lt hlt, Option.getD_some, RepA]
      exact h1
    · rw [if_neg (by simpa using ht)] at hv
      refine fold_look ps ds us (T0.setIfInBounds p u) (fun t => if t = p then none else tm t) hd.2 hb.2 (by simpa using hs) (by simpa using hl) h2 ?_ t v ?_
      · intro t' v' hv'
        split at hv'
        · cases hv'
        · rename_i hne
          have := htm t' v' hv'
          rw [Array.getD_eq_getD_getElem?] at this ⊢
          rw [Array.getElem?_setIfInBounds_ne (Ne.symm hne)]
          exact this
      · rw [if_neg ht]; exact hv

theorem look_d {ps : List Nat} {ds : List D} {t : Nat} {a : AV} (h : look (ps.zip (ds.map fun x => some (AV.d x))) t = some a) : ∃ x, a = .d x := by
  induction ps generalizing ds with
  | nil => simp [look] at h
  | cons p ps ih =>
    cases ds with
    | nil => simp [look] at h
    | cons d ds =>
      simp only [List.map_cons, List.zip_cons_cons, look] at h
      split at h
      · simp at h; exact ⟨d, h.symm⟩
      · exact ih h

theorem yield_sound {p : Pr} (hp : PrOk P p) {R : Type} [Same R] {cx : Cx R} (hT : TyOk P cx.T) (hC : CSound P cx.C) (hE : ESound P cx.E) {g : G} {w : World} {h : Gh} (hdf : h.df = []) (hflat : h.flat = false) (hg : GI g w h) {l : Nat} {r : LoopRec} (hl : g.lp[l]? = some r) (hcn : cx.nt = r.nt) (hch : cx.hint = r.hint) {args : List AV} {vs : List Value} (hr : RepAs w h args vs)
    {ds : List D} (hds : AV.datas args = some ds) (hlen : ds.length = r.params.length) (hdist : distinct r.params = true) (hlt : r.params.all (Nat.blt · r.nt) = true) {k : Out → G → Option R} {res : R}
    (hs : exec cx r.assign { tm := fun t => match look (r.params.zip (ds.map fun x => some (AV.d x))) t with
              | some a => some a
              | none => r.tm t, fr := fun _ => false, g := { g with dp := g.dp + 1 } } (fun e s => match e with
                | .normal => match s.g.lp[l]? with
                  | some r1 => match r1.pend with
                    | none => exec cx r.body { tm := s.tm, fr := s.fr, g := setPend l (some .normal) s.g } fun e s => match e with
                      | .normal => k (.ret [.d (.bool true)]) (setPend l none (popG s.g (g.dp + 1)))
                      | .panic _ => none
                      | e => k (.ret [.d (.bool false)]) (setPend l (some e) (popG s.g (g.dp + 1)))
                    | some _ => none
                  | none => none
                | _ => none) = some res) :
    ∃ f tmps assign body, (Instr.yield (h.ro l).1 vs.toArray).run P w = .ok (.round (h.ro l).1 f tmps assign body) w ∧
        RoundIn Fence.wide 0 P (h.ro l).1 f tmps assign body w (CallQ k res g h w) := by
  obtain ⟨hpc, D, q, q1, q2, q3, q4⟩ := hg.lp l r hl
  have hll : l < g.lp.length := (List.getElem?_eq_some_iff.1 hl).1
  have hvl : vs.length = ds.length := by
    have := RepAs.datas _ _ _ hds hr
    exact this.length
  have hy := run_yield (P := P) (args := vs.toArray) q1 (by simp [loopObj]; omega)
  refine ⟨_, _, _, _, hy, ?_⟩
  have htm0 : ((loopObj r q D).params.zip vs.toArray).foldl (fun tmps (x : Tmp × Value) => tmps.setIfInBounds x.1 x.2) (loopObj r q D).tmps = (r.params.zip vs).foldl (fun T (p : Nat × Value) => T.setIfInBounds p.1 p.2) q.1 := by
    rw [← Array.foldl_toList]
    simp [loopObj]
  have hF : FR (Fence.wide.inRound (h.ro l).1) g h := .inr ⟨l, hll, rfl⟩
  refine roundIn_of_wpIn trivial ?_
  have hsi : SI r.nt g h w { tm := fun t => match look (r.params.zip (ds.map fun x => some (AV.d x))) t with
              | some a => some a
              | none => r.tm t, fr := fun _ => false, g := { g with dp := g.dp + 1 } }
      { tmps := ((loopObj r q D).params.zip vs.toArray).foldl (fun tmps (x : Tmp × Value) => tmps.setIfInBounds x.1 x.2) (loopObj r q D).tmps, defers := [] } w h := by
    rw [htm0]
    refine ⟨⟨?_, ?_, hg.deeper, fun x hx => by cases hx⟩, Rel.deeper hg, rfl, rfl, by rw [hdf]; exact Marks.nil, fun x hx => by (cases hx), ?_, ?_⟩
    · rw [fold_size]; exact q3.1
    · intro t v hv
      refine ⟨fold_look r.params ds vs q.1 r.tm hdist hlt q3.1 hlen (RepAs.datas _ _ _ hds hr) (fun t v hv => (q4 t v hv).1) t v hv, ?_⟩
      simp only at hv
      split at hv
      · rename_i a ha
        cases hv
        obtain ⟨x, rfl⟩ := look_d ha
        simp [AV.ok]
      · have := (q4 t v hv).2
        exact AV.ok.mono (fun _ h => h.elim) (fun d t hk => ⟨Nat.le_succ_of_le (Nat.le_trans hk.1 hpc.2.1), hk.2⟩) (fun n hn => by
          obtain ⟨r', y1, y2⟩ := hn
          exact ⟨r', y1, Nat.lt_succ_of_le (Nat.le_of_lt (Nat.lt_of_lt_of_le y2 hpc.2.1))⟩) _ this
    · intro r' hr'
      obtain ⟨j, hj⟩ := List.getElem?_of_mem hr'
      exact (hg.lp j r' hj).1.2.1
    · intro d t hs
      obtain ⟨bo, hbo⟩ := Option.isSome_iff_exists.1 hs
      exact (hg.bx d t bo hbo).1
  refine exec_sound hp.mix hT hcn hC hE hF (fun e => by rw [hflat] at e; cases e) r.assign hs (by rw [hch]; exact hpc.2.2.1) hsi ?_
  intro ex s1 a1 w1 h1 hsi1 hk1
  cases ex with
  | exit id => simp at hk1
  | goto l => simp at hk1
  | ret => simp at hk1
  | panic x => simp at hk1
  | normal =>
    simp only at hk1
    cases hl1 : s1.g.lp[l]? with
    | none => simp [hl1] at hk1
    | some r1 =>
      simp only [hl1] at hk1
      cases hpe : r1.pend with
      | some e => simp [hpe] at hk1
      | none =>
        simp only [hpe] at hk1
        obtain ⟨hpc1, D1, qq1, u1, u2, u3, u4⟩ := hsi1.fi.gi.lp l r1 hl1
        have hro1 : h1.ro l = h.ro l := hsi1.rel.ro l hll
        have hb := run_beginRound (P := P) u1 (by simp [loopObj, hpe])
        rw [hro1] at hb
        refine ⟨_, hb, ?_⟩
        have hsi2 := hsi1.setPend hl1 hll u1 (e := some .normal) (by intro e' he; cases he; exact .inl rfl)
        have hobj : ({ loopObj r1 qq1 D1 with state := .busy } : Loop) = loopObj { r1 with pend := some .normal } qq1 D1 := by simp [loopObj, hpe, exCode]
        rw [hobj, ← hro1]
        refine exec_sound hp.mix hT hcn hC hE (by rw [hro1]; exact hF) (fun e => by rw [hflat] at e; cases e) r.body hk1 (by rw [hch]; exact hpc.2.2.2) hsi2 ?_
        intro ex s2 a2 w2 h2 hsi3 hk2
        have hlen3 : s2.g.lp.length = g.lp.length := by
          have := congrArg List.length hsi3.lps
          simpa using this
        obtain ⟨r2, hl2⟩ : ∃ r2, s2.g.lp[l]? = some r2 := ⟨_, List.getElem?_eq_getElem (by omega)⟩
        obtain ⟨hpc2, D2, qq2, v1, v2, v3, v4⟩ := hsi3.fi.gi.lp l r2 hl2
        have hro2 : h2.ro l = h.ro l := hsi3.rel.ro l hll
        have fin : ∀ (e : Option Ex) (jump : Option Code) (b : Bool), (∀ e', e = some e' → e' = .normal ∨ (exCode e').isSome = true) → ({ loopObj r2 qq2 D2 with state := if jump.isNone then .ready else .done, pending := jump } : Loop) = loopObj { r2 with pend := e } qq2 D2 →
            jump.isNone = b → k (.ret [.d (.bool b)]) (setPend l e (popG s2.g (g.dp + 1))) = some res → ∃ v w', (Instr.endRound (h1.ro l).1 jump).run P w2 = .ok v w' ∧ CallQ k res g h w (.returned v) w' := by
          intro e jump b he hobj2 hb2 hkk
          have hend := run_endRound (P := P) jump v1
          rw [hobj2] at hend
          obtain ⟨gi, rl⟩ := hsi3.gone
          have hlp2 : (popG s2.g (g.dp + 1)).lp[l]? = some r2 := hl2
          have gi2 := gi.setPend hlp2 v1 (e := e) he
          have rl2 := rl.putLoop (g' := setPend l e (popG s2.g (g.dp + 1))) v1 (rl.lpMay l (by show l < s2.g.lp.length; omega)) rfl (by simp [Abs.setPend]) (by simp [Abs.setPend, popG]; omega) (r' := loopObj { r2 with pend := e } qq2 D2)
          rw [hro1, ← hro2]
          refine ⟨_, _, hend, .ret [.d (.bool b)], _, _, ⟨[.bool b], ?_, ?_, ?_, rfl, ?_⟩, gi2, rl2, ?_, ?_, hkk⟩
          · rw [hb2]; rfl
          · simp [RepAs, RepA, RepV]
          · exact ⟨(by intro i sz es he; cases he), trivial⟩
          · simp [AV.oks, AV.ok]
          · show g.dp + 1 - 1 = g.dp
            omega
          · rw [setPend_dps]
            exact hsi3.lps
        cases ex with
        | normal =>
          exact fin none none true (by intro e' he; cases he) (by simp [loopObj]) rfl hk2
        | exit id =>
          exact fin (some (.exit id)) (some (.exit id)) false (by intro e' he; cases he; exact .inr rfl) (by simp [loopObj, exCode]) rfl hk2
        | goto t =>
          exact fin (some (.goto t)) (some (.goto t)) false (by intro e' he; cases he; exact .inr rfl) (by simp [loopObj, exCode]) rfl hk2
        | ret =>
          exact fin (some .ret) (some .ret) false (by intro e' he; cases he; exact .inr rfl) (by simp [loopObj, exCode]) rfl hk2
        | panic x => simp at hk2

theorem GI.start {w : World} {L : Nat → Nat} (hL : ∀ b, w.heap.size ≤ b → L b = 0) : GI G0 w (H0 L) where
  bx := fun d t bo hb => by cases hb
  inj := fun d t d' t' b h => by cases h
  gaBx := fun i b d t h => by cases h
  gaInj := fun i j b h => by cases h
  gaLt := fun i b h => by cases h
  gaC := fun i b h => by cases h
  lim := hL
  lp := fun l r h => by simp [G0] at h
  roInj := fun l l' h => by simp [G0] at h
  gaTop := fun _ _ _ _ => rfl

/-- CALLS ARE SOUND. -/
theorem run_sound {p : Pr} (hp : PrOk P p) : ∀ (n : Nat) (R : Type) [Same R], ESound P (run p n R)
  | 0, R, _ => fun cal args g k r hr => by simp [run] at hr
  | n + 1, R, _ => by
    have hC : CSound P (fun fn ds => match fn with
      | .func f => match p.K f with
        | some kf => kf ds
        | none => run p n Out (.fn fn) ((nrmArgs p f ds).map .d) G0 purify
      | _ => none) := by
      intro fn ds out ho w L vs hL hv
      cases fn with
      | func f =>
        simp only at ho
        cases hk : p.K f with
        | some kf =>
          simp only [hk] at ho
          obtain ⟨h1, h2⟩ := hp.K f kf hk ds out ho w L vs hL hv
          exact ⟨f, rfl, h1, h2⟩
        | none =>
          simp only [hk] at ho
          have hv : RepVs w L (nrmArgs p f ds) vs := by
            unfold nrmArgs
            split
            · exact hv.nrmDs
            · exact hv
          obtain ⟨h1, h2⟩ := run_sound hp n Out _ _ _ _ _ ho w (H0 L) vs (GI.start hL) (RepAs.of_d hv) (oks_d _)
          refine ⟨f, rfl, h1, h2.mono ?_⟩
          rintro e w' ⟨out', g', h', hm, hG, hR, _, _, hpur⟩
          have : out' = out ∧ OutD out := by
            cases out' with
            | ret rs =>
              simp only [purify] at hpur
              split at hpur
              · rename_i hc; cases hpur; exact ⟨rfl, hc⟩
              · cases hpur
            | pan x => simp only [purify, Option.some.injEq] at hpur; subst hpur; exact ⟨rfl, trivial⟩
          obtain ⟨rfl, hd⟩ := this
          exact ⟨g', h', hm, hd, hG, hR⟩
      | _ => simp at ho
    have hE0 := run_sound hp n R
    intro cal args g k r hr w h vs hg hv ho
    unfold run at hr
    simp only at hr
    cases cal with
    | fn fn =>
      cases fn with
      | func f =>
        simp only at hr
        cases hX : p.X f with
        | some x =>
          simp only [hX] at hr
          cases hx : x args g with
          | none => simp [hx] at hr
          | some og =>
            obtain ⟨c, out, g'⟩ := og
            simp only [hx] at hr
            cases c with
            | false => cases hr
            | true =>
            simp only at hr
            obtain ⟨h1, h2⟩ := hp.X f x hX args g out g' hx w h vs hg hv ho
            refine ⟨h1, h2.mono ?_⟩
            rintro e w' ⟨h', q1, q2, q3, q4, q5⟩
            exact ⟨out, g', h', q1, q2, q3, q4, q5, hr⟩
        | none =>
        simp only [hX] at hr
        cases hF : p.F f with
        | none => simp [hF] at hr
        | some F =>
          simp only [hF] at hr
          cases hb : F.body with
          | none => simp [hb] at hr
          | some code =>
            simp only [hb] at hr
            split at hr
            case isFalse => cases hr
            rename_i hle
            have hle : args.length ≤ F.ntmps := by simpa using hle
            obtain ⟨hPf, hname⟩ := hp.F f F hF
            refine ⟨⟨F, code, hPf, hb, hname⟩, ?_⟩
            refine callsIn_of_wp_marks hPf hb trivial ?_
            have hcode := hp.H f F code hF hb
            have hrod := rod_of hg
            -- the frame leaves
            have ret : ∀ (fl : Bool) (s' : St) (a' : Act) (w' : World) (h' : Gh), SI F.ntmps g { h with df := [], flat := fl } w s' a' w' h' → (match resVars p.T s' F.results.toList with
                | some rs => match retRes s'.g.bx (g.dp + 1) 0 [] rs with
                  | some rs' => k (.ret rs') (popG { s'.g with bx := demRes rs s'.g.bx } (g.dp + 1))
                  | none => none
                | none => none) = some r → ∃ v, (results F a'.tmps).run P w' = .ok v w' ∧ CallQ k r g h w (.returned v) w' := by
              intro fl s' a' w' h' hsi' hk'
              cases h1 : resVars p.T s' F.results.toList with
              | none => simp [h1] at hk'
              | some rs =>
                simp only [h1] at hk'
                cases h2 : retRes s'.g.bx (g.dp + 1) 0 [] rs with
                | none => simp [h2] at hk'
                | some rs' =>
                  simp only [h2] at hk'
                  obtain ⟨v, hv1, hv2⟩ := returned hp.T hsi' h1 h2 hk'
                  exact ⟨v, hv1, hv2.based⟩
            have plain : ∀ (fl : Bool) (ex : Ex) (s' : St) (a' : Act) (w' : World) (h' : Gh), SI F.ntmps g { h with df := [], flat := fl } w s' a' w' h' → (match ex with
                | .panic x => k (.pan x) (popG s'.g (g.dp + 1))
                | .exit _ => none
                | .goto _ => none
                | _ => match resVars p.T s' F.results.toList with
                  | some rs => match retRes s'.g.bx (g.dp + 1) 0 [] rs with
                    | some rs' => k (.ret rs') (popG { s'.g with bx := demRes rs s'.g.bx } (g.dp + 1))
                    | none => none
                  | none => none) = some r → ExQ (bodyPostM Fence.wide 0 P F (CallQ k r g h w)) a' w' h' ex := by
              intro fl ex s' a' w' h' hsi' hk'
              have rt : (match resVars p.T s' F.results.toList with
                  | some rs => match retRes s'.g.bx (g.dp + 1) 0 [] rs with
                    | some rs' => k (.ret rs') (popG { s'.g with bx := demRes rs s'.g.bx } (g.dp + 1))
                    | none => none
                  | none => none) = some r → LeavesInM Fence.wide 0 P F a'.tmps (CallQ k r g h w) a'.defers .returning w' := by
                intro hk'
                refine leaves_all (h0 := { h with df := [], flat := fl }) (by simp) hrod a'.defers (tmps := a'.tmps) hsi' ?_
                intro w'' hsi'' _
                exact ret fl s' { tmps := a'.tmps, defers := [] } w'' h' hsi'' hk'
              cases ex with
              | normal => exact rt hk'
              | ret => exact rt hk'
              | exit id => simp at hk'
              | goto l => simp at hk'
              | panic x =>
                simp only at hk'
                intro v hx
                show LeavesInM Fence.wide 0 P F a'.tmps (CallQ k r g h w) a'.defers (.panicking [{ v, recovered := false }]) w'
                refine leaves_all (h0 := { h with df := [], flat := fl }) (by simp) hrod a'.defers (tmps := a'.tmps) hsi' ?_
                intro w'' hsi'' hext
                obtain ⟨gi, rl⟩ := hsi''.gone
                exact ⟨.pan x, popG s'.g (g.dp + 1), { h' with ga := gaClear h'.ga (g.dp + 1) }, ⟨v, rfl, hx.ext hext⟩, gi, rl.based, (by show g.dp + 1 - 1 = g.dp; omega), hsi''.lps, hk'⟩
            cases hdr : (p.H f).dfr with
            | false =>
              simp only [hdr] at hr
              have hsi := SI.enter (h := { h with df := [], flat := false }) rfl (hg.base [] false) (RepAs.base [] false _ _ hv) ho hle
              refine exec_sound (F := Fence.wide) hp.mix hp.T rfl hC (hideE_sound _ hE0) (.inl rfl) (fun e => by cases e) code hr hcode hsi ?_
              exact fun ex s' a' w' h' hsi' hk' => plain false ex s' a' w' h' hsi' hk'
            | true =>
              simp only [hdr] at hr
              have hsi := SI.enter (h := { h with df := [], flat := true }) rfl (hg.base [] true) (RepAs.base [] true _ _ hv) ho hle
              cases hff : (p.H f).flat with
              | false => simp [hff] at hr
              | true =>
              simp only [hff] at hr
              refine execD_sound hp.mix hp.T rfl hC (hideE_sound _ hE0) rfl hff rfl (fun ex s' a' w' h' hsi' hk' => plain true ex s' a' w' h' hsi' hk') ?_ code hr hcode hsi
              intro fA s' a' w' h' dv fn cv hsi' hdv hrep hok ex s'' a'' w'' h'' hsi'' hk''
              have hdp : s'.g.dp = g.dp + 1 := hsi'.dp
              subst hdv
              have hdone : ∀ s4 a4 w4 h4, SI F.ntmps g { h with df := [], flat := true } w s4 a4 w4 h4 → (match resVars p.T s4 F.results.toList with
                    | some rs => match retRes s4.g.bx (g.dp + 1) 0 [] rs with
                      | some rs' => k (.ret rs') (popG { s4.g with bx := demRes rs s4.g.bx } (g.dp + 1))
                      | none => none
                    | none => none) = some r → ∃ v, (results F a4.tmps).run P w4 = .ok v w4 ∧ CallQ k r g h w (.returned v) w4 := fun s4 a4 w4 h4 => ret true s4 a4 w4 h4
              rw [← hdp] at hdone
              simp only at hk''
              rw [← hdp] at hk''
              have fin := fun {u : FrameMode} {rv : D} (hrv : Recs w'' h''.L u rv) hs => recAV_sound (u := u) (rv := rv) (F := F) (R := R)
                (cxOf := fun f' F' =>
                  { T := p.T
                    fuel := p.fuel
                    C := fun fn ds => match fn with
                      | .func f => match p.K f with
                        | some kf => kf ds
                        | none => run p n Out (.fn fn) ((nrmArgs p f ds).map .d) G0 purify
                      | _ => none
                    E := hideE (p.H f').hide (run p n R)
                    hint := p.H f'
                    fid := f'
                    nt := F'.ntmps })
                hp (fun _ _ => rfl) (fun _ _ => hC) (fun _ _ => hideE_sound _ hE0) (fun _ _ => rfl) (fun _ _ => rfl) rfl hsi' hsi'' hrep hok hrv hs hdone
              cases ex with
              | normal => exact fin (.inl ⟨rfl, rfl⟩) hk''
              | ret => exact fin (.inl ⟨rfl, rfl⟩) hk''
              | exit id => cases hk''
              | goto l => cases hk''
              | panic x =>
                intro v hx
                exact fin (.inr ⟨v, rfl, hx⟩) hk''
      | _ => simp at hr
    | yld l =>
      simp only at hr
      cases hl : g.lp[l]? with
      | none => simp [hl] at hr
      | some rec =>
        simp only [hl] at hr
        cases hpe : rec.pend with
        | some e => simp [hpe] at hr
        | none =>
          cases hds : AV.datas args with
          | none => simp [hpe, hds] at hr
          | some ds =>
            simp only [hpe, hds] at hr
            split at hr
            case isFalse => cases hr
            rename_i hc
            simp only [Bool.and_eq_true] at hc
            obtain ⟨⟨c1, c2⟩, c3⟩ := hc
            obtain ⟨f, tmps, as, body, y1, y2⟩ := yield_sound hp hp.T hC (hideE_sound _ hE0) (h := { h with df := [], flat := false }) rfl rfl (hg.base [] false) hl rfl rfl (RepAs.base [] false _ _ hv) hds (by simpa using c1) c2 c3 hr
            exact ⟨f, tmps, as, body, y1, y2.mono fun e w' hq => hq.based⟩
end
end Go.Abs
