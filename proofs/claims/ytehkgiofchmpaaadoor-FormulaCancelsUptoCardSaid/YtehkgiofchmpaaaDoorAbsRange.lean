/- Ranges over functions: the statement. -/
import Derived.Test.YtehkgiofchmpaaaDoorAbsLoop
namespace Go.Abs
open Go
set_option linter.unusedVariables false
set_option linter.unusedSimpArgs false
set_option linter.unnecessarySimpa false

section
variable {P : Program} {T : Nat → Option TI} {g0 : G} {h0 : Gh} {w0 : World} {nt : Nat}

def ExQ (Q : Exit → Act → World → Prop) (a : Act) (w : World) (h : Gh) : Ex → Prop
  | .normal => Q .normal a w
  | .exit id => Q (.exit id) a w
  | .goto l => Q (.goto l) a w
  | .ret => Q .ret a w
  | .panic x => ∀ v, RepV w h.L x v → Q (.panic [{ v, recovered := false }]) a w

def ExOk {R : Type} (k : Ex → St → Option R) (r : R) (nt : Nat) (g0 : G) (h0 : Gh) (w0 : World) (Q : Exit → Act → World → Prop) : Prop :=
  ∀ ex s' a' w' h', SI nt g0 h0 w0 s' a' w' h' → k ex s' = some r → ExQ Q a' w' h' ex

theorem ExOk.next {R : Type} {k : Ex → St → Option R} {r : R} {Q : Exit → Act → World → Prop} (h : ExOk k r nt g0 h0 w0 Q) : NextOk k r nt g0 h0 w0 (Q .normal) Q :=
  ⟨fun s' a' w' h' hsi hk => h .normal s' a' w' h' hsi hk, fun x s' a' w' h' v hsi hv hk => h (.panic x) s' a' w' h' hsi hk v hv⟩

/-- A frame of a function, or of a round of a loop. -/
def FR (F : Fence) (g0 : G) (h0 : Gh) : Prop := F = Fence.wide ∨ ∃ l, l < g0.lp.length ∧ F = Fence.wide.inRound (h0.ro l).1

theorem FR.isF {F : Fence} (h : FR F g0 h0) : IsF F := by
  rcases h with rfl | ⟨l, _, rfl⟩
  · exact .inl rfl
  · exact .inr ⟨_, rfl⟩

theorem range_sound (hflat : h0.flat = false) {R : Type} [Same R] {cx : Cx R} (hnt : cx.nt = nt) (hE : ESound P cx.E) {F : Fence} (hF : FR F g0 h0) {f : Operand} {params : Array Tmp} {assign body : Code} {s : St} {k : Ex → St → Option R} {r : R}
    (hs : exec cx (.rangeFunc f params assign body) s k = some r) (hca : codeOk cx.hint assign = true) (hcb : codeOk cx.hint body = true) {a : Act} {w : World} {h : Gh} (hsi : SI nt g0 h0 w0 s a w h)
    {Q : Exit → Act → World → Prop} (hk : ExOk k r nt g0 h0 w0 Q) : (Code.rangeFunc f params assign body).wpIn F 0 P Q a w := by
  have hlen : s.g.lp.length = g0.lp.length := by
    have := congrArg List.length hsi.lps
    simpa using this
  refine wpIn_rangeFunc fun fn _ => ?_
  obtain ⟨L, mark, w1, D, hent, hb, hL, hl1, hd1, hmark⟩ := enter_loop (P := P) (F := F) (w := w) fn a.tmps params assign body (by
    intro l hl
    rcases hF with rfl | ⟨l0, hl0, rfl⟩
    · cases hl
    · cases hl
      obtain ⟨r0, hr0⟩ : ∃ r0, s.g.lp[l0]? = some r0 := ⟨_, List.getElem?_eq_getElem (by rw [hlen]; exact hl0)⟩
      obtain ⟨_, D, q, h1, h2, h3, _⟩ := hsi.fi.gi.lp l0 r0 hr0
      rw [hsi.rel.ro l0 hl0] at h1
      exact ⟨_, D, h1, rfl, h2⟩)
  -- the state in which the function is called
  obtain ⟨rec, hrec⟩ : ∃ rec : LoopRec, rec = { fid := cx.fid, dp := s.g.dp, nt := cx.nt, hint := cx.hint, tm := mapTm demAll s.tm, params := params.toList, assign, body, pend := none } := ⟨_, rfl⟩
  obtain ⟨g1, hg1⟩ : ∃ g1 : G, g1 = { s.g with lp := s.g.lp ++ [rec] } := ⟨_, rfl⟩
  obtain ⟨h1, hh1⟩ : ∃ h1 : Gh, h1 = { h with ro := fun l => if l = s.g.lp.length then (L, D) else h.ro l } := ⟨_, rfl⟩
  have hrold : ∀ l, l < s.g.lp.length → h1.ro l = h.ro l := fun l hl => by rw [hh1]; show (if l = _ then _ else _) = _; rw [if_neg (by omega)]
  have hrnew : h1.ro s.g.lp.length = (L, D) := by rw [hh1]; show (if _ = _ then _ else _) = _; rw [if_pos rfl]
  have hlold : ∀ l r, s.g.lp[l]? = some r → (h.ro l).1 < w.heap.size := fun l r hr => by
    obtain ⟨_, D, q, h1, _⟩ := hsi.fi.gi.lp l r hr
    exact lt_of_heap h1
  have lget : ∀ l r, g1.lp[l]? = some r → s.g.lp[l]? = some r ∨ l = s.g.lp.length ∧ r = rec := by
    intro l r hr
    rw [hg1] at hr
    simp only at hr
    by_cases hlt : l < s.g.lp.length
    · rw [List.getElem?_append_left hlt] at hr; exact .inl hr
    · rw [List.getElem?_append_right (by omega)] at hr
      have : l - s.g.lp.length = 0 := by
        by_cases h0 : l - s.g.lp.length = 0
        · exact h0
        · have : ([rec] : List LoopRec)[l - s.g.lp.length]? = none := by
            apply List.getElem?_eq_none; simp; omega
          rw [this] at hr; cases hr
      rw [this] at hr
      simp at hr
      exact .inr ⟨by omega, hr.symm⟩
  have yup : ∀ n l, YG s.g n l → YG g1 n l := by
    rintro n l ⟨r', q1, q2⟩
    refine ⟨r', ?_, q2⟩
    rw [hg1]
    show (s.g.lp ++ [rec])[l]? = some r'
    rw [List.getElem?_append_left (List.getElem?_eq_some_iff.1 q1).1, q1]
  have hGs : GI s.g w1 h1 := by
    refine hsi.fi.gi.grow hb (fun b _ => by rw [hh1]) (fun b hb' => ?_) (fun d t _ => by rw [hh1]) hrold (fun i _ => by rw [hh1]) ?_ ?_ ?_ ?_
    · rw [hh1]; exact hsi.fi.gi.lim b (Nat.le_trans hb.size hb')
    · rw [hh1]; exact hsi.fi.gi.gaBx
    · rw [hh1]; exact hsi.fi.gi.gaInj
    · intro i b hi
      rw [hh1] at hi
      obtain ⟨c, e, hc⟩ := hsi.fi.gi.gaC i b hi
      exact ⟨c, e, by rw [hb.block b (lt_of_heap hc), hc]⟩
    · rw [hh1]; exact hsi.fi.gi.gaTop
  have ftm := hsi.fi.tm_grow (h' := h1) hb (fun b _ => by rw [hh1]) (fun d t _ => by rw [hh1]) hrold (fun i _ => by rw [hh1])
  have hG1 : GI g1 w1 h1 := by
    have hbx : g1.bx = s.g.bx := by rw [hg1]
    have hdp : g1.dp = s.g.dp := by rw [hg1]
    have hK : ∀ n d t, KG s.g n d t → KG g1 n d t := fun n d t hk => ⟨hk.1, by rw [hbx]; exact hk.2⟩
    refine { bx := ?_, inj := ?_, gaBx := ?_, gaInj := hGs.gaInj, gaLt := hGs.gaLt, gaC := hGs.gaC, lim := hGs.lim, lp := ?_, roInj := ?_, gaTop := ?_ }
    · intro d t bo hbo
      rw [hbx] at hbo
      obtain ⟨q1, q2, rest⟩ := hGs.bx d t bo hbo
      exact ⟨by rw [hdp]; exact q1, AV.oks.mono (fun _ h => h) (fun d t hk => hK _ d t hk) (fun l hl => yup _ l hl) _ q2, rest⟩
    · intro d t d' t' b q1 q2
      rw [hbx] at q1 q2
      exact hGs.inj d t d' t' b q1 q2
    · intro i b d t q1 q2
      rw [hbx] at q2
      exact hGs.gaBx i b d t q1 q2
    · intro l rr hl
      rcases lget l rr hl with hl | ⟨e1, e2⟩
      · obtain ⟨hp, D, q, q1, q2, q3, q4⟩ := hGs.lp l rr hl
        exact ⟨⟨hp.1, by rw [hdp]; exact hp.2.1, hp.2.2⟩, D, q, q1, q2, q3, fun t v hv => ⟨(q4 t v hv).1, AV.ok.mono (fun _ h => h) (fun d t hk => hK _ d t hk) (fun l hl => yup _ l hl) _ (q4 t v hv).2⟩⟩
      · rw [e1, e2]
        refine ⟨⟨(by rw [hrec]; intro e he; cases he), by rw [hrec, hdp]; exact Nat.le_refl _, by rw [hrec]; exact ⟨hca, hcb⟩⟩, D, (a.tmps, fn), ?_, hd1, ⟨by rw [hrec, hnt]; exact hsi.fi.size, by rw [hrnew]⟩, ?_⟩
        · rw [hrnew]
          show w1.heap[L]? = _
          rw [hl1, hrec]
          simp [loopObj]
        · intro t v hv
          rw [hrec] at hv
          obtain ⟨u, hu, rfl⟩ := mapTm_some hv
          obtain ⟨q1, q2⟩ := ftm t u hu
          refine ⟨RepA.demAll _ _ q1, ?_⟩
          rw [hrec]
          exact AV.ok.mono (fun _ h => h) (fun d t hk => hK _ d t hk) (fun l hl => yup _ l hl) _ (AV.ok.demAll (Q' := NoId) _ q2)
    · intro l l' hl hl' he
      have hsz : g1.lp.length = s.g.lp.length + 1 := by rw [hg1]; simp
      by_cases e1 : l = s.g.lp.length <;> by_cases e2 : l' = s.g.lp.length
      · omega
      · exfalso
        have := hlold l' _ (List.getElem?_eq_getElem (by omega))
        rw [e1, hrnew, hrold l' (by omega)] at he
        simp only at he
        omega
      · exfalso
        have := hlold l _ (List.getElem?_eq_getElem (by omega))
        rw [e2, hrnew, hrold l (by omega)] at he
        simp only at he
        omega
      · exact hGs.roInj l l' (by omega) (by omega) he
    · intro d t j hd
      rw [hdp] at hd
      exact hGs.gaTop d t j hd
  have hr1 : Rel g0 h0 w0 g1 w1 h1 := by
    have hbx : g1.bx = s.g.bx := by rw [hg1]
    refine hsi.rel.grow hsi.fi.gi hb (fun b _ => by rw [hh1]) (fun d t _ hs => ⟨by rw [hbx]; exact hs, by rw [hh1]⟩) (fun l hl => hrold l (by omega)) (fun d t j _ => by rw [hh1])
      (fun d t b hs hb' => .inr ⟨d, t, by rw [← hbx]; exact hs, by rw [hh1] at hb'; exact hb'⟩) (fun i b hi => .inr (by rw [hh1] at hi; exact hi)) ?_ ?_
    · intro l hl
      have hsz : g1.lp.length = s.g.lp.length + 1 := by rw [hg1]; simp
      by_cases e1 : l = s.g.lp.length
      · rw [e1, hrnew]; exact .inl hL
      · exact .inr ⟨by omega, hrold l (by omega)⟩
    · rw [hg1]; simp
  -- behind the call
  have after : ∀ (done : Out → G → Option R), (∀ out g, done out g = (match out with
      | .ret _ => match g.lp[s.g.lp.length]? with
        | some r => match r.pend with
          | some .normal => none
          | none => k .normal { tm := mapTm demAll s.tm, fr := fun _ => false, g := { g with lp := g.lp.take s.g.lp.length } }
          | some e => k e { tm := mapTm demAll s.tm, fr := fun _ => false, g := { g with lp := g.lp.take s.g.lp.length } }
        | none => none
      | .pan _ => none)) → ∀ e w', CallQ done r g1 h1 w1 e w' → rangePost F 0 P L Q { a with defers := mark ++ a.defers } e w' := by
    intro done hdone e w' hq
    obtain ⟨out, g', h', hm, hG, hR, hdp, hlp, hb'⟩ := hq
    rw [hdone] at hb'
    cases out with
    | pan x => cases hb'
    | ret rs =>
      cases e with
      | panicked _ => exact hm.elim
      | outgrown => exact hm.elim
      | returned v =>
        simp only at hb'
        cases hrl : g'.lp[s.g.lp.length]? with
        | none => simp [hrl] at hb'
        | some rl =>
          simp only [hrl] at hb'
          obtain ⟨hpd, D', q, q1, q2, q3, q4⟩ := hG.lp _ rl hrl
          have hlen1 : s.g.lp.length < g1.lp.length := by rw [hg1]; simp
          have hro : h'.ro s.g.lp.length = (L, D) := by rw [hR.ro _ hlen1, hrnew]
          rw [hro] at q1 q3
          simp only at q1 q3
          have hD' : D' = D := q3.2
          subst hD'
          have hlpe : g'.lp.map LoopRec.dp = s.g.lp.map LoopRec.dp ++ [s.g.dp] := by rw [hlp, hg1, hrec]; simp
          have hlen' : g'.lp.length = s.g.lp.length + 1 := by
            have := congrArg List.length hlpe
            simpa using this
          -- the state behind the statement
          have fin : ∀ r' : Loop, SI nt g0 h0 w0 { tm := mapTm demAll s.tm, fr := fun _ => false, g := { g' with lp := g'.lp.take s.g.lp.length } } { a with defers := mark ++ a.defers } (w'.putObj L (.loop r')) h' := by
            intro r'
            have hlps : (g'.lp.take s.g.lp.length).map LoopRec.dp = s.g.lp.map LoopRec.dp := by
              rw [List.map_take, hlpe]
              rw [List.take_append_of_le_length (by simp), List.take_of_length_le (by simp)]
            have r2 : Rel g0 h0 w0 g' w' h' := hr1.call hR (by rw [hg1]; exact Nat.le_of_lt hsi.hdp)
            have hdp' : g'.dp = s.g.dp := by rw [hdp, hg1]
            have hdpl : rl.dp = s.g.dp := by
              have h3 : (g'.lp.map LoopRec.dp)[s.g.lp.length]? = some rl.dp := by simp [hrl]
              rw [hlpe, List.getElem?_append_right (by simp)] at h3
              simpa using h3.symm
            have ydown : ∀ d l, d ≤ s.g.dp → YG g' d l → YG { g' with lp := g'.lp.take s.g.lp.length } d l := by
              rintro d l hd ⟨r1, y1, y2⟩
              refine ⟨r1, ?_, y2⟩
              show (g'.lp.take s.g.lp.length)[l]? = some r1
              rw [List.getElem?_take]
              have hlt : l < g'.lp.length := (List.getElem?_eq_some_iff.1 y1).1
              by_cases he : l = s.g.lp.length
              · rw [he, hrl] at y1; cases y1; omega
              · rw [if_pos (by omega)]; exact y1
            have hGI : GI { g' with lp := g'.lp.take s.g.lp.length } (w'.putObj L (.loop r')) h' := by
              refine hG.putLoop q1 rfl rfl (fun d l hd => ydown d l (by rw [← hdp']; exact hd)) (by simp; omega) ?_
              intro l rec' hl
              have hl' : (g'.lp.take s.g.lp.length)[l]? = some rec' := hl
              rw [List.getElem?_take] at hl'
              split at hl'
              · rename_i hlt
                refine .inl ⟨hl', ?_, ?_⟩
                · intro he
                  have := hG.roInj l s.g.lp.length (by omega) (by omega) (by rw [he, hro])
                  omega
                · intro n hn
                  obtain ⟨hp', _⟩ := hG.lp l rec' hl'
                  exact ydown _ n (by rw [← hdp']; exact hp'.2.1) hn
              · cases hl'
            have hLm : w0.heap.size ≤ L ∨ May g0 h0 L := .inl (Nat.le_trans hsi.rel.size hL)
            have hRl : Rel g0 h0 w0 { g' with lp := g'.lp.take s.g.lp.length } (w'.putObj L (.loop r')) h' :=
              r2.putLoop q1 hLm rfl (by simp; omega) (by simp; omega)
            have hEx : Ext w1 h1.L (w'.putObj L (.loop r')) h'.L := hR.ext.trans (ext_putObj q1 h'.L)
            have hdef : ∀ X : Nat, w.heap[X]? = some (Obj.deferred (some [])) → (w'.putObj L (.loop r')).heap[X]? = some (Obj.deferred (some [])) := by
              intro X hX
              have hX1 : w1.heap[X]? = some (Obj.deferred (some [])) := by rw [hb.block X (lt_of_heap hX), hX]
              have hX' : w'.heap[X]? = some (Obj.deferred (some [])) := by rw [(hR.keep X (lt_of_heap hX1) (not_may_def hG1 hX1)).1, hX1]
              rw [putObj_other (by rintro rfl; rw [hX'] at q1; cases q1), hX']
            refine ⟨⟨hsi.fi.size, ?_, hGI, ?_⟩, hRl, ?_, ?_, ?_, ?_, hsi.lpd, hsi.bxd⟩
            · intro t v hv
              obtain ⟨u, hu, rfl⟩ := mapTm_some hv
              obtain ⟨u1, u2⟩ := ftm t u hu
              have u3 := AV.ok.demAll (Q' := NoId) u u2
              have hbs : ∀ d t, (s.g.bx d t).isSome = true → (g'.bx d t).isSome = true ∧ h'.be d t = h1.be d t := fun d t hs => hR.bxs d t (by rw [hg1]; exact hs)
              refine ⟨RepA.ext hEx (fun d t b hk hb => by rw [(hbs d t hk.2).2]; exact hb) (fun l hl => hR.ro l (by have := hl.lt; omega)) (fun _ _ h => h.elim) _ _ u3 (RepA.demAll _ _ u1), ?_⟩
              refine AV.ok.mono (fun _ h => h.elim) (fun d t hk => ⟨by show d ≤ g'.dp; rw [hdp']; exact hk.1, (hbs d t hk.2).1⟩) (fun l hl => ?_) _ u3
              show YG { g' with lp := g'.lp.take s.g.lp.length } g'.dp l
              rw [hdp']
              exact YG.lps (g := s.g) (g' := { g' with lp := g'.lp.take s.g.lp.length }) hlps hl
            · intro x hx
              simp only [List.mem_append] at hx
              rcases hx with hx | hx
              · rcases hmark with rfl | ⟨rfl, _⟩
                · cases hx
                · simp only [List.mem_singleton] at hx
                  subst hx
                  intro X hX
                  simp only [Deferred.mk.injEq, Target.collected.injEq, and_true] at hX
                  subst hX
                  rw [putObj_other (by rintro rfl; rw [q2] at q1; cases q1)]; exact q2
              · exact fun X x1 => hdef X (hsi.fi.dfr x hx X x1)
            · show g'.dp = _
              rw [hdp']; exact hsi.dp
            · show (g'.lp.take s.g.lp.length).map LoopRec.dp = _
              rw [hlps]; exact hsi.lps
            · rcases hmark with rfl | ⟨rfl, hD⟩
              · simpa using hsi.nd
              · obtain ⟨m1, ms, m2, m3, m4, m5⟩ := hsi.nd
                refine ⟨m1, { target := .collected D', args := #[] } :: ms, by simp [m2], ?_, ?_, fun hfl => by rw [hflat] at hfl; cases hfl⟩
                · rw [List.nodup_cons]
                  refine ⟨fun hx => ?_, m3⟩
                  have x2 := hsi.fi.dfr _ (by rw [m2]; exact List.mem_append_left _ hx) D' rfl
                  have := lt_of_heap x2
                  omega
                · intro x hx
                  rcases List.mem_cons.1 hx with rfl | hx
                  · exact ⟨_, rfl⟩
                  · exact m4 x hx
            · intro x hx X hX
              simp only [List.mem_append] at hx
              rcases hx with hx | hx
              · rcases hmark with rfl | ⟨rfl, hD⟩
                · cases hx
                · simp only [List.mem_singleton] at hx
                  subst hx
                  simp only [Target.collected.injEq] at hX
                  have := hsi.rel.size
                  omega
              · exact hsi.dnew x hx X hX
          cases hpe : rl.pend with
          | none =>
            simp only [hpe] at hb'
            have hend := run_endLoop (P := P) q1 (by simp [loopObj, hpe])
            refine ⟨_, _, hend, ?_⟩
            simp only [loopObj, hpe]
            exact hk .normal _ _ _ h' (fin _) hb'
          | some ex =>
            simp only [hpe] at hb'
            have hnn : ex ≠ .normal := by
              rintro rfl
              simp at hb'
            have hend := run_endLoop (P := P) q1 (by
              simp only [loopObj, hpe]
              cases ex <;> simp_all)
            refine ⟨_, _, hend, ?_⟩
            have hex := (hpd.1 ex hpe).resolve_left hnn
            cases ex with
            | normal => exact absurd rfl hnn
            | panic x => simp [exCode] at hex
            | exit id =>
              simp only [loopObj, hpe, exCode]
              exact wpIn_exit (hk (.exit id) _ _ _ h' (fin _) hb')
            | goto l =>
              simp only [loopObj, hpe, exCode]
              exact wpIn_goto (hk (.goto l) _ _ _ h' (fin _) hb')
            | ret =>
              simp only [loopObj, hpe, exCode]
              exact wpIn_ret (hk .ret _ _ _ h' (fin _) hb')
  -- the call
  have call : ∀ (fn' : Fn) (caps : List AV) (cv : Array Value) (done : Out → G → Option R), a.eval f = .func fn' #[] cv → RepAs w1 h1 caps cv.toList → AV.oks NoId (KG s.g s.g.dp) (YG s.g s.g.dp) caps →
      cx.E (.fn fn') (.yld s.g.lp.length :: caps) g1 done = some r → (∀ e w', CallQ done r g1 h1 w1 e w' → rangePost F 0 P L Q { a with defers := mark ++ a.defers } e w') →
      ∃ (l : Nat) (mark : List Deferred) (w₁ : World) (d : Deferred) (w₁' : World) (f' : FuncId) (args : Array Value) (w₂ : World),
      (Instr.enterLoop fn a.tmps params assign body F.round).run P w = .ok (l, mark) w₁ ∧
      (resolve a.eval (rangeCall f l) 0).run P w₁ = .ok d w₁' ∧
      (∀ f', Target.leads P w₁' d.target d.args = some f' → F.fn f') ∧
      (invoke d.target d.args).run P w₁' = .ok (.enter f' args) w₂ ∧
      (F.depth.isSome = true → 1 ≤ 0) ∧
      CallsIn F (0 - 1) P f' args w₂ (rangePost F 0 P l Q { a with defers := mark ++ a.defers }) := by
    intro fn' caps cv done hv hcr hco hrun hpost
    have hbx : g1.bx = s.g.bx := by rw [hg1]
    have hdp : g1.dp = s.g.dp := by rw [hg1]
    have := hE _ _ _ _ _ hrun w1 h1 (.func (.yield L) #[] #[] :: cv.toList) hG1 (by
      simp only [RepAs, RepA]
      exact ⟨_, _, rfl, by rw [hrnew], hcr⟩) (by
      simp only [AV.oks, AV.ok]
      refine ⟨⟨rec, ?_, ?_⟩, ?_⟩
      · rw [hg1]; simp
      · rw [hrec, hdp]; simp
      · exact AV.oks.mono (fun _ h => h) (fun d t hk => ⟨by rw [hdp]; exact hk.1, by rw [hbx]; exact hk.2⟩) (fun l hl => by
          obtain ⟨r', y1, y2⟩ := yup _ l hl
          exact ⟨r', y1, by rw [hdp]; omega⟩) _ hco)
    cases fn' with
    | func f' =>
      obtain ⟨hok, hcall⟩ := this
      refine ⟨L, mark, w1, { target := .fn (.func f') cv, args := #[] ++ #[.func (.yield L) #[] #[]] }, w1, f', (.func (.yield L) #[] #[] :: cv.toList).toArray, w1, hent, ?_, fun f' _ => hF.isF.fn f', ?_, hF.isF.depth, hF.isF.calls (hcall.mono hpost)⟩
      · simp only [resolve, hv]
        simp [Deferred.ofValue, Act.eval]
      · have := hok.run (#[.func (.yield L) #[] #[]] ++ cv) w1
        have he : (Value.func (.yield L) #[] #[] :: cv.toList).toArray = #[.func (.yield L) #[] #[]] ++ cv := by apply Array.ext'; simp
        rw [he]
        simpa [invoke] using this
    | _ => exact this.elim
  unfold exec at hs
  cases hf : ev s.tm f with
  | none => simp [hf] at hs
  | some av =>
    simp only [hf] at hs
    have f1 : FI nt s a w1 h1 := ⟨hsi.fi.size, ftm, hGs, dfr_grow hsi.fi.dfr hb⟩
    have hfv := ev_rep (Tms.of f1) hf
    have hfo := ev_ok (fun t v hv => (f1.tm t v hv).2) hf
    have hge : enterRange cx (mapTm demAll s.tm) s params.toList assign body = g1 := by rw [hg1, hrec]; rfl
    rw [hge] at hs
    cases av with
    | d x =>
      cases x with
      | fn fn' caps =>
        simp only [RepA, RepV] at hfv
        obtain ⟨cv, hv, hcr⟩ := hfv
        exact call fn' (caps.map .d) cv _ hv (RepAs.of_d hcr) (oks_d caps) hs (after _ (fun out g => by cases out <;> rfl))
      | _ => simp at hs
    | fn fn' caps =>
      simp only [RepA, AV.ok] at hfv hfo
      obtain ⟨cv, hv, hcr⟩ := hfv
      exact call fn' caps cv _ hv hcr hfo hs (after _ (fun out g => by cases out <;> rfl))
    | _ => simp at hs
end
end Go.Abs
