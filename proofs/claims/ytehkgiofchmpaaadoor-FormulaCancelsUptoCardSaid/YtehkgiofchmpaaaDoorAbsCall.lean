/- Calls. -/
import Derived.Test.YtehkgiofchmpaaaDoorAbsFn
import Derived.RangeFuncLeaves
import Derived.RangeFuncRecord
import Derived.Conc.MuLone
namespace Go.Abs
open Go
set_option linter.unusedVariables false
set_option linter.unusedSimpArgs false
set_option linter.unnecessarySimpa false

def FOk (P : Program) (f : FuncId) : Prop := ∃ fn c, P.funcs[f]? = some fn ∧ fn.body = some c ∧ (fn.name == "runtime.NumGoroutine") = false

theorem FOk.run {P : Program} {f : FuncId} (h : FOk P f) (args : Array Value) (w : World) : (callFunc f args).run P w = .ok (.enter f args) w := by
  obtain ⟨fn, c, h1, h2, h3⟩ := h
  have h4 : fn.name ≠ "runtime.NumGoroutine" := by simpa using h3
  simp [callFunc, h1, h4, h2]

def resVal : List Value → Value
  | [v] => v
  | vs => .tuple vs.toArray

def ResAt : Nat → List AV → Prop
  | _, [] => True
  | j, a :: as => (∀ i sz es, a = .own i sz es → i = .res j) ∧ ResAt (j + 1) as

def IsRes : Id → Prop
  | .res _ => True
  | _ => False

def OutM (g : G) (w : World) (h : Gh) : Out → Ending → Prop
  | .ret rs, .returned v => ∃ vs, v = resVal vs ∧ RepAs w h rs vs ∧ ResAt 0 rs ∧ rs.all noTup = true ∧ AV.oks IsRes (KG g g.dp) (YG g (g.dp + 1)) rs
  | .pan x, .panicked chain => ∃ v, chain = [{ v, recovered := false }] ∧ RepV w h.L x v
  | _, _ => False

def CallQ {R : Type} (k : Out → G → Option R) (r : R) (g : G) (h : Gh) (w : World) (e : Ending) (w' : World) : Prop :=
  ∃ out g' h', OutM g' w' h' out e ∧ GI g' w' h' ∧ Rel g h w g' w' h' ∧ g'.dp = g.dp ∧ g'.lp.map LoopRec.dp = g.lp.map LoopRec.dp ∧ k out g' = some r

def ESound (P : Program) {R : Type} (E : Cal → List AV → G → (Out → G → Option R) → Option R) : Prop :=
  ∀ cal args g k r, E cal args g k = some r → ∀ w h vs, GI g w h → RepAs w h args vs → AV.oks NoId (KG g g.dp) (YG g (g.dp + 1)) args →
    match cal with
    | .fn (.func f) => FOk P f ∧ CallsIn Fence.wide 0 P f vs.toArray w (CallQ k r g h w)
    | .fn _ => False
    | .yld l => ∃ f tmps assign body, (Instr.yield (h.ro l).1 vs.toArray).run P w = .ok (.round (h.ro l).1 f tmps assign body) w ∧
        RoundIn Fence.wide 0 P (h.ro l).1 f tmps assign body w (CallQ k r g h w)

def H0 (L : Nat → Nat) : Gh := { L, be := fun _ _ => none, ga := fun _ => none, ro := fun _ => (0, 0) }

def OutD : Out → Prop
  | .ret rs => rs.all closedAV = true
  | .pan _ => True

def CSound (P : Program) (C : Fn → List D → Option Out) : Prop :=
  ∀ fn ds out, C fn ds = some out → ∀ w L vs, (∀ b, w.heap.size ≤ b → L b = 0) → RepVs w L ds vs → ∃ f, fn = .func f ∧ FOk P f ∧
    CallsIn Fence.wide 0 P f vs.toArray w (fun e w' => ∃ g' h', OutM g' w' h' out e ∧ OutD out ∧ GI g' w' h' ∧ Rel G0 (H0 L) w g' w' h')

theorem may_G0 {L : Nat → Nat} {b : Nat} : ¬ May G0 (H0 L) b := by
  rintro (⟨d, t, h, _⟩ | ⟨i, _, h⟩ | ⟨l, h, _⟩)
  · cases h
  · cases h
  · cases h

def gaMix (ga ga' : Id → Option Nat) : Id → Option Nat
  | .res j => ga' (.res j)
  | k => ga k

section
variable {P : Program} {T : Nat → Option TI} {g0 : G} {h0 : Gh} {w0 : World} {nt : Nat}

/-- Behind a call by itself. -/
theorem FI.pure {s : St} {a : Act} {w w' : World} {h h' : Gh} {g' : G} (hf : FI nt s a w h) (hr : Rel g0 h0 w0 s.g w h) (hG : GI g' w' h') (hR : Rel G0 (H0 h.L) w g' w' h') :
    FI nt s a w' { L := h'.L, be := h.be, ga := gaMix h.ga h'.ga, ro := h.ro } ∧ Rel g0 h0 w0 s.g w' { L := h'.L, be := h.be, ga := gaMix h.ga h'.ga, ro := h.ro } ∧ RowKit.Below w.heap.size w w' := by
  have hb : RowKit.Below w.heap.size w w' := ⟨hR.os, hR.tape, hR.output, hR.size, fun b hb => (hR.keep b hb may_G0).1⟩
  have hL : ∀ b, b < w.heap.size → h'.L b = h.L b := fun b hb => (hR.keep b hb may_G0).2
  have hnew : ∀ j b, h'.ga (.res j) = some b → w.heap.size ≤ b := fun j b hj => by
    rcases hR.gaMay (.res j) b (by intro _ _ _ e; cases e) hj with h1 | h1
    · exact h1
    · exact absurd h1 may_G0
  have hbl : ∀ d t b, (s.g.bx d t).isSome = true → h.be d t = some b → b < w.heap.size := fun d t b hs he => by
    obtain ⟨bo, hbo⟩ := Option.isSome_iff_exists.1 hs
    obtain ⟨_, _, b', c, e, h3, h4, _⟩ := hf.gi.bx d t bo hbo
    rw [he] at h3; cases h3
    exact lt_of_heap h4
  have hGI : GI s.g w' { L := h'.L, be := h.be, ga := gaMix h.ga h'.ga, ro := h.ro } := by
    refine hf.gi.grow (h' := { L := h'.L, be := h.be, ga := gaMix h.ga h'.ga, ro := h.ro }) hb hL hG.lim (fun _ _ _ => rfl) (fun _ _ => rfl) ?_ ?_ ?_ ?_ ?_
    · intro i hi
      cases i with
      | box _ _ _ => rfl
      | tmp _ _ _ => exact hi.elim
      | res _ => exact hi.elim
    · intro i b d t hi hs he
      have := hbl d t b hs he
      cases i with
      | box _ _ _ => exact hf.gi.gaBx _ b d t hi hs he
      | tmp _ _ _ => exact hf.gi.gaBx _ b d t hi hs he
      | res j => have := hnew j b hi; omega
    · intro i j b hi hj
      cases i with
      | res i =>
        cases j with
        | res j => exact hG.gaInj _ _ b hi hj
        | box _ _ _ => have h1 := hnew i b hi; have h2 := hf.gi.gaLt _ b hj; omega
        | tmp _ _ _ => have h1 := hnew i b hi; have h2 := hf.gi.gaLt _ b hj; omega
      | box _ _ _ =>
        cases j with
        | res j => have h1 := hnew j b hj; have h2 := hf.gi.gaLt _ b hi; omega
        | box _ _ _ => exact hf.gi.gaInj _ _ b hi hj
        | tmp _ _ _ => exact hf.gi.gaInj _ _ b hi hj
      | tmp _ _ _ =>
        cases j with
        | res j => have h1 := hnew j b hj; have h2 := hf.gi.gaLt _ b hi; omega
        | box _ _ _ => exact hf.gi.gaInj _ _ b hi hj
        | tmp _ _ _ => exact hf.gi.gaInj _ _ b hi hj
    · intro i b hi
      have old : ∀ i, h.ga i = some b → ∃ c e, w'.heap[b]? = some (.cells c e (0, 0)) := fun i hi => by
        obtain ⟨c, e, hc⟩ := hf.gi.gaC i b hi
        exact ⟨c, e, by rw [hb.block b (lt_of_heap hc), hc]⟩
      cases i with
      | res j => exact hG.gaC _ b hi
      | box _ _ _ => exact old _ hi
      | tmp _ _ _ => exact old _ hi
    · intro d t j hd
      exact hf.gi.gaTop d t j hd
  refine ⟨⟨hf.size, ?_, hGI, dfr_grow hf.dfr hb⟩, ?_, hb⟩
  · exact hf.tm_grow (h' := { L := h'.L, be := h.be, ga := gaMix h.ga h'.ga, ro := h.ro }) hb hL (fun _ _ _ => rfl) (fun _ _ => rfl) (fun i hi => by
      cases i with
      | res _ => exact hi.elim
      | _ => rfl)
  · refine hr.grow (h' := { L := h'.L, be := h.be, ga := gaMix h.ga h'.ga, ro := h.ro }) hf.gi hb hL (fun d t _ hs => ⟨hs, rfl⟩) (fun _ _ => rfl) (fun _ _ _ _ => rfl) (fun d t b hs hb' => .inr ⟨d, t, hs, hb'⟩) ?_ (fun l hl => .inr ⟨hl, rfl⟩) (Nat.le_refl _)
    intro i b hi
    cases i with
    | res j => exact .inl (hnew j b hi)
    | box _ _ _ => exact .inr hi
    | tmp _ _ _ => exact .inr hi

theorem closed_rep {w : World} {h h' : Gh} (hL : h'.L = h.L) (hga : ∀ j, h'.ga (.res j) = h.ga (.res j)) : ∀ {rs : List AV} {vs : List Value} {j : Nat}, rs.all closedAV = true → ResAt j rs → RepAs w h rs vs → RepAs w h' rs vs
  | [], vs, _, _, _, hr => by simpa only [RepAs] using hr
  | a :: as, vs, j, hc, hp, hr => by
    simp only [List.all_cons, Bool.and_eq_true, ResAt, RepAs] at hc hp hr ⊢
    obtain ⟨u, us, rfl, h1, h2⟩ := hr
    refine ⟨u, us, rfl, ?_, closed_rep hL hga hc.2 hp.2 h2⟩
    cases a with
    | d x => simp only [RepA] at h1 ⊢; rw [hL]; exact h1
    | own i sz es =>
      have := hp.1 i sz es rfl
      subst this
      simp only [RepA, Owned] at h1 ⊢
      rw [hL, hga]; exact h1
    | _ => simp [closedAV] at hc

theorem closed_ok {Q : Id → Prop} {K K' : Nat → Nat → Prop} {Y Y' : Nat → Prop} : ∀ {rs : List AV}, rs.all closedAV = true → AV.oks Q K Y rs → AV.oks Q K' Y' rs
  | [], _, _ => by simp [AV.oks]
  | a :: as, hc, ho => by
    simp only [List.all_cons, Bool.and_eq_true, AV.oks] at hc ho ⊢
    refine ⟨?_, closed_ok hc.2 ho.2⟩
    cases a with
    | d x => simp [AV.ok]
    | own i sz es => simpa only [AV.ok] using ho.1
    | _ => simp [closedAV] at hc

/-! ### What a call leaves behind -/
def gaPut (ga : Id → Option Nat) (dp dst : Nat) : Id → Option Nat
  | .tmp d t j => if d = dp ∧ t = dst then ga (.res j) else ga (.tmp d t j)
  | .res _ => none
  | k => ga k

theorem gaPut_inv {ga : Id → Option Nat} {dp dst : Nat} {k : Id} {b : Nat} (h : gaPut ga dp dst k = some b) :
    (∃ j, k = .tmp dp dst j ∧ ga (.res j) = some b) ∨ ((∀ j, k ≠ .tmp dp dst j) ∧ (∀ j, k ≠ .res j) ∧ ga k = some b) := by
  cases k with
  | tmp d t j =>
    simp only [gaPut] at h
    split at h
    · rename_i e; rw [e.1, e.2]; exact .inl ⟨j, rfl, h⟩
    · rename_i e
      refine .inr ⟨fun j' e' => ?_, by simp, h⟩
      cases e'; exact e ⟨rfl, rfl⟩
  | box d t j => exact .inr ⟨by simp, by simp, h⟩
  | res j => cases h

theorem FI.putGa {s : St} {a : Act} {w : World} {h : Gh} (hf : FI nt s a w h) (hr : Rel g0 h0 w0 s.g w h) {dst : Nat} (hfr : s.fr dst = false) (hdp : g0.dp < s.g.dp) :
    FI nt s a w { h with ga := gaPut h.ga s.g.dp dst } ∧ Rel g0 h0 w0 s.g w { h with ga := gaPut h.ga s.g.dp dst } := by
  have box : ∀ i, IsBox i → gaPut h.ga s.g.dp dst i = h.ga i := by
    intro i hi
    cases i with
    | box _ _ _ => rfl
    | _ => exact hi.elim
  have tmq : ∀ i, TmQ s.fr s.g.dp i → gaPut h.ga s.g.dp dst i = h.ga i := by
    intro i hi
    cases i with
    | box _ _ _ => rfl
    | res _ => exact hi.elim
    | tmp d t j =>
      simp only [Abs.gaPut]
      rw [if_neg]
      rintro ⟨_, rfl⟩
      have := hi.2
      rw [hfr] at this; cases this
  refine ⟨⟨hf.size, ?_, ?_, hf.dfr⟩, ?_⟩
  · intro t v hv
    obtain ⟨h1, h2⟩ := hf.tm t v hv
    exact ⟨RepA.ext (h := h) (h' := { h with ga := gaPut h.ga s.g.dp dst }) (Ext.refl w h.L) (fun _ _ _ _ h => h) (fun _ _ => rfl) (fun i b hi hb => ⟨by show gaPut h.ga s.g.dp dst i = some b; rw [tmq i hi, hb], rfl, rfl⟩) _ _ h2 h1, h2⟩
  · refine { bx := ?_, inj := hf.gi.inj, gaBx := ?_, gaInj := ?_, gaLt := ?_, gaC := ?_, lim := hf.gi.lim, lp := ?_, roInj := hf.gi.roInj, gaTop := ?_ }
    · intro d t bo hb
      obtain ⟨h1, h2, b', c, e, h3, h4, h5, h6, h7⟩ := hf.gi.bx d t bo hb
      exact ⟨h1, h2, b', c, e, h3, h4, RepBx.ext (h := h) (h' := { h with ga := gaPut h.ga s.g.dp dst }) (Ext.refl w h.L) (fun _ _ _ _ h => h) (fun _ _ => rfl) (fun i b hi hb => ⟨by show gaPut h.ga s.g.dp dst i = some b; rw [box i hi, hb], rfl, rfl⟩) _ _ h2 h5, h6, h7⟩
    · intro k b d t hk hs
      rcases gaPut_inv hk with ⟨j, _, h1⟩ | ⟨_, _, h1⟩
      · exact hf.gi.gaBx _ b d t h1 hs
      · exact hf.gi.gaBx _ b d t h1 hs
    · intro k k' b hk hk'
      rcases gaPut_inv hk with ⟨j, rfl, h1⟩ | ⟨a1, a2, h1⟩ <;> rcases gaPut_inv hk' with ⟨j', rfl, h2⟩ | ⟨b1, b2, h2⟩
      · have := hf.gi.gaInj _ _ b h1 h2
        cases this; rfl
      · exact absurd (hf.gi.gaInj _ _ b h2 h1) (b2 j)
      · exact absurd (hf.gi.gaInj _ _ b h1 h2) (a2 j')
      · exact hf.gi.gaInj _ _ b h1 h2
    · intro k b hk
      rcases gaPut_inv hk with ⟨j, _, h1⟩ | ⟨_, _, h1⟩
      · exact hf.gi.gaLt _ b h1
      · exact hf.gi.gaLt _ b h1
    · intro k b hk
      rcases gaPut_inv hk with ⟨j, _, h1⟩ | ⟨_, _, h1⟩
      · exact hf.gi.gaC _ b h1
      · exact hf.gi.gaC _ b h1
    · intro l r hl
      obtain ⟨hp, D, tmps, h1, h2, h3, h4⟩ := hf.gi.lp l r hl
      refine ⟨hp, D, tmps, h1, h2, h3, fun t v hv => ?_⟩
      obtain ⟨h5, h6⟩ := h4 t v hv
      exact ⟨RepA.ext (h := h) (h' := { h with ga := gaPut h.ga s.g.dp dst }) (Ext.refl w h.L) (fun _ _ _ _ h => h) (fun _ _ => rfl) (fun _ _ h => h.elim) _ _ h6 h5, h6⟩
    · intro d t k hd
      show Abs.gaPut h.ga s.g.dp dst (.tmp d t k) = none
      simp only [Abs.gaPut]
      rw [if_neg (by omega)]
      exact hf.gi.gaTop d t k hd
  · exact
      { hr with
        ga := fun d t k hd => by
          rw [← hr.ga d t k hd]
          show Abs.gaPut h.ga s.g.dp dst (.tmp d t k) = _
          simp only [Abs.gaPut]
          rw [if_neg (by omega)]
        gaMay := fun k b hk hb => by
          rcases gaPut_inv hb with ⟨j, _, h1⟩ | ⟨_, _, h1⟩
          · exact hr.gaMay _ b (by intro _ _ _ e; cases e) h1
          · exact hr.gaMay k b hk h1 }

theorem renAVs_rep {w : World} {h : Gh} {dp dst : Nat} {K : Nat → Nat → Prop} {Y : Nat → Prop} {fr : Nat → Bool} (hfr : fr dst = true) : ∀ {rs : List AV} {vs : List Value} {j : Nat}, ResAt j rs → rs.all noTup = true → AV.oks IsRes K Y rs → RepAs w h rs vs →
    RepAs w { h with ga := gaPut h.ga dp dst } (renAVs dp dst j rs) vs ∧ AV.oks (TmQ fr dp) K Y (renAVs dp dst j rs)
  | [], vs, _, _, _, _, hr => by simp only [RepAs] at hr; subst hr; simp [renAVs, RepAs, AV.oks]
  | a :: as, vs, j, hp, hn, ho, hr => by
    simp only [ResAt, List.all_cons, Bool.and_eq_true, AV.oks, RepAs, renAVs] at hp hn ho hr ⊢
    obtain ⟨u, us, rfl, h1, h2⟩ := hr
    obtain ⟨r2, o2⟩ := renAVs_rep hfr hp.2 hn.2 ho.2 h2
    have key : RepA w { h with ga := gaPut h.ga dp dst } (renAV dp dst j a) u ∧ (renAV dp dst j a).ok (TmQ fr dp) K Y := by
      have same : (∀ i sz es, a ≠ .own i sz es) → (∀ o k i sz es, a ≠ .raw o k i sz es) → renAV dp dst j a = a → RepA w { h with ga := gaPut h.ga dp dst } a u ∧ a.ok (TmQ fr dp) K Y := by
        intro hne hnr _
        have hok : a.ok (fun _ => False) K Y := by
          cases a with
          | own i sz es => exact absurd rfl (hne i sz es)
          | raw o k i sz es => exact absurd rfl (hnr o k i sz es)
          | tup _ => simp [noTup] at hn
          | _ => simpa only [AV.ok] using ho.1
        exact ⟨RepA.ext (h := h) (h' := { h with ga := gaPut h.ga dp dst }) (Ext.refl w h.L) (fun _ _ _ _ h => h) (fun _ _ => rfl) (fun _ _ h => h.elim) _ _ hok h1, AV.ok.mono (fun _ h => h.elim) (fun _ _ h => h) (fun _ h => h) a hok⟩
      cases a with
      | own i sz es =>
        have := hp.1 i sz es rfl
        subst this
        simp only [renAV, AV.ok]
        refine ⟨?_, rfl, hfr⟩
        simp only [RepA, Owned] at h1 ⊢
        rcases h1 with h1 | ⟨b, n, c, vs, cc, e, q1, q2, q3, q4, q5, q6, q7⟩
        · exact .inl h1
        · exact .inr ⟨b, n, c, vs, cc, e, q1, q2, q3, q4, q5, by simpa [Abs.gaPut] using q6, q7⟩
      | raw o k i sz es => simp only [renAV, RepA, AV.ok]; exact ⟨h1.raw_old, trivial⟩
      | _ => exact same (by intros; simp) (by intros; simp) rfl
    exact ⟨⟨u, us, rfl, key.1, r2⟩, key.2, o2⟩

theorem putRes_sound {s s' : St} {a : Act} {w : World} {h : Gh} (hf : FI nt s a w h) (hr : Rel g0 h0 w0 s.g w h) (hdp : g0.dp < s.g.dp) {dst : Option Nat} {rs : List AV} (hs : putRes nt dst rs s = some s')
    {vs : List Value} (hrep : RepAs w h rs vs) (hp : ResAt 0 rs) (hn : rs.all noTup = true) (ho : AV.oks IsRes (KG s.g s.g.dp) (YG s.g s.g.dp) rs) :
    ∃ h', FI nt s' (a.put dst (resVal vs)) w h' ∧ Rel g0 h0 w0 s'.g w h' ∧ s'.g = s.g := by
  unfold putRes at hs
  split at hs
  · cases hs
    exact ⟨h, hf, hr, rfl⟩
  · rename_i d
    split at hs
    · cases hs
    rename_i hfr
    have hfr : s.fr d = false := by simpa using hfr
    split at hs
    case isFalse => cases hs
    rename_i hlt
    have hd : d < nt := by simpa using hlt
    simp only [Option.some.injEq] at hs; subst hs
    obtain ⟨f1, r1⟩ := hf.putGa hr hfr hdp
    obtain ⟨p1, o1⟩ := renAVs_rep (dp := s.g.dp) (dst := d) (fr := setFr s.fr d) (by simp [setFr]) hp hn ho hrep
    refine ⟨_, ⟨by simp [Act.put, hf.size], ?_, f1.gi, f1.dfr⟩, r1, rfl⟩
    intro t v hv
    rw [getD_put a d t _ (by rw [hf.size]; exact hd)]
    rcases upd_some hv with ⟨rfl, rfl⟩ | ⟨hne, hv⟩
    · rw [if_pos rfl]
      split
      · rename_i x hx
        rw [hx] at p1 o1
        simp only [RepAs] at p1
        obtain ⟨u, us, rfl, q1, rfl⟩ := p1
        simp only [AV.oks] at o1
        exact ⟨q1, o1.1⟩
      · rename_i hx
        have hv : resVal vs = .tuple vs.toArray := by
          have hl := RepAs.length p1
          cases vs with
          | nil => rfl
          | cons v0 vt =>
            cases vt with
            | nil =>
              exfalso
              cases hq : renAVs s.g.dp t 0 rs with
              | nil => rw [hq] at hl; simp at hl
              | cons y ys =>
                cases ys with
                | nil => exact hx y hq
                | cons _ _ => rw [hq] at hl; simp at hl
            | cons _ _ => rfl
        refine ⟨?_, ?_⟩
        · simp only [RepA]
          exact ⟨vs.toArray, hv, p1⟩
        · simpa only [AV.ok] using o1
    · rw [if_neg hne]
      obtain ⟨h1, h2⟩ := f1.tm t v hv
      exact ⟨h1, AV.ok.mono setFr_mono (fun _ _ h => h) (fun _ h => h) v h2⟩
end
end Go.Abs
