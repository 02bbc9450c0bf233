/- Operations that are not ordered change places. -/
import Derived.Test.YtehkgiofchmpaaaDoorAbsComm5
namespace Go.Abs
open Go
set_option linter.unusedVariables false
set_option linter.unusedSimpArgs false
set_option linter.unnecessarySimpa false

theorem apart_symm {ops : Array Oper} {x y : Oper} (h : Oper.apart ops x y = true) : Oper.apart ops y x = true := by
  obtain ⟨a1, a2, a3⟩ := Oper.apart_spec h
  unfold Oper.apart
  simp only [Bool.and_eq_true]
  refine ⟨?_, ?_⟩
  · cases hy : y.dst with
    | none => rfl
    | some d =>
      simp only [Bool.and_eq_true, Bool.not_eq_true', bne_iff_ne, ne_eq]
      refine ⟨?_, fun e => a2 d e hy⟩
      rw [← Bool.not_eq_true, List.contains_iff_mem]
      exact a3 d hy
  · cases hx : x.dst with
    | none => rfl
    | some d =>
      simp only [Bool.not_eq_true']
      rw [← Bool.not_eq_true, List.contains_iff_mem]
      exact a1 d hx

section
variable {P : Program} {g0 : G} {h0 : Gh} {w0 : World} {nt : Nat} {R : Type} {cx : Cx R}

/-! ### From a step that goes well, a state that is reached -/
theorem out_of_upon {F : Fence} (hF : IsF F) {o : Oper} {a : Act} {w : World} {next : Act → World → Prop} (h : o.wpIn F 0 P a w next (fun _ _ _ => False)) : ∃ a' w', next a' w' := by
  have room : ∀ k, F.room k := fun k d hd => by rcases hF with rfl | ⟨l, rfl⟩ <;> cases hd
  have h2 := h.2
  unfold Oper.uponIn at h2
  split at h2
  · exact ⟨_, _, h2⟩
  · exact ⟨_, _, h2⟩
  · exact ⟨_, _, h2⟩
  · obtain ⟨_, _, hc⟩ := h2
    obtain ⟨e, w', fr, hR, _⟩ := hc [] (room _)
    cases e with
    | returned v => exact ⟨_, _, hR⟩
    | panicked c => exact hR.elim
    | outgrown => obtain ⟨_, _, hx⟩ := hR; exact hx.elim
  · obtain ⟨_, hc⟩ := h2
    obtain ⟨v, w', hR, _⟩ := hc default [] (room _)
    exact ⟨_, _, hR⟩
  · obtain ⟨_, _, hc⟩ := h2
    obtain ⟨e, w', hR, _⟩ := hc default [] (room _)
    cases e with
    | returned v => exact ⟨_, _, hR⟩
    | panicked c => exact hR.elim
    | outgrown => obtain ⟨_, _, hx⟩ := hR; exact hx.elim
  · exact h2.elim
  · exact h2.elim

structure Cxt (P : Program) (cx : Cx R) (nt : Nat) : Prop where
  T : TyOk P cx.T
  nt : cx.nt = nt
  C : CSound P cx.C
  E : ESound P cx.E

theorem live (hcx : Cxt P cx nt) {eff : Bool} {ops : Array Oper} {o : Oper} {s : St} {K : St → Option R} {r : R} (hs : runG cx eff ops o s (nrm K) = some r) {a : Act} {w : World} {h : Gh} (hsi : SI nt g0 h0 w0 s a w h) :
    ∃ s1 a1 w1 h1, SI nt g0 h0 w0 s1 a1 w1 h1 ∧ K s1 = some r := by
  have := runG_sound hcx.T hcx.nt hcx.C hcx.E (.inl rfl) hs hsi (next := fun a' w' => ∃ s' h', SI nt g0 h0 w0 s' a' w' h' ∧ K s' = some r) (Q := fun _ _ _ => False)
    ⟨fun s' a' w' h' hsi' hk => ⟨s', h', hsi', hk⟩, fun x s' a' w' h' v hsi' hv hk => by simp [nrm] at hk⟩
  split at this
  · obtain ⟨a', w', s', h', h1, h2⟩ := out_of_upon (.inl rfl) this
    exact ⟨s', a', w', h', h1, h2⟩
  · obtain ⟨_, s', h', h1, h2⟩ := this
    exact ⟨s', _, _, h', h1, h2⟩

theorem SI.wfOwn {s : St} {a : Act} {w : World} {h : Gh} (hsi : SI nt g0 h0 w0 s a w h) : WFown s := by
  intro t a t' k ht ha
  have := (hsi.fi.tm t _ ht).2
  cases a <;> simp [ownId] at ha <;> subst ha <;> simp only [AV.ok] at this <;> exact this.2

def WFptr (s : St) : Prop := ∀ t d u off, s.tm t = some (.ptr d u off) → (s.g.bx d u).isSome = true

theorem SI.wfPtr {s : St} {a : Act} {w : World} {h : Gh} (hsi : SI nt g0 h0 w0 s a w h) : WFptr s := by
  intro t d u off ht
  have := (hsi.fi.tm t _ ht).2
  simp only [AV.ok] at this
  exact this.2

/-! ### A load and a new box -/
theorem reader_act {ops : Array Oper} {o : Oper} {d : Nat} (hc : isReader (clsOp o.op) = true) (hd : o.dst = some d) (s : St) : actG cx ops o s = if Nat.blt d cx.nt then (valR cx.T ops o s).map (fun v => sU s d v) else none := by
  have hO : actO cx o s = if Nat.blt d cx.nt then (rdV cx.T s.tm s.g.bx o.op).map (fun v => sU s d v) else none := by
    unfold actO
    rw [reader_noCall hc]
    simp only
    rw [reader_step hc hd]
    cases rdV cx.T s.tm s.g.bx o.op <;> rfl
  have hV : putV cx.nt o.dst (.tup []) s = if Nat.blt d cx.nt then some (sU s d (.tup [])) else none := by rw [hd]; rfl
  unfold actG valR
  cases o.guard with
  | none => exact hO
  | some gw =>
    obtain ⟨g, want⟩ := gw
    simp only
    cases guardV ops s.tm g with
    | none => simp only; split <;> rfl
    | some b =>
      cases b with
      | none => simp only; rw [hV]; rfl
      | some b =>
        simp only
        by_cases hb : (b == want) = true
        · rw [if_pos hb, if_pos hb]; exact hO
        · rw [if_neg hb, if_neg hb]; rw [hV]; rfl

theorem valR_same {T : Nat → Option TI} {ops : Array Oper} {o : Oper} {s s1 : St} (htm : ∀ t, t ∈ o.looksAt ops → s1.tm t = s.tm t) (hbx : clsOp o.op = .load → ∀ t a, (∃ q, o.op = .load t q ∧ ev s.tm q = some a) → loadA T s1.g.bx t a = loadA T s.g.bx t a) :
    valR T ops o s1 = valR T ops o s := by
  have := valR_dem (T := T) (p := Pz.of fun _ => false) (ops := ops) (o := o) (s := s) (s1 := s1) (fun t ht => by rw [htm t ht]; cases s.tm t <;> simp [demP_none]) (fun hl t a ha => by
    rw [demP_none, hbx hl t a ha]
    cases loadA T s.g.bx t a <;> simp [demP_none])
  rw [this]
  cases valR T ops o s <;> simp [demP_none]

theorem swap_load_alloc {ops : Array Oper} {p o : Oper} {t da d : Nat} (hp : p.op = .alloc t) (hda : p.dst = some da) (hc : isReader (clsOp o.op) = true) (hd : o.dst = some d) (hap : Oper.apart ops p o = true) (s : St) (hwf : WFptr s) :
    (actG cx ops p s).bind (actG cx ops o) = (actG cx ops o s).bind (actG cx ops p) := by
  obtain ⟨a1, a2, a3⟩ := Oper.apart_spec hap
  have hne : d ≠ da := fun e => a2 da hda (by rw [hd, e])
  have hg : ∀ v, gst ops p (sU s d v).tm = gst ops p s.tm := fun v => gst_dem (p := Pz.of fun _ => false) fun u hu => by
    show upd s.tm d (some v) u = _
    rw [upd_ne (fun e => a3 d hd (by rw [← e]; exact hu))]
    cases s.tm u <;> simp [demP_none]
  have look : ∀ u, u ∈ o.looksAt ops → u ≠ da := fun u hu e => a1 da hda (by rw [← e]; exact hu)
  rw [actG_gst ops p s, reader_act hc hd s]
  have pv : ∀ v, actG cx ops p (sU s d v) = match gst ops p s.tm with
      | some true => actO cx p (sU s d v)
      | some false => putV cx.nt p.dst (.tup []) (sU s d v)
      | none => none := fun v => by (rw [actG_gst, hg]) <;> rfl
  by_cases hlt : Nat.blt d cx.nt = true
  case neg =>
    rw [if_neg hlt]
    have : ∀ s', actG cx ops o s' = none := fun s' => by rw [reader_act hc hd s', if_neg hlt]
    have hx : ∀ X : Option St, X.bind (actG cx ops o) = none := fun X => by
      cases X with
      | none => rfl
      | some s1 => exact this s1
    rw [hx]; rfl
  rw [if_pos hlt]
  have ro : ∀ s', actG cx ops o s' = (valR cx.T ops o s').map (fun v => sU s' d v) := fun s' => by rw [reader_act hc hd s', if_pos hlt]
  cases hgs : gst ops p s.tm with
  | none =>
    cases hv : valR cx.T ops o s with
    | none => rfl
    | some v => simp only [Option.map_some, Option.bind_some, Option.bind_none]; rw [pv, hgs]
  | some b =>
    cases b with
    | false =>
      simp only [hda, putV_some]
      by_cases hlt' : Nat.blt da cx.nt = true
      · rw [if_pos hlt', Option.bind_some, ro, valR_same (s := s) (s1 := sU s da (.tup [])) (fun u hu => upd_ne (look u hu)) (fun _ _ _ _ => rfl)]
        cases hv : valR cx.T ops o s with
        | none => rfl
        | some v =>
          simp only [Option.map_some, Option.bind_some]
          rw [pv, hgs]
          simp only [hda, putV_some]
          rw [if_pos hlt', sU_comm hne.symm]
      · rw [if_neg hlt']
        cases hv : valR cx.T ops o s with
        | none => rfl
        | some v =>
          simp only [Option.map_some, Option.bind_some, Option.bind_none]
          rw [pv, hgs]
          simp only [hda, putV_some]
          rw [if_neg hlt']
    | true =>
      simp only
      rw [alloc_actO hp hda]
      have pv' : ∀ v, actG cx ops p (sU s d v) = if Nat.blt da cx.nt then (match cx.T t, s.g.bx s.g.dp da with
          | some ti, none => some (sU (insB s.g.dp da { cells := ti.zero.map .d, frz := false, ty := ti.mark } (sU s d v)) da (.ptr s.g.dp da 0))
          | _, _ => none) else none := fun v => by
        rw [pv, hgs]
        simp only
        rw [alloc_actO hp hda, allocA_eq]; rfl
      by_cases hlt' : Nat.blt da cx.nt = true
      case neg =>
        rw [if_neg hlt']
        cases hv : valR cx.T ops o s with
        | none => rfl
        | some v => simp only [Option.map_some, Option.bind_some, Option.bind_none]; rw [pv', if_neg hlt']
      rw [if_pos hlt', allocA_eq]
      cases hT : cx.T t with
      | none =>
        cases hv : valR cx.T ops o s with
        | none => rfl
        | some v => simp only [Option.map_some, Option.bind_some, Option.bind_none]; rw [pv', if_pos hlt', hT]
      | some ti =>
        cases hb : s.g.bx s.g.dp da with
        | some b =>
          cases hv : valR cx.T ops o s with
          | none => rfl
          | some v => simp only [Option.map_some, Option.bind_some, Option.bind_none]; rw [pv', if_pos hlt', hT, hb]
        | none =>
          simp only [Option.bind_some]
          rw [ro, valR_same (s := s) (fun u hu => upd_ne (look u hu)) (fun _ t' a ⟨q, _, hq⟩ => by
            cases a with
            | ptr d' u off =>
              have hsome : (s.g.bx d' u).isSome = true := by
                cases q with
                | tmp tq => exact hwf tq d' u off hq
                | const v => simp only [ev] at hq; obtain ⟨x, hx⟩ := cv_d hq; cases hx
                | func f => simp [ev] at hq
                | global g => simp [ev] at hq
              show loadA cx.T (fun d u => if Nat.beq d s.g.dp && Nat.beq u da then some { cells := ti.zero.map .d, frz := false, ty := ti.mark } else s.g.bx d u) t' (.ptr d' u off) = _
              have hno : ¬ (Nat.beq d' s.g.dp && Nat.beq u da) = true := by
                intro he
                have he : d' = s.g.dp ∧ u = da := by simpa using he
                rw [he.1, he.2, hb] at hsome; cases hsome
              unfold loadA
              simp only [if_neg hno]
            | d x =>
              unfold loadA
              cases cx.T t' with
              | none => rfl
              | some _ => cases x <;> rfl
            | _ => unfold loadA; cases cx.T t' <;> rfl)]
          cases hv : valR cx.T ops o s with
          | none => rfl
          | some v =>
            simp only [Option.map_some, Option.bind_some]
            rw [pv', if_pos hlt', hT, hb]
            simp only
            rw [sU_comm hne.symm]
            rfl

theorem swap_reader_act {ops : Array Oper} {p o : Oper} {d : Nat} (hc : isReader (clsOp o.op) = true) (hd : o.dst = some d) (hap : Oper.apart ops p o = true) (hk : keepsBx (clsOp p.op) = true) (s : St) :
    (actG cx ops p s).bind (actG cx ops o) = (actG cx ops o s).bind (actG cx ops p) := by
  obtain ⟨a1, a2, a3⟩ := Oper.apart_spec hap
  obtain ⟨φ, ⟨p', rfl, _⟩, h2, h3⟩ := actG_upd (cx := cx) (s := s) (operFree_of (a3 d hd)) (fun e => a2 d e hd)
  rw [reader_act hc hd s]
  by_cases hlt : Nat.blt d cx.nt = true
  case neg =>
    rw [if_neg hlt]
    cases actG cx ops p s with
    | none => rfl
    | some s1 => simp only [Option.bind_some, Option.bind_none]; rw [reader_act hc hd s1, if_neg hlt]
  rw [if_pos hlt]
  have vr : ∀ s1, actG cx ops p s = some s1 → valR cx.T ops o s1 = (valR cx.T ops o s).map (demP p') := fun s1 hs1 =>
    valR_dem (fun t ht => (h3 s1 hs1).1 t fun e => a1 t e ht) fun _ t a _ => (h3 s1 hs1).2 hk t a
  cases hv : valR cx.T ops o s with
  | none =>
    cases hp : actG cx ops p s with
    | none => rfl
    | some s1 => simp only [Option.bind_some, Option.map_none, Option.bind_none]; rw [reader_act hc hd s1, if_pos hlt, vr s1 hp, hv]; rfl
  | some v =>
    simp only [Option.map_some, Option.bind_some]
    rw [h2]
    cases hp : actG cx ops p s with
    | none => rfl
    | some s1 => simp only [Option.bind_some, Option.map_some]; rw [reader_act hc hd s1, if_pos hlt, vr s1 hp, hv]; rfl

theorem act_two {ops : Array Oper} {p o : Oper} {s : St} {K : St → Option R} : runG cx false ops p s (nrm fun s1 => runG cx false ops o s1 (nrm K)) = match (actG cx ops p s).bind (actG cx ops o) with
    | some s2 => K s2
    | none => none := by
  rw [act_run]
  cases actG cx ops p s with
  | none => rfl
  | some s1 => simp only [Option.bind_some]; (rw [act_run]) <;> rfl

theorem cls_alloc {op : Op} (h : clsOp op = .alloc) : ∃ t, op = .alloc t := by
  cases op with
  | alloc t => exact ⟨t, rfl⟩
  | call c =>
    simp only [clsOp] at h
    repeat' (split at h <;> try (cases h; done))
    all_goals cases h
  | _ => cases h

theorem cls_build {op : Op} (h : clsOp op = .build) : ∃ t n ps, op = .buildSlice t n ps := by
  cases op with
  | buildSlice t n ps => exact ⟨t, n, ps, rfl⟩
  | call c =>
    simp only [clsOp] at h
    repeat' (split at h <;> try (cases h; done))
    all_goals cases h
  | _ => cases h

theorem dst_of {o : Oper} (h : dstOk o = true) (hc : clsOp o.op ≠ .store) (hc' : clsOp o.op ≠ .call) : ∃ d, o.dst = some d := by
  unfold dstOk at h
  split at h
  · rename_i e; exact absurd e hc
  · rename_i e; exact absurd e hc'
  · exact Option.isSome_iff_exists.1 h

/-- What is asked of two operations that may change places. -/
structure Pair (ops : Array Oper) (p o : Oper) (e1 e2 : Bool) : Prop where
  sw : swaps (clsOp p.op) (clsOp o.op) = true
  ap : Oper.apart ops p o = true
  d1 : dstOk p = true
  d2 : dstOk o = true
  f1 : e1 = true → isPure (clsOp o.op) = true
  f2 : e2 = true → isPure (clsOp p.op) = true

/-- Past a reader. -/
theorem past_reader {e1 e2 : Bool} {ops : Array Oper} {p o : Oper} {d : Nat} (hc : isReader (clsOp p.op) = true) (hd : p.dst = some d) (hap : Oper.apart ops p o = true) {s : St} (hl : ∀ t q a, p.op = .load t q → ev s.tm q = some a → bxB cx e2 o s a) {K : St → Option R} {r : R}
    (hs : runG cx e1 ops p s (nrm fun s1 => runG cx e2 ops o s1 (nrm K)) = some r) : runG cx e2 ops o s (nrm fun s1 => runG cx e1 ops p s1 (nrm K)) = some r := by
  rw [reader_run hc hd] at hs
  by_cases hlt : Nat.blt d cx.nt = true
  · rw [if_pos hlt] at hs
    cases hv : valR cx.T ops p s with
    | none => rw [hv] at hs; cases hs
    | some v =>
      rw [hv] at hs
      simp only at hs
      rw [← swap_reader (eff' := e1) hc hd (apart_symm hap) s hl K hv hlt]
      exact hs
  · rw [if_neg hlt] at hs; cases hs

/-- Two steps change places, where the second turns no boxes by a call. -/
theorem swap_two {ops : Array Oper} {p o : Oper} {e1 e2 : Bool} (hp : Pair ops p o e1 e2) (hnp : isPure (clsOp o.op) = false) {s : St} (hw1 : WFown s) (hw2 : WFptr s) {K : St → Option R} {r : R}
    (hs : runG cx e1 ops p s (nrm fun s1 => runG cx e2 ops o s1 (nrm K)) = some r) : runG cx e2 ops o s (nrm fun s1 => runG cx e1 ops p s1 (nrm K)) = some r := by
  have he1 : e1 = false := by
    cases e1 with
    | false => rfl
    | true => have := hp.f1 rfl; rw [hnp] at this; cases this
  by_cases hpp : isPure (clsOp p.op) = true
  · have hcp : clsOp p.op = .pure := by cases h : clsOp p.op <;> rw [h] at hpp <;> simp_all [isPure]
    obtain ⟨d, hd⟩ := dst_of hp.d1 (by rw [hcp]; simp) (by rw [hcp]; simp)
    exact past_reader (by rw [hcp]; rfl) hd hp.ap (fun t q a h _ => by rw [h] at hcp; cases hcp) hs
  have he2 : e2 = false := by
    cases e2 with
    | false => rfl
    | true => exact absurd (hp.f2 rfl) hpp
  subst he1 he2
  have fin : (actG cx ops p s).bind (actG cx ops o) = (actG cx ops o s).bind (actG cx ops p) → runG cx false ops o s (nrm fun s1 => runG cx false ops p s1 (nrm K)) = some r := fun he => by
    rw [act_two, ← he, ← act_two]; exact hs
  have hsw := hp.sw
  cases hcp : clsOp p.op with
  | pure => rw [hcp] at hpp; simp [isPure] at hpp
  | store =>
    rw [hcp] at hsw
    cases hco : clsOp o.op <;> rw [hco] at hsw hnp <;> simp_all [swaps, isPure]
  | load =>
    obtain ⟨d, hd⟩ := dst_of hp.d1 (by rw [hcp]; simp) (by rw [hcp]; simp)
    by_cases hk : keepsBx (clsOp o.op) = true
    · exact past_reader (by rw [hcp]; rfl) hd hp.ap (fun _ _ _ _ _ => .inl ⟨hk, rfl⟩) hs
    · have hco : clsOp o.op = .alloc := by
        rw [hcp] at hsw
        cases hco : clsOp o.op <;> rw [hco] at hsw hk <;> simp_all [swaps, keepsBx]
      obtain ⟨t, ht⟩ := cls_alloc hco
      obtain ⟨da, hda⟩ := dst_of hp.d2 (by rw [hco]; simp) (by rw [hco]; simp)
      exact fin (swap_load_alloc ht hda (by rw [hcp]; rfl) hd (apart_symm hp.ap) s hw2).symm
  | alloc =>
    obtain ⟨t, ht⟩ := cls_alloc hcp
    obtain ⟨da, hda⟩ := dst_of hp.d1 (by rw [hcp]; simp) (by rw [hcp]; simp)
    rw [hcp] at hsw
    cases hco : clsOp o.op with
    | pure => rw [hco] at hnp; simp [isPure] at hnp
    | store => rw [hco] at hsw; simp [swaps] at hsw
    | alloc => rw [hco] at hsw; simp [swaps] at hsw
    | load =>
      obtain ⟨d, hd⟩ := dst_of hp.d2 (by rw [hco]; simp) (by rw [hco]; simp)
      exact fin (swap_load_alloc ht hda (by rw [hco]; rfl) hd hp.ap s hw2)
    | build => exact fin (swap_alloc ht hda (by rw [hco]; rfl) hp.ap s)
    | app => exact fin (swap_alloc ht hda (by rw [hco]; rfl) hp.ap s)
    | call => exact fin (swap_alloc ht hda (by rw [hco]; rfl) hp.ap s)
  | build =>
    obtain ⟨t, n, ps, ht⟩ := cls_build hcp
    obtain ⟨d1, hd1⟩ := dst_of hp.d1 (by rw [hcp]; simp) (by rw [hcp]; simp)
    rw [hcp] at hsw
    cases hco : clsOp o.op with
    | pure => rw [hco] at hnp; simp [isPure] at hnp
    | store => rw [hco] at hsw; simp [swaps] at hsw
    | call => rw [hco] at hsw; simp [swaps] at hsw
    | load =>
      obtain ⟨d, hd⟩ := dst_of hp.d2 (by rw [hco]; simp) (by rw [hco]; simp)
      exact fin (swap_reader_act (by rw [hco]; rfl) hd hp.ap (by rw [hcp]; rfl) s)
    | alloc =>
      obtain ⟨t', ht'⟩ := cls_alloc hco
      obtain ⟨da, hda⟩ := dst_of hp.d2 (by rw [hco]; simp) (by rw [hco]; simp)
      exact fin (swap_alloc ht' hda (by rw [hcp]; rfl) (apart_symm hp.ap) s).symm
    | build => exact fin (swap_build ht hd1 (by rw [hco]; rfl) hp.ap s hw1)
    | app => exact fin (swap_build ht hd1 (by rw [hco]; rfl) hp.ap s hw1)
  | app =>
    rw [hcp] at hsw
    cases hco : clsOp o.op with
    | pure => rw [hco] at hnp; simp [isPure] at hnp
    | store => rw [hco] at hsw; simp [swaps] at hsw
    | call => rw [hco] at hsw; simp [swaps] at hsw
    | app => rw [hco] at hsw; simp [swaps] at hsw
    | load =>
      obtain ⟨d, hd⟩ := dst_of hp.d2 (by rw [hco]; simp) (by rw [hco]; simp)
      exact fin (swap_reader_act (by rw [hco]; rfl) hd hp.ap (by rw [hcp]; rfl) s)
    | alloc =>
      obtain ⟨t', ht'⟩ := cls_alloc hco
      obtain ⟨da, hda⟩ := dst_of hp.d2 (by rw [hco]; simp) (by rw [hco]; simp)
      exact fin (swap_alloc ht' hda (by rw [hcp]; rfl) (apart_symm hp.ap) s).symm
    | build =>
      obtain ⟨t, n, ps, ht⟩ := cls_build hco
      obtain ⟨d1, hd1⟩ := dst_of hp.d2 (by rw [hco]; simp) (by rw [hco]; simp)
      exact fin (swap_build ht hd1 (by rw [hcp]; rfl) (apart_symm hp.ap) s hw1).symm
  | call =>
    rw [hcp] at hsw
    cases hco : clsOp o.op with
    | pure => rw [hco] at hnp; simp [isPure] at hnp
    | store => rw [hco] at hsw; simp [swaps] at hsw
    | call => rw [hco] at hsw; simp [swaps] at hsw
    | app => rw [hco] at hsw; simp [swaps] at hsw
    | build => rw [hco] at hsw; simp [swaps] at hsw
    | load =>
      obtain ⟨d, hd⟩ := dst_of hp.d2 (by rw [hco]; simp) (by rw [hco]; simp)
      exact fin (swap_reader_act (by rw [hco]; rfl) hd hp.ap (by rw [hcp]; rfl) s)
    | alloc =>
      obtain ⟨t', ht'⟩ := cls_alloc hco
      obtain ⟨da, hda⟩ := dst_of hp.d2 (by rw [hco]; simp) (by rw [hco]; simp)
      exact fin (swap_alloc ht' hda (by rw [hcp]; rfl) (apart_symm hp.ap) s).symm

/-! ### Loads of the frame's own boxes, and calls that put them aside -/
theorem cls_load {op : Op} (h : isLoad (clsOp op) = true) : ∃ t q, op = .load t q := by
  have h : clsOp op = .load := by cases hc : clsOp op <;> rw [hc] at h <;> first | rfl | cases h
  cases op with
  | load t q => exact ⟨t, q, rfl⟩
  | call c =>
    simp only [clsOp] at h
    repeat' (split at h <;> try (cases h; done))
    all_goals cases h
  | _ => cases h
theorem ownLd_nl {o : Oper} {s : St} (h : isLoad (clsOp o.op) = false) : ownLd o s = true := by
  unfold ownLd
  split
  · rename_i t p hp
    rw [hp] at h; cases h
  · rfl
theorem runC_some {eff : Bool} {ops : Array Oper} {o : Oper} {s : St} {k : Ex → St → Option R} {r : R} (h : runC cx eff ops o s k = some r) : (eff = true → ownLd o s = true) ∧ runG cx eff ops o s k = some r := by
  unfold runC at h
  split at h
  · cases h
  · rename_i hc
    refine ⟨fun he => ?_, h⟩
    rw [he] at hc
    simpa using hc
theorem runC_of {eff : Bool} {ops : Array Oper} {o : Oper} {s : St} (h : eff = true → ownLd o s = true) : runC cx eff ops o s = runG cx eff ops o s := by
  funext k
  unfold runC
  split
  · rename_i hc
    simp only [Bool.and_eq_true, Bool.not_eq_true'] at hc
    rw [h hc.1] at hc
    cases hc.2
  · rfl
theorem runC_nl {eff : Bool} {ops : Array Oper} {o : Oper} {s : St} (h : isLoad (clsOp o.op) = false) : runC cx eff ops o s = runG cx eff ops o s := runC_of fun _ => ownLd_nl h

theorem ownLd_dem {p : Pz} {ops : Array Oper} {o : Oper} {s s1 : St} (ht : ∀ t, t ∈ o.looksAt ops → s1.tm t = (s.tm t).map (demP p)) (hdp : s1.g.dp = s.g.dp) : ownLd o s1 = ownLd o s := by
  unfold ownLd
  split
  · rename_i t q hop
    have hq : ev s1.tm q = (ev s.tm q).map (demP p) := ev_dem fun t e => ht t (by
      subst e
      exact List.mem_append_left _ (List.mem_filterMap.2 ⟨.tmp t, by rw [hop]; simp [Op.operands], rfl⟩))
    rw [hq, hdp]
    cases ev s.tm q with
    | none => rfl
    | some a =>
      cases a with
      | own j z es => simp only [Option.map_some, demP]; cases p.p j <;> rfl
      | raw o k j z es => simp only [Option.map_some, demP]; cases (p.p j || p.q j z) <;> rfl
      | _ => simp [demP]
  · rfl

theorem own_act {ops : Array Oper} {p o : Oper} {d : Nat} {s s1 : St} (hap : Oper.apart ops p o = true) (hd : o.dst = some d) (hs : actG cx ops p s = some s1) (hdp : s1.g.dp = s.g.dp) : ownLd o s1 = ownLd o s := by
  obtain ⟨a1, a2, a3⟩ := Oper.apart_spec hap
  obtain ⟨φ, ⟨p', rfl, _⟩, h2, h3⟩ := actG_upd (cx := cx) (s := s) (operFree_of (a3 d hd)) (fun e => a2 d e hd)
  exact ownLd_dem (fun t ht => (h3 s1 hs).1 t fun e => a1 t e ht) hdp

/-- What is asked of two operations that may change places, marks and all. -/
structure PairC (keep : Bool) (ops : Array Oper) (p o : Oper) (e1 e2 : Bool) : Prop where
  sw : swaps (clsOp p.op) (clsOp o.op) = true
  ap : Oper.apart ops p o = true
  d1 : dstOk p = true
  d2 : dstOk o = true
  f1 : e1 = true → isPure (clsOp o.op) = true ∨ isLoad (clsOp p.op) = true
  f2 : e2 = true → isPure (clsOp p.op) = true ∨ isLoad (clsOp o.op) = true ∨ (keep = true ∧ (goCall o.op).isSome = true ∧ e1 = true ∧ isLoad (clsOp p.op) = true)

theorem reached (hcx : Cxt P cx nt) {ops : Array Oper} {o : Oper} {s s1 : St} (hs : actG cx ops o s = some s1) {r : R} {a : Act} {w : World} {h : Gh} (hsi : SI nt g0 h0 w0 s a w h) : ∃ a1 w1 h1, SI nt g0 h0 w0 s1 a1 w1 h1 := by
  classical
  have hr : runG cx false ops o s (nrm fun s' => if s' = s1 then some r else none) = some r := by
    rw [act_run, hs]; simp
  obtain ⟨s2, a1, w1, h1, q1, q2⟩ := live hcx hr hsi
  by_cases he : s2 = s1
  · rw [← he]; exact ⟨a1, w1, h1, q1⟩
  · rw [if_neg he] at q2; cases q2

theorem load_free {ops : Array Oper} {o : Oper} {d : Nat} {e : Bool} (hl : isLoad (clsOp o.op) = true) (hd : o.dst = some d) {s : St} {K : St → Option R} : runG cx e ops o s (nrm K) = runG cx false ops o s (nrm K) := by
  have hc : isReader (clsOp o.op) = true := by
    obtain ⟨t, q, hq⟩ := cls_load hl
    rw [hq]; rfl
  rw [reader_run hc hd, reader_run hc hd]

theorem swap_twoC (hcx : Cxt P cx nt) {ops : Array Oper} {p o : Oper} {e1 e2 : Bool} (hp : PairC cx.hint.keep ops p o e1 e2) (hnp : isPure (clsOp o.op) = false) {s : St} {a : Act} {w : World} {h : Gh} (hsi : SI nt g0 h0 w0 s a w h) {K : St → Option R} {r : R}
    (hs : runC cx e1 ops p s (nrm fun s1 => runC cx e2 ops o s1 (nrm K)) = some r) : runC cx e2 ops o s (nrm fun s1 => runC cx e1 ops p s1 (nrm K)) = some r := by
  obtain ⟨hc1, hs⟩ := runC_some hs
  obtain ⟨a1, a2, a3⟩ := Oper.apart_spec hp.ap
  have dl : ∀ {x : Oper}, dstOk x = true → isLoad (clsOp x.op) = true → ∃ d, x.dst = some d := fun hx hl => by
    obtain ⟨t, q, hq⟩ := cls_load hl
    exact dst_of hx (by rw [hq]; simp [clsOp]) (by rw [hq]; simp [clsOp])
  by_cases hpp : isPure (clsOp p.op) = true
  · have hcp : clsOp p.op = .pure := by cases h : clsOp p.op <;> rw [h] at hpp <;> simp_all [isPure]
    obtain ⟨d, hd⟩ := dst_of hp.d1 (by rw [hcp]; simp) (by rw [hcp]; simp)
    have hc : isReader (clsOp p.op) = true := by rw [hcp]; rfl
    have hnl : isLoad (clsOp p.op) = false := by rw [hcp]; rfl
    have hin : (fun s1 => runC cx e1 ops p s1 (nrm K)) = fun s1 => runG cx e1 ops p s1 (nrm K) := by funext s1; rw [runC_nl hnl]
    -- the mark of the second reads no temporary of the first
    have hs0 := hs
    rw [reader_run hc hd] at hs0
    split at hs0
    case isFalse => cases hs0
    rename_i hlt
    cases hv : valR cx.T ops p s with
    | none => rw [hv] at hs0; cases hs0
    | some v =>
      rw [hv] at hs0
      simp only at hs0
      obtain ⟨hc2, hs2⟩ := runC_some hs0
      have hown : ownLd o (sU s d v) = ownLd o s := ownLd_dem (p := Pz.of fun _ => false) (ops := ops) (fun t ht => by
        show upd s.tm d (some v) t = _
        rw [upd_ne (fun e => a1 d hd (by rw [← e]; exact ht))]
        cases s.tm t <;> simp [demP_none]) rfl
      rw [runC_of (fun he => by rw [← hown]; exact hc2 he), hin]
      refine past_reader hc hd hp.ap (fun t q a h _ => by rw [h] at hcp; cases hcp) ?_
      rw [reader_run hc hd, if_pos hlt, hv]
      exact hs2
  · by_cases hk : e2 = true ∧ isLoad (clsOp o.op) = false
    · -- a call that puts the frame's boxes aside, and a load of one of them
      obtain ⟨hk, hno⟩ := hk
      rcases hp.f2 hk with h1 | h1 | ⟨hkeep, hgo, he1, hl⟩
      · exact absurd h1 hpp
      · rw [hno] at h1; cases h1
      have hown := hc1 he1
      obtain ⟨d, hd⟩ := dl hp.d1 hl
      obtain ⟨t, q, hq⟩ := cls_load hl
      have hc : isReader (clsOp p.op) = true := by rw [hq]; rfl
      have hcall : clsOp o.op = .call := by
        obtain ⟨x, hx⟩ := Option.isSome_iff_exists.1 hgo
        exact goCall_cls hx
      have hb : ∀ a, ev s.tm q = some a → bxB cx e2 o s a := fun a ha => by
        unfold ownLd at hown
        rw [hq] at hown
        simp only [ha] at hown
        cases a with
        | ptr d' u off =>
          simp only at hown
          have := Nat.eq_of_beq_eq_true hown
          subst this
          exact .inr ⟨hkeep, hcall, u, off, rfl⟩
        | _ => cases hown
      rw [runC_nl hno]
      have hs1 : runG cx e1 ops p s (nrm fun s1 => runG cx e2 ops o s1 (nrm K)) = some r := by
        rw [← hs]
        congr 2
        funext s1
        rw [runC_nl hno]
      have hs2 := past_reader hc hd hp.ap (fun t' q' a h ha => by rw [hq] at h; cases h; exact hb a ha) hs1
      rw [← hs2]
      obtain ⟨φ, ⟨p', rfl⟩, _, h3⟩ := runG_upd (cx := cx) (eff := e2) (o := o) (ops := ops) (s := s) (d := d) (operFree_of (a1 d hd)) (a2 d hd)
      refine h3 _ _ fun s1 q1 q2 => ?_
      obtain ⟨x, hx⟩ : ∃ x, ev s.tm q = some x := by
        cases hx : ev s.tm q with
        | none => unfold ownLd at hown; rw [hq] at hown; simp [hx] at hown
        | some x => exact ⟨x, rfl⟩
      rw [runC_of (fun _ => by
        rw [ownLd_dem (p := p') (ops := ops) (fun t ht => q1 t fun e => a3 t e ht) (q2 x (hb x hx)).1]
        exact hown)]
    · -- neither turns boxes
      have he2 : e2 = true → isLoad (clsOp o.op) = true := fun h => by
        cases hl : isLoad (clsOp o.op) with
        | true => rfl
        | false => exact absurd ⟨h, hl⟩ hk
      have he1 : e1 = true → isLoad (clsOp p.op) = true := fun h => by
        rcases hp.f1 h with h1 | h1
        · rw [hnp] at h1; cases h1
        · exact h1
      have strip : ∀ {x : Oper} {e : Bool}, dstOk x = true → (e = true → isLoad (clsOp x.op) = true) → ∀ s (K : St → Option R), runG cx e ops x s (nrm K) = runG cx false ops x s (nrm K) := fun {x e} hx he s K => by
        cases e with
        | false => rfl
        | true =>
          obtain ⟨d, hd⟩ := dl hx (he rfl)
          exact load_free (he rfl) hd
      rw [strip hp.d1 he1, act_run] at hs
      cases hact : actG cx ops p s with
      | none => simp [hact] at hs
      | some s1 =>
        simp only [hact] at hs
        obtain ⟨hc2, hs⟩ := runC_some hs
        obtain ⟨_, _, _, hsi1⟩ := reached (r := r) hcx hact hsi
        have hdp1 : s1.g.dp = s.g.dp := by rw [hsi1.dp, hsi.dp]
        have hs0 : runG cx false ops p s (nrm fun s1 => runG cx false ops o s1 (nrm K)) = some r := by
          rw [act_run, hact]
          show runG cx false ops o s1 (nrm K) = some r
          rw [← strip hp.d2 he2]
          exact hs
        have hs2 := swap_two ⟨hp.sw, hp.ap, hp.d1, hp.d2, (fun h => by cases h), (fun h => by cases h)⟩ hnp hsi.wfOwn hsi.wfPtr hs0
        rw [runC_of (fun h => by
          obtain ⟨d, hd⟩ := dl hp.d2 (he2 h)
          rw [← own_act hp.ap hd hact hdp1]
          exact hc2 h), strip hp.d2 he2, act_run]
        rw [act_run] at hs2
        cases hact2 : actG cx ops o s with
        | none => simp [hact2] at hs2
        | some s2 =>
          simp only [hact2] at hs2 ⊢
          obtain ⟨_, _, _, hsi2⟩ := reached (r := r) hcx hact2 hsi
          have hdp2 : s2.g.dp = s.g.dp := by rw [hsi2.dp, hsi.dp]
          rw [runC_of (fun h => by
            obtain ⟨d, hd⟩ := dl hp.d1 (he1 h)
            rw [own_act (apart_symm hp.ap) hd hact2 hdp2]
            exact hc1 h), strip hp.d1 he1]
          exact hs2
end
end Go.Abs
