/- Steps that may change places: pairs. -/
import Derived.Test.YtehkgiofchmpaaaDoorAbsComm4
namespace Go.Abs
open Go
set_option linter.unusedVariables false
set_option linter.unusedSimpArgs false
set_option linter.unnecessarySimpa false

section
variable {R : Type} {cx : Cx R}

/-- Whether an operation is carried out. -/
def gst (ops : Array Oper) (o : Oper) (tm : Nat → Option AV) : Option Bool := match o.guard with
  | none => some true
  | some (g, want) => match guardV ops tm g with
    | some (some b) => some (b == want)
    | some none => some false
    | none => none

theorem actG_gst (ops : Array Oper) (o : Oper) (s : St) : actG cx ops o s = match gst ops o s.tm with
    | some true => actO cx o s
    | some false => putV cx.nt o.dst (.tup []) s
    | none => none := by
  unfold actG gst
  cases o.guard with
  | none => rfl
  | some gw =>
    obtain ⟨g, want⟩ := gw
    simp only
    cases guardV ops s.tm g with
    | none => rfl
    | some b =>
      cases b with
      | none => rfl
      | some b =>
        simp only
        cases hb : (b == want) <;> simp

theorem gst_dem {p : Pz} {ops : Array Oper} {o : Oper} {tm tm' : Nat → Option AV} (h : ∀ t ∈ o.looksAt ops, tm' t = (tm t).map (demP p)) : gst ops o tm' = gst ops o tm := by
  unfold gst
  cases hg : o.guard with
  | none => rfl
  | some gw =>
    obtain ⟨g, want⟩ := gw
    simp only
    rw [guardV_dem (p := p) (tm := tm) fun g0 t hg0 ht => h t (List.mem_append_right _ (by simp [hg, hg0, ht]))]

theorem putV_some {nt da : Nat} {x : AV} {s : St} : putV nt (some da) x s = if Nat.blt da nt then some (sU s da x) else none := rfl

theorem sU_comm {s : St} {a b : Nat} {x y : AV} (h : a ≠ b) : sU (sU s a x) b y = sU (sU s b y) a x := by
  unfold sU
  simp only [St.mk.injEq, and_true]
  exact upd_comm h

theorem allocA_eq {T : Nat → Option TI} {da t : Nat} {s : St} : allocA T da t s = match T t, s.g.bx s.g.dp da with
    | some ti, none => some (sU (insB s.g.dp da { cells := ti.zero.map .d, frz := false, ty := ti.mark } s) da (.ptr s.g.dp da 0))
    | _, _ => none := by
  unfold allocA
  cases T t with
  | none => rfl
  | some ti =>
    cases s.g.bx s.g.dp da <;> rfl

theorem alloc_actO {p : Oper} {t da : Nat} (hp : p.op = .alloc t) (hd : p.dst = some da) (s : St) : actO cx p s = if Nat.blt da cx.nt then allocA cx.T da t s else none := by
  obtain ⟨dst, op, type, pos, aft, guard⟩ := p
  simp only at hp hd
  subst hp hd
  rfl

/-- A new box, and a step that lays or hands on a row. -/
theorem swap_alloc {ops : Array Oper} {p X : Oper} {t da : Nat} (hp : p.op = .alloc t) (hd : p.dst = some da) (hc : rowCls (clsOp X.op) = true) (hap : Oper.apart ops p X = true) (s : St) :
    (actG cx ops p s).bind (actG cx ops X) = (actG cx ops X s).bind (actG cx ops p) := by
  obtain ⟨a1, a2, a3⟩ := Oper.apart_spec hap
  have hfree := operFree_of (a1 da hd)
  have hne : X.dst ≠ some da := a2 da hd
  obtain ⟨φ, ⟨p', rfl, _⟩, h2, h3⟩ := actG_upd (cx := cx) (s := s) hfree hne
  have hg : ∀ s1, actG cx ops X s = some s1 → gst ops p s1.tm = gst ops p s.tm := fun s1 hs1 =>
    gst_dem (p := p') fun t ht => (h3 s1 hs1).1 t fun e => a3 t e ht
  rw [actG_gst ops p s]
  cases hgs : gst ops p s.tm with
  | none =>
    cases hX : actG cx ops X s with
    | none => rfl
    | some s1 => simp only [Option.bind_none, Option.bind_some]; rw [actG_gst, hg s1 hX, hgs]
  | some b =>
    cases b with
    | false =>
      rw [hd]
      simp only [putV_some]
      by_cases hlt : Nat.blt da cx.nt = true
      · rw [if_pos hlt, Option.bind_some, h2]
        cases hX : actG cx ops X s with
        | none => rfl
        | some s1 =>
          simp only [Option.map_some, Option.bind_some, demP, demPs]
          rw [actG_gst, hg s1 hX, hgs]
          simp only [hd, putV_some]
          rw [if_pos hlt]
      · rw [if_neg hlt]
        cases hX : actG cx ops X s with
        | none => rfl
        | some s1 =>
          simp only [Option.bind_some, Option.bind_none]
          rw [actG_gst, hg s1 hX, hgs]
          simp only [hd, putV_some]
          rw [if_neg hlt]
    | true =>
      simp only
      rw [alloc_actO hp hd]
      by_cases hlt : Nat.blt da cx.nt = true
      case neg =>
        rw [if_neg hlt]
        cases hX : actG cx ops X s with
        | none => rfl
        | some s1 =>
          simp only [Option.bind_some, Option.bind_none]
          rw [actG_gst, hg s1 hX, hgs]
          simp only
          rw [alloc_actO hp hd, if_neg hlt]
      rw [if_pos hlt, allocA_eq]
      cases hT : cx.T t with
      | none =>
        cases hX : actG cx ops X s with
        | none => rfl
        | some s1 =>
          simp only [Option.bind_some, Option.bind_none]
          rw [actG_gst, hg s1 hX, hgs]
          simp only
          rw [alloc_actO hp hd, if_pos hlt, allocA_eq, hT]
      | some ti =>
        cases hb : s.g.bx s.g.dp da with
        | some b =>
          cases hX : actG cx ops X s with
          | none => rfl
          | some s1 =>
            obtain ⟨g1, g2⟩ := actG_bx hc hX
            simp only [Option.bind_some, Option.bind_none]
            rw [actG_gst, hg s1 hX, hgs]
            simp only
            rw [alloc_actO hp hd, if_pos hlt, allocA_eq, hT, g1]
            have := g2 s.g.dp da
            rw [hb] at this
            obtain ⟨b', hb'⟩ := Option.isSome_iff_exists.1 this
            rw [hb']
        | none =>
          simp only [Option.bind_some]
          obtain ⟨φ', ⟨p2, rfl, _⟩, k2, _⟩ := actG_upd (cx := cx) (s := insB s.g.dp da { cells := ti.zero.map .d, frz := false, ty := ti.mark } s) hfree hne
          rw [k2, actG_ins (fun i => dems_d i _) hc]
          cases hX : actG cx ops X s with
          | none => rfl
          | some s1 =>
            obtain ⟨g1, g2⟩ := actG_bx hc hX
            simp only [Option.bind_some, Option.map_some]
            rw [actG_gst, hg s1 hX, hgs]
            simp only
            rw [alloc_actO hp hd, if_pos hlt, allocA_eq, hT, g1]
            have := g2 s.g.dp da
            rw [hb] at this
            rw [Option.isSome_eq_false_iff.1 this |> Option.isNone_iff_eq_none.1]
            simp [demP]

/-! ### New rows -/
def bV (T : Nat → Option TI) (t n : Nat) (parts : List (Nat × Operand)) (tm : Nat → Option AV) : Option (Nat × List (List D)) := match T t with
  | none => none
  | some ti => match ti.kind, T ti.elem with
    | 2, some te => match partCells te.size (ev tm) parts (List.replicate n te.zero) with
      | some es => if Nat.ble (n * te.size) 16777216 && Nat.ble 1 te.size then some (te.size, es.map (nrmC te.sls)) else none
      | none => none
    | _, _ => none

theorem buildSliceA_bV {T : Nat → Option TI} {dst t n : Nat} {parts : List (Nat × Operand)} {s : St} : buildSliceA T dst t n parts s = match bV T t n parts s.tm with
    | some (sz, es) => putOwn none dst sz es s
    | none => none := by
  unfold buildSliceA bV
  cases T t with
  | none => rfl
  | some ti =>
    simp only
    generalize ti.kind = kk
    cases T ti.elem with
    | none => rcases kk with _ | _ | _ | kk <;> rfl
    | some te =>
      rcases kk with _ | _ | _ | kk
      · rfl
      · rfl
      · simp only
        cases partCells te.size (ev s.tm) parts (List.replicate n te.zero) with
        | none => rfl
        | some es =>
          simp only
          split <;> rfl
      · rfl

theorem bV_dem {T : Nat → Option TI} {p : Pz} {t n : Nat} {parts : List (Nat × Operand)} {tm tm' : Nat → Option AV} (h : ∀ q ∈ parts, ∀ u, q.2 = .tmp u → tm' u = (tm u).map (demP p)) : bV T t n parts tm' = bV T t n parts tm := by
  unfold bV
  have : ∀ sz es, partCells sz (ev tm') parts es = partCells sz (ev tm) parts es := fun sz es => partCells_dem (p := p) fun q hq => ev_dem fun u e => h q hq u e
  simp only [this]

theorem build_actO {p : Oper} {t n d1 : Nat} {parts : Array (Nat × Operand)} (hp : p.op = .buildSlice t n parts) (hd : p.dst = some d1) (s : St) : actO cx p s = if Nat.blt d1 cx.nt then (match bV cx.T t n parts.toList s.tm with
    | some (sz, es) => putOwn none d1 sz es s
    | none => none) else none := by
  obtain ⟨dst, op, type, pos, aft, guard⟩ := p
  simp only at hp hd
  subst hp hd
  have : actO cx { dst := some d1, op := .buildSlice t n parts, type, pos, after := aft, guard } s = if Nat.blt d1 cx.nt then buildSliceA cx.T d1 t n parts.toList s else none := rfl
  rw [this, buildSliceA_bV]

theorem putOwn_eq {d1 sz : Nat} {es : List (List D)} {s : St} : putOwn none d1 sz es s = if s.fr d1 then none else some (sU (frS d1 s) d1 (.own (.tmp s.g.dp d1 0) sz es)) := rfl

theorem setFr_comm (fr : Nat → Bool) (a b : Nat) : setFr (setFr fr a) b = setFr (setFr fr b) a := by
  funext t
  unfold setFr
  cases Nat.beq t a <;> cases Nat.beq t b <;> rfl

theorem putOwn_fr {k : Option Nat} {d1 dst sz : Nat} {es : List (List D)} {s : St} (h : dst ≠ d1) : putOwn k dst sz es (frS d1 s) = (putOwn k dst sz es s).map (frS d1) := by
  unfold putOwn
  have hfr : (frS d1 s).fr dst = s.fr dst := by
    show (Nat.beq dst d1 || s.fr dst) = _
    have : Nat.beq dst d1 = false := Bool.eq_false_iff.2 (by simpa using h)
    rw [this]; rfl
  rw [hfr]
  split
  · rfl
  · simp only [Option.map_some, frS]
    rw [setFr_comm]

theorem demSt_fr' (i : Id) (d1 : Nat) (s : St) : demSt i (frS d1 s) = frS d1 (demSt i s) := rfl

def newCls : Cl → Bool
  | .build | .app => true
  | _ => false

theorem newCls_row {c : Cl} (h : newCls c = true) : rowCls c = true := by cases c <;> simp_all [newCls, rowCls]

theorem new_noCall {op : Op} (hc : newCls (clsOp op) = true) : goCall op = none := by
  cases h : goCall op with
  | none => rfl
  | some x => rw [goCall_cls h] at hc; cases hc

theorem new_app {c : Call} (hc : newCls (clsOp (.call c)) = true) : isAppend c.callee = true := by
  cases hcl : c.callee with
  | value f => simp [clsOp, hcl, newCls] at hc
  | builtin b => cases b <;> simp_all [clsOp, newCls, isLen, isAppend]
  | invoke r n => simp [clsOp, hcl, isLen, isAppend, newCls] at hc

theorem actG_frS {ops : Array Oper} {d1 : Nat} {o : Oper} (hc : newCls (clsOp o.op) = true) (hne : o.dst ≠ some d1) {s : St} : actG cx ops o (frS d1 s) = (actG cx ops o s).map (frS d1) := by
  have hO : actO cx o (frS d1 s) = (actO cx o s).map (frS d1) := by
    unfold actO
    rw [new_noCall hc]
    simp only
    obtain ⟨dst, op, type, pos, aft, guard⟩ := o
    simp only at hc hne ⊢
    cases dst with
    | none =>
      simp only [stepOp]
      split
      · simp [clsOp, newCls] at hc
      · rfl
    | some d =>
      have hdd : d ≠ d1 := fun e => hne (by rw [e])
      simp only [stepOp]
      by_cases hlt : Nat.blt d cx.nt = true
      case neg => rw [if_neg hlt, if_neg hlt]; rfl
      rw [if_pos hlt, if_pos hlt]
      cases op with
      | buildSlice t n ps =>
        simp only
        rw [buildSliceA_bV, buildSliceA_bV]
        have : (frS d1 s).tm = s.tm := rfl
        rw [this]
        cases bV cx.T t n ps.toList s.tm with
        | none => rfl
        | some x => exact putOwn_fr hdd
      | call c =>
        simp only [callB]
        rw [if_pos (new_app hc), if_pos (new_app hc)]
        unfold appendA
        have : (frS d1 s).tm = s.tm := rfl
        rw [this]
        repeat' split
        all_goals first
          | rfl
          | exact putOwn_fr hdd
          | (rw [demSt_fr']; exact putOwn_fr hdd)
      | alloc t => simp [clsOp, newCls] at hc
      | load t p => simp [clsOp, newCls] at hc
      | box t x => simp [clsOp, newCls] at hc
      | makeFunc f a b => simp [clsOp, newCls] at hc
      | _ => simp [clsOp, newCls] at hc
  have htm : (frS d1 s).tm = s.tm := rfl
  rw [actG_gst, actG_gst, htm]
  cases gst ops o s.tm with
  | none => rfl
  | some b =>
    cases b with
    | true => exact hO
    | false =>
      simp only
      cases o.dst with
      | none => rfl
      | some d =>
        simp only [putV_some]
        split <;> rfl

theorem actG_fr {ops : Array Oper} {d1 : Nat} {o : Oper} (hc : newCls (clsOp o.op) = true) (hne : o.dst ≠ some d1) {s s1 : St} (hs : actG cx ops o s = some s1) : s1.fr d1 = s.fr d1 := by
  have own : ∀ {k : Option Nat} {d sz : Nat} {es : List (List D)} {s s1 : St}, d ≠ d1 → putOwn k d sz es s = some s1 → s1.fr d1 = s.fr d1 := by
    intro k d sz es s s1 hdd h
    unfold putOwn at h
    split at h
    · cases h
    · cases h
      show (Nat.beq d1 d || s.fr d1) = _
      have : Nat.beq d1 d = false := Bool.eq_false_iff.2 (by simpa using Ne.symm hdd)
      rw [this]; rfl
  rw [actG_gst] at hs
  cases hgs : gst ops o s.tm with
  | none => simp [hgs] at hs
  | some b =>
    cases b with
    | false =>
      simp only [hgs] at hs
      unfold putV at hs
      repeat' (split at hs <;> try (cases hs; done))
      all_goals (cases hs; rfl)
    | true =>
      simp only [hgs] at hs
      unfold actO at hs
      rw [new_noCall hc] at hs
      simp only at hs
      obtain ⟨dst, op, type, pos, aft, guard⟩ := o
      simp only at hc hne hs
      cases dst with
      | none =>
        simp only [stepOp] at hs
        split at hs
        · simp [clsOp, newCls] at hc
        · cases hs
      | some d =>
        have hdd : d ≠ d1 := fun e => hne (by rw [e])
        simp only [stepOp] at hs
        split at hs
        case isFalse => cases hs
        cases op with
        | buildSlice t n ps =>
          simp only at hs
          rw [buildSliceA_bV] at hs
          cases hb : bV cx.T t n ps.toList s.tm with
          | none => simp [hb] at hs
          | some x => simp only [hb] at hs; exact own hdd hs
        | call c =>
          simp only [callB] at hs
          rw [if_pos (new_app hc)] at hs
          unfold appendA at hs
          repeat' (split at hs <;> try (cases hs; done))
          all_goals first
            | exact own hdd hs
            | exact own (s := demSt _ s) hdd hs
        | alloc t => simp [clsOp, newCls] at hc
        | load t p => simp [clsOp, newCls] at hc
        | box t x => simp [clsOp, newCls] at hc
        | makeFunc f a b => simp [clsOp, newCls] at hc
        | _ => simp [clsOp, newCls] at hc

/-- The names of owned rows that are in use. -/
def WFown (s : St) : Prop := ∀ t a t' k, s.tm t = some a → ownId a = some (.tmp s.g.dp t' k) → s.fr t' = true

/-- A new row, and a step that lays one. -/
theorem swap_build {ops : Array Oper} {p X : Oper} {t n d1 : Nat} {parts : Array (Nat × Operand)} (hp : p.op = .buildSlice t n parts) (hd : p.dst = some d1) (hc : newCls (clsOp X.op) = true) (hap : Oper.apart ops p X = true) (s : St) (hwf : WFown s) :
    (actG cx ops p s).bind (actG cx ops X) = (actG cx ops X s).bind (actG cx ops p) := by
  obtain ⟨a1, a2, a3⟩ := Oper.apart_spec hap
  have hfree := operFree_of (a1 d1 hd)
  have hne : X.dst ≠ some d1 := a2 d1 hd
  obtain ⟨φ, ⟨p', rfl, _⟩, h2, h3⟩ := actG_upd (cx := cx) (s := s) hfree hne
  have hg : ∀ s1, actG cx ops X s = some s1 → gst ops p s1.tm = gst ops p s.tm := fun s1 hs1 =>
    gst_dem (p := p') fun t ht => (h3 s1 hs1).1 t fun e => a3 t e ht
  have hbv : ∀ s1, actG cx ops X s = some s1 → bV cx.T t n parts.toList s1.tm = bV cx.T t n parts.toList s.tm := fun s1 hs1 =>
    bV_dem (p := p') fun q hq u e => (h3 s1 hs1).1 u fun e' => a3 u e' (List.mem_append_left _ (List.mem_filterMap.2 ⟨.tmp u, by
      rw [hp]; simp [Op.operands]; exact ⟨q.1, by rw [← e]; simpa using hq⟩, rfl⟩))
  rw [actG_gst ops p s]
  cases hgs : gst ops p s.tm with
  | none =>
    cases hX : actG cx ops X s with
    | none => rfl
    | some s1 => simp only [Option.bind_none, Option.bind_some]; rw [actG_gst, hg s1 hX, hgs]
  | some b =>
    cases b with
    | false =>
      rw [hd]
      simp only [putV_some]
      by_cases hlt : Nat.blt d1 cx.nt = true
      · rw [if_pos hlt, Option.bind_some, h2]
        cases hX : actG cx ops X s with
        | none => rfl
        | some s1 =>
          simp only [Option.map_some, Option.bind_some, demP, demPs]
          rw [actG_gst, hg s1 hX, hgs]
          simp only [hd, putV_some]
          rw [if_pos hlt]
      · rw [if_neg hlt]
        cases hX : actG cx ops X s with
        | none => rfl
        | some s1 =>
          simp only [Option.bind_some, Option.bind_none]
          rw [actG_gst, hg s1 hX, hgs]
          simp only [hd, putV_some]
          rw [if_neg hlt]
    | true =>
      simp only
      rw [build_actO hp hd]
      have back : ∀ s1, actG cx ops X s = some s1 → actG cx ops p s1 = if Nat.blt d1 cx.nt then (match bV cx.T t n parts.toList s.tm with
          | some (sz, es) => putOwn none d1 sz es s1
          | none => none) else none := fun s1 hs1 => by
        rw [actG_gst, hg s1 hs1, hgs]
        simp only
        rw [build_actO hp hd, hbv s1 hs1]
      by_cases hlt : Nat.blt d1 cx.nt = true
      case neg =>
        rw [if_neg hlt]
        cases hX : actG cx ops X s with
        | none => rfl
        | some s1 => simp only [Option.bind_some, Option.bind_none]; rw [back s1 hX, if_neg hlt]
      rw [if_pos hlt]
      cases hb : bV cx.T t n parts.toList s.tm with
      | none =>
        cases hX : actG cx ops X s with
        | none => rfl
        | some s1 => simp only [Option.bind_some, Option.bind_none]; rw [back s1 hX, if_pos hlt, hb]
      | some x =>
        obtain ⟨sz, es⟩ := x
        simp only [putOwn_eq]
        by_cases hf : s.fr d1 = true
        · rw [if_pos hf]
          cases hX : actG cx ops X s with
          | none => rfl
          | some s1 =>
            simp only [Option.bind_some, Option.bind_none]
            rw [back s1 hX, if_pos hlt, hb]
            simp only [putOwn_eq]
            rw [if_pos (by rw [actG_fr hc hne hX]; exact hf)]
        · rw [if_neg hf]
          simp only [Option.bind_some]
          obtain ⟨φ', ⟨p2, rfl, ev2⟩, k2, _⟩ := actG_upd (cx := cx) (s := frS d1 s) hfree hne
          rw [k2, actG_frS hc hne]
          have hkeep : demP p2 (.own (.tmp s.g.dp d1 0) sz es) = .own (.tmp s.g.dp d1 0) sz es := by
            simp only [demP]
            have hno : ¬ (p2.p (.tmp s.g.dp d1 0) = true ∨ p2.g (.tmp s.g.dp d1 0) ≠ .tmp s.g.dp d1 0) := by
              intro hpp
              rcases ev2 _ hpp with h | ⟨t', a', ht, ha⟩
              · exact h
              · exact hf (hwf t' a' d1 0 ht ha)
            have h1 : p2.p (.tmp s.g.dp d1 0) = false := by
              cases h : p2.p (.tmp s.g.dp d1 0) with
              | false => rfl
              | true => exact absurd (.inl h) hno
            have h2 : p2.g (.tmp s.g.dp d1 0) = .tmp s.g.dp d1 0 := Classical.byContradiction fun h => hno (.inr h)
            rw [h1, h2]
          rw [hkeep]
          cases hX : actG cx ops X s with
          | none => rfl
          | some s1 =>
            simp only [Option.bind_some, Option.map_some]
            rw [back s1 hX, if_pos hlt, hb]
            simp only [putOwn_eq]
            rw [if_neg (by rw [actG_fr hc hne hX]; exact hf), (actG_bx (newCls_row hc) hX).1]
end
end Go.Abs
