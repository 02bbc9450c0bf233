/- Steps that may change places: new boxes and new rows. -/
import Derived.Test.YtehkgiofchmpaaaDoorAbsComm3
namespace Go.Abs
open Go
set_option linter.unusedVariables false
set_option linter.unusedSimpArgs false
set_option linter.unnecessarySimpa false

section
variable {R : Type} (cx : Cx R)

def actO (o : Oper) (s : St) : Option St := match goCall o.op with
  | some (f, args) => match ev s.tm f, evs s.tm args with
    | some (.d (.fn fn caps)), some as => if as.all noTup then (match AV.datas as with
      | some ds => match cx.C fn (ds ++ caps) with
        | some (.ret rs) => putRes cx.nt o.dst rs s
        | _ => none
      | none => none) else none
    | _, _ => none
  | none => stepOp cx.T cx.hint cx.nt o s

def actG (ops : Array Oper) (o : Oper) (s : St) : Option St := match o.guard with
  | none => actO cx o s
  | some (g, want) => match guardV ops s.tm g with
    | some (some b) => if b == want then actO cx o s else putV cx.nt o.dst (.tup []) s
    | some none => putV cx.nt o.dst (.tup []) s
    | none => none

variable {cx}

theorem actO_run {o : Oper} {s : St} {K : St → Option R} : runOp cx false o s (nrm K) = match actO cx o s with
    | some s' => K s'
    | none => none := by
  unfold runOp actO
  cases hg : goCall o.op with
  | none =>
    simp only
    cases stepOp cx.T cx.hint cx.nt o s <;> rfl
  | some fa =>
    obtain ⟨f, args⟩ := fa
    simp only
    cases ev s.tm f with
    | none => rfl
    | some fv =>
      cases evs s.tm args with
      | none =>
        cases fv with
        | d x => cases x <;> rfl
        | _ => rfl
      | some as =>
        simp only
        by_cases hn : as.all noTup = true
        · rw [if_pos hn]
          cases fv with
          | d x =>
            cases x with
            | fn fn caps =>
              simp only [callA, hn, if_true]
              cases AV.datas as with
              | none => simp
              | some ds =>
                simp only
                cases cx.C fn (ds ++ caps) with
                | none => rfl
                | some out =>
                  cases out with
                  | pan x => rfl
                  | ret rs =>
                    simp only
                    cases putRes cx.nt o.dst rs s <;> rfl
            | _ => simp [callA]
          | _ => simp [callA]
        · rw [if_neg hn]
          cases fv with
          | d x =>
            cases x with
            | fn fn caps => simp only; rw [if_neg hn]
            | _ => rfl
          | _ => rfl

theorem act_run {ops : Array Oper} {o : Oper} {s : St} {K : St → Option R} : runG cx false ops o s (nrm K) = match actG cx ops o s with
    | some s' => K s'
    | none => none := by
  have skip : (match putV cx.nt o.dst (.tup []) s with
      | some s' => nrm K .normal s'
      | none => none) = match putV cx.nt o.dst (.tup []) s with
      | some s' => K s'
      | none => none := by cases putV cx.nt o.dst (.tup []) s <;> rfl
  unfold runG actG
  cases o.guard with
  | none => exact actO_run
  | some gw =>
    obtain ⟨g, want⟩ := gw
    simp only
    cases guardV ops s.tm g with
    | none => rfl
    | some b =>
      cases b with
      | none => exact skip
      | some b =>
        simp only
        by_cases hb : (b == want) = true
        · rw [if_pos hb, if_pos hb]; exact actO_run
        · rw [if_neg hb, if_neg hb]; exact skip

theorem actO_upd {ops : Array Oper} {o : Oper} {s : St} {d : Nat} (hx : operFree ops o d) (hd : o.dst ≠ some d) : UpdOk cx.T (keepsBx (clsOp o.op) = true) (actO cx o) o.dst s d := by
  cases hg : goCall o.op with
  | none => exact UpdOk.congr (g := stepOp cx.T cx.hint cx.nt o) (by simp only [actO, hg]) (fun v => by simp only [actO, hg]) (stepOp_upd hx.1 hd)
  | some fa =>
    obtain ⟨f, args⟩ := fa
    obtain ⟨q1, q2⟩ := goCall_ops hg
    have e1 : ∀ v, ev (sU s d v).tm f = ev s.tm f := fun v => ev_upd (hx.1 f q1)
    have e2 : ∀ v, evs (sU s d v).tm args = evs s.tm args := fun v => evs_upd fun x h => hx.1 x (q2 x h)
    cases hf : ev s.tm f with
    | none => exact UpdOk.fail (by simp only [actO, hg, hf]) (fun v => by simp only [actO, hg, e1, hf])
    | some fv =>
      cases ha : evs s.tm args with
      | none => exact UpdOk.fail (by simp only [actO, hg, hf, ha]) (fun v => by simp only [actO, hg, e1, e2, hf, ha])
      | some as =>
        cases fv with
        | d x =>
          cases x with
          | fn fn caps =>
            by_cases hn : as.all noTup = true
            · cases hds : AV.datas as with
              | none => exact UpdOk.fail (by simp only [actO, hg, hf, ha, hn, hds, if_true]) (fun v => by simp only [actO, hg, e1, e2, hf, ha, hn, hds, if_true])
              | some ds =>
                cases hc : cx.C fn (ds ++ caps) with
                | none => exact UpdOk.fail (by simp only [actO, hg, hf, ha, hn, hds, hc, if_true]) (fun v => by simp only [actO, hg, e1, e2, hf, ha, hn, hds, hc, if_true])
                | some out =>
                  cases out with
                  | pan x => exact UpdOk.fail (by simp only [actO, hg, hf, ha, hn, hds, hc, if_true]) (fun v => by simp only [actO, hg, e1, e2, hf, ha, hn, hds, hc, if_true])
                  | ret rs => exact (UpdOk.congr (g := putRes cx.nt o.dst rs) (by simp only [actO, hg, hf, ha, hn, hds, hc, if_true]) (fun v => by simp only [actO, hg, e1, e2, hf, ha, hn, hds, hc, if_true]) (putRes_upd hd)).weak fun _ => trivial
            · exact UpdOk.fail (by simp only [actO, hg, hf, ha]; rw [if_neg hn]) (fun v => by simp only [actO, hg, e1, e2, hf, ha]; rw [if_neg hn])
          | _ => exact UpdOk.fail (by simp only [actO, hg, hf, ha]) (fun v => by simp only [actO, hg, e1, e2, hf, ha])
        | _ => exact UpdOk.fail (by simp only [actO, hg, hf, ha]) (fun v => by simp only [actO, hg, e1, e2, hf, ha])

theorem actG_upd {ops : Array Oper} {o : Oper} {s : St} {d : Nat} (hx : operFree ops o d) (hd : o.dst ≠ some d) : UpdOk cx.T (keepsBx (clsOp o.op) = true) (actG cx ops o) o.dst s d := by
  have skip := (putV_upd (T := cx.T) (nt := cx.nt) (x := .tup []) (s := s) hd).weak (B' := keepsBx (clsOp o.op) = true) fun _ => trivial
  cases hg : o.guard with
  | none => exact UpdOk.congr (g := actO cx o) (by simp only [actG, hg]) (fun v => by simp only [actG, hg]) (actO_upd hx hd)
  | some gw =>
    obtain ⟨g, want⟩ := gw
    have hgv : ∀ v, guardV ops (sU s d v).tm g = guardV ops s.tm g := fun v => guardV_upd fun g0 hg0 => hx.2 g want g0 hg hg0
    cases hv : guardV ops s.tm g with
    | none => exact UpdOk.fail (by simp only [actG, hg, hv]) (fun v => by simp only [actG, hg, hgv, hv])
    | some b =>
      cases b with
      | none => exact UpdOk.congr (g := putV cx.nt o.dst (.tup [])) (by simp only [actG, hg, hv]) (fun v => by simp only [actG, hg, hgv, hv]) skip
      | some b =>
        by_cases hb : (b == want) = true
        · exact UpdOk.congr (g := actO cx o) (by simp only [actG, hg, hv, hb, if_true]) (fun v => by simp only [actG, hg, hgv, hv, hb, if_true]) (actO_upd hx hd)
        · exact UpdOk.congr (g := putV cx.nt o.dst (.tup [])) (by simp only [actG, hg, hv]; rw [if_neg hb]) (fun v => by simp only [actG, hg, hgv, hv]; rw [if_neg hb]) skip

/-! ### Changes that a step does not see -/
/-- A change of a state that leaves the temporaries as they are, and that a step passes on. -/
structure Shift (σ : St → St) (X : St → Option St) (s : St) : Prop where
  eq : X (σ s) = (X s).map σ

def insB (dp da : Nat) (b : Box) (s : St) : St := { tm := s.tm, fr := s.fr, g := { s.g with bx := fun d u => if Nat.beq d dp && Nat.beq u da then some b else s.g.bx d u } }
def frS (d1 : Nat) (s : St) : St := { tm := s.tm, fr := setFr s.fr d1, g := s.g }

theorem putOwn_ins {dp da : Nat} {b : Box} {k : Option Nat} {dst sz : Nat} {es : List (List D)} {s : St} : putOwn k dst sz es (insB dp da b s) = (putOwn k dst sz es s).map (insB dp da b) := by
  unfold putOwn
  have hfr : (insB dp da b s).fr dst = s.fr dst := rfl
  rw [hfr]
  split <;> rfl

theorem demSt_ins {dp da : Nat} {b : Box} (i : Id) (hb : dems i b.cells = b.cells) (s : St) : demSt i (insB dp da b s) = insB dp da b (demSt i s) := by
  unfold demSt insB
  simp only [St.mk.injEq, G.mk.injEq, true_and, and_true]
  funext d u
  unfold demBx
  dsimp only
  by_cases h : (Nat.beq d dp && Nat.beq u da) = true
  · rw [if_pos h, if_pos h]
    simp only [hb]
  · rw [if_neg h, if_neg h]

theorem dems_d (i : Id) : ∀ xs : List D, dems i (xs.map .d) = xs.map .d
  | [] => rfl
  | x :: xs => by simp only [List.map_cons, dems, dem]; rw [dems_d i xs]

variable {T : Nat → Option TI}

theorem buildSliceA_ins {dp da : Nat} {b : Box} {dst t n : Nat} {parts : List (Nat × Operand)} {s : St} : buildSliceA T dst t n parts (insB dp da b s) = (buildSliceA T dst t n parts s).map (insB dp da b) := by
  unfold buildSliceA
  have htm : (insB dp da b s).tm = s.tm := rfl
  rw [htm]
  repeat' split
  all_goals first | rfl | exact putOwn_ins

theorem appendA_ins {dp da : Nat} {b : Box} (hb : ∀ i, dems i b.cells = b.cells) {rw' : Bool} {dst : Nat} {t t2 : TI} {x y : Operand} {s : St} : appendA T rw' dst t t2 x y (insB dp da b s) = (appendA T rw' dst t t2 x y s).map (insB dp da b) := by
  unfold appendA
  have htm : (insB dp da b s).tm = s.tm := rfl
  rw [htm]
  repeat' split
  all_goals first
    | rfl
    | exact putOwn_ins
    | (rw [demSt_ins _ (hb _)]; exact putOwn_ins)

theorem putRes_ins {dp da : Nat} {b : Box} {nt : Nat} {dst : Option Nat} {rs : List AV} {s : St} : putRes nt dst rs (insB dp da b s) = (putRes nt dst rs s).map (insB dp da b) := by
  cases dst with
  | none => rfl
  | some d =>
    simp only [putRes]
    have hfr : (insB dp da b s).fr d = s.fr d := rfl
    rw [hfr]
    by_cases h1 : s.fr d = true
    · rw [if_pos h1, if_pos h1]; rfl
    · rw [if_neg h1, if_neg h1]
      by_cases h2 : Nat.blt d nt = true
      · rw [if_pos h2, if_pos h2]; rfl
      · rw [if_neg h2, if_neg h2]; rfl

theorem putV_ins {dp da : Nat} {b : Box} {nt : Nat} {dst : Option Nat} {x : AV} {s : St} : putV nt dst x (insB dp da b s) = (putV nt dst x s).map (insB dp da b) := by
  cases dst with
  | none => rfl
  | some d =>
    simp only [putV]
    by_cases h2 : Nat.blt d nt = true
    · rw [if_pos h2, if_pos h2]; rfl
    · rw [if_neg h2, if_neg h2]; rfl

def rowCls : Cl → Bool
  | .build | .app | .call => true
  | _ => false

theorem actG_ins {ops : Array Oper} {dp da : Nat} {b : Box} (hb : ∀ i, dems i b.cells = b.cells) {o : Oper} (hc : rowCls (clsOp o.op) = true) {s : St} : actG cx ops o (insB dp da b s) = (actG cx ops o s).map (insB dp da b) := by
  have htm : (insB dp da b s).tm = s.tm := rfl
  have hO : actO cx o (insB dp da b s) = (actO cx o s).map (insB dp da b) := by
    unfold actO
    rw [htm]
    cases hg : goCall o.op with
    | some fa =>
      obtain ⟨f, args⟩ := fa
      simp only
      repeat' split
      all_goals first | rfl | exact putRes_ins
    | none =>
      simp only
      obtain ⟨dst, op, type, pos, aft, guard⟩ := o
      simp only at hc hg ⊢
      cases dst with
      | none =>
        simp only [stepOp]
        split
        · simp [clsOp, rowCls] at hc
        · rfl
      | some d =>
        simp only [stepOp]
        by_cases hlt : Nat.blt d cx.nt = true
        case neg => rw [if_neg hlt, if_neg hlt]; rfl
        rw [if_pos hlt, if_pos hlt]
        cases op with
        | buildSlice t n ps => exact buildSliceA_ins
        | call c =>
          simp only [callB]
          have happ : isAppend c.callee = true := by
            cases hcl : c.callee with
            | value f => simp [goCall, hcl] at hg
            | builtin b => cases b <;> simp_all [clsOp, rowCls, isLen, isAppend]
            | invoke r n => simp [clsOp, hcl, isLen, isAppend, rowCls] at hc
          rw [if_pos happ, if_pos happ]
          repeat' split
          all_goals first | rfl | exact appendA_ins hb
        | alloc t => simp [clsOp, rowCls] at hc
        | load t p => simp [clsOp, rowCls] at hc
        | box t x => simp [clsOp, rowCls] at hc
        | makeFunc f a b => simp [clsOp, rowCls] at hc
        | _ => simp [clsOp, rowCls] at hc
  unfold actG
  rw [htm]
  repeat' split
  all_goals first
    | rfl
    | exact hO
    | exact putV_ins

/-- What a step with a row for its result leaves as it was. -/
theorem actG_bx {ops : Array Oper} {o : Oper} (hc : rowCls (clsOp o.op) = true) {s s1 : St} (hs : actG cx ops o s = some s1) : s1.g.dp = s.g.dp ∧ ∀ d u, (s1.g.bx d u).isSome = (s.g.bx d u).isSome := by
  have own : ∀ {k : Option Nat} {dst sz : Nat} {es : List (List D)} {s s1 : St}, putOwn k dst sz es s = some s1 → s1.g = s.g := fun h => putOwn_g h
  have res : ∀ {nt : Nat} {dst : Option Nat} {rs : List AV} {s s1 : St}, putRes nt dst rs s = some s1 → s1.g = s.g := by
    intro nt dst rs s s1 h
    unfold putRes at h
    repeat' (split at h <;> try (cases h; done))
    all_goals (cases h; rfl)
  have pv : ∀ {nt : Nat} {dst : Option Nat} {x : AV} {s s1 : St}, putV nt dst x s = some s1 → s1.g = s.g := by
    intro nt dst x s s1 h
    unfold putV at h
    repeat' (split at h <;> try (cases h; done))
    all_goals (cases h; rfl)
  have same : ∀ {s s1 : St}, s1.g = s.g → s1.g.dp = s.g.dp ∧ ∀ d u, (s1.g.bx d u).isSome = (s.g.bx d u).isSome := fun h => by rw [h]; exact ⟨rfl, fun _ _ => rfl⟩
  have hO : ∀ {s1}, actO cx o s = some s1 → s1.g.dp = s.g.dp ∧ ∀ d u, (s1.g.bx d u).isSome = (s.g.bx d u).isSome := by
    intro s1 hs
    unfold actO at hs
    cases hg : goCall o.op with
    | some fa =>
      simp only [hg] at hs
      repeat' (split at hs <;> try (cases hs; done))
      all_goals exact same (res hs)
    | none =>
      simp only [hg] at hs
      obtain ⟨dst, op, type, pos, aft, guard⟩ := o
      simp only at hc hg hs
      cases dst with
      | none =>
        simp only [stepOp] at hs
        split at hs
        · simp [clsOp, rowCls] at hc
        · cases hs
      | some d =>
        simp only [stepOp] at hs
        split at hs
        case isFalse => cases hs
        cases op with
        | buildSlice t n ps =>
          simp only [buildSliceA] at hs
          repeat' (split at hs <;> try (cases hs; done))
          exact same (own hs)
        | call c =>
          simp only [callB] at hs
          have happ : isAppend c.callee = true := by
            cases hcl : c.callee with
            | value f => simp [goCall, hcl] at hg
            | builtin b => cases b <;> simp_all [clsOp, rowCls, isLen, isAppend]
            | invoke r n => simp [clsOp, hcl, isLen, isAppend, rowCls] at hc
          rw [if_pos happ] at hs
          unfold appendA at hs
          repeat' (split at hs <;> try (cases hs; done))
          all_goals first
            | exact same (own hs)
            | (have := own hs; rw [this]; exact ⟨rfl, fun d u => demBx_isSome _ _ _ _⟩)
        | alloc t => simp [clsOp, rowCls] at hc
        | load t p => simp [clsOp, rowCls] at hc
        | box t x => simp [clsOp, rowCls] at hc
        | makeFunc f a b => simp [clsOp, rowCls] at hc
        | _ => simp [clsOp, rowCls] at hc
  unfold actG at hs
  repeat' (split at hs <;> try (cases hs; done))
  all_goals first
    | exact hO hs
    | exact same (pv hs)
end
end Go.Abs
