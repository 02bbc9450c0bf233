/- Steps that may change places: readers. -/
import Derived.Test.YtehkgiofchmpaaaDoorAbsComm2
namespace Go.Abs
open Go
set_option linter.unusedVariables false
set_option linter.unusedSimpArgs false
set_option linter.unnecessarySimpa false

/-- What goes on behind a normal end alone. -/
def nrm {R : Type} (K : St → Option R) : Ex → St → Option R := fun e s => match e with
  | .normal => K s
  | _ => none

theorem nrm_eq {R : Type} {k : Ex → St → Option R} (K : St → Option R) (h : ∀ s, k .normal s = K s) (h' : ∀ e s, e ≠ .normal → k e s = none) : k = nrm K := by
  funext e s
  cases e with
  | normal => exact h s
  | _ => exact h' _ s (by simp)

section
variable {R : Type} {cx : Cx R}

def operFree (ops : Array Oper) (o : Oper) (d : Nat) : Prop := (∀ x ∈ o.op.operands.toList, x ≠ .tmp d) ∧ ∀ g w g0, o.guard = some (g, w) → ops[g]? = some g0 → g0.dst ≠ some d

theorem operFree_of {ops : Array Oper} {o : Oper} {d : Nat} (h : d ∉ o.looksAt ops) : operFree ops o d := by
  refine ⟨fun x hx e => ?_, fun g w g0 hg hg0 hd => ?_⟩
  · subst e
    exact h (List.mem_append_left _ (List.mem_filterMap.2 ⟨.tmp d, hx, rfl⟩))
  · refine h (List.mem_append_right _ ?_)
    simp [hg, hg0, hd]

theorem guardV_dem {p : Pz} {ops : Array Oper} {tm tm' : Nat → Option AV} {g : Nat} (h : ∀ g0 t, ops[g]? = some g0 → g0.dst = some t → tm' t = (tm t).map (demP p)) : guardV ops tm' g = guardV ops tm g := by
  unfold guardV
  cases hg : ops[g]? with
  | none => rfl
  | some o =>
    simp only
    cases hd : o.dst with
    | none => rfl
    | some t =>
      simp only
      rw [h o t hg hd]
      cases tm t with
      | none => rfl
      | some a =>
        cases a with
        | own j z es => simp only [Option.map_some, demP]; cases p.p j <;> rfl
        | raw o k j z es => simp only [Option.map_some, demP]; cases (p.p j || p.q j z) <;> rfl
        | tup xs => cases xs <;> simp [demP, demPs]
        | _ => simp [demP]

theorem guardV_upd {ops : Array Oper} {tm : Nat → Option AV} {g d : Nat} {v : Option AV} (h : ∀ g0, ops[g]? = some g0 → g0.dst ≠ some d) : guardV ops (upd tm d v) g = guardV ops tm g := by
  refine guardV_dem (p := Pz.of fun _ => false) ?_
  intro g0 t hg ht
  rw [upd_ne (fun e => h g0 hg (by rw [ht, e]))]
  cases tm t <;> simp [demP_none]

/-! ### An operation, and a temporary that it does not look at -/
def BxRel (T : Nat → Option TI) (φ : AV → AV) (s s1 : St) : Prop := ∀ t a, loadA T s1.g.bx t (φ a) = (loadA T s.g.bx t a).map φ

def RunUpd (f : St → (Ex → St → Option R) → Option R) (T : Nat → Option TI) (B : AV → Prop) (dst : Option Nat) (s : St) (d : Nat) : Prop :=
  ∃ φ, Dem φ ∧ (∀ v K, f (sU s d v) (nrm K) = f s (nrm fun s1 => K (sU s1 d (φ v)))) ∧
    ∀ K1 K2 : St → Option R, (∀ s1, (∀ t, dst ≠ some t → s1.tm t = (s.tm t).map φ) → (∀ a, B a → s1.g.dp = s.g.dp ∧ ∀ t, loadA T s1.g.bx t (φ a) = (loadA T s.g.bx t a).map φ) → K1 s1 = K2 s1) → f s (nrm K1) = f s (nrm K2)

theorem putRes_dp {nt : Nat} {dst : Option Nat} {rs : List AV} {s s1 : St} (h : putRes nt dst rs s = some s1) : s1.g.dp = s.g.dp := by
  cases dst with
  | none => simp only [putRes, Option.some.injEq] at h; subst h; rfl
  | some d' =>
    simp only [putRes] at h
    split at h
    · cases h
    · split at h
      · simp only [Option.some.injEq] at h; subst h; rfl
      · cases h
theorem putV_dp {nt : Nat} {dst : Option Nat} {x : AV} {s s1 : St} (h : putV nt dst x s = some s1) : s1.g.dp = s.g.dp := by
  cases dst with
  | none => simp only [putV, Option.some.injEq] at h; subst h; rfl
  | some d' =>
    simp only [putV] at h
    split at h
    · simp only [Option.some.injEq] at h; subst h; rfl
    · cases h

theorem RunUpd.fail {f : St → (Ex → St → Option R) → Option R} {T : Nat → Option TI} {B : AV → Prop} {dst : Option Nat} {s : St} {d : Nat} (h0 : ∀ K, f s (nrm K) = none) (h : ∀ v K, f (sU s d v) (nrm K) = none) : RunUpd f T B dst s d :=
  ⟨_, Dem.id, fun v K => by rw [h, h0], fun K1 K2 _ => by rw [h0, h0]⟩

theorem RunUpd.of_upd {f : St → (Ex → St → Option R) → Option R} {F : St → Option St} {T : Nat → Option TI} {B : Prop} {dst : Option Nat} {s : St} {d : Nat} (hf : ∀ s K, f s (nrm K) = match F s with
    | some s' => K s'
    | none => none) (hdp : ∀ s1, F s = some s1 → s1.g.dp = s.g.dp) (h : UpdOk T B F dst s d) : RunUpd f T (fun _ => B) dst s d := by
  obtain ⟨φ, h1, h2, h3⟩ := h
  refine ⟨φ, h1.all, fun v K => ?_, fun K1 K2 hk => ?_⟩
  · rw [hf, hf, h2]
    cases F s <;> rfl
  · rw [hf, hf]
    cases hF : F s with
    | none => rfl
    | some s1 =>
      exact hk s1 (h3 s1 hF).1 (fun a hb => ⟨hdp s1 hF, fun t => (h3 s1 hF).2 hb t a⟩)

theorem RunUpd.congr {f g : St → (Ex → St → Option R) → Option R} {T : Nat → Option TI} {B : AV → Prop} {dst : Option Nat} {s : St} {d : Nat} (h0 : ∀ K, f s (nrm K) = g s (nrm K)) (h : ∀ v K, f (sU s d v) (nrm K) = g (sU s d v) (nrm K)) (hg : RunUpd g T B dst s d) : RunUpd f T B dst s d := by
  obtain ⟨φ, h1, h2, h3⟩ := hg
  exact ⟨φ, h1, fun v K => by rw [h, h2, h0], fun K1 K2 hk => by rw [h0, h0]; exact h3 K1 K2 hk⟩

theorem putRes_upd {T : Nat → Option TI} {nt : Nat} {dst : Option Nat} {rs : List AV} {s : St} {d : Nat} (hd : dst ≠ some d) : UpdOk T True (putRes nt dst rs) dst s d := by
  cases dst with
  | none =>
    refine ⟨_, DemIn.id _, fun v => rfl, fun s1 hs => ?_⟩
    simp only [putRes, Option.some.injEq] at hs
    subst hs
    exact ⟨fun t _ => (map_id' _).symm, fun _ t a => loadA_id T _ t a⟩
  | some d' =>
    have hdd : d' ≠ d := fun e => hd (by rw [e])
    by_cases hf : s.fr d' = true
    · exact UpdOk.fail (by simp only [putRes]; rw [if_pos hf]) (fun v => by simp only [putRes]; rw [if_pos (show (sU s d v).fr d' = true from hf)])
    · by_cases hlt : Nat.blt d' nt = true
      · refine ⟨_, DemIn.id _, fun v => ?_, fun s1 hs => ?_⟩
        · simp only [putRes]
          rw [if_neg hf, if_pos hlt, if_neg (show ¬ (sU s d v).fr d' = true from hf), if_pos hlt]
          simp only [Option.map_some, sU]
          rw [upd_comm hdd] <;> rfl
        · simp only [putRes] at hs
          rw [if_neg hf, if_pos hlt] at hs
          simp only [Option.some.injEq] at hs
          subst hs
          refine ⟨fun t ht => ?_, fun _ t a => loadA_id T _ t a⟩
          rw [map_id']
          exact upd_ne (fun e => ht (by rw [e]))
      · exact UpdOk.fail (by simp only [putRes]; rw [if_neg hf, if_neg hlt]) (fun v => by simp only [putRes]; rw [if_neg (show ¬ (sU s d v).fr d' = true from hf), if_neg hlt])

theorem mapTm_upd {φ : AV → AV} {tm : Nat → Option AV} {d : Nat} {v : AV} : mapTm φ (upd tm d (some v)) = upd (mapTm φ tm) d (some (φ v)) := by
  funext t
  unfold mapTm upd
  by_cases h : Nat.beq t d = true
  · rw [if_pos h, if_pos h]
  · rw [if_neg h, if_neg h]

theorem mapTm_get (φ : AV → AV) (tm : Nat → Option AV) (t : Nat) : mapTm φ tm t = (tm t).map φ := by
  unfold mapTm; cases tm t <;> rfl

theorem RunUpd.weak {f : St → (Ex → St → Option R) → Option R} {T : Nat → Option TI} {B B' : AV → Prop} {dst : Option Nat} {s : St} {d : Nat} (h : RunUpd f T B dst s d) (hB : ∀ a, B' a → B a) : RunUpd f T B' dst s d := by
  obtain ⟨φ, h1, h2, h3⟩ := h
  exact ⟨φ, h1, h2, fun K1 K2 hk => h3 K1 K2 fun s1 q1 q2 => hk s1 q1 fun a hb => q2 a (hB a hb)⟩

/-- A call that may turn boxes. -/
theorem behindF_upd {φ : AV → AV} (hφ : Dem φ) {dst : Option Nat} {s : St} {d : Nat} (hd : dst ≠ some d) (A : (Out → G → Option R) → Option R) {Gp : G → Prop} (hA : ∀ c1 c2, (∀ out g, Gp g → c1 out g = c2 out g) → A c1 = A c2) (f : St → (Ex → St → Option R) → Option R) (hf : ∀ v K, f (sU s d v) (nrm K) = A (behindF cx φ dst (sU s d v) (nrm K))) (hf0 : ∀ K, f s (nrm K) = A (behindF cx φ dst s (nrm K))) (T : Nat → Option TI) {B : AV → Prop} (hB : ∀ g, Gp g → ∀ a, B a → g.dp = s.g.dp ∧ ∀ t, loadA T g.bx t (φ a) = (loadA T s.g.bx t a).map φ) :
    RunUpd f T B dst s d := by
  refine ⟨φ, hφ, fun v K => ?_, fun K1 K2 hk => ?_⟩
  · rw [hf, hf0]
    refine hA _ _ fun out g hg => ?_
    cases out with
    | pan x => rfl
    | ret rs =>
      simp only [behindF]
      have hs : ({ tm := mapTm φ (sU s d v).tm, fr := (sU s d v).fr, g } : St) = sU { tm := mapTm φ s.tm, fr := s.fr, g } d (φ v) := by
        simp only [sU]
        rw [mapTm_upd]
      rw [hs]
      obtain ⟨_, h1, h2, h3⟩ := putRes_upd (T := T) (nt := cx.nt) (rs := rs) (s := { tm := mapTm φ s.tm, fr := s.fr, g }) hd
      have hp : putRes cx.nt dst rs (sU { tm := mapTm φ s.tm, fr := s.fr, g } d (φ v)) = (putRes cx.nt dst rs { tm := mapTm φ s.tm, fr := s.fr, g }).map fun s1 => sU s1 d (φ v) := by
        cases dst with
        | none => rfl
        | some d' =>
          have hdd : d' ≠ d := fun e => hd (by rw [e])
          simp only [putRes]
          have hfr : (sU { tm := mapTm φ s.tm, fr := s.fr, g } d (φ v)).fr d' = s.fr d' := rfl
          rw [hfr]
          by_cases q1 : s.fr d' = true
          · rw [if_pos q1, if_pos q1]; rfl
          · rw [if_neg q1, if_neg q1]
            by_cases q2 : Nat.blt d' cx.nt = true
            · rw [if_pos q2, if_pos q2]
              simp only [Option.map_some, sU]
              rw [upd_comm hdd] <;> rfl
            · rw [if_neg q2, if_neg q2]; rfl
      rw [hp]
      cases putRes cx.nt dst rs { tm := mapTm φ s.tm, fr := s.fr, g } <;> rfl
  · rw [hf0, hf0]
    refine hA _ _ fun out g hg => ?_
    cases out with
    | pan x => rfl
    | ret rs =>
      simp only [behindF]
      cases hput : putRes cx.nt dst rs { tm := mapTm φ s.tm, fr := s.fr, g } with
      | none => rfl
      | some s1 =>
        have hbx : s1.g = g := by
          cases dst with
          | none => simp only [putRes, Option.some.injEq] at hput; subst hput; rfl
          | some d' =>
            simp only [putRes] at hput
            split at hput
            · cases hput
            · split at hput
              · simp only [Option.some.injEq] at hput; subst hput; rfl
              · cases hput
        refine hk s1 (fun t ht => ?_) (fun a hb => by rw [hbx]; exact hB g hg a hb)
        cases dst with
        | none =>
          simp only [putRes, Option.some.injEq] at hput
          subst hput
          exact mapTm_get _ _ _
        | some d' =>
          simp only [putRes] at hput
          split at hput
          · cases hput
          · split at hput
            · simp only [Option.some.injEq] at hput
              subst hput
              show upd _ d' _ t = _
              rw [upd_ne (fun e => ht (by rw [e]))]
              exact mapTm_get _ _ _
            · cases hput

theorem behind_upd {dst : Option Nat} {s : St} {d : Nat} (hd : dst ≠ some d) (A : (Out → G → Option R) → Option R) (f : St → (Ex → St → Option R) → Option R) (hf : ∀ v K, f (sU s d v) (nrm K) = A (behind cx dst (sU s d v) (nrm K))) (hf0 : ∀ K, f s (nrm K) = A (behind cx dst s (nrm K))) (T : Nat → Option TI) :
    RunUpd f T (fun _ => False) dst s d := behindF_upd (cx := cx) Dem.boxes hd A (Gp := fun _ => True) (fun c1 c2 h => by congr 1; funext out g; exact h out g trivial) f (fun v K => by rw [hf, behind_eq]) (fun K => by rw [hf0, behind_eq]) T (fun _ _ _ hb => hb.elim)

theorem callE_upd {dst : Option Nat} {fn : Fn} {as : List AV} {s : St} {d : Nat} (hd : dst ≠ some d) (T : Nat → Option TI) : RunUpd (fun s k => callE cx dst fn as s k) T (fun a => cx.hint.keep = true ∧ ∃ u off, a = .ptr s.g.dp u off) dst s d := by
  cases hk : cx.hint.keep with
  | false => exact (behind_upd (cx := cx) hd (cx.E (.fn fn) as s.g) _ (fun v K => by simp only [callE, hk]; rfl) (fun K => by simp only [callE, hk]) T).weak fun a h => (by simp at h)
  | true =>
    cases hc : (Nat.ble 1 s.g.dp && AV.uptos (s.g.dp - 1) as && s.g.lp.all (fun r => Nat.blt r.dp s.g.dp)) with
    | false => exact RunUpd.fail (fun K => by simp only [callE, hk, hc]) (fun v K => by simp only [callE, hk]; rw [show (Nat.ble 1 (sU s d v).g.dp && AV.uptos ((sU s d v).g.dp - 1) as && (sU s d v).g.lp.all (fun r => Nat.blt r.dp (sU s d v).g.dp)) = false from hc])
    | true =>
      have e0 : ∀ K, callE cx dst fn as s (nrm K) = (fun c => cx.E (.fn fn) as (kG s.g) fun out g' => c out (kunG s.g g')) (behindF cx (demF (offD s.g.dp)) dst s (nrm K)) := fun K => by simp only [callE, hk, hc]
      have e1 : ∀ v K, callE cx dst fn as (sU s d v) (nrm K) = (fun c => cx.E (.fn fn) as (kG s.g) fun out g' => c out (kunG s.g g')) (behindF cx (demF (offD s.g.dp)) dst (sU s d v) (nrm K)) := fun v K => by
        simp only [callE, hk]
        rw [show (Nat.ble 1 (sU s d v).g.dp && AV.uptos ((sU s d v).g.dp - 1) as && (sU s d v).g.lp.all (fun r => Nat.blt r.dp (sU s d v).g.dp)) = true from hc]
        rfl
      refine behindF_upd (cx := cx) (φ := demF (offD s.g.dp)) (Dem.demF _) hd (fun c => cx.E (.fn fn) as (kG s.g) fun out g' => c out (kunG s.g g')) (Gp := fun g => ∃ g', g = kunG s.g g') (fun c1 c2 h => ?_) (fun s k => callE cx dst fn as s k) e1 e0 T ?_
      · show cx.E (.fn fn) as (kG s.g) _ = cx.E (.fn fn) as (kG s.g) _
        congr 1
        funext out g'
        exact h out _ ⟨g', rfl⟩
      · rintro _ ⟨g', rfl⟩ a ⟨_, u, off, rfl⟩
        exact ⟨rfl, fun t => loadA_demF T _ kun_eq t⟩

theorem callA_upd {eff : Bool} {dst : Option Nat} {f : AV} {args : List AV} {s : St} {d : Nat} (hd : dst ≠ some d) (T : Nat → Option TI) : RunUpd (fun s k => callA cx eff dst f args s k) T (fun a => eff = false ∨ (cx.hint.keep = true ∧ ∃ u off, a = .ptr s.g.dp u off)) dst s d := by
  cases f with
  | d x =>
    cases x with
    | fn fn caps =>
      cases hds : AV.datas args with
      | some ds =>
        cases hc : cx.C fn (ds ++ caps) with
        | none => exact RunUpd.fail (fun K => by simp [callA, hds, hc]) (fun v K => by simp [callA, hds, hc])
        | some out =>
          cases out with
          | ret rs =>
            refine (RunUpd.of_upd (F := putRes cx.nt dst rs) (T := T) (B := True) (fun s K => ?_) (fun _ h => putRes_dp h) (putRes_upd hd)).weak fun _ _ => trivial
            simp only [callA, hds, hc]
            cases putRes cx.nt dst rs s <;> rfl
          | pan x => exact RunUpd.fail (fun K => by simp [callA, hds, hc, nrm]) (fun v K => by simp [callA, hds, hc, nrm])
      | none =>
        cases eff with
        | false => exact RunUpd.fail (fun K => by simp [callA, hds]) (fun v K => by simp [callA, hds])
        | true => exact (RunUpd.congr (g := fun s k => callE cx dst fn (args.map ownData ++ caps.map .d) s k) (fun K => by simp [callA, hds]) (fun v K => by simp [callA, hds]) (callE_upd hd T)).weak (by simp)
    | _ => exact RunUpd.fail (fun K => by simp [callA]) (fun v K => by simp [callA])
  | fn fn caps =>
    cases eff with
    | false => exact RunUpd.fail (fun K => by simp [callA]) (fun v K => by simp [callA])
    | true => exact (RunUpd.congr (g := fun s k => callE cx dst fn (args.map ownData ++ caps) s k) (fun K => by simp [callA]) (fun v K => by simp [callA]) (callE_upd hd T)).weak (by simp)
  | yld l =>
    cases heff : (eff && !cx.hint.keep) with
    | false => exact RunUpd.fail (fun K => by simp [callA, heff]) (fun v K => by simp [callA, heff])
    | true =>
      simp only [Bool.and_eq_true, Bool.not_eq_true'] at heff
      exact (behind_upd (cx := cx) hd (cx.E (.yld l) (args.map ownData) s.g) _ (fun v K => by simp [callA, heff.1, heff.2]; rfl) (fun K => by simp [callA, heff.1, heff.2]) T).weak (by simp [heff.1, heff.2])
  | _ => exact RunUpd.fail (fun K => by simp [callA]) (fun v K => by simp [callA])

theorem goCall_ops {op : Op} {f : Operand} {args : List Operand} (h : goCall op = some (f, args)) : f ∈ op.operands.toList ∧ ∀ x ∈ args, x ∈ op.operands.toList := by
  unfold goCall at h
  split at h
  · rename_i c
    split at h
    · rename_i f' hcl
      simp only [Option.some.injEq, Prod.mk.injEq] at h
      obtain ⟨rfl, rfl⟩ := h
      refine ⟨by simp [Op.operands, Call.operands, hcl], fun x hx => ?_⟩
      simp [Op.operands, Call.operands]
      exact .inr (by simpa using hx)
    · cases h
  · cases h

theorem goCall_cls {op : Op} {x : Operand × List Operand} (h : goCall op = some x) : clsOp op = .call := by
  unfold goCall at h
  split at h
  · rename_i c
    split at h
    · rename_i f hcl
      simp [clsOp, hcl]
    · cases h
  · cases h

theorem cls_noCall {op : Op} (h : goCall op = none) : clsOp op ≠ .call := by
  intro hc
  cases op with
  | call c =>
    simp only [clsOp] at hc
    simp only [goCall] at h
    split at hc
    · rename_i f hf
      rw [hf] at h; cases h
    · split at hc
      · cases hc
      · split at hc <;> cases hc
  | _ => cases hc

/-- The loads that an operation leaves as they are. -/
def bxB (cx : Cx R) (eff : Bool) (o : Oper) (s : St) : AV → Prop := fun a => (keepsBx (clsOp o.op) = true ∧ eff = false) ∨ (cx.hint.keep = true ∧ clsOp o.op = .call ∧ ∃ u off, a = .ptr s.g.dp u off)

theorem runOp_upd {eff : Bool} {ops : Array Oper} {o : Oper} {s : St} {d : Nat} (hx : operFree ops o d) (hd : o.dst ≠ some d) : RunUpd (fun s k => runOp cx eff o s k) cx.T (bxB cx eff o s) o.dst s d := by
  cases hg : goCall o.op with
  | none =>
    refine (RunUpd.of_upd (F := stepOp cx.T cx.hint cx.nt o) (B := keepsBx (clsOp o.op) = true) (fun s K => ?_) (fun _ h => (stepOp_g h).1) (stepOp_upd hx.1 hd)).weak fun a h => h.elim (fun h => h.1) fun h => absurd h.2.1 (cls_noCall hg)
    simp only [runOp, hg]
    cases stepOp cx.T cx.hint cx.nt o s <;> rfl
  | some fa =>
    obtain ⟨f, args⟩ := fa
    obtain ⟨q1, q2⟩ := goCall_ops hg
    have e1 : ∀ v, ev (sU s d v).tm f = ev s.tm f := fun v => ev_upd (hx.1 f q1)
    have e2 : ∀ v, evs (sU s d v).tm args = evs s.tm args := fun v => evs_upd fun x h => hx.1 x (q2 x h)
    cases hf : ev s.tm f with
    | none => exact RunUpd.fail (fun K => by simp [runOp, hg, hf]) (fun v K => by simp [runOp, hg, e1, hf])
    | some fv =>
      cases ha : evs s.tm args with
      | none => exact RunUpd.fail (fun K => by simp [runOp, hg, hf, ha]) (fun v K => by simp [runOp, hg, e1, e2, hf, ha])
      | some as =>
        by_cases hn : as.all noTup = true
        · exact (RunUpd.congr (g := fun s k => callA cx eff o.dst fv as s k) (fun K => by simp only [runOp, hg, hf, ha, hn, if_true]) (fun v K => by simp only [runOp, hg, e1, e2, hf, ha, hn, if_true]) (callA_upd hd cx.T)).weak fun a h => h.imp (fun h => h.2) fun h => ⟨h.1, h.2.2⟩
        · exact RunUpd.fail (fun K => by simp only [runOp, hg, hf, ha]; rw [if_neg hn]) (fun v K => by simp only [runOp, hg, e1, e2, hf, ha]; rw [if_neg hn])

theorem putV_upd {T : Nat → Option TI} {nt : Nat} {dst : Option Nat} {x : AV} {s : St} {d : Nat} (hd : dst ≠ some d) : UpdOk T True (putV nt dst x) dst s d := by
  cases dst with
  | none =>
    refine ⟨_, DemIn.id _, fun v => rfl, fun s1 hs => ?_⟩
    simp only [putV, Option.some.injEq] at hs
    subst hs
    exact ⟨fun t _ => (map_id' _).symm, fun _ t a => loadA_id T _ t a⟩
  | some d' =>
    have hdd : d' ≠ d := fun e => hd (by rw [e])
    by_cases hlt : Nat.blt d' nt = true
    · refine ⟨_, DemIn.id _, fun v => ?_, fun s1 hs => ?_⟩
      · simp only [putV]
        rw [if_pos hlt, if_pos hlt]
        simp only [Option.map_some, sU]
        rw [upd_comm hdd] <;> rfl
      · simp only [putV] at hs
        rw [if_pos hlt] at hs
        simp only [Option.some.injEq] at hs
        subst hs
        refine ⟨fun t ht => ?_, fun _ t a => loadA_id T _ t a⟩
        rw [map_id']
        exact upd_ne (fun e => ht (by rw [e]))
    · exact UpdOk.fail (by simp only [putV]; rw [if_neg hlt]) (fun v => by simp only [putV]; rw [if_neg hlt])

theorem runG_upd {eff : Bool} {ops : Array Oper} {o : Oper} {s : St} {d : Nat} (hx : operFree ops o d) (hd : o.dst ≠ some d) : RunUpd (fun s k => runG cx eff ops o s k) cx.T (bxB cx eff o s) o.dst s d := by
  have skip : RunUpd (fun (s : St) (k : Ex → St → Option R) => match putV cx.nt o.dst (.tup []) s with
      | some s' => k .normal s'
      | none => none) cx.T (bxB cx eff o s) o.dst s d :=
    (RunUpd.of_upd (F := putV cx.nt o.dst (.tup [])) (B := True) (fun s K => by cases putV cx.nt o.dst (.tup []) s <;> rfl) (fun _ h => putV_dp h) (putV_upd hd)).weak fun _ _ => trivial
  cases hg : o.guard with
  | none => exact RunUpd.congr (fun K => by simp only [runG, hg]) (fun v K => by simp only [runG, hg]) (runOp_upd (cx := cx) (eff := eff) hx hd)
  | some gw =>
    obtain ⟨g, want⟩ := gw
    have hgv : ∀ v, guardV ops (sU s d v).tm g = guardV ops s.tm g := fun v => guardV_upd fun g0 hg0 => hx.2 g want g0 hg hg0
    cases hv : guardV ops s.tm g with
    | none => exact RunUpd.fail (fun K => by simp only [runG, hg, hv]) (fun v K => by simp only [runG, hg, hgv, hv])
    | some b =>
      cases b with
      | none => exact RunUpd.congr (fun K => by (simp only [runG, hg, hv]) <;> rfl) (fun v K => by (simp only [runG, hg, hgv, hv]) <;> rfl) skip
      | some b =>
        by_cases hb : (b == want) = true
        · exact RunUpd.congr (fun K => by simp only [runG, hg, hv, hb, if_true]) (fun v K => by simp only [runG, hg, hgv, hv, hb, if_true]) (runOp_upd (cx := cx) (eff := eff) hx hd)
        · exact RunUpd.congr (fun K => by simp only [runG, hg, hv]; (rw [if_neg hb]) <;> rfl) (fun v K => by simp only [runG, hg, hgv, hv]; (rw [if_neg hb]) <;> rfl) skip

/-! ### Readers -/
def isReader : Cl → Bool
  | .pure | .load => true
  | _ => false

def rdV (T : Nat → Option TI) (tm : Nat → Option AV) (bx : Nat → Nat → Option Box) : Op → Option AV
  | .load t p => match ev tm p with
    | some a => loadA T bx t a
    | none => none
  | op => opP T (ev tm) op

def valR (T : Nat → Option TI) (ops : Array Oper) (o : Oper) (s : St) : Option AV := match o.guard with
  | none => rdV T s.tm s.g.bx o.op
  | some (g, want) => match guardV ops s.tm g with
    | some (some b) => if b == want then rdV T s.tm s.g.bx o.op else some (.tup [])
    | some none => some (.tup [])
    | none => none

theorem reader_step {T : Nat → Option TI} {hint : Hint} {nt : Nat} {o : Oper} {d : Nat} (hc : isReader (clsOp o.op) = true) (hd : o.dst = some d) (s : St) : stepOp T hint nt o s = if Nat.blt d nt then (match rdV T s.tm s.g.bx o.op with
    | some v => some (sU s d v)
    | none => none) else none := by
  obtain ⟨dst, op, type, pos, aft, guard⟩ := o
  simp only at hc hd
  subst hd
  by_cases hlt : Nat.blt d nt = true
  case neg => rw [if_neg hlt]; simp only [stepOp]; rw [if_neg hlt]
  rw [if_pos hlt]
  cases op with
  | load t p =>
    simp only [stepOp, hlt, if_true, rdV]
    cases ev s.tm p with
    | none => rfl
    | some a => rfl
  | call c =>
    simp only [stepOp, hlt, if_true, rdV, opP]
    have hna : isAppend c.callee = false := by
      cases hcl : c.callee with
      | builtin b => cases b <;> simp_all [clsOp, isReader, isLen, isAppend]
      | _ => rfl
    simp only [callB, hna]
    rfl
  | alloc t => simp [clsOp, isReader] at hc
  | buildSlice t n ps => simp [clsOp, isReader] at hc
  | box t x => simp [clsOp, isReader] at hc
  | makeFunc f a b => simp [clsOp, isReader] at hc
  | _ => (simp only [stepOp, hlt, if_true, rdV]) <;> rfl

theorem reader_noCall {op : Op} (hc : isReader (clsOp op) = true) : goCall op = none := by
  cases h : goCall op with
  | none => rfl
  | some x => rw [goCall_cls h] at hc; cases hc

theorem reader_run {eff : Bool} {ops : Array Oper} {o : Oper} {d : Nat} (hc : isReader (clsOp o.op) = true) (hd : o.dst = some d) (s : St) (K : St → Option R) : runG cx eff ops o s (nrm K) = if Nat.blt d cx.nt then (match valR cx.T ops o s with
    | some v => K (sU s d v)
    | none => none) else none := by
  have hop : ∀ s, runOp cx eff o s (nrm K) = if Nat.blt d cx.nt then (match rdV cx.T s.tm s.g.bx o.op with
    | some v => K (sU s d v)
    | none => none) else none := by
    intro s
    simp only [runOp, reader_noCall hc]
    rw [reader_step hc hd]
    by_cases hlt : Nat.blt d cx.nt = true
    · rw [if_pos hlt, if_pos hlt]
      cases rdV cx.T s.tm s.g.bx o.op <;> rfl
    · rw [if_neg hlt, if_neg hlt]
  have hskip : (match putV cx.nt o.dst (.tup []) s with
      | some s' => nrm K .normal s'
      | none => none) = if Nat.blt d cx.nt then K (sU s d (.tup [])) else none := by
    rw [hd]
    simp only [putV]
    by_cases hlt : Nat.blt d cx.nt = true
    · rw [if_pos hlt, if_pos hlt]; rfl
    · rw [if_neg hlt, if_neg hlt]
  unfold runG valR
  cases hg : o.guard with
  | none => exact hop s
  | some gw =>
    obtain ⟨g, want⟩ := gw
    simp only
    cases hv : guardV ops s.tm g with
    | none => simp only; split <;> rfl
    | some b =>
      cases b with
      | none => exact hskip
      | some b =>
        simp only
        by_cases hb : (b == want) = true
        · rw [if_pos hb, if_pos hb]; exact hop s
        · rw [if_neg hb, if_neg hb]; exact hskip

/-- What a reader yields, seen through a demotion. -/
theorem valR_dem {T : Nat → Option TI} {p : Pz} {ops : Array Oper} {o : Oper} {s s1 : St} (htm : ∀ t, t ∈ o.looksAt ops → s1.tm t = (s.tm t).map (demP p)) (hbx : clsOp o.op = .load → ∀ t a, (∃ q, o.op = .load t q ∧ ev s.tm q = some a) → loadA T s1.g.bx t (demP p a) = (loadA T s.g.bx t a).map (demP p)) :
    valR T ops o s1 = (valR T ops o s).map (demP p) := by
  have hev : ∀ x ∈ o.op.operands.toList, ev s1.tm x = (ev s.tm x).map (demP p) := fun x hx => ev_dem fun t e => htm t (by
    subst e
    exact List.mem_append_left _ (List.mem_filterMap.2 ⟨.tmp t, hx, rfl⟩))
  have hrd : rdV T s1.tm s1.g.bx o.op = (rdV T s.tm s.g.bx o.op).map (demP p) := by
    by_cases hl : clsOp o.op = .load
    · cases hop : o.op with
      | load t q =>
        simp only [rdV]
        rw [hev q (by rw [hop]; simp [Op.operands])]
        cases hq : ev s.tm q with
        | none => rfl
        | some a =>
          simp only [Option.map_some]
          exact hbx hl t a ⟨q, hop, hq⟩
      | call c =>
        rw [hop] at hl
        simp only [clsOp] at hl
        repeat' (split at hl <;> try (cases hl; done))
        all_goals cases hl
      | _ => rw [hop] at hl; cases hl
    · have : ∀ s : St, rdV T s.tm s.g.bx o.op = opP T (ev s.tm) o.op := by
        intro s
        cases hop : o.op with
        | load t q => rw [hop] at hl; exact absurd rfl hl
        | _ => rfl
      rw [this, this]
      exact opP_dem hev
  unfold valR
  cases hg : o.guard with
  | none => exact hrd
  | some gw =>
    obtain ⟨g, want⟩ := gw
    simp only
    rw [guardV_dem (p := p) (tm := s.tm) fun g0 t hg0 ht => htm t (List.mem_append_right _ (by simp [hg, hg0, ht]))]
    cases guardV ops s.tm g with
    | none => rfl
    | some b =>
      cases b with
      | none => simp [demP, demPs]
      | some b =>
        simp only
        split
        · exact hrd
        · simp [demP, demPs]

/-- A reader and an operation change places. -/
theorem swap_reader {eff eff' : Bool} {ops : Array Oper} {p o : Oper} {d : Nat} (hc : isReader (clsOp o.op) = true) (hd : o.dst = some d) (hap : Oper.apart ops p o = true) (s : St) (hl : ∀ t q a, o.op = .load t q → ev s.tm q = some a → bxB cx eff p s a) (K : St → Option R) {v : AV} (hv : valR cx.T ops o s = some v) (hlt : Nat.blt d cx.nt = true) : runG cx eff ops p (sU s d v) (nrm K) = runG cx eff ops p s (nrm fun s1 => runG cx eff' ops o s1 (nrm K)) := by
  obtain ⟨a1, a2, a3⟩ := Oper.apart_spec hap
  obtain ⟨φ, h1, h2, h3⟩ := runG_upd (cx := cx) (eff := eff) (s := s) (operFree_of (a3 d hd)) (fun e => a2 d e hd)
  have h2' := h2 v K
  simp only at h2'
  rw [h2']
  refine h3 _ _ fun s1 q1 q2 => ?_
  rw [reader_run hc hd, if_pos hlt]
  obtain ⟨p', rfl⟩ := h1
  rw [valR_dem (p := p') (s := s) (fun t ht => q1 t (fun e => a1 t e ht)) (fun hll t a ha => by obtain ⟨q, hq1, hq2⟩ := ha; exact (q2 a (hl t q a hq1 hq2)).2 t), hv]
  rfl
end
end Go.Abs
