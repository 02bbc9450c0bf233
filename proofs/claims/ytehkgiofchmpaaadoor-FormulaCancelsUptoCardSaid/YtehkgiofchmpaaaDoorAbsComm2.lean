/- Steps that may change places: a temporary that a step does not look at. -/
import Derived.Test.YtehkgiofchmpaaaDoorAbsComm
namespace Go.Abs
open Go
set_option linter.unusedVariables false
set_option linter.unusedSimpArgs false
set_option linter.unnecessarySimpa false

def sU (s : St) (d : Nat) (v : AV) : St := { tm := upd s.tm d (some v), fr := s.fr, g := s.g }

theorem upd_comm {tm : Nat → Option AV} {a b : Nat} {x y : Option AV} (h : a ≠ b) : upd (upd tm a x) b y = upd (upd tm b y) a x := by
  funext t
  unfold upd
  by_cases h1 : t = a
  · subst h1
    rw [if_neg (by simpa using h), if_pos (by simp), if_pos (by simp)]
  · by_cases h2 : t = b
    · subst h2
      rw [if_pos (by simp), if_neg (by simpa using h1), if_pos (by simp)]
    · rw [if_neg (by simpa using h2), if_neg (by simpa using h1), if_neg (by simpa using h1), if_neg (by simpa using h2)]

theorem upd_ne {tm : Nat → Option AV} {d t : Nat} {v : Option AV} (h : t ≠ d) : upd tm d v t = tm t := by
  unfold upd; rw [if_neg (by simpa using h)]
theorem upd_same {tm : Nat → Option AV} {d : Nat} {v : Option AV} : upd tm d v d = v := by
  unfold upd; rw [if_pos (by simp)]

theorem ev_upd {tm : Nat → Option AV} {d : Nat} {v : Option AV} {x : Operand} (h : x ≠ .tmp d) : ev (upd tm d v) x = ev tm x := by
  cases x with
  | tmp t =>
    simp only [ev]
    exact upd_ne (fun e => h (by rw [e]))
  | _ => rfl

theorem evs_upd {tm : Nat → Option AV} {d : Nat} {v : Option AV} : ∀ {xs : List Operand}, (∀ x ∈ xs, x ≠ .tmp d) → evs (upd tm d v) xs = evs tm xs
  | [], _ => rfl
  | x :: xs, h => by
    simp only [evs]
    rw [ev_upd (h x (by simp)), evs_upd fun y hy => h y (by simp [hy])]

theorem opP_congr {T : Nat → Option TI} {E E' : Operand → Option AV} {op : Op} (h : ∀ x ∈ op.operands.toList, E' x = E x) : opP T E' op = opP T E op := by
  have := opP_dem (T := T) (p := Pz.of fun _ => false) (E := E) (E' := E') (op := op) (fun x hx => by
    rw [h x hx]
    cases E x with
    | none => rfl
    | some a => simp [demP_none])
  rw [this]
  cases opP T E op with
  | none => rfl
  | some a => simp [demP_none]

theorem demSt_sU (i : Id) (s : St) (d : Nat) (v : AV) : demSt i (sU s d v) = sU (demSt i s) d (dem i v) := by
  unfold demSt sU
  congr 1
  funext t
  simp only [demTm, upd]
  by_cases h : Nat.beq t d = true
  · rw [if_pos h, if_pos h]
  · rw [if_neg h, if_neg h]

theorem renSt_sU (i nm : Id) (s : St) (d : Nat) (v : AV) : renSt i nm (sU s d v) = sU (renSt i nm s) d (renA i nm v) := by
  unfold renSt sU
  congr 1
  funext t
  simp only [renTm, upd]
  cases h : Nat.beq t d <;> simp

def doφ (nm : Id) : AV → AV → AV
  | .own i _ _, v => dem nm (dem i v)
  | .raw _ _ i _ _, v => renA i nm (dem nm v)
  | _, v => dem nm v

theorem letIn_sU (nm : Id) (a : AV) (s : St) (d : Nat) (v : AV) : letIn nm a (sU s d v) = sU (letIn nm a s) d (doφ nm a v) := by
  cases a with
  | own i z es => show demSt nm (demSt i (sU s d v)) = _; rw [demSt_sU, demSt_sU]; rfl
  | raw o k i z es => show renSt i nm (demSt nm (sU s d v)) = _; rw [demSt_sU, renSt_sU]; rfl
  | _ => exact demSt_sU _ _ _ _

theorem demTm_get (i : Id) (tm : Nat → Option AV) (t : Nat) : demTm i tm t = (tm t).map (dem i) := by
  unfold demTm; cases tm t <;> rfl
theorem renTm_get (i nm : Id) (tm : Nat → Option AV) (t : Nat) : renTm i nm tm t = (tm t).map (renA i nm) := by
  unfold renTm; cases tm t <;> rfl

theorem letIn_get (nm : Id) (a : AV) (s : St) (t : Nat) : (letIn nm a s).tm t = (s.tm t).map (doφ nm a) := by
  cases a with
  | own i sz es => show demTm nm (demTm i s.tm) t = _; rw [demTm_get, demTm_get, Option.map_map]; rfl
  | raw o k i sz es => show renTm i nm (demTm nm s.tm) t = _; rw [renTm_get, demTm_get, Option.map_map]; rfl
  | _ => exact demTm_get nm s.tm t

/-- A demotion of rows that boxes or temporaries of this state bear. -/
def DemIn (s : St) (φ : AV → AV) : Prop := ∃ p : Pz, φ = demP p ∧ ∀ i, (p.p i = true ∨ p.g i ≠ i) → IsBox i ∨ ∃ t a, s.tm t = some a ∧ ownId a = some i

theorem DemIn.all {s : St} {φ : AV → AV} (h : DemIn s φ) : Dem φ := by obtain ⟨p, h, _⟩ := h; exact ⟨p, h⟩
theorem DemIn.id (s : St) : DemIn s (fun a => a) := ⟨Pz.of fun _ => false, funext fun a => (demP_none a).symm, fun i h => by rcases h with h | h <;> simp [Pz.of] at h⟩
theorem DemIn.dem {s : St} {i : Id} (h : IsBox i ∨ ∃ t a, s.tm t = some a ∧ ownId a = some i) : DemIn s (Abs.dem i) :=
  ⟨_, funext (dem_eq i), fun j hj => by simp [Pz.of] at hj; subst hj; exact h⟩
theorem DemIn.setRaw (s : St) (i : Id) (n sz : Nat) (c : List D) : DemIn s (Abs.setRaw i n sz c) :=
  ⟨_, funext (setRaw_eq i n sz c), fun j hj => by rcases hj with hj | hj <;> simp [Pz.set] at hj⟩
theorem DemIn.ren {s : St} {i nm : Id} (h : IsBox i ∨ ∃ t a, s.tm t = some a ∧ ownId a = some i) : DemIn s (Abs.renA i nm) :=
  ⟨_, funext (renA_eq i nm), fun j hj => by
    rcases hj with hj | hj
    · cases hj
    · simp only [Pz.ren] at hj
      split at hj
      · rename_i e; subst e; exact h
      · exact absurd rfl hj⟩
theorem DemIn.comp {s : St} {φ ψ : AV → AV} (h : DemIn s φ) (k : DemIn s ψ) : DemIn s (fun a => φ (ψ a)) := by
  obtain ⟨p, rfl, h⟩ := h
  obtain ⟨q, rfl, k⟩ := k
  refine ⟨_, funext (demP_comp p q), fun i hi => ?_⟩
  simp only [Pz.comp, Bool.or_eq_true] at hi
  by_cases hg : q.g i = i
  · rw [hg] at hi
    rcases hi with (hi | hi) | hi
    · exact k i (.inl hi)
    · exact h i (.inl hi)
    · exact h i (.inr hi)
  · exact k i (.inr hg)

theorem ev_own {tm : Nat → Option AV} {x : Operand} {a : AV} {i : Id} (h : ev tm x = some a) (ha : ownId a = some i) : ∃ t a, tm t = some a ∧ ownId a = some i := by
  cases x with
  | tmp t => exact ⟨t, a, h, ha⟩
  | const v =>
    simp only [ev] at h
    obtain ⟨x, rfl⟩ := cv_d h
    simp [ownId] at ha
  | func f => simp [ev] at h; subst h; simp [ownId] at ha
  | global g => simp [ev] at h

theorem DemIn.doφ {s : St} {nm : Id} (hn : IsBox nm) {x : Operand} {a : AV} (h : ev s.tm x = some a) : DemIn s (Abs.doφ nm a) := by
  cases a with
  | own i z es => exact (DemIn.dem (.inl hn)).comp (DemIn.dem (.inr (ev_own h rfl)))
  | raw o k i z es => exact (DemIn.ren (.inr (ev_own h rfl))).comp (DemIn.dem (.inl hn))
  | _ => exact DemIn.dem (.inl hn)

theorem ownId_dem {i j : Id} {a : AV} (h : ownId (Abs.dem i a) = some j) : ownId a = some j := by
  cases a with
  | own k z es =>
    simp only [Abs.dem] at h
    split at h
    · simp [ownId] at h
    · exact h
  | raw o k l z es =>
    simp only [Abs.dem] at h
    split at h
    · simp [ownId] at h
    · exact h
  | tup xs => simp [Abs.dem, ownId] at h
  | _ => simpa only [Abs.dem] using h

theorem DemIn.of_dem {s : St} {i : Id} {φ : AV → AV} (h : DemIn (demSt i s) φ) : DemIn s φ := by
  obtain ⟨p, rfl, h⟩ := h
  refine ⟨p, rfl, fun j hj => ?_⟩
  rcases h j hj with h | ⟨t, a, ht, ha⟩
  · exact .inl h
  · right
    obtain ⟨u, hu, he⟩ := demTm_some ht
    subst he
    exact ⟨t, u, hu, ownId_dem ha⟩

/-- A step and a temporary that it neither looks at nor writes. -/
def UpdOk (T : Nat → Option TI) (B : Prop) (f : St → Option St) (dst : Option Nat) (s : St) (d : Nat) : Prop :=
  ∃ φ, DemIn s φ ∧ (∀ v, f (sU s d v) = (f s).map fun s1 => sU s1 d (φ v)) ∧ ∀ s1, f s = some s1 → (∀ t, dst ≠ some t → s1.tm t = (s.tm t).map φ) ∧ (B → ∀ t a, loadA T s1.g.bx t (φ a) = (loadA T s.g.bx t a).map φ)

theorem datas_dem (i : Id) : ∀ as : List AV, AV.datas (dems i as) = AV.datas as
  | [] => rfl
  | a :: as => by
    simp only [dems, AV.datas]
    rw [dem_eq, data_dem, datas_dem i as]

theorem dems_drop (i : Id) : ∀ (as : List AV) (k : Nat), (dems i as).drop k = dems i (as.drop k)
  | [], k => by simp [dems]
  | a :: as, k => by
    cases k with
    | zero => rfl
    | succ k => simpa [dems] using dems_drop i as k

theorem dems_take (i : Id) : ∀ (as : List AV) (k : Nat), (dems i as).take k = dems i (as.take k)
  | [], k => by simp [dems]
  | a :: as, k => by
    cases k with
    | zero => simp [dems]
    | succ k => simpa [dems] using dems_take i as k

theorem loadA_dem (T : Nat → Option TI) (i : Id) (bx : Nat → Nat → Option Box) (t : Nat) (a : AV) : loadA T (demBx i bx) t (dem i a) = (loadA T bx t a).map (dem i) := by
  unfold loadA
  cases T t with
  | none => rfl
  | some ti =>
    simp only
    cases a with
    | ptr d u off =>
      simp only [dem]
      unfold demBx
      cases bx d u with
      | none => rfl
      | some b =>
        simp only
        cases ti.agg with
        | true =>
          simp only
          rw [dems_drop, dems_take, datas_dem]
          cases AV.datas ((b.cells.drop off).take ti.size) with
          | none => rfl
          | some cs => simp only; split <;> simp [dem]
        | false => simp only; exact dems_get i b.cells off
    | own j sz es =>
      by_cases h : i = j
      · simp only [dem, if_pos h]; rfl
      · simp only [dem, if_neg h]; rfl
    | raw o k j sz es =>
      by_cases h : i = j
      · simp only [dem, if_pos h]; rfl
      · simp only [dem, if_neg h]; rfl
    | d x =>
      simp only [dem]
      cases x with
      | «at» cs =>
        simp only
        cases ti.agg with
        | true => simp only; split <;> simp [dem]
        | false => simp only; cases cs[0]? <;> simp [dem]
      | _ => rfl
    | tup xs => simp [dem]
    | _ => rfl

theorem datas_demF (f : Nat → Bool) : ∀ as, AV.datas (demFs f as) = AV.datas as
  | [] => rfl
  | a :: as => by
    simp only [demFs, AV.datas]
    rw [demF_eq, data_dem, datas_demF f as]

theorem demFs_drop (f : Nat → Bool) : ∀ (as : List AV) (k : Nat), (demFs f as).drop k = demFs f (as.drop k)
  | [], k => by simp [demFs]
  | a :: as, k => by
    cases k with
    | zero => rfl
    | succ k => simpa [demFs] using demFs_drop f as k

theorem demFs_take (f : Nat → Bool) : ∀ (as : List AV) (k : Nat), (demFs f as).take k = demFs f (as.take k)
  | [], k => by simp [demFs]
  | a :: as, k => by
    cases k with
    | zero => simp [demFs]
    | succ k => simpa [demFs] using demFs_take f as k

theorem loadA_demF (T : Nat → Option TI) (f : Nat → Bool) {bx bx' : Nat → Nat → Option Box} {d u off : Nat} (hb : bx' d u = mapBx (demFs f) (bx d u)) (t : Nat) : loadA T bx' t (demF f (.ptr d u off)) = (loadA T bx t (.ptr d u off)).map (demF f) := by
  simp only [demF]
  unfold loadA
  cases T t with
  | none => rfl
  | some ti =>
    simp only
    rw [hb]
    cases bx d u with
    | none => rfl
    | some b =>
      simp only [mapBx]
      cases ti.agg with
      | true =>
        simp only
        rw [demFs_drop, demFs_take, datas_demF]
        cases AV.datas ((b.cells.drop off).take ti.size) with
        | none => rfl
        | some cs => simp only; split <;> simp [demF]
      | false => simp only; exact demFs_get f b.cells off

theorem UpdOk.fail {T : Nat → Option TI} {B : Prop} {f : St → Option St} {dst : Option Nat} {s : St} {d : Nat} (h0 : f s = none) (h : ∀ v, f (sU s d v) = none) : UpdOk T B f dst s d :=
  ⟨_, DemIn.id _, fun v => by rw [h, h0]; rfl, fun s1 hs => by rw [h0] at hs; cases hs⟩

theorem loadA_id (T : Nat → Option TI) (bx : Nat → Nat → Option Box) (t : Nat) (a : AV) : loadA T bx t a = (loadA T bx t a).map (fun a => a) := by cases loadA T bx t a <;> rfl

theorem map_id' (x : Option AV) : x.map (fun a => a) = x := by cases x <;> rfl

section
variable {T : Nat → Option TI}

theorem allocA_upd {dst t : Nat} {s : St} {d : Nat} (hd : dst ≠ d) : UpdOk T False (allocA T dst t) (some dst) s d := by
  cases hT : T t with
  | none => exact UpdOk.fail (by simp [allocA, hT]) (fun v => by simp [allocA, hT])
  | some ti =>
    cases hb : s.g.bx s.g.dp dst with
    | some b => exact UpdOk.fail (by simp [allocA, hT, hb]) (fun v => by simp [allocA, hT, sU, hb])
    | none =>
      refine ⟨_, DemIn.id _, fun v => ?_, fun s1 hs => ⟨fun t' ht => ?_, fun hB => ?_⟩⟩
      · simp only [allocA, hT, hb, sU, Option.map_some]
        rw [upd_comm hd] <;> rfl
      · simp only [allocA, hT, hb, Option.some.injEq] at hs
        subst hs
        rw [map_id']
        exact upd_ne (fun e => ht (by rw [e]))
      · exact hB.elim

theorem boxA_upd {dst t : Nat} {x : Operand} {s : St} {d : Nat} (hd : dst ≠ d) (hx : x ≠ .tmp d) : UpdOk T False (boxA T dst t x) (some dst) s d := by
  cases hT : T t with
  | none => exact UpdOk.fail (by simp [boxA, hT]) (fun v => by simp [boxA, hT])
  | some ti =>
    cases hb : s.g.bx s.g.dp dst with
    | some b => exact UpdOk.fail (by simp [boxA, hT, hb]) (fun v => by simp [boxA, hT, sU, hb])
    | none =>
      cases he : ev s.tm x with
      | none => exact UpdOk.fail (by simp [boxA, hT, hb, he]) (fun v => by simp [boxA, hT, sU, hb, ev_upd hx, he])
      | some a =>
        cases hc : boxCells ti (.box s.g.dp dst 0) a with
        | none => exact UpdOk.fail (by simp [boxA, hT, hb, he, hc]) (fun v => by simp [boxA, hT, sU, hb, ev_upd hx, he, hc])
        | some cs =>
          refine ⟨_, DemIn.doφ (nm := .box s.g.dp dst 0) trivial he, fun v => ?_, fun s1 hs => ⟨fun t' ht => ?_, fun hB => ?_⟩⟩
          · have h1 : letIn (.box s.g.dp dst 0) a (sU s d v) = sU (letIn (.box s.g.dp dst 0) a s) d (doφ (.box s.g.dp dst 0) a v) := letIn_sU _ _ _ _ _
            have hb' : (sU s d v).g.bx (sU s d v).g.dp dst = none := hb
            have he' : ev (sU s d v).tm x = some a := by show ev (upd s.tm d (some v)) x = _; rw [ev_upd hx, he]
            have hc' : boxCells ti (.box (sU s d v).g.dp dst 0) a = some cs := hc
            simp only [boxA, hT, hb, he, hc, hb', he', hc']
            have h1' : letIn (.box (sU s d v).g.dp dst 0) a (sU s d v) = sU (letIn (.box s.g.dp dst 0) a s) d (doφ (.box s.g.dp dst 0) a v) := h1
            rw [h1']
            simp only [sU, Option.map_some]
            rw [upd_comm hd] <;> rfl
          · simp only [boxA, hT, hb, he, hc, Option.some.injEq] at hs
            subst hs
            show upd _ dst _ t' = _
            rw [upd_ne (fun e => ht (by rw [e]))]
            exact letIn_get _ _ _ _
          · exact hB.elim

/-- A step whose course hangs on what it looks at alone. -/
theorem UpdOk.congr {B : Prop} {f g : St → Option St} {dst : Option Nat} {s : St} {d : Nat} (h0 : f s = g s) (h : ∀ v, f (sU s d v) = g (sU s d v)) (hg : UpdOk T B g dst s d) : UpdOk T B f dst s d := by
  obtain ⟨φ, h1, h2, h3⟩ := hg
  exact ⟨φ, h1, fun v => by rw [h, h2, h0], fun s1 hs => h3 s1 (by rw [← h0]; exact hs)⟩

theorem setSt_sU (i : Id) (n sz : Nat) (c : List D) (s : St) (d : Nat) (v : AV) : setSt i n sz c (sU s d v) = sU (setSt i n sz c s) d (setRaw i n sz c v) := by
  unfold setSt sU
  congr 1
  funext t
  simp only [setTm, upd]
  cases h : Nat.beq t d <;> simp

theorem storeA_upd {t : Nat} {q x : Operand} {s : St} {d : Nat} (hq : q ≠ .tmp d) (hx : x ≠ .tmp d) : UpdOk T False (storeA T t q x) none s d := by
  cases hT : T t with
  | none => exact UpdOk.fail (by simp [storeA, hT]) (fun v => by simp [storeA, hT])
  | some ti =>
    have hq' : ∀ v, ev (sU s d v).tm q = ev s.tm q := fun v => ev_upd hq
    have hx' : ∀ v, ev (sU s d v).tm x = ev s.tm x := fun v => ev_upd hx
    cases hp : ev s.tm q with
    | none => exact UpdOk.fail (by simp [storeA, hT, hp]) (fun v => by simp [storeA, hT, hq', hp])
    | some pv =>
      cases he : ev s.tm x with
      | none => exact UpdOk.fail (by simp [storeA, hT, hp, he]) (fun v => by simp [storeA, hT, hq', hx', hp, he])
      | some a =>
        cases pv with
        | ptr b u off =>
          have e0 : ∀ s, ev s.tm q = some (.ptr b u off) → ev s.tm x = some a → storeA T t q x s = storeB ti b u off a s := fun s h1 h2 => by simp only [storeA, hT, h1, h2]
          refine UpdOk.congr (g := storeB ti b u off a) (e0 s hp he) (fun v => e0 _ (by rw [hq', hp]) (by rw [hx', he])) ?_
          cases hc : boxCells ti (.box b u off) a with
          | none => exact UpdOk.fail (by simp [storeB, hc]) (fun v => by simp [storeB, hc])
          | some cs =>
            refine ⟨_, DemIn.doφ (nm := .box b u off) trivial he, fun v => ?_, fun s1 hs => ⟨fun t' ht => ?_, fun hB => ?_⟩⟩
            · have h1 : letIn (.box b u off) a (sU s d v) = sU (letIn (.box b u off) a s) d (doφ (.box b u off) a v) := letIn_sU _ _ _ _ _
              simp only [storeB, hc]
              rw [h1]
              have hg : (sU (letIn (.box b u off) a s) d (doφ (.box b u off) a v)).g = (letIn (.box b u off) a s).g := rfl
              rw [hg]
              have hdp : (sU s d v).g.dp = s.g.dp := rfl
              rw [hdp]
              cases (letIn (.box b u off) a s).g.bx b u with
              | none => rfl
              | some bo =>
                simp only
                split <;> rfl
            · simp only [storeB, hc] at hs
              cases hb : (letIn (.box b u off) a s).g.bx b u with
              | none => simp [hb] at hs
              | some bo =>
                simp only [hb] at hs
                split at hs
                · simp only [Option.some.injEq] at hs
                  subst hs
                  exact letIn_get _ _ _ _
                · cases hs
            · exact hB.elim
        | raw o k i z es =>
          cases o with
          | none => exact UpdOk.fail (by simp [storeA, hT, hp, he]) (fun v => by simp [storeA, hT, hq', hx', hp, he])
          | some n =>
            have e0 : ∀ s, ev s.tm q = some (.raw (some n) k i z es) → ev s.tm x = some a → storeA T t q x s = storeR ti n k i z es a s := fun s h1 h2 => by simp only [storeA, hT, h1, h2]
            refine UpdOk.congr (g := storeR ti n k i z es a) (e0 s hp he) (fun v => e0 _ (by rw [hq', hp]) (by rw [hx', he])) ?_
            cases hc : rowCells ti a with
            | none => exact UpdOk.fail (by simp [storeR, hc]) (fun v => by simp [storeR, hc])
            | some cs =>
              by_cases hcond : (Nat.beq z ti.size && Nat.ble 1 z && (Nat.ble k n && Nat.blt n es.length)) = true
              · refine ⟨_, DemIn.setRaw s i n z cs, fun v => ?_, fun s1 hs => ⟨fun t' ht => ?_, fun hB => hB.elim⟩⟩
                · simp only [storeR, hc, hcond, if_true, Option.map_some]
                  rw [setSt_sU]
                · simp only [storeR, hc, hcond, if_true, Option.some.injEq] at hs
                  subst hs
                  show setTm _ _ _ _ _ _ = _
                  unfold setTm
                  cases s.tm t' <;> rfl
              · exact UpdOk.fail (by simp only [storeR, hc]; rw [if_neg hcond]) (fun v => by simp only [storeR, hc]; rw [if_neg hcond])
        | _ => exact UpdOk.fail (by simp [storeA, hT, hp, he]) (fun v => by simp [storeA, hT, hq', hx', hp, he])

theorem putOwn_upd {k : Option Nat} {dst sz : Nat} {es : List (List D)} {s : St} {d : Nat} (hd : dst ≠ d) : UpdOk T True (putOwn k dst sz es) (some dst) s d := by
  cases hf : s.fr dst with
  | true => exact UpdOk.fail (by simp [putOwn, hf]) (fun v => by simp [putOwn, sU, hf])
  | false =>
    refine ⟨_, DemIn.id _, fun v => ?_, fun s1 hs => ⟨fun t' ht => ?_, fun hB => ?_⟩⟩
    · have hf' : (sU s d v).fr dst = false := hf
      simp only [putOwn, hf, hf', Bool.false_eq_true, if_false, Option.map_some, sU]
      rw [upd_comm hd] <;> rfl
    · simp only [putOwn, hf, Bool.false_eq_true, if_false, Option.some.injEq] at hs
      subst hs
      rw [map_id']
      exact upd_ne (fun e => ht (by rw [e]))
    · simp only [putOwn, hf, Bool.false_eq_true, if_false, Option.some.injEq] at hs
      subst hs
      intro t a; exact loadA_id T _ t a

theorem buildSliceA_upd {dst t n : Nat} {parts : List (Nat × Operand)} {s : St} {d : Nat} (hd : dst ≠ d) (hx : ∀ q ∈ parts, q.2 ≠ .tmp d) : UpdOk T True (buildSliceA T dst t n parts) (some dst) s d := by
  cases hT : T t with
  | none => exact UpdOk.fail (by simp [buildSliceA, hT]) (fun v => by simp [buildSliceA, hT])
  | some ti =>
    by_cases hk : ti.kind = 2
    · cases hTe : T ti.elem with
      | none => exact UpdOk.fail (by simp [buildSliceA, hT, hk, hTe]) (fun v => by simp [buildSliceA, hT, hk, hTe])
      | some te =>
        have hpc : ∀ v, partCells te.size (ev (sU s d v).tm) parts (List.replicate n te.zero) = partCells te.size (ev s.tm) parts (List.replicate n te.zero) := fun v =>
          partCells_dem (p := Pz.of fun _ => false) (fun q hq => by
            show ev (upd s.tm d (some v)) q.2 = _
            rw [ev_upd (hx q hq)]
            cases ev s.tm q.2 <;> simp [demP_none])
        cases hp : partCells te.size (ev s.tm) parts (List.replicate n te.zero) with
        | none => exact UpdOk.fail (by simp [buildSliceA, hT, hk, hTe, hp]) (fun v => by simp only [buildSliceA, hT, hk, hTe, hpc, hp])
        | some es =>
          by_cases hc : (Nat.ble (n * te.size) 16777216 && Nat.ble 1 te.size) = true
          · exact UpdOk.congr (g := putOwn none dst te.size (es.map (nrmC te.sls))) (by simp only [buildSliceA, hT, hk, hTe, hp, hc, if_true]) (fun v => by simp only [buildSliceA, hT, hk, hTe, hpc, hp, hc, if_true]) (putOwn_upd hd)
          · exact UpdOk.fail (by simp only [buildSliceA, hT, hk, hTe, hp]; rw [if_neg hc]) (fun v => by simp only [buildSliceA, hT, hk, hTe, hpc, hp]; rw [if_neg hc])
    · refine UpdOk.fail ?_ (fun v => ?_)
      · simp only [buildSliceA, hT]
        split
        · rename_i h _; exact absurd h hk
        · rfl
      · simp only [buildSliceA, hT]
        split
        · rename_i h _; exact absurd h hk
        · rfl

/-- A row is let go first. -/
theorem UpdOk.after_dem {B : Prop} {f : St → Option St} {dst : Option Nat} {s : St} {d : Nat} (i : Id) (hi : ∃ t a, s.tm t = some a ∧ ownId a = some i) (h : UpdOk T B f dst (demSt i s) d) : UpdOk T B (fun s => f (demSt i s)) dst s d := by
  obtain ⟨φ, h1, h2, h3⟩ := h
  refine ⟨fun a => φ (dem i a), h1.of_dem.comp (DemIn.dem (.inr hi)), fun v => ?_, fun s1 hs => ⟨fun t ht => ?_, fun hB t a => ?_⟩⟩
  · simp only
    rw [demSt_sU, h2]
  · rw [(h3 s1 hs).1 t ht]
    show (demTm i s.tm t).map φ = _
    rw [demTm_get, Option.map_map]
    rfl
  · rw [(h3 s1 hs).2 hB t (dem i a)]
    show (loadA T (demBx i s.g.bx) t (dem i a)).map φ = _
    rw [loadA_dem, Option.map_map]
    rfl

theorem appendA_upd {rw : Bool} {dst : Nat} {ti t2 : TI} {x y : Operand} {s : St} {d : Nat} (hd : dst ≠ d) (hx : x ≠ .tmp d) (hy : y ≠ .tmp d) : UpdOk T True (appendA T rw dst ti t2 x y) (some dst) s d := by
  have hx' : ∀ v, ev (sU s d v).tm x = ev s.tm x := fun v => ev_upd hx
  have hy' : ∀ v, ev (sU s d v).tm y = ev s.tm y := fun v => ev_upd hy
  · by_cases hk : ti.kind = 2
    case neg =>
      refine UpdOk.fail ?_ (fun v => ?_)
      · simp only [appendA]
        split
        · rename_i h _; exact absurd h hk
        · rfl
      · simp only [appendA]
        split
        · rename_i h _; exact absurd h hk
        · rfl
    cases hTe : T ti.elem with
    | none => exact UpdOk.fail (by simp [appendA, hk, hTe]) (fun v => by simp [appendA, hk, hTe])
    | some te =>
      cases ha : ev s.tm x with
      | none => exact UpdOk.fail (by simp [appendA, hk, hTe, ha]) (fun v => by simp only [appendA, hk, hTe, hx', ha])
      | some a =>
        cases hb : ev s.tm y with
        | none => exact UpdOk.fail (by simp [appendA, hk, hTe, ha, hb]) (fun v => by simp only [appendA, hk, hTe, hx', hy', ha, hb])
        | some b =>
          cases hr : AV.rowS t2 te b with
          | none => exact UpdOk.fail (by simp [appendA, hk, hTe, ha, hb, hr]) (fun v => by simp only [appendA, hk, hTe, hx', hy', ha, hb, hr])
          | some ys =>
            cases a with
            | own i sz es =>
              by_cases hc : (Nat.beq sz te.size && Nat.ble ((es.length + ys.length) * (te.bytes + 1)) most && Nat.ble 1 te.size && rawC rw es.length ys.length) = true
              · exact UpdOk.congr (g := fun s => putOwn (rawK rw es.length) dst te.size (es ++ ys) (demSt i s)) (by simp only [appendA, hk, hTe, ha, hb, hr, hc, if_true]) (fun v => by simp only [appendA, hk, hTe, hx', hy', ha, hb, hr, hc, if_true]) (UpdOk.after_dem i (ev_own ha rfl) (putOwn_upd hd))
              · exact UpdOk.fail (by simp only [appendA, hk, hTe, ha, hb, hr]; rw [if_neg hc]) (fun v => by simp only [appendA, hk, hTe, hx', hy', ha, hb, hr]; rw [if_neg hc])
            | d z =>
              cases z with
              | nils =>
                by_cases hc : (Nat.ble (ys.length * (te.bytes + 1)) most && Nat.ble 1 te.size) = true
                · exact UpdOk.congr (g := putOwn (rawK rw 0) dst te.size ys) (by simp only [appendA, hk, hTe, ha, hb, hr, hc, if_true]) (fun v => by simp only [appendA, hk, hTe, hx', hy', ha, hb, hr, hc, if_true]) (putOwn_upd hd)
                · exact UpdOk.fail (by simp only [appendA, hk, hTe, ha, hb, hr]; rw [if_neg hc]) (fun v => by simp only [appendA, hk, hTe, hx', hy', ha, hb, hr]; rw [if_neg hc])
              | full sz es =>
                by_cases hc : (Nat.beq sz te.size && Nat.ble ((es.length + ys.length) * (te.bytes + 1)) most && Nat.ble 1 te.size && rawC rw es.length ys.length) = true
                · exact UpdOk.congr (g := putOwn (rawK rw es.length) dst te.size (es ++ ys)) (by simp only [appendA, hk, hTe, ha, hb, hr, hc, if_true]) (fun v => by simp only [appendA, hk, hTe, hx', hy', ha, hb, hr, hc, if_true]) (putOwn_upd hd)
                · exact UpdOk.fail (by simp only [appendA, hk, hTe, ha, hb, hr]; rw [if_neg hc]) (fun v => by simp only [appendA, hk, hTe, hx', hy', ha, hb, hr]; rw [if_neg hc])
              | _ => exact UpdOk.fail (by simp only [appendA, hk, hTe, ha, hb, hr]) (fun v => by simp only [appendA, hk, hTe, hx', hy', ha, hb, hr])
            | _ => exact UpdOk.fail (by simp only [appendA, hk, hTe, ha, hb, hr]) (fun v => by simp only [appendA, hk, hTe, hx', hy', ha, hb, hr])

/-- A step that puts a value and leaves all else. -/
theorem put_upd {dst : Nat} {V : St → Option AV} {s : St} {d : Nat} (hd : dst ≠ d) (hV : ∀ v, V (sU s d v) = V s) : UpdOk T True (fun s => match V s with
    | some v => some { s with tm := upd s.tm dst (some v) }
    | none => none) (some dst) s d := by
  cases h : V s with
  | none => exact UpdOk.fail (by simp [h]) (fun v => by simp [hV, h])
  | some u =>
    refine ⟨_, DemIn.id _, fun v => ?_, fun s1 hs => ⟨fun t' ht => ?_, fun hB => ?_⟩⟩
    · simp only [hV, h, Option.map_some]
      simp only [sU]
      rw [upd_comm hd.symm] <;> rfl
    · simp only [h, Option.some.injEq] at hs
      subst hs
      rw [map_id']
      exact upd_ne (fun e => ht (by rw [e]))
    · simp only [h, Option.some.injEq] at hs
      subst hs
      intro t a; exact loadA_id T _ t a

theorem makeFuncA_upd {hint : Hint} {dst : Nat} {f : Fn} {caps : List Operand} {s : St} {d : Nat} (hd : dst ≠ d) (hx : ∀ x ∈ caps, x ≠ .tmp d) : UpdOk T False (makeFuncA hint dst f caps) (some dst) s d := by
  have he : ∀ v, evs (sU s d v).tm caps = evs s.tm caps := fun v => evs_upd hx
  cases ha : evs s.tm caps with
  | none => exact UpdOk.fail (by simp [makeFuncA, ha]) (fun v => by simp [makeFuncA, he, ha])
  | some as =>
    by_cases hn : as.all noTup = true
    · refine ⟨_, DemIn.id _, fun v => ?_, fun s1 hs => ⟨fun t' ht => ?_, fun hB => ?_⟩⟩
      · simp only [makeFuncA, he, ha, hn, if_true, Option.map_some]
        simp only [sU]
        rw [upd_comm hd.symm] <;> rfl
      · simp only [makeFuncA, ha, hn, if_true, Option.some.injEq] at hs
        subst hs
        rw [map_id']
        exact upd_ne (fun e => ht (by rw [e]))
      · exact hB.elim
    · exact UpdOk.fail (by simp only [makeFuncA, ha]; rw [if_neg hn]) (fun v => by simp only [makeFuncA, he, ha]; rw [if_neg hn])

theorem lenA_congr {E E' : Operand → Option AV} {c : Call} (h : ∀ x ∈ c.args.toList, E' x = E x) : lenA T E' c = lenA T E c := by
  unfold lenA
  split
  · split
    · split
      · rename_i x t ts hargs htys
        rw [h x (by rw [hargs]; simp)]
      · rfl
    · split
      · rename_i x y hargs
        rw [h x (by rw [hargs]; simp), h y (by rw [hargs]; simp)]
      · rfl
  · rfl

theorem callB_upd {hint : Hint} {dst : Nat} {c : Call} {s : St} {d : Nat} (hd : dst ≠ d) (hx : ∀ x ∈ c.args.toList, x ≠ .tmp d) : UpdOk T True (callB T hint dst c) (some dst) s d := by
  by_cases happ : isAppend c.callee = true
  · cases hargs : c.args.toList with
    | nil => exact UpdOk.fail (by simp [callB, happ, hargs]) (fun v => by simp [callB, happ, hargs])
    | cons x l =>
      cases l with
      | nil => exact UpdOk.fail (by simp [callB, happ, hargs]) (fun v => by simp [callB, happ, hargs])
      | cons y l =>
        cases l with
        | cons _ _ => exact UpdOk.fail (by simp [callB, happ, hargs]) (fun v => by simp [callB, happ, hargs])
        | nil =>
          have q1 : x ≠ .tmp d := hx x (by rw [hargs]; simp)
          have q2 : y ≠ .tmp d := hx y (by rw [hargs]; simp)
          cases htys : c.argTypes.toList with
          | nil => exact UpdOk.fail (by simp [callB, happ, hargs, htys]) (fun v => by simp [callB, happ, hargs, htys])
          | cons t l =>
            cases l with
            | nil => exact UpdOk.fail (by simp [callB, happ, hargs, htys]) (fun v => by simp [callB, happ, hargs, htys])
            | cons t' l =>
              cases l with
              | cons _ _ => exact UpdOk.fail (by simp [callB, happ, hargs, htys]) (fun v => by simp [callB, happ, hargs, htys])
              | nil =>
                cases hti : T t with
                | none => exact UpdOk.fail (by simp [callB, happ, hargs, htys, hti]) (fun v => by simp [callB, happ, hargs, htys, hti])
                | some ti =>
                  cases ht2 : T t' with
                  | none => exact UpdOk.fail (by simp [callB, happ, hargs, htys, hti, ht2]) (fun v => by simp [callB, happ, hargs, htys, hti, ht2])
                  | some t2 =>
                    by_cases htt : (Nat.beq t t' || Nat.beq t2.kind 3) = true
                    · exact UpdOk.congr (g := appendA T (hint.raw.any (Nat.beq dst ·)) dst ti t2 x y) (by simp only [callB, happ, hargs, htys, hti, ht2, htt, if_true]) (fun v => by simp only [callB, happ, hargs, htys, hti, ht2, htt, if_true]) (appendA_upd hd q1 q2)
                    · exact UpdOk.fail (by simp only [callB, happ, hargs, htys, hti, ht2, if_true]; rw [if_neg htt]) (fun v => by simp only [callB, happ, hargs, htys, hti, ht2, if_true]; rw [if_neg htt])
  · refine UpdOk.congr (g := fun s => match lenA T (ev s.tm) c with
        | some v => some { s with tm := upd s.tm dst (some v) }
        | none => none) ?_ (fun v => ?_) (put_upd hd (V := fun s => lenA T (ev s.tm) c) fun v => lenA_congr fun x h => ev_upd (hx x h))
    · simp only [callB]; rw [if_neg happ]; rfl
    · simp only [callB]; rw [if_neg happ]; rfl

/-- Steps that leave boxes as they are, or let a row go in them. -/
def keepsBx : Cl → Bool
  | .alloc | .store => false
  | _ => true

theorem UpdOk.weak {B B' : Prop} {f : St → Option St} {dst : Option Nat} {s : St} {d : Nat} (h : UpdOk T B f dst s d) (hB : B' → B) : UpdOk T B' f dst s d := by
  obtain ⟨φ, h1, h2, h3⟩ := h
  exact ⟨φ, h1, h2, fun s1 hs => ⟨(h3 s1 hs).1, fun hb => (h3 s1 hs).2 (hB hb)⟩⟩

theorem stepOp_upd {hint : Hint} {nt : Nat} {o : Oper} {s : St} {d : Nat} (hx : ∀ x ∈ o.op.operands.toList, x ≠ .tmp d) (hd : o.dst ≠ some d) : UpdOk T (keepsBx (clsOp o.op) = true) (stepOp T hint nt o) o.dst s d := by
  obtain ⟨dst, op, type, pos, aft, guard⟩ := o
  simp only at hx hd ⊢
  cases dst with
  | none =>
    cases op with
    | store t p x =>
      have q1 : p ≠ .tmp d := hx p (by simp [Op.operands])
      have q2 : x ≠ .tmp d := hx x (by simp [Op.operands])
      exact UpdOk.congr (g := storeA T t p x) (by simp only [stepOp]) (fun v => by simp only [stepOp]) ((storeA_upd q1 q2).weak (by simp [clsOp, keepsBx]))
    | _ => exact UpdOk.fail (by simp [stepOp]) (fun v => by simp [stepOp])
  | some dst =>
    have hdd : dst ≠ d := fun e => hd (by rw [e])
    by_cases hlt : Nat.blt dst nt = true
    case neg => exact UpdOk.fail (by simp only [stepOp]; rw [if_neg hlt]) (fun v => by simp only [stepOp]; rw [if_neg hlt])
    have opCase : (∀ s', stepOp T hint nt { dst := some dst, op, type, pos, after := aft, guard } s' = match opP T (ev s'.tm) op with
        | some v => some { s' with tm := upd s'.tm dst (some v) }
        | none => none) → UpdOk T (keepsBx (clsOp op) = true) (stepOp T hint nt { dst := some dst, op, type, pos, after := aft, guard }) (some dst) s d := fun he =>
      UpdOk.congr (he s) (fun v => he _) ((put_upd hdd (V := fun s => opP T (ev s.tm) op) fun v => opP_congr fun x h => ev_upd (hx x h)).weak fun _ => trivial)
    cases op with
    | alloc t => exact UpdOk.congr (g := allocA T dst t) (by simp only [stepOp, hlt, if_true]) (fun v => by simp only [stepOp, hlt, if_true]) ((allocA_upd hdd).weak (by simp [clsOp, keepsBx]))
    | box t x =>
      have q1 : x ≠ .tmp d := hx x (by simp [Op.operands])
      exact UpdOk.congr (g := boxA T dst t x) (by simp only [stepOp, hlt, if_true]) (fun v => by simp only [stepOp, hlt, if_true]) ((boxA_upd hdd q1).weak (by simp [clsOp, keepsBx]))
    | load t p =>
      have q1 : p ≠ .tmp d := hx p (by simp [Op.operands])
      refine UpdOk.congr (g := fun s => match (match ev s.tm p with
          | some a => loadA T s.g.bx t a
          | none => none) with
        | some v => some { s with tm := upd s.tm dst (some v) }
        | none => none) ?_ (fun v => ?_) ((put_upd hdd (V := fun s => match ev s.tm p with
          | some a => loadA T s.g.bx t a
          | none => none) fun v => by show (match ev (upd s.tm d (some v)) p with | some a => loadA T s.g.bx t a | none => none) = _; rw [ev_upd q1]).weak fun _ => trivial)
      · simp only [stepOp, hlt, if_true]
        cases ev s.tm p with
        | none => rfl
        | some a => rfl
      · simp only [stepOp, hlt, if_true]
        cases ev (sU s d v).tm p with
        | none => rfl
        | some a => rfl
    | buildSlice t n parts =>
      have q1 : ∀ q ∈ parts.toList, q.2 ≠ .tmp d := fun q hq => hx q.2 (by simp [Op.operands]; exact ⟨q.1, by simpa using hq⟩)
      exact UpdOk.congr (g := buildSliceA T dst t n parts.toList) (by simp only [stepOp, hlt, if_true]) (fun v => by simp only [stepOp, hlt, if_true]) ((buildSliceA_upd hdd q1).weak fun _ => trivial)
    | call c =>
      have q1 : ∀ x ∈ c.args.toList, x ≠ .tmp d := fun x hxx => hx x (by simp [Op.operands, Call.operands]; exact .inr (by simpa using hxx))
      exact UpdOk.congr (g := callB T hint dst c) (by simp only [stepOp, hlt, if_true]) (fun v => by simp only [stepOp, hlt, if_true]) ((callB_upd hdd q1).weak fun _ => trivial)
    | makeFunc f first caps =>
      have q1 : ∀ x ∈ caps.toList, x ≠ .tmp d := fun x hxx => hx x (by simp [Op.operands]; exact .inr (by simpa using hxx))
      by_cases hf : first.isEmpty = true
      · exact UpdOk.congr (g := makeFuncA hint dst f caps.toList) (by simp only [stepOp, hlt, hf, if_true]) (fun v => by simp only [stepOp, hlt, hf, if_true]) ((makeFuncA_upd hdd q1).weak (by simp [clsOp, keepsBx]))
      · exact UpdOk.fail (by simp only [stepOp, hlt, if_true]; rw [if_neg hf]) (fun v => by simp only [stepOp, hlt, if_true]; rw [if_neg hf])
    | _ => exact opCase (fun s' => by (simp only [stepOp, hlt, if_true]) <;> rfl)
end
end Go.Abs
