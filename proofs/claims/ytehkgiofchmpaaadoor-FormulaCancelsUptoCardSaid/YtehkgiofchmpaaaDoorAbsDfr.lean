/- Deferred calls that recover: sound. -/
import Derived.Test.YtehkgiofchmpaaaDoorAbsRun
import Derived.RecoverIn
namespace Go.Abs
open Go
set_option linter.unusedVariables false
set_option linter.unusedSimpArgs false
set_option linter.unnecessarySimpa false

section
variable {P : Program} {g0 : G} {h0 : Gh} {w0 : World} {nt : Nat}

theorem deferIn_some {c : Code} {ops : Array Oper} {x : Operand} (h : deferIn c = some (ops, x)) :
    ∃ id o cl, c = .region id ops false ∧ ops[ops.size - 1]? = some o ∧ 0 < ops.size ∧ o.guard = none ∧ o.dst = none ∧ o.op = .defer cl ∧ cl.callee = .value x ∧ cl.args = #[] := by
  unfold deferIn at h
  split at h
  · rename_i id ops' draw
    split at h
    · cases h
    · split at h
      · rename_i o ho
        split at h
        · rename_i cl hg hds hop
          split at h
          · rename_i f hcl hargs
            simp only [Option.some.injEq, Prod.mk.injEq] at h
            obtain ⟨rfl, rfl⟩ := h
            have hb : ops'[ops'.size - 1]? = some o := by rw [Array.back?] at ho; exact ho
            refine ⟨id, o, cl, rfl, hb, ?_, hg, hds, hop, hcl, by simpa using hargs⟩
            have := (Array.getElem?_eq_some_iff.1 hb).1
            omega
          · cases h
        · cases h
      · cases h
  · cases h

theorem recOf_some {F : Func} {d : Nat} {ops : Array Oper} {b : Code} (h : recOf F = some (d, ops, b)) :
    ∃ id o cl, F.body = some (.seq (.region id ops false) b) ∧ ops[0]? = some o ∧ o.guard = none ∧ o.dst = some d ∧ o.op = .call cl ∧ cl.callee = .builtin .recover ∧ F.results = #[] := by
  unfold recOf at h
  split at h
  · rename_i id ops' draw b' hb
    split at h
    · rename_i o ho
      split at h
      · rename_i d' cl hg hd hop
        split at h
        · rename_i r hcl
          split at h
          · rename_i hr
            simp only [Option.some.injEq, Prod.mk.injEq] at h
            obtain ⟨rfl, rfl, rfl⟩ := h
            exact ⟨id, o, cl, hb, ho, hg, hd, hop, hcl, by simpa using hr⟩
          · cases h
        · cases h
      · cases h
    · cases h
  · cases h

/-- A frame without marks. -/
theorem SI.flat {s : St} {a : Act} {w : World} {h : Gh} (hsi : SI nt g0 h0 w0 s a w h) (hf : h0.flat = true) : a.defers = h0.df := by
  obtain ⟨_, ms, h2, _, _, h5⟩ := hsi.nd
  rw [h2, h5 hf]; rfl

/-- Behind a deferral: as if a frame of its own began. -/
theorem SI.deeper {s : St} {a : Act} {w : World} {h : Gh} (hsi : SI nt g0 h0 w0 s a w h) {dv : Deferred} (hdv : ∀ D, dv.target ≠ .collected D) :
    SI nt s.g { h with df := [dv], flat := true } w (deeper s) { a with defers := [dv] } w { h with df := [dv], flat := true } := by
  refine ⟨⟨hsi.fi.size, ?_, (hsi.fi.gi.base [dv] true).deeper, ?_⟩, (Rel.deeper (hsi.fi.gi.base [dv] true)), rfl, rfl, ?_, ?_, ?_, ?_⟩
  · intro t v hv
    obtain ⟨u, hu, rfl⟩ := mapTm_some hv
    obtain ⟨h1, h2⟩ := hsi.fi.tm t u hu
    refine ⟨RepA.base _ _ _ _ (RepA.demAll _ _ h1), ?_⟩
    refine AV.ok.mono (fun _ h => h) (fun d t hk => ⟨Nat.le_succ_of_le hk.1, hk.2⟩) (fun l hl => ?_) _ (AV.ok.demAll (Q' := TmQ (fun _ => false) (s.g.dp + 1)) u h2)
    obtain ⟨r, y1, y2⟩ := hl
    exact ⟨r, y1, Nat.lt_succ_of_lt y2⟩
  · intro x hx D hD
    simp only [List.mem_singleton] at hx
    subst hx
    rw [hD] at hdv
    exact absurd rfl (hdv D)
  · refine ⟨?_, [], rfl, List.nodup_nil, (fun x hx => by cases hx), fun _ => rfl⟩
    intro x hx D
    have hx : x ∈ [dv] := hx
    simp only [List.mem_singleton] at hx
    subst hx
    exact hdv D
  · intro x hx D hD
    simp only [List.mem_singleton] at hx
    subst hx
    exact absurd hD (hdv D)
  · intro r hr
    exact Nat.le_trans (hsi.lpdp r hr) (by rw [hsi.dp]; omega)
  · intro d t hs
    obtain ⟨bo, hbo⟩ := Option.isSome_iff_exists.1 hs
    exact (hsi.fi.gi.bx d t bo hbo).1

/-- Code that may defer one call. -/
theorem execD_sound (hmix : P.follows .mixedOrders = true) {R : Type} [Same R] {cx : Cx R} (hT : TyOk P cx.T) (hnt : cx.nt = nt) (hC : CSound P cx.C) (hE : ESound P cx.E) (hfl0 : h0.flat = true) (hfl : cx.hint.flat = true) (hdf : h0.df = []) {r : R}
    {Q : Exit → Act → World → Prop} {k : Ex → St → Option R} {kd : AV → Ex → St → Option R} (hk : ExOk k r nt g0 h0 w0 Q)
    (hkd : ∀ (f : AV) (s' : St) (a' : Act) (w' : World) (h' : Gh) (dv : Deferred) (fn : Fn) (cv : Array Value), SI nt g0 h0 w0 s' a' w' h' → dv = { target := .fn fn cv, args := #[] } → RepA w' h' f (.func fn #[] cv) → f.ok (TmQ s'.fr s'.g.dp) (KG s'.g s'.g.dp) (YG s'.g s'.g.dp) →
      ExOk (kd f) r nt s'.g { h' with df := [dv], flat := true } w' Q) :
    ∀ (c : Code) {s : St}, execD cx c s k kd = some r → codeOk cx.hint c = true → ∀ {a : Act} {w : World} {h : Gh}, SI nt g0 h0 w0 s a w h → c.wpIn Fence.wide 0 P Q a w := by
  intro c
  induction c with
  | seq x y ihx ihy =>
    intro s hs hc a w h hsi
    have hc0 := hc
    simp only [codeOk, Bool.and_eq_true] at hc
    unfold execD at hs
    split at hs
    · rename_i ops op hdi
      obtain ⟨id, o, cl, rfl, ho, hpos, hg, hds, hop, hcl, hargs⟩ := deferIn_some hdi
      refine wpIn_seq (wpIn_region ?_)
      have hlist : List.range ops.size = List.range' 0 (ops.size - 1) ++ [ops.size - 1] := by
        have : ops.size = (ops.size - 1) + 1 := by omega
        rw [this, List.range_succ, List.range_eq_range']
        simp
      rw [hlist]
      refine runOps_part hT hnt hC hE (.inl rfl) (eff := fun _ => true) ?_ (ops.size - 1) 0 (ops.toList.take (ops.size - 1)) (by simp) (by simp) hs hsi
      constructor
      · intro s' a' w' h' hsi' hk'
        simp only at hk'
        cases hx : ev s'.tm op with
        | none => simp [hx] at hk'
        | some f =>
          simp only [hx] at hk'
          cases hcq : cloQ f with
          | false => simp [hcq] at hk'
          | true =>
          simp only [hcq] at hk'
          have hrep := ev_rep (Tms.of hsi'.fi) hx
          have hok := ev_ok (fun t v hv => (hsi'.fi.tm t v hv).2) hx
          simp only [wpOpsIn, ho]
          rw [if_pos (by simp [Region.wanted, hg])]
          refine ⟨fun f _ => trivial, ?_⟩
          -- what is deferred
          have hfn : ∃ fn cv, a'.eval op = .func fn #[] cv ∧ RepA w' h' f (.func fn #[] cv) := by
            -- by what follows: only closures go on
            cases f with
            | fn fn caps =>
              have hrep0 := hrep
              simp only [RepA] at hrep
              obtain ⟨cv, he, _⟩ := hrep
              exact ⟨fn, cv, he, by rw [← he]; exact hrep0⟩
            | d x =>
              cases x with
              | fn fn caps =>
                have hrep0 := hrep
                simp only [RepA, RepV] at hrep
                obtain ⟨cv, he, _⟩ := hrep
                exact ⟨fn, cv, he, by rw [← he]; exact hrep0⟩
              | _ => cases hcq
            | _ => cases hcq
          obtain ⟨fn, cv, he, hrep'⟩ := hfn
          have hrun : (Oper.semAt Fence.wide.round a'.eval o).run P w' = .ok (.defer { target := .fn fn cv, args := #[] }) w' := by
            show (Oper.semAt none a'.eval o).run P w' = _
            rw [Oper.semAt_none]
            simp [execOp, hop, resolve, hcl, hargs, he, Deferred.ofValue]
          rw [hrun, Oper.uponIn_defer]
          have hd0 : a'.defers = [] := by rw [hsi'.flat hfl0, hdf]
          rw [hd0, hds]
          simp only [wpOpsIn, Exit.then, Act.put]
          exact exec_sound hmix hT hnt hC hE (.inl rfl) (fun _ => hfl) y hk' hc.2 (hsi'.deeper (dv := { target := .fn fn cv, args := #[] }) (fun D e => by cases e)) (hkd f s' a' w' h' _ fn cv hsi' rfl hrep' hok)
      · intro x s' a' w' h' v hsi' hv hk'
        cases hk'
    · refine wpIn_seq (exec_sound hmix hT hnt hC hE (.inl rfl) (fun _ => hfl) x hs hc.1 hsi ?_)
      intro ex s' a' w' h' hsi' hk'
      cases ex with
      | normal => exact ihy hk' hc.2 hsi'
      | exit id => exact hk (.exit id) s' a' w' h' hsi' hk'
      | goto l => exact hk (.goto l) s' a' w' h' hsi' hk'
      | ret => exact hk .ret s' a' w' h' hsi' hk'
      | panic x => exact hk (.panic x) s' a' w' h' hsi' hk'
  | _ =>
    intro s hs hc a w h hsi
    unfold execD at hs
    exact exec_sound hmix hT hnt hC hE (.inl rfl) (fun _ => hfl) _ hs hc hsi hk

/-- The operations behind the recovery. -/
theorem stepsS_sound {R : Type} {cx : Cx R} (hT : TyOk P cx.T) (hnt : cx.nt = nt) {ops : Array Oper} {Q : Exit → Act → List Frame → World → Prop} {cs : List Frame} {k : St → Option R} {r : R}
    (hk : ∀ s' a' w' h', SI nt g0 h0 w0 s' a' w' h' → k s' = some r → Q .normal a' cs w') :
    ∀ (n : Nat) (i : Nat) (l : List Oper), l = ops.toList.drop i → n = l.length → ∀ {s : St}, stepsS cx ops l s k = some r → ∀ {a : Act} {w : World} {h : Gh}, SI nt g0 h0 w0 s a w h → wpOpsSIn Fence.wide 0 P ops Q (List.range' i n) a cs w := by
  intro n
  induction n with
  | zero =>
    intro i l hl hn s hs a w h hsi
    cases l with
    | cons _ _ => simp at hn
    | nil => exact hk _ _ _ _ hsi hs
  | succ n ih =>
    intro i l hl hn s hs a w h hsi
    cases l with
    | nil => simp at hn
    | cons o rest =>
      have ho : ops[i]? = some o := by
        have : (ops.toList.drop i)[0]? = some o := by rw [← hl]; rfl
        simpa using this
      have hrest : rest = ops.toList.drop (i + 1) := by
        have : (ops.toList.drop i).tail = rest := by rw [← hl]; rfl
        rw [← this, List.tail_drop]
      simp only [List.range', wpOpsSIn, ho]
      simp only [stepsS] at hs
      split at hs
      · rename_i hg hgo
        split at hs
        · rename_i s' hst
          obtain ⟨nx, w', a', h', hrun, hdid, f', r'⟩ := stepOp_sound (P := P) hT hsi.fi hsi.rel hsi.hdp (by rw [← hnt]; exact hst)
          obtain ⟨g1, g2⟩ := stepOp_g hst
          refine ⟨fun f _ => trivial, ?_⟩
          rw [if_pos (by simp [Region.wanted, hg]), hrun]
          have hdf : a'.defers = a.defers := by
            rcases hdid with ⟨u, _, rfl⟩ | ⟨_, rfl⟩ <;> exact put_defers _ _ _
          have hsi' : SI nt g0 h0 w0 s' a' w' h' := ⟨f', r', by rw [g1]; exact hsi.dp, by rw [g2]; exact hsi.lps, by rw [hdf]; exact hsi.nd, by rw [hdf]; exact hsi.dnew, hsi.lpd, hsi.bxd⟩
          have := ih (i + 1) rest hrest (by simpa using hn) hs hsi'
          rcases hdid with ⟨u, rfl, rfl⟩ | ⟨rfl, rfl⟩
          · exact this
          · exact this
        · cases hs
      · cases hs

/-- How a frame stands as its deferred call begins: what the call recovers, as data. -/
def Recs (w : World) (L : Nat → Nat) (u : FrameMode) (rv : D) : Prop :=
  (u = .returning ∧ rv = .nili) ∨ ∃ v, u = .panicking [{ v, recovered := false }] ∧ RepV w L rv v

/-- A deferred call that recovers. -/
theorem rec_sound (hmix : P.follows .mixedOrders = true) {R : Type} [Same R] {cx : Cx R} (hT : TyOk P cx.T) (hC : CSound P cx.C) (hE : ESound P cx.E) (hfl : cx.hint.flat = true) {f : FuncId} {F : Func} (hPf : P.funcs[f]? = some F) (hcx : cx.nt = F.ntmps)
    {d : Nat} {ops : Array Oper} {b : Code} (hrec : recOf F = some (d, ops, b)) (hok : ∀ code, F.body = some code → codeOk cx.hint code = true) {g : G} {w : World} {h : Gh} (hdf : h.df = []) (hfl0 : h.flat = true) (hg : GI g w h)
    {caps : List AV} {vs : List Value} (hr : RepAs w h caps vs) (ho : AV.oks NoId (KG g g.dp) (YG g (g.dp + 1)) caps) (hlen : caps.length ≤ F.ntmps) {u : FrameMode} {rv : D} (hrv : Recs w h.L u rv) {k : Ex → St → Option R} {r : R}
    (hs : runRec cx d ops b rv { tm := argTm caps, fr := fun _ => false, g := { g with dp := g.dp + 1 } } k = some r) {Rr : Ending → FrameMode → World → Prop}
    (hk : ∀ ex s' a' w' h' u', SI F.ntmps g h w s' a' w' h' → k ex s' = some r → settle u' = .returning → (ex = .normal ∨ ex = .ret) ∧ Rr (.returned (.tuple #[])) u' w' ∨ (ex ≠ .normal ∧ ex ≠ .ret) ∧ False) :
    CallsDIn Fence.wide 0 P f vs.toArray u w Rr := by
  obtain ⟨id, o, cl, hb, ho0, hg0, hd0, hop, hcl, hres⟩ := recOf_some hrec
  have hcode := hok _ hb
  simp only [codeOk, Bool.and_eq_true] at hcode
  refine callsDIn_of_wpSIn hPf hb trivial ?_
  intro c₀ cs hu
  unfold runRec at hs
  split at hs
  case isFalse => cases hs
  rename_i hlt
  have hsi := SI.enter hdf hg hr ho hlen
  refine wpSIn_seq (wpSIn_region ?_)
  have hpos : 0 < ops.size := (Array.getElem?_eq_some_iff.1 ho0).1
  have hlist : List.range ops.size = 0 :: List.range' 1 (ops.size - 1) := by
    have : ops.size = (ops.size - 1) + 1 := by omega
    rw [List.range_eq_range', this, List.range'_succ]
    simp
  rw [hlist]
  simp only [wpOpsSIn, ho0]
  refine ⟨fun f _ => trivial, ?_⟩
  rw [if_pos (by simp [Region.wanted, hg0])]
  have hrun : ∀ (ρ : Operand → Value), (execOp ρ o).run P w = .ok .recover w := by
    intro ρ
    simp [execOp, hop, resolve, hcl, invoke, builtin]
  rw [hrun]
  -- behind the recovery
  have rest : ∀ (cs1 : List Frame) (v : Value) (u' : FrameMode), RepV w h.L rv v → cs1 = { c₀ with mode := u' } :: cs → settle u' = .returning →
      wpOpsSIn Fence.wide 0 P ops (Exit.thenS (b.wpSIn Fence.wide 0 P (bodyPostS P F c₀ cs Rr)) (bodyPostS P F c₀ cs Rr)) (List.range' 1 (ops.size - 1)) (Act.put { tmps := vs.toArray ++ Array.replicate (F.ntmps - vs.toArray.size) undef, defers := [] } o.dst v) cs1 w := by
    intro cs1 v u' hv hcs1 hset
    have hf1 := hsi.fi.put (d := d) (by rw [← hcx]; simpa using hlt) (v := .d rv) (u := v) (by simpa only [RepA] using hv) (by simp [AV.ok])
    have hsi1 : SI F.ntmps g h w { tm := upd (argTm caps) d (some (.d rv)), fr := fun _ => false, g := { g with dp := g.dp + 1 } } (Act.put { tmps := vs.toArray ++ Array.replicate (F.ntmps - vs.toArray.size) undef, defers := [] } o.dst v) w h := by
      rw [hd0]
      exact ⟨hf1, hsi.rel, hsi.dp, hsi.lps, hsi.nd, hsi.dnew, hsi.lpd, hsi.bxd⟩
    refine stepsS_sound (P := P) hT hcx ?_ (ops.size - 1) 1 (ops.toList.drop 1) rfl (by simp) hs hsi1
    intro s' a' w' h' hsi' hk'
    show b.wpSIn Fence.wide 0 P (bodyPostS P F c₀ cs Rr) a' cs1 w'
    refine wpSIn_of_wpIn rfl ?_
    refine exec_sound hmix hT hcx hC hE (.inl rfl) (fun _ => hfl) b hk' hcode.2 hsi' ?_
    intro ex s2 a2 w2 h2 hsi2 hk2
    have hdef : a2.defers = [] := by rw [hsi2.flat hfl0, hdf]
    have hresult : (results F a2.tmps).run P w2 = .ok (.tuple #[]) w2 := by
      unfold results
      rw [hres]
      simp
    rcases hk ex s2 a2 w2 h2 u' hsi2 hk2 hset with ⟨hex, hR⟩ | ⟨_, hf⟩
    · rcases hex with rfl | rfl
      · exact ⟨hdef, u', hcs1, .tuple #[], hresult, hR⟩
      · exact ⟨hdef, u', hcs1, .tuple #[], hresult, hR⟩
    · exact hf.elim
  rcases hrv with ⟨rfl, rfl⟩ | ⟨v, rfl, hv⟩
  · have hnone : recoverD (c₀ :: cs) = none := by simp [recoverD, hu]
    simp only [hnone]
    exact rest (c₀ :: cs) .nilIface .returning (by simp [RepV]) (by rw [← hu]) rfl
  · have hsome : recoverD (c₀ :: cs) = some (v, { c₀ with mode := .panicking [{ v, recovered := true }] } :: cs) := by simp [recoverD, hu]
    simp only [hsome]
    exact rest _ v _ hv rfl rfl

theorem keepLow_some {n : Nat} {a v : AV} (h : keepLow n a = some v) : v = a ∧ ((∃ x, a = .d x) ∨ ∃ d t o, a = .ptr d t o ∧ d ≤ n) := by
  unfold keepLow at h
  split at h
  · simp only [Option.some.injEq] at h; subst h; exact ⟨rfl, .inl ⟨_, rfl⟩⟩
  · rename_i d t o
    split at h
    · rename_i hle
      simp only [Option.some.injEq] at h; subst h
      exact ⟨rfl, .inr ⟨d, t, o, rfl, by simpa using hle⟩⟩
    · cases h
  · cases h

theorem lowTm_some {n : Nat} {tm : Nat → Option AV} {t : Nat} {v : AV} (h : lowTm n tm t = some v) : tm t = some v ∧ ((∃ x, v = .d x) ∨ ∃ d u o, v = .ptr d u o ∧ d ≤ n) := by
  unfold lowTm at h
  cases ht : tm t with
  | none => simp [ht] at h
  | some a =>
    simp only [ht] at h
    obtain ⟨rfl, h2⟩ := keepLow_some h
    exact ⟨rfl, h2⟩

/-- Behind the deferred call: the frame as its results are read. -/
theorem SI.after {n3 : Nat} {g : G} {w w' w'' w3 : World} {s' s'' s3 : St} {a' a'' a3 : Act} {h' h'' h3 : Gh} {df : List Deferred} {fl : Bool} (hdf : h0.df = [])
    (hsi' : SI nt g h0 w s' a' w' h') (hsi'' : SI nt s'.g { h' with df := df, flat := fl } w' s'' a'' w'' h'') {df3 : List Deferred} {fl3 : Bool}
    (hsi3 : SI n3 (popG s''.g (s'.g.dp + 1)) { h'' with ga := gaClear h''.ga (s'.g.dp + 1), df := df3, flat := fl3 } w'' s3 a3 w3 h3) :
    SI nt g h0 w { tm := lowTm s'.g.dp s''.tm, fr := fun _ => false, g := popG s3.g (s'.g.dp + 1) } { tmps := a''.tmps, defers := [] } w3 { h3 with ga := gaClear h3.ga (s'.g.dp + 1) } := by
  obtain ⟨G2, R2⟩ := hsi''.gone
  obtain ⟨G3, R3⟩ := hsi3.gone
  have hdp3 : (popG s''.g (s'.g.dp + 1)).dp + 1 = s'.g.dp + 1 := rfl
  rw [hdp3] at G3 R3
  have R3' : Rel (popG s''.g (s'.g.dp + 1)) { h'' with ga := gaClear h''.ga (s'.g.dp + 1) } w'' (popG s3.g (s'.g.dp + 1)) w3 { h3 with ga := gaClear h3.ga (s'.g.dp + 1) } := R3.based
  have R2' := R2.based
  have h1 : g.dp ≤ s'.g.dp := by rw [hsi'.dp]; omega
  have R12 := hsi'.rel.call R2' h1
  have R13 : Rel g h0 w (popG s3.g (s'.g.dp + 1)) w3 { h3 with ga := gaClear h3.ga (s'.g.dp + 1) } := R12.call R3' h1
  refine ⟨⟨hsi''.fi.size, ?_, G3, fun x hx => by cases hx⟩, R13, ?_, ?_, by rw [hdf]; exact Marks.nil, fun x hx => (by cases hx), hsi'.lpd, hsi'.bxd⟩
  · intro t v hv
    obtain ⟨ht, hlow⟩ := lowTm_some hv
    obtain ⟨q1, q2⟩ := hsi''.fi.tm t v ht
    rcases hlow with ⟨x, rfl⟩ | ⟨d, u, o, rfl, hle⟩
    · refine ⟨?_, by simp [AV.ok]⟩
      simp only [RepA] at q1 ⊢
      exact q1.ext R3'.ext
    · simp only [RepA, AV.ok] at q1 q2 ⊢
      obtain ⟨b, hb, he⟩ := q1
      have hs2 : ((popG s''.g (s'.g.dp + 1)).bx d u).isSome = true := by
        show (if Nat.beq d (s'.g.dp + 1) then none else s''.g.bx d u).isSome = true
        rw [if_neg (by simp; omega)]
        exact q2.2
      obtain ⟨b1, b2⟩ := R3'.bxs d u hs2
      exact ⟨⟨b, by rw [b2]; exact hb, he⟩, hle, b1⟩
  · show s'.g.dp + 1 - 1 = _
    rw [hsi'.dp]; rfl
  · show s3.g.lp.map LoopRec.dp = _
    rw [hsi3.lps]
    show s''.g.lp.map LoopRec.dp = _
    rw [hsi''.lps]
    exact hsi'.lps

/-- A frame leaves by its one deferred call. -/
theorem leave_dfr (hmix : P.follows .mixedOrders = true) {R : Type} [Same R] {cx : Cx R} (hT : TyOk P cx.T) (hC : CSound P cx.C) (hE : ESound P cx.E) (hfl : cx.hint.flat = true) {F F' : Func} {f' : FuncId} (hPf : P.funcs[f']? = some F') (hname : (F'.name == "runtime.NumGoroutine") = false) (hcx : cx.nt = F'.ntmps)
    {d : Nat} {ops : Array Oper} {b : Code} (hrec : recOf F' = some (d, ops, b)) (hok : ∀ code, F'.body = some code → codeOk cx.hint code = true) {g : G} {w w' w'' : World} {s' s'' : St} {a' a'' : Act} {h' h'' : Gh} (hdf : h0.df = []) {df : List Deferred} {fl : Bool}
    (hsi' : SI nt g h0 w s' a' w' h') (hsi'' : SI nt s'.g { h' with df := df, flat := fl } w' s'' a'' w'' h'') {caps : List AV} {cv : Array Value}
    (hr : RepAs w' h' caps cv.toList) (ho : AV.oks NoId (KG s'.g s'.g.dp) (YG s'.g (s'.g.dp + 1)) caps) (hlen : caps.length ≤ F'.ntmps) {u : FrameMode} {rv : D} (hrv : Recs w'' h''.L u rv) {done : St → Option R} {r : R}
    (hs : runRec cx d ops b rv { tm := argTm caps, fr := fun _ => false, g := { popG s''.g (s'.g.dp + 1) with dp := s'.g.dp + 1 } } (fun e s3 => match e with
      | .normal => done { tm := lowTm s'.g.dp s''.tm, fr := fun _ => false, g := popG s3.g (s'.g.dp + 1) }
      | .ret => done { tm := lowTm s'.g.dp s''.tm, fr := fun _ => false, g := popG s3.g (s'.g.dp + 1) }
      | _ => none) = some r) {Rr : Ending → World → Prop}
    (hdone : ∀ s4 a4 w4 h4, SI nt g h0 w s4 a4 w4 h4 → done s4 = some r → ∃ v, (results F a4.tmps).run P w4 = .ok v w4 ∧ Rr (.returned v) w4) :
    LeavesInM Fence.wide 0 P F a''.tmps Rr [{ target := .fn (.func f') cv, args := #[] }] u w'' := by
  have hu : u ≠ .run := by
    rcases hrv with ⟨rfl, _⟩ | ⟨v, rfl, _⟩ <;> (intro e; cases e)
  obtain ⟨id, o, cl, hb, _⟩ := recOf_some hrec
  have hfok : FOk P f' := ⟨F', _, hPf, hb, hname⟩
  obtain ⟨G2, R2⟩ := hsi''.gone
  have R2' := R2.based
  have hlenp : s''.g.lp.length = s'.g.lp.length := by
    have := congrArg List.length hsi''.lps
    simpa using this
  have hcr : RepAs w'' { h'' with ga := gaClear h''.ga (s'.g.dp + 1), df := [], flat := true } caps cv.toList := by
    refine RepAs.base (h := { h'' with ga := gaClear h''.ga (s'.g.dp + 1) }) [] true _ _ ?_
    refine RepAs.ext (h' := { h'' with ga := gaClear h''.ga (s'.g.dp + 1) }) (K := KG s'.g s'.g.dp) (Y := YG s'.g (s'.g.dp + 1)) (Q := NoId) R2'.ext ?_ ?_ (fun _ _ hh => hh.elim) caps _ ho hr
    · intro d t b hk hb
      have := (R2'.bxs d t hk.2).2
      show h''.be d t = some b
      rw [← hb]; exact this
    · intro l hl
      have := R2'.ro l hl.lt
      exact this
  have hco : AV.oks NoId (KG (popG s''.g (s'.g.dp + 1)) (popG s''.g (s'.g.dp + 1)).dp) (YG (popG s''.g (s'.g.dp + 1)) ((popG s''.g (s'.g.dp + 1)).dp + 1)) caps := by
    refine AV.oks.mono (fun _ h => h) ?_ ?_ _ ho
    · intro d t hk
      exact ⟨hk.1, (R2'.bxs d t hk.2).1⟩
    · intro l hl
      exact YG.lps (g := s'.g) (g' := popG s''.g (s'.g.dp + 1)) hsi''.lps hl
  refine ⟨hu, .inr ⟨(fun h => by cases h), .func f', cv, f', cv, rfl, ?_, fun _ _ => trivial, ?_⟩⟩
  · have := hfok.run cv w''
    simp [invoke, this]
  · have hcall := rec_sound hmix hT hC hE hfl hPf hcx hrec hok (g := popG s''.g (s'.g.dp + 1)) (h := { h'' with ga := gaClear h''.ga (s'.g.dp + 1), df := [], flat := true }) rfl rfl (G2.base [] true) hcr hco hlen (u := u) (rv := rv) hrv hs
      (Rr := fun e u' w3 => match e with
        | .returned _ => LeavesInM Fence.wide 0 P F a''.tmps Rr [] (settle u') w3
        | .panicked chain => LeavesInM Fence.wide 0 P F a''.tmps Rr [] (raised u' chain) w3
        | .outgrown => Rr .outgrown w3) ?_
    · have he : cv.toList.toArray = cv := by apply Array.ext'; simp
      rw [he] at hcall
      refine hcall.mono ?_
      intro e u' w3 hh
      cases e <;> exact hh
    · intro ex s3 a3 w3 h3 u' hsi3 hk3 hset
      have hfin : ∀ s4, s4 = ({ tm := lowTm s'.g.dp s''.tm, fr := fun _ => false, g := popG s3.g (s'.g.dp + 1) } : St) → done s4 = some r → LeavesInM Fence.wide 0 P F a''.tmps Rr [] (settle u') w3 := by
        rintro s4 rfl hd4
        rw [hset]
        exact hdone _ { tmps := a''.tmps, defers := [] } _ _ (SI.after hdf hsi' hsi'' hsi3) hd4
      cases ex with
      | normal => exact .inl ⟨.inl rfl, hfin _ rfl hk3⟩
      | ret => exact .inl ⟨.inr rfl, hfin _ rfl hk3⟩
      | exit _ => cases hk3
      | goto _ => cases hk3
      | panic _ => cases hk3

/-- The same, the closure as the interpreter has it. -/
theorem recAV_sound {p : Pr} (hp : PrOk P p) {R : Type} [Same R] {cxOf : FuncId → Func → Cx R} (c1 : ∀ f F, (cxOf f F).T = p.T) (c2 : ∀ f F, CSound P (cxOf f F).C) (c3 : ∀ f F, ESound P (cxOf f F).E) (c4 : ∀ f F, (cxOf f F).hint = p.H f) (c5 : ∀ f F, (cxOf f F).nt = F.ntmps)
    {F : Func} {g : G} {w w' w'' : World} {s' s'' : St} {a' a'' : Act} {h' h'' : Gh} (hdf : h0.df = []) {fn : Fn} {cv : Array Value}
    (hsi' : SI nt g h0 w s' a' w' h') (hsi'' : SI nt s'.g { h' with df := [{ target := .fn fn cv, args := #[] }], flat := true } w' s'' a'' w'' h'') {fA : AV}
    (hrep : RepA w' h' fA (.func fn #[] cv)) (hok : fA.ok (TmQ s'.fr s'.g.dp) (KG s'.g s'.g.dp) (YG s'.g s'.g.dp)) {u : FrameMode} {rv : D} (hrv : Recs w'' h''.L u rv) {done : St → Option R} {r : R}
    (hs : recAV p cxOf s'.g.dp fA rv s''.g (afterRec s'.g.dp s''.tm done) = some r) {Rr : Ending → World → Prop}
    (hdone : ∀ s4 a4 w4 h4, SI nt g h0 w s4 a4 w4 h4 → done s4 = some r → ∃ v, (results F a4.tmps).run P w4 = .ok v w4 ∧ Rr (.returned v) w4) :
    LeavesInM Fence.wide 0 P F a''.tmps Rr a''.defers u w'' := by
  have hdef : a''.defers = [{ target := .fn fn cv, args := #[] }] := hsi''.flat rfl
  rw [hdef]
  have clo : ∀ (f' : FuncId) (caps : List AV), fn = .func f' → RepAs w' h' caps cv.toList → AV.oks NoId (KG s'.g s'.g.dp) (YG s'.g (s'.g.dp + 1)) caps →
      recCall p cxOf s'.g.dp f' caps rv s''.g (afterRec s'.g.dp s''.tm done) = some r → LeavesInM Fence.wide 0 P F a''.tmps Rr [{ target := .fn fn cv, args := #[] }] u w'' := by
    rintro f' caps rfl hcr hco hq
    unfold recCall at hq
    cases hF' : p.F f' with
    | none => simp [hF'] at hq
    | some F' =>
      simp only [hF'] at hq
      cases hrc : recOf F' with
      | none => simp [hrc] at hq
      | some dob =>
        obtain ⟨d, ops, b⟩ := dob
        simp only [hrc] at hq
        cases hc2 : (Nat.ble caps.length F'.ntmps && (p.H f').flat) with
        | false => simp [hc2] at hq
        | true =>
          simp only [hc2] at hq
          simp only [Bool.and_eq_true] at hc2
          obtain ⟨hPf', hname'⟩ := hp.F f' F' hF'
          refine leave_dfr (cx := cxOf f' F') hp.mix (by rw [c1]; exact hp.T) (c2 f' F') (c3 f' F') (by rw [c4]; exact hc2.2) hPf' hname' (c5 f' F') hrc (fun code hb' => by rw [c4]; exact hp.H f' F' code hF' hb') hdf hsi' hsi'' hcr hco (by simpa using hc2.1) hrv (done := done) ?_ hdone
          exact hq
  unfold recAV at hs
  split at hs
  · rename_i f' caps
    simp only [RepA, AV.ok] at hrep hok
    obtain ⟨cv', he, hcr⟩ := hrep
    cases he
    exact clo f' caps rfl hcr (AV.oks.mono (fun _ h => h.elim) (fun _ _ h => h) (fun l hl => by obtain ⟨r, y1, y2⟩ := hl; exact ⟨r, y1, by omega⟩) _ hok) hs
  · rename_i f' ds
    simp only [RepA, RepV] at hrep
    obtain ⟨cv', he, hcr⟩ := hrep
    cases he
    exact clo f' (ds.map .d) rfl (RepAs.of_d hcr) (oks_d _) hs
  · cases hs
end
end Go.Abs
