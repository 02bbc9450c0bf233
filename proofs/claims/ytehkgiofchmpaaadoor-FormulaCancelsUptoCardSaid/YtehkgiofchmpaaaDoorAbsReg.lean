/- Operations in a region. -/
import Derived.Test.YtehkgiofchmpaaaDoorAbsCall2
namespace Go.Abs
open Go
set_option linter.unusedVariables false
set_option linter.unusedSimpArgs false
set_option linter.unnecessarySimpa false

theorem putOwn_g {k : Option Nat} {dst sz : Nat} {es : List (List D)} {s s' : St} (h : putOwn k dst sz es s = some s') : s'.g = s.g := by
  unfold putOwn at h
  split at h
  · cases h
  · cases h; rfl

theorem letIn_g (nm : Id) (a : AV) (s : St) : (letIn nm a s).g.dp = s.g.dp ∧ (letIn nm a s).g.lp = s.g.lp := by cases a <;> exact ⟨rfl, rfl⟩

/-- A step that is no call of Go code leaves depth and loops as they are. -/
theorem stepOp_g {T : Nat → Option TI} {hint : Hint} {nt : Nat} {o : Oper} {s s' : St} (hs : stepOp T hint nt o s = some s') : s'.g.dp = s.g.dp ∧ s'.g.lp = s.g.lp := by
  unfold stepOp at hs
  split at hs
  · split at hs
    · unfold storeA at hs
      split at hs <;> try (cases hs; done)
      · unfold storeB at hs
        split at hs <;> try (cases hs; done)
        dsimp only at hs
        repeat' (split at hs <;> try (cases hs; done))
        simp only [Option.some.injEq] at hs; subst hs
        exact letIn_g _ _ _
      · unfold storeR at hs
        repeat' (split at hs <;> try (cases hs; done))
        simp only [Option.some.injEq] at hs; subst hs
        exact ⟨rfl, rfl⟩
    · cases hs
  · split at hs
    case isFalse => cases hs
    split at hs
    · unfold allocA at hs
      split at hs <;> cases hs
      exact ⟨rfl, rfl⟩
    · unfold boxA at hs
      split at hs <;> try (cases hs; done)
      split at hs <;> try (cases hs; done)
      dsimp only at hs
      repeat' (split at hs <;> try (cases hs; done))
      simp only [Option.some.injEq] at hs; subst hs
      exact letIn_g _ _ _
    · repeat' (split at hs <;> try (cases hs; done))
      cases hs; exact ⟨rfl, rfl⟩
    · unfold buildSliceA at hs
      repeat' (split at hs <;> try (cases hs; done))
      rw [putOwn_g hs]; exact ⟨rfl, rfl⟩
    · unfold callB appendA at hs
      repeat' (split at hs <;> try (cases hs; done))
      all_goals first
        | (rw [putOwn_g hs]; exact ⟨rfl, rfl⟩)
        | (cases hs; exact ⟨rfl, rfl⟩)
    · split at hs
      · unfold makeFuncA at hs
        split at hs <;> try (cases hs; done)
        split at hs <;> try (cases hs; done)
        simp only [Option.some.injEq] at hs; subst hs
        exact ⟨rfl, rfl⟩
      · cases hs
    · split at hs
      · cases hs; exact ⟨rfl, rfl⟩
      · cases hs

theorem stepOp_noDefer {T : Nat → Option TI} {hint : Hint} {nt : Nat} {o : Oper} {s s' : St} (hs : stepOp T hint nt o s = some s') (c : Call) : o.op ≠ .defer c := by
  intro he
  unfold stepOp at hs
  rw [he] at hs
  split at hs
  · cases hs
  · split at hs
    · simp [opP] at hs
    · cases hs

theorem put_defers (a : Act) (d : Option Tmp) (v : Value) : (a.put d v).defers = a.defers := by cases d <;> rfl

section
variable {P : Program} {T : Nat → Option TI} {g0 : G} {h0 : Gh} {w0 : World} {nt : Nat}

theorem SI.hdp {s : St} {a : Act} {w : World} {h : Gh} (hsi : SI nt g0 h0 w0 s a w h) : g0.dp < s.g.dp := by rw [hsi.dp]; omega

/-- One operation. -/
theorem runOp_sound {R : Type} {cx : Cx R} (hT : TyOk P cx.T) (hnt : cx.nt = nt) (hC : CSound P cx.C) (hE : ESound P cx.E) {F : Fence} (hF : IsF F) {eff : Bool} {o : Oper} {s : St} {k : Ex → St → Option R} {r : R}
    (hs : runOp cx eff o s k = some r) {a : Act} {w : World} {h : Gh} (hsi : SI nt g0 h0 w0 s a w h) {next : Act → World → Prop} {Q : Exit → Act → World → Prop}
    (hk : NextOk k r nt g0 h0 w0 next Q) : o.wpIn F 0 P a w next Q := by
  refine ⟨fun f _ => hF.fn f, ?_⟩
  unfold runOp at hs
  split at hs
  · rename_i f args hgo
    split at hs
    · rename_i fa as hf has
      split at hs
      case isFalse => cases hs
      rename_i hn
      obtain ⟨c, hop, hcl, hca⟩ : ∃ c, o.op = .call c ∧ c.callee = .value f ∧ c.args.toList = args := by
        unfold goCall at hgo
        split at hgo
        · rename_i c hop
          split at hgo
          · rename_i f' hcl
            simp only [Option.some.injEq, Prod.mk.injEq] at hgo
            exact ⟨c, hop, by rw [hcl, hgo.1], hgo.2⟩
          · cases hgo
        · cases hgo
      have htm := Tms.of hsi.fi
      have hok := fun t v hv => (hsi.fi.tm t v hv).2
      have h1 := ev_rep htm hf
      have h2 := evs_rep htm has
      have key := callA_sound hnt hC hE hF hs hsi hk h1 h2 (ev_ok hok hf) hn (evs_ok hok has)
      rw [Oper.semAt_eq _ _ _ (by intro c'; rw [hop]; simp)]
      have he : execOp a.eval o = (do let d ← Deferred.ofValue (a.eval f) (args.map a.eval).toArray; invoke d.target d.args : Sem Next) := by
        have ha : (args.map a.eval).toArray = c.args.map a.eval := by
          rw [← hca]; apply Array.ext'; simp
        rw [ha]
        simp [execOp, hop, resolve, hcl]
      rw [he]
      exact key
    · cases hs
  · split at hs
    · rename_i s' hst
      obtain ⟨nx, w', a', h', hrun, hdid, f', r'⟩ := stepOp_sound hT hsi.fi hsi.rel hsi.hdp (by rw [← hnt]; exact hst)
      obtain ⟨g1, g2⟩ := stepOp_g hst
      rw [Oper.semAt_eq _ _ _ (stepOp_noDefer hst), hrun]
      have hdf : a'.defers = a.defers := by
        rcases hdid with ⟨u, _, rfl⟩ | ⟨_, rfl⟩ <;> exact put_defers _ _ _
      have hsi' : SI nt g0 h0 w0 s' a' w' h' := ⟨f', r', by rw [g1]; exact hsi.dp, by rw [g2]; exact hsi.lps, by rw [hdf]; exact hsi.nd, by rw [hdf]; exact hsi.dnew, hsi.lpd, hsi.bxd⟩
      have := hk.1 s' a' w' h' hsi' hs
      rcases hdid with ⟨u, rfl, rfl⟩ | ⟨rfl, rfl⟩
      · exact this
      · exact this
    · cases hs

/-- An operation that its guard passes over. -/
theorem SI.passed {s s' : St} {a : Act} {w : World} {h : Gh} (hsi : SI nt g0 h0 w0 s a w h) {dst : Option Nat} (hp : putV nt dst (.tup []) s = some s') : SI nt g0 h0 w0 s' (a.put dst undef) w h := by
  unfold putV at hp
  split at hp
  · rename_i d
    split at hp
    case isFalse => cases hp
    rename_i hd
    cases hp
    exact ⟨hsi.fi.put (by simpa using hd) (v := .tup []) (u := undef) (by simp only [RepA]; exact ⟨#[], rfl, by simp [RepAs]⟩) (by simp [AV.ok, AV.oks]), hsi.rel, hsi.dp, hsi.lps, hsi.nd, hsi.dnew, hsi.lpd, hsi.bxd⟩
  · cases hp
    exact hsi

theorem guardV_yielded {ops : Array Oper} {s : St} {a : Act} {w : World} {h : Gh} (hf : FI nt s a w h) {g : Nat} {b : Option Bool} (hg : guardV ops s.tm g = some b) : yielded ops a.tmps g = b := by
  unfold guardV at hg
  unfold yielded
  cases ho : ops[g]? with
  | none => simp [ho] at hg
  | some o =>
    simp only [ho] at hg
    cases hd : o.dst with
    | none => simp [hd] at hg
    | some t =>
      simp only [hd] at hg
      simp only [Option.bind_some, hd]
      cases ht : s.tm t with
      | none => simp [ht] at hg
      | some v =>
        have hr := (hf.tm t v ht).1
        simp only [ht] at hg
        have hget : a.tmps.getD t undef = (a.tmps[t]?).getD undef := by simp [Array.getD_eq_getD_getElem?]
        rw [hget] at hr
        split at hg
        · rename_i x hx
          cases hx
          cases hg
          simp only [RepA, RepV] at hr
          cases hq : a.tmps[t]? with
          | none => rw [hq] at hr; simp [undef] at hr
          | some u => rw [hq] at hr; simp at hr; rw [hr]
        · rename_i hx
          cases hx
          cases hg
          simp only [RepA] at hr
          obtain ⟨cv, hcv, _⟩ := hr
          cases hq : a.tmps[t]? with
          | none => rfl
          | some u => rw [hq] at hcv; simp at hcv; rw [hcv]
        · cases hg

/-- An operation and its guard, with what follows. -/
theorem runG_sound {R : Type} {cx : Cx R} (hT : TyOk P cx.T) (hnt : cx.nt = nt) (hC : CSound P cx.C) (hE : ESound P cx.E) {F : Fence} (hF : IsF F) {eff : Bool} {ops : Array Oper} {o : Oper} {s : St} {k : Ex → St → Option R} {r : R}
    (hs : runG cx eff ops o s k = some r) {a : Act} {w : World} {h : Gh} (hsi : SI nt g0 h0 w0 s a w h) {next : Act → World → Prop} {Q : Exit → Act → World → Prop}
    (hk : NextOk k r nt g0 h0 w0 next Q) :
    if Region.wanted o (yielded ops a.tmps) then o.wpIn F 0 P a w next Q else (∀ f, o.about P w a.eval = some f → F.fn f) ∧ next (a.put o.dst undef) w := by
  unfold runG at hs
  split at hs
  · rename_i hg
    rw [if_pos (by simp [Region.wanted, hg])]
    exact runOp_sound hT hnt hC hE hF hs hsi hk
  · rename_i g want hg
    split at hs
    · rename_i b hgv
      have hy := guardV_yielded hsi.fi hgv
      split at hs
      · rename_i hb
        rw [if_pos (by simp [Region.wanted, hg, hy]; simpa using hb)]
        exact runOp_sound hT hnt hC hE hF hs hsi hk
      · rename_i hb
        rw [if_neg (by simp [Region.wanted, hg, hy]; simpa using hb)]
        split at hs
        · rename_i s' hp
          exact ⟨fun f _ => hF.fn f, hk.1 s' _ _ _ (hsi.passed (by rw [← hnt]; exact hp)) hs⟩
        · cases hs
    · rename_i hgv
      have hy := guardV_yielded hsi.fi hgv
      rw [if_neg (by simp [Region.wanted, hg, hy])]
      split at hs
      · rename_i s' hp
        exact ⟨fun f _ => hF.fn f, hk.1 s' _ _ _ (hsi.passed (by rw [← hnt]; exact hp)) hs⟩
      · cases hs
    · cases hs

/-- A region's operations in the order of the text. -/
theorem runOps_part {R : Type} {cx : Cx R} (hT : TyOk P cx.T) (hnt : cx.nt = nt) (hC : CSound P cx.C) (hE : ESound P cx.E) {F : Fence} (hF : IsF F) {eff : Nat → Bool} {ops : Array Oper} {k : Ex → St → Option R} {r : R}
    {Q : Exit → Act → World → Prop} {tl : List Nat} (hk : NextOk k r nt g0 h0 w0 (wpOpsIn F 0 P ops Q tl) Q) :
    ∀ (n : Nat) (i : Nat) (l : List Oper), l = (ops.toList.drop i).take n → n = l.length → ∀ {s : St}, runOps cx eff ops l i s k = some r → ∀ {a : Act} {w : World} {h : Gh}, SI nt g0 h0 w0 s a w h → wpOpsIn F 0 P ops Q (List.range' i n ++ tl) a w := by
  intro n
  induction n with
  | zero =>
    intro i l hl hn s hs a w h hsi
    cases l with
    | cons _ _ => simp at hn
    | nil => exact hk.1 _ _ _ _ hsi hs
  | succ n ih =>
    intro i l hl hn s hs a w h hsi
    cases l with
    | nil => simp at hn
    | cons o rest =>
      have ho : ops[i]? = some o := by
        have : ((ops.toList.drop i).take (n + 1))[0]? = some o := by rw [← hl]; rfl
        simpa using this
      have hrest : rest = (ops.toList.drop (i + 1)).take n := by
        have : ((ops.toList.drop i).take (n + 1)).tail = rest := by rw [← hl]; rfl
        rw [← this]
        cases hd : ops.toList.drop i with
        | nil =>
          rw [hd] at hl
          simp at hl
        | cons y ys =>
          have : ops.toList.drop (i + 1) = ys := by
            rw [← List.tail_drop, hd]; rfl
          rw [this]; rfl
      simp only [List.range', List.cons_append, wpOpsIn, ho]
      simp only [runOps] at hs
      refine runG_sound hT hnt hC hE hF hs hsi ⟨?_, ?_⟩
      · intro s' a' w' h' hsi' hs'
        exact ih (i + 1) rest hrest (by simpa using hn) hs' hsi'
      · intro x s' a' w' h' v hsi' hv hs'
        exact hk.2 x s' a' w' h' v hsi' hv hs'

theorem runOps_sound {R : Type} {cx : Cx R} (hT : TyOk P cx.T) (hnt : cx.nt = nt) (hC : CSound P cx.C) (hE : ESound P cx.E) {F : Fence} (hF : IsF F) {eff : Nat → Bool} {ops : Array Oper} {k : Ex → St → Option R} {r : R}
    {Q : Exit → Act → World → Prop} (hk : NextOk k r nt g0 h0 w0 (Q .normal) Q) :
    ∀ (n : Nat) (i : Nat) (l : List Oper), l = ops.toList.drop i → n = l.length → ∀ {s : St}, runOps cx eff ops l i s k = some r → ∀ {a : Act} {w : World} {h : Gh}, SI nt g0 h0 w0 s a w h → wpOpsIn F 0 P ops Q (List.range' i n) a w := by
  intro n
  induction n with
  | zero =>
    intro i l hl hn s hs a w h hsi
    cases l with
    | cons _ _ => simp at hn
    | nil => exact hk.1 _ _ _ _ hsi hs
  | succ n ih =>
    intro i l hl hn s hs a w h hsi
    cases l with
    | nil => simp at hn
    | cons o rest =>
      have ho : ops[i]? = some o := by
        have : (ops.toList.drop i)[0]? = some o := by rw [← hl]; rfl
        simpa using this
      have hrest : rest = ops.toList.drop (i + 1) := by
        have : (ops.toList.drop i).tail = rest := by rw [← hl]; rfl
        rw [← this, List.tail_drop]
      simp only [List.range', wpOpsIn, ho]
      simp only [runOps] at hs
      refine runG_sound hT hnt hC hE hF hs hsi ⟨?_, ?_⟩
      · intro s' a' w' h' hsi' hs'
        exact ih (i + 1) rest hrest (by simpa using hn) hs' hsi'
      · intro x s' a' w' h' v hsi' hv hs'
        exact hk.2 x s' a' w' h' v hsi' hv hs'

theorem panicOp_some {o : Oper} {x : Operand} (h : panicOp o = some x) : o.guard = none ∧ o.op = .panic x := by
  unfold panicOp at h
  split at h
  · rename_i h1 h2
    simp only [Option.some.injEq] at h; subst h
    exact ⟨h1, h2⟩
  · cases h

/-- The same, panics too. -/
theorem runOpsP_sound {R : Type} {cx : Cx R} (hT : TyOk P cx.T) (hnt : cx.nt = nt) (hC : CSound P cx.C) (hE : ESound P cx.E) {F : Fence} (hF : IsF F) {ops : Array Oper} {k : Ex → St → Option R} {r : R}
    {Q : Exit → Act → World → Prop} (hk : NextOk k r nt g0 h0 w0 (Q .normal) Q) :
    ∀ (n : Nat) (i : Nat) (l : List Oper), l = ops.toList.drop i → n = l.length → ∀ {s : St}, runOpsP cx ops l i s k = some r → ∀ {a : Act} {w : World} {h : Gh}, SI nt g0 h0 w0 s a w h → wpOpsIn F 0 P ops Q (List.range' i n) a w := by
  intro n
  induction n with
  | zero =>
    intro i l hl hn s hs a w h hsi
    cases l with
    | cons _ _ => simp at hn
    | nil => exact hk.1 _ _ _ _ hsi hs
  | succ n ih =>
    intro i l hl hn s hs a w h hsi
    cases l with
    | nil => simp at hn
    | cons o rest =>
      have ho : ops[i]? = some o := by
        have : (ops.toList.drop i)[0]? = some o := by rw [← hl]; rfl
        simpa using this
      have hrest : rest = ops.toList.drop (i + 1) := by
        have : (ops.toList.drop i).tail = rest := by rw [← hl]; rfl
        rw [← this, List.tail_drop]
      simp only [List.range', wpOpsIn, ho]
      simp only [runOpsP] at hs
      cases hp : panicOp o with
      | some x =>
        simp only [hp] at hs
        obtain ⟨hg, hop⟩ := panicOp_some hp
        rw [if_pos (by simp [Region.wanted, hg])]
        split at hs
        · rename_i t v hx
          have hv := ev_rep (Tms.of hsi.fi) hx
          simp only [RepA] at hv
          have hv0 := hv
          simp only [RepV] at hv
          obtain ⟨u, hxe, hu⟩ := hv
          refine ⟨fun f _ => hF.fn f, ?_⟩
          rw [Oper.semAt_eq _ _ _ (by intro c'; rw [hop]; simp)]
          have hrun : (execOp a.eval o).run P w = .halt (.panic (.iface t u)) w := by
            have h1 : (Instr.panic (.iface t u)).run P w = .halt (.panic (.iface t u)) w := rfl
            simp [execOp, hop, hxe, h1, Result.andThen]
          rw [hrun, Oper.uponIn_panic]
          exact hk.2 _ _ _ _ _ _ hsi (by rw [← hxe]; exact hv0) hs
        · cases hs
      | none =>
        simp only [hp] at hs
        refine runG_sound hT hnt hC hE hF hs hsi ⟨?_, ?_⟩
        · intro s' a' w' h' hsi' hs'
          exact ih (i + 1) rest hrest (by simpa using hn) hs' hsi'
        · intro x s' a' w' h' v hsi' hv hs'
          exact hk.2 x s' a' w' h' v hsi' hv hs'

theorem regionP_sound {R : Type} {cx : Cx R} (hT : TyOk P cx.T) (hnt : cx.nt = nt) (hC : CSound P cx.C) (hE : ESound P cx.E) {F : Fence} (hF : IsF F) {id : Nat} {ops : Array Oper} {k : Ex → St → Option R} {r : R} {s : St}
    (hs : runOpsP cx ops ops.toList 0 s k = some r) {Q : Exit → Act → World → Prop} (hk : NextOk k r nt g0 h0 w0 (Q .normal) Q) {a : Act} {w : World} {h : Gh} (hsi : SI nt g0 h0 w0 s a w h) :
    (Code.region id ops false).wpIn F 0 P Q a w := by
  refine wpIn_region ?_
  have := runOpsP_sound hT hnt hC hE hF hk ops.toList.length 0 ops.toList (by simp) rfl hs hsi
  rwa [Array.length_toList, ← List.range_eq_range'] at this

theorem region_sound {R : Type} {cx : Cx R} (hT : TyOk P cx.T) (hnt : cx.nt = nt) (hC : CSound P cx.C) (hE : ESound P cx.E) {F : Fence} (hF : IsF F) {eff : Nat → Bool} {id : Nat} {ops : Array Oper} {k : Ex → St → Option R} {r : R} {s : St}
    (hs : runOps cx eff ops ops.toList 0 s k = some r) {Q : Exit → Act → World → Prop} (hk : NextOk k r nt g0 h0 w0 (Q .normal) Q) {a : Act} {w : World} {h : Gh} (hsi : SI nt g0 h0 w0 s a w h) :
    (Code.region id ops false).wpIn F 0 P Q a w := by
  refine wpIn_region ?_
  have := runOps_sound hT hnt hC hE hF hk ops.toList.length 0 ops.toList (by simp) rfl hs hsi
  rwa [Array.length_toList, ← List.range_eq_range'] at this
end
end Go.Abs
