/- Running code: sound. -/
import Derived.Test.YtehkgiofchmpaaaDoorAbsCook
namespace Go.Abs
open Go
set_option linter.unusedVariables false
set_option linter.unusedSimpArgs false
set_option linter.unnecessarySimpa false

/-! ### The least number -/
open Classical in
noncomputable def least (p : Nat → Prop) : Nat := if h : ∃ m, p m ∧ ∀ j, p j → m ≤ j then Classical.choose h else 0

theorem least_ex {p : Nat → Prop} (h : ∃ m, p m) : ∃ m, p m ∧ ∀ j, p j → m ≤ j := by
  obtain ⟨m, hm⟩ := h
  induction m using Nat.strongRecOn with
  | _ m ih =>
    by_cases hx : ∃ j, j < m ∧ p j
    · obtain ⟨j, hj, hp⟩ := hx
      exact ih j hj hp
    · exact ⟨m, hm, fun j hj => Nat.le_of_not_lt fun hlt => hx ⟨j, hlt, hj⟩⟩

theorem least_spec {p : Nat → Prop} (h : ∃ m, p m) : p (least p) ∧ ∀ j, p j → least p ≤ j := by
  unfold least
  rw [dif_pos (least_ex h)]
  exact Classical.choose_spec (least_ex h)

section
variable {P : Program} {g0 : G} {h0 : Gh} {w0 : World} {nt : Nat}

theorem ExQ.mono {Q Q' : Exit → Act → World → Prop} {a : Act} {w : World} {h : Gh} (hq : ∀ e, Q e a w → Q' e a w) : ∀ ex, ExQ Q a w h ex → ExQ Q' a w h ex
  | .normal, hx => hq _ hx
  | .exit _, hx => hq _ hx
  | .goto _, hx => hq _ hx
  | .ret, hx => hq _ hx
  | .panic _, hx => fun v hv => hq _ (hx v hv)

theorem exec_sound (hmix : P.follows .mixedOrders = true) {R : Type} [Same R] {cx : Cx R} (hT : TyOk P cx.T) (hnt : cx.nt = nt) (hC : CSound P cx.C) (hE : ESound P cx.E) {F : Fence} (hF : FR F g0 h0) (hfl : h0.flat = true → cx.hint.flat = true) {r : R} :
    ∀ (c : Code) {s : St} {k : Ex → St → Option R}, exec cx c s k = some r → codeOk cx.hint c = true → ∀ {a : Act} {w : World} {h : Gh}, SI nt g0 h0 w0 s a w h → ∀ {Q : Exit → Act → World → Prop}, ExOk k r nt g0 h0 w0 Q → c.wpIn F 0 P Q a w
  | .skip, s, k, hs, _, a, w, h, hsi, Q, hk => wpIn_skip (hk .normal s a w h hsi hs)
  | .label l, s, k, hs, _, a, w, h, hsi, Q, hk => wpIn_label (hk .normal s a w h hsi hs)
  | .exit id, s, k, hs, _, a, w, h, hsi, Q, hk => wpIn_exit (hk (.exit id) s a w h hsi hs)
  | .goto l, s, k, hs, _, a, w, h, hsi, Q, hk => wpIn_goto (hk (.goto l) s a w h hsi hs)
  | .ret, s, k, hs, _, a, w, h, hsi, Q, hk => wpIn_ret (hk .ret s a w h hsi hs)
  | .seq x y, s, k, hs, hc, a, w, h, hsi, Q, hk => by
    simp only [codeOk, Bool.and_eq_true] at hc
    refine wpIn_seq (exec_sound hmix hT hnt hC hE hF hfl x hs hc.1 hsi ?_)
    intro ex s' a' w' h' hsi' hk'
    cases ex with
    | normal => exact exec_sound hmix hT hnt hC hE hF hfl y hk' hc.2 hsi' hk
    | exit id => exact hk (.exit id) s' a' w' h' hsi' hk'
    | goto l => exact hk (.goto l) s' a' w' h' hsi' hk'
    | ret => exact hk .ret s' a' w' h' hsi' hk'
    | panic x => exact hk (.panic x) s' a' w' h' hsi' hk'
  | .cond c x y, s, k, hs, hc, a, w, h, hsi, Q, hk => by
    simp only [codeOk, Bool.and_eq_true] at hc
    unfold exec at hs
    cases he : ev s.tm c with
    | none => simp [he] at hs
    | some v =>
      have hv := ev_rep (Tms.of hsi.fi) he
      cases v with
      | d z =>
        cases z with
        | bool t =>
          simp only [RepA, RepV] at hv
          refine wpIn_cond hv ?_
          simp only [he] at hs
          cases t with
          | true => exact exec_sound hmix hT hnt hC hE hF hfl x hs hc.1 hsi hk
          | false => exact exec_sound hmix hT hnt hC hE hF hfl y hs hc.2 hsi hk
        | _ => simp [he] at hs
      | _ => simp [he] at hs
  | .block id c, s, k, hs, hc, a, w, h, hsi, Q, hk => by
    simp only [codeOk] at hc
    refine wpIn_block (exec_sound hmix hT hnt hC hE hF hfl c hs hc hsi ?_)
    intro ex s' a' w' h' hsi' hk'
    cases ex with
    | normal => exact hk .normal s' a' w' h' hsi' hk'
    | exit i =>
      show if i = id then Q .normal a' w' else Q (.exit i) a' w'
      simp only at hk'
      by_cases hi : i = id
      · rw [if_pos hi]
        rw [if_pos (by simpa using hi)] at hk'
        exact hk .normal s' a' w' h' hsi' hk'
      · rw [if_neg hi]
        rw [if_neg (by simpa using hi)] at hk'
        exact hk (.exit i) s' a' w' h' hsi' hk'
    | goto l => exact hk (.goto l) s' a' w' h' hsi' hk'
    | ret => exact hk .ret s' a' w' h' hsi' hk'
    | panic x => exact hk (.panic x) s' a' w' h' hsi' hk'
  | .loop c, s, k, hs, hc, a, w, h, hsi, Q, hk => by
    simp only [codeOk] at hc
    obtain ⟨I, hI⟩ : ∃ I : Nat → Act → World → Prop, I = fun m a w => ∃ s h, SI nt g0 h0 w0 s a w h ∧ loopN cx.hint (firstRegion c) (fun s k => exec cx c s k) m s k = some r := ⟨_, rfl⟩
    refine wpIn_loop (fun a w => ∃ m, I m a w) (fun a w => least fun m => I m a w) ⟨cx.fuel, by rw [hI]; exact ⟨s, h, hsi, hs⟩⟩ ?_
    intro a w hm
    have hmin := (least_spec hm).1
    generalize hμ : (least fun m => I m a w) = m at hmin
    rw [hI] at hmin
    obtain ⟨s1, h1, hsi1, hrun⟩ := hmin
    cases m with
    | zero => simp [loopN] at hrun
    | succ m =>
      simp only [loopN] at hrun
      cases hh : headSt cx.hint (firstRegion c) s1 with
      | none => simp [hh] at hrun
      | some s2 =>
        simp only [hh] at hrun
        obtain ⟨h2, hsi2⟩ := headSt_sound hh hsi1
        refine exec_sound hmix hT hnt hC hE hF hfl c hrun hc hsi2 ?_
        intro ex s' a' w' h' hsi' hk'
        cases ex with
        | normal =>
          show (∃ m, I m a' w') ∧ _
          have hx : I m a' w' := by rw [hI]; exact ⟨s', h', hsi', hk'⟩
          refine ⟨⟨m, hx⟩, ?_⟩
          exact Nat.lt_succ_of_le ((least_spec (p := fun m => I m a' w') ⟨m, hx⟩).2 m hx)
        | exit id => exact hk (.exit id) s' a' w' h' hsi' hk'
        | goto l => exact hk (.goto l) s' a' w' h' hsi' hk'
        | ret => exact hk .ret s' a' w' h' hsi' hk'
        | panic x => exact hk (.panic x) s' a' w' h' hsi' hk'
  | .scope c, s, k, hs, hc, a, w, h, hsi, Q, hk => by
    simp only [codeOk] at hc
    refine wpIn_scope_straight (exec_sound hmix hT hnt hC hE hF hfl c hs hc hsi ?_)
    intro ex s' a' w' h' hsi' hk'
    cases ex with
    | normal => exact hk .normal s' a' w' h' hsi' hk'
    | exit i => exact hk (.exit i) s' a' w' h' hsi' hk'
    | goto l => simp at hk'
    | ret => exact hk .ret s' a' w' h' hsi' hk'
    | panic x => exact hk (.panic x) s' a' w' h' hsi' hk'
  | .region id ops draw, s, k, hs, hc, a, w, h, hsi, Q, hk => by
    unfold exec at hs
    cases draw with
    | true =>
      simp only at hs
      simp only [codeOk, Bool.not_true, Bool.false_or] at hc
      cases ho : cx.hint.ord id with
      | none =>
        simp only [ho] at hs hc
        exact draw_sound hmix hT hnt hC hE hF.isF (k := cooked k (cx.hint.cook id)) hc hs (cooked_ok hk).next hsi
      | some q =>
        obtain ⟨cf, os⟩ := q
        simp only [ho] at hs hc
        exact draw_ord hmix hT hnt hC hE hF.isF hc hs (fun s' a' w' h' hsi' hk' => (cooked_ok (ps := cx.hint.cook id) hk).next.1 s' a' w' h' hsi' hk') hsi
    | false =>
      simp only at hs
      exact regionP_sound hT hnt hC hE hF.isF hs (cooked_ok hk).next hsi
  | .rangeFunc f params assign body, s, k, hs, hc, a, w, h, hsi, Q, hk => by
    simp only [codeOk, Bool.and_eq_true, Bool.not_eq_true'] at hc
    exact range_sound (by
      cases hq : h0.flat with
      | false => rfl
      | true => rw [hfl hq] at hc; exact absurd hc.1.1 (by simp)) hnt hE hF hs hc.1.2 hc.2 hsi hk
  | .refuse _, s, k, hs, _, a, w, h, hsi, Q, hk => by simp [exec] at hs
end
end Go.Abs
