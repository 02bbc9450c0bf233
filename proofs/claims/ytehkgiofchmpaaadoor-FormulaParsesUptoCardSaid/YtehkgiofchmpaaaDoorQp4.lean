/- What the claim rests on, part 4. -/
import Derived.Test.YtehkgiofchmpaaaDoorQp3
import Derived.RecoverIn
import Derived.Lib.UnsafeStr
namespace Go.Abs
open Go
set_option linter.unusedVariables false
set_option linter.unusedSimpArgs false
set_option linter.unnecessarySimpa false
set_option linter.unusedSectionVars false
variable [Tabs]
theorem setRow_same (w : World) (b : Nat) (cc : Array Value) (e : TypeId) (hh : w.heap[b]? = some (.cells cc e (0, 0))) : w.setRow b cc = w := by
 have he : (w.setRow b cc).heap = w.heap := by
  apply Array.ext_getElem?
  intro i
  by_cases hi : i = b
  ·subst hi; rw [setRow_heap w i cc cc e (0, 0) hh, hh]
  ·rw [setRow_other w b i cc hi]
 calc w.setRow b cc = { w with heap := (w.setRow b cc).heap } := rfl
  _ = w := by rw [he]
theorem renGa_same (ga : Id → Option Nat) (i : Id) : renGa ga i i = ga := by
 funext k
 unfold renGa
 split
 ·rename_i e; rw [e]
 ·rfl
section
variable {P : Program} {T : Nat → Option TI} {g0 : G} {h0 : Gh} {w0 : World} {nt : Nat}
theorem FI.cook {s : St} {a : Act} {w : World} {h : Gh} (hf : FI nt s a w h) (hr : Rel g0 h0 w0 s.g w h) (hdp : g0.dp < s.g.dp) {k : Nat} {i : Id} {sz : Nat} {es : List (List D)} {v : Value} (hrep : RepA w h (.raw none k i sz es) v)
  (hi : TmQ s.fr s.g.dp i) : ∃ h', FI nt (demSt i s) a w h' ∧ Rel g0 h0 w0 (demSt i s).g w h' ∧ RepA w h' (.own i sz es) v ∧ h'.be = h.be := by
 obtain ⟨f1, n1⟩ := hf.dem i
 have r1 := hr.dem i
 simp only [RepA] at hrep
 rcases hrep with ⟨_, _, h1⟩ | ⟨_, h1, _⟩ | ⟨b, n, c, vs, cc, e, hv, hm, hn, hc, hkn, hs, hrf, hg, hL, hh, hrm, hcells⟩
 ·exact ⟨h, f1, r1, full_own h1, rfl⟩
 ·cases h1
 ·have hid : ∀ d t k, i = .tmp d t k → g0.dp < d := by
   intro d t k e
   subst e
   rw [hi.1]; exact hdp
  have hjd : ∀ d t k, i = .tmp d t k → d = (demSt i s).g.dp := by
   intro d t k e
   subst e
   exact hi.1
  obtain ⟨f2, r2⟩ := f1.extend r1 (i := i) (j := i) n1 n1 hid hjd hdp (b := b) (m := k * sz) (n := n * sz) (cc := cc) (cc' := cc) hg hh hL (Nat.mul_le_mul_right _ hkn) (fun _ _ => rfl)
  rw [setRow_same w b cc e hh] at f2 r2
  have hE : Ext w h.L w (LNew h.L b (n * sz)) := by
   refine ⟨fun q => ?_, fun _ _ _ => rfl⟩
   unfold LNew
   split
   ·rename_i e; rw [e, hL]; exact Nat.mul_le_mul_right _ hkn
   ·exact Nat.le_refl _
  refine ⟨_, f2, r2, ?_, rfl⟩
  rw [renGa_same]
  simp only [RepA]
  exact .inr ⟨b, n, c, vs, cc, e, hv, hn, hc, hs, RepF.ext hE _ _ hrf, hg, by simp [LNew], hh, hrm, hcells⟩
theorem cook1_g (p : Nat × Option Nat) (s : St) : (cook1 p s).g.dp = s.g.dp ∧ (cook1 p s).g.lp = s.g.lp := by
 unfold cook1
 repeat' split
 all_goals first
  | exact ⟨rfl, rfl⟩
  | (dsimp only; split <;> exact ⟨rfl, rfl⟩)
theorem cook1_sound {p : Nat × Option Nat} {s : St} {a : Act} {w : World} {h : Gh} (hf : FI nt s a w h) (hr : Rel g0 h0 w0 s.g w h) (hdp : g0.dp < s.g.dp) :
  ∃ h', FI nt (cook1 p s) a w h' ∧ Rel g0 h0 w0 (cook1 p s).g w h' := by
 unfold cook1
 split
 ·rename_i t
  split
  ·rename_i k i sz es ht
   obtain ⟨h1, h2⟩ := hf.tm t _ ht
   simp only [AV.ok] at h2
   obtain ⟨h', f1, r1, q1, _⟩ := hf.cook hr hdp h1 h2
   exact ⟨h', f1.retm q1 (by simp only [AV.ok]; exact h2), r1⟩
  ·exact ⟨h, hf, hr⟩
 ·rename_i t off'
  split
  case h_2 => exact ⟨h, hf, hr⟩
  rename_i d u o htp
  generalize o + off' = off
  split
  ·rename_i bo hbo
   split
   ·rename_i k i sz es hlock hce
    obtain ⟨g1, g2, b, c, e, g3, g4, ⟨g5, -⟩, g6, g7⟩ := hf.gi.bx _ u bo hbo
    obtain ⟨hfrz, htyz⟩ := Box.unlock hlock
    have hlt : off < bo.cells.length := (List.getElem?_eq_some_iff.1 hce).1
    have hlc : c.toList.length = bo.cells.length := g5.length
    have hget : ∀ {as : List AV} {vs : List Value} {j : Nat} {x : AV}, RepAs w h as vs → as[j]? = some x → ∃ u, vs[j]? = some u ∧ RepA w h x u := by
     intro as
     induction as with
     | nil => intro vs j x _ hx; simp at hx
     | cons y ys ih =>
      intro vs j x hra hx
      simp only [RepAs] at hra
      obtain ⟨u, us, rfl, k1, k2⟩ := hra
      cases j with
      | zero => simp at hx; subst hx; exact ⟨u, rfl, k1⟩
      | succ j => simpa using ih k2 (by simpa using hx)
    obtain ⟨uv, hu, hru⟩ := hget g5 hce
    have hib : IsBox i := by
     have := oks_mem g2 _ (List.mem_of_getElem? hce)
     simpa only [AV.ok] using this
    have hq : TmQ s.fr s.g.dp i := by cases i <;> first | trivial | exact hib.elim
    obtain ⟨h', f1, r1, q1, q2⟩ := hf.cook hr hdp hru hq
    dsimp only
    have hb1 : (demSt i s).g.bx d u = some { bo with cells := dems i bo.cells } := by
     show demBx i s.g.bx d u = _
     unfold demBx
     rw [hbo]
    rw [hb1]
    dsimp only
    obtain ⟨e1, e2, b2, c2, e3, k3, k4, ⟨k5, -⟩, k6, k7⟩ := f1.gi.bx _ u _ hb1
    rw [q2, g3] at k3
    cases k3
    rw [g4] at k4
    obtain ⟨k8, -⟩ : c = c2 ∧ True := by simp only [Option.some.injEq, Obj.cells.injEq] at k4; exact ⟨k4.1, trivial⟩
    subst k8
    have hl1 : (setCells (dems i bo.cells) off [AV.own i sz es]) = (dems i bo.cells).take off ++ [AV.own i sz es] ++ (dems i bo.cells).drop (off + 1) := rfl
    have hc1 : c.toList = c.toList.take off ++ [uv] ++ c.toList.drop (off + 1) := by
     have h1 : off < c.toList.length := by omega
     have h2 : c.toList[off] = uv := by
      have := List.getElem?_eq_getElem h1
      rw [this] at hu; exact Option.some.inj hu
     rw [← h2, List.append_assoc, List.singleton_append, List.getElem_cons_drop]
     exact (List.take_append_drop off c.toList).symm
    obtain ⟨n1, n2⟩ := f1.setBox r1 (d := d) (u := u) (b := b) hb1 hfrz (by rw [q2, g3]) g4 (c' := c) (cs' := setCells (dems i bo.cells) off [AV.own i sz es])
     (by
      refine RepBx.plain ?_ htyz
      rw [hl1, hc1]
      exact (k5.take.append (show RepAs w h' [AV.own i sz es] [uv] by simp only [RepAs]; exact ⟨uv, [], rfl, q1, rfl⟩)).append k5.drop)
     (by
      rw [hl1]
      refine oks_append (oks_append ?_ ⟨?_, trivial⟩) ?_
      ·exact oks_of fun y hy => oks_mem e2 y (List.mem_of_mem_take hy)
      ·simpa only [AV.ok] using hib
      ·exact oks_of fun y hy => oks_mem e2 y (List.mem_of_mem_drop hy))
     k6
    rw [setRow_same w b c e.1 g4] at n1 n2
    exact ⟨h', n1, n2⟩
   ·exact ⟨h, hf, hr⟩
  ·exact ⟨h, hf, hr⟩
theorem cookAll_sound : ∀ (ps : List (Nat × Option Nat)) {s : St} {a : Act} {w : World} {h : Gh}, SI nt g0 h0 w0 s a w h → ∃ h', SI nt g0 h0 w0 (cookAll ps s) a w h'
 | [], s, a, w, h, hsi => ⟨h, hsi⟩
 | p :: ps, s, a, w, h, hsi => by
  obtain ⟨h', f1, r1⟩ := cook1_sound (p := p) hsi.fi hsi.rel hsi.hdp
  obtain ⟨e1, e2⟩ := cook1_g p s
  exact cookAll_sound ps ⟨f1, r1, by rw [e1]; exact hsi.dp, by rw [e2]; exact hsi.lps, hsi.nd, hsi.dnew, hsi.lpd, hsi.bxd⟩
theorem cooked_ok {R : Type} {k : Ex → St → Option R} {r : R} {ps : List (Nat × Option Nat)} {Q : Exit → Act → World → Prop} (hk : ExOk k r nt g0 h0 w0 Q) : ExOk (cooked k ps) r nt g0 h0 w0 Q := by
 intro ex s' a' w' h' hsi hs
 cases ex with
 | normal =>
  obtain ⟨h2, hsi2⟩ := cookAll_sound ps hsi
  exact hk .normal _ a' w' h2 hsi2 hs
 | exit id => exact hk (.exit id) s' a' w' h' hsi hs
 | goto l => exact hk (.goto l) s' a' w' h' hsi hs
 | ret => exact hk .ret s' a' w' h' hsi hs
 | panic x => exact hk (.panic x) s' a' w' h' hsi hs
end
end Go.Abs
namespace Go.Abs
open Go
set_option linter.unusedVariables false
set_option linter.unusedSimpArgs false
set_option linter.unnecessarySimpa false
set_option linter.unusedSectionVars false
variable [Tabs]
open Classical in
noncomputable def least (p : Nat → Prop) : Nat := if h : ∃ m, p m ∧ ∀ j, p j → m ≤ j then Classical.choose h else 0
theorem least_ex {p : Nat → Prop} (h : ∃ m, p m) : ∃ m, p m ∧ ∀ j, p j → m ≤ j := by
 obtain ⟨m, hm⟩ := h
 induction m using Nat.strongRecOn with
 | _ m ih =>
  by_cases hx : ∃ j, j < m ∧ p j
  ·obtain ⟨j, hj, hp⟩ := hx
   exact ih j hj hp
  ·exact ⟨m, hm, fun j hj => Nat.le_of_not_lt fun hlt => hx ⟨j, hlt, hj⟩⟩
theorem least_spec {p : Nat → Prop} (h : ∃ m, p m) : p (least p) ∧ ∀ j, p j → least p ≤ j := by
 unfold least
 rw [dif_pos (least_ex h)]
 exact Classical.choose_spec (least_ex h)
section
variable {P : Program} {g0 : G} {h0 : Gh} {w0 : World} {nt : Nat}
theorem exec_sound (hmix : P.follows .mixedOrders = true) {R : Type} [Same R] {cx : Cx R} (hT : TyOk P cx.T) (hnt : cx.nt = nt) (hC : CSound P cx.C) (hE : ESound P cx.E) {F : Fence} (hF : FR F g0 h0) (hfl : h0.flat = true → cx.hint.flat = true) {r : R} :
  ∀ (c : Code) {s : St} {k : Ex → St → Option R}, exec cx c s k = some r → codeOk cx.hint c = true → ∀ {a : Act} {w : World} {h : Gh}, SI nt g0 h0 w0 s a w h → ∀ {Q : Exit → Act → World → Prop}, ExOk k r nt g0 h0 w0 Q → c.wpIn F 0 P Q a w
 | .skip, s, k, hs, _, a, w, h, hsi, Q, hk => wpIn_skip (hk .normal s a w h hsi hs)
 | .label l, s, k, hs, _, a, w, h, hsi, Q, hk => wpIn_label (hk .normal s a w h hsi hs)
 | .exit id, s, k, hs, _, a, w, h, hsi, Q, hk => wpIn_exit (hk (.exit id) s a w h hsi hs)
 | .goto l, s, k, hs, _, a, w, h, hsi, Q, hk => wpIn_goto (hk (.goto l) s a w h hsi hs)
 | .ret, s, k, hs, _, a, w, h, hsi, Q, hk => wpIn_ret (hk .ret s a w h hsi hs)
 | .seq x y, s, k, hs, hc, a, w, h, hsi, Q, hk => by
  simp only [codeOk, Bool.and_eq_true] at hc
  refine wpIn_seq (exec_sound hmix hT hnt hC hE hF hfl x hs hc.1 hsi ?_)
  intro ex s' a' w' h' hsi' hk'
  cases ex with
  | normal => exact exec_sound hmix hT hnt hC hE hF hfl y hk' hc.2 hsi' hk
  | exit id => exact hk (.exit id) s' a' w' h' hsi' hk'
  | goto l => exact hk (.goto l) s' a' w' h' hsi' hk'
  | ret => exact hk .ret s' a' w' h' hsi' hk'
  | panic x => exact hk (.panic x) s' a' w' h' hsi' hk'
 | .cond c x y, s, k, hs, hc, a, w, h, hsi, Q, hk => by
  simp only [codeOk, Bool.and_eq_true] at hc
  unfold exec at hs
  cases he : ev s.tm c with
  | none => simp [he] at hs
  | some v =>
   have hv := ev_rep (Tms.of hsi.fi) he
   cases v with
   | d z =>
    cases z with
    | bool t =>
     simp only [RepA, RepV] at hv
     refine wpIn_cond hv ?_
     simp only [he] at hs
     cases t with
     | true => exact exec_sound hmix hT hnt hC hE hF hfl x hs hc.1 hsi hk
     | false => exact exec_sound hmix hT hnt hC hE hF hfl y hs hc.2 hsi hk
    | _ => simp [he] at hs
   | _ => simp [he] at hs
 | .block id c, s, k, hs, hc, a, w, h, hsi, Q, hk => by
  simp only [codeOk] at hc
  refine wpIn_block (exec_sound hmix hT hnt hC hE hF hfl c hs hc hsi ?_)
  intro ex s' a' w' h' hsi' hk'
  cases ex with
  | normal => exact hk .normal s' a' w' h' hsi' hk'
  | exit i =>
   show if i = id then Q .normal a' w' else Q (.exit i) a' w'
   simp only at hk'
   by_cases hi : i = id
   ·rw [if_pos hi]
    rw [if_pos (by simpa using hi)] at hk'
    exact hk .normal s' a' w' h' hsi' hk'
   ·rw [if_neg hi]
    rw [if_neg (by simpa using hi)] at hk'
    exact hk (.exit i) s' a' w' h' hsi' hk'
  | goto l => exact hk (.goto l) s' a' w' h' hsi' hk'
  | ret => exact hk .ret s' a' w' h' hsi' hk'
  | panic x => exact hk (.panic x) s' a' w' h' hsi' hk'
 | .loop c, s, k, hs, hc, a, w, h, hsi, Q, hk => by
  simp only [codeOk] at hc
  obtain ⟨I, hI⟩ : ∃ I : Nat → Act → World → Prop, I = fun m a w => ∃ s h, SI nt g0 h0 w0 s a w h ∧ loopN cx.hint (firstRegion c) (fun s k => exec cx c s k) m s k = some r := ⟨_, rfl⟩
  refine wpIn_loop (fun a w => ∃ m, I m a w) (fun a w => least fun m => I m a w) ⟨cx.fuel, by rw [hI]; exact ⟨s, h, hsi, hs⟩⟩ ?_
  intro a w hm
  have hmin := (least_spec hm).1
  generalize hμ : (least fun m => I m a w) = m at hmin
  rw [hI] at hmin
  obtain ⟨s1, h1, hsi1, hrun⟩ := hmin
  cases m with
  | zero => simp [loopN] at hrun
  | succ m =>
   simp only [loopN] at hrun
   cases hh : headSt cx.hint (firstRegion c) s1 with
   | none => simp [hh] at hrun
   | some s2 =>
    simp only [hh] at hrun
    obtain ⟨h2, hsi2⟩ := headSt_sound hh hsi1
    refine exec_sound hmix hT hnt hC hE hF hfl c hrun hc hsi2 ?_
    intro ex s' a' w' h' hsi' hk'
    cases ex with
    | normal =>
     show (∃ m, I m a' w') ∧ _
     have hx : I m a' w' := by rw [hI]; exact ⟨s', h', hsi', hk'⟩
     refine ⟨⟨m, hx⟩, ?_⟩
     exact Nat.lt_succ_of_le ((least_spec (p := fun m => I m a' w') ⟨m, hx⟩).2 m hx)
    | exit id => exact hk (.exit id) s' a' w' h' hsi' hk'
    | goto l => exact hk (.goto l) s' a' w' h' hsi' hk'
    | ret => exact hk .ret s' a' w' h' hsi' hk'
    | panic x => exact hk (.panic x) s' a' w' h' hsi' hk'
 | .scope c, s, k, hs, hc, a, w, h, hsi, Q, hk => by
  simp only [codeOk] at hc
  refine wpIn_scope_straight (exec_sound hmix hT hnt hC hE hF hfl c hs hc hsi ?_)
  intro ex s' a' w' h' hsi' hk'
  cases ex with
  | normal => exact hk .normal s' a' w' h' hsi' hk'
  | exit i => exact hk (.exit i) s' a' w' h' hsi' hk'
  | goto l => simp at hk'
  | ret => exact hk .ret s' a' w' h' hsi' hk'
  | panic x => exact hk (.panic x) s' a' w' h' hsi' hk'
 | .region id ops draw, s, k, hs, hc, a, w, h, hsi, Q, hk => by
  unfold exec at hs
  cases draw with
  | true =>
   simp only at hs
   simp only [codeOk, Bool.not_true, Bool.false_or] at hc
   cases ho : cx.hint.ord id with
   | none =>
    simp only [ho] at hs hc
    cases hp : cx.hint.pan id with
    | none =>
     simp only [hp] at hs hc
     exact draw_sound hmix hT hnt hC hE hF.isF (k := cooked k (cx.hint.cook id)) hc hs (cooked_ok hk).next hsi
    | some q =>
     obtain ⟨e, is, ds⟩ := q
     simp only [hp] at hs hc
     exact pan_sound hmix hT hnt hC hE hF.isF (k := cooked k (cx.hint.cook id)) hc hs (cooked_ok hk).next hsi
   | some q =>
    obtain ⟨cf, os⟩ := q
    simp only [ho] at hs hc
    exact draw_ord hmix hT hnt hC hE hF.isF hc hs (fun s' a' w' h' hsi' hk' => (cooked_ok (ps := cx.hint.cook id) hk).next.1 s' a' w' h' hsi' hk') hsi
  | false =>
   simp only at hs
   exact regionP_sound hT hnt hC hE hF.isF hs (cooked_ok hk).next hsi
 | .rangeFunc f params assign body, s, k, hs, hc, a, w, h, hsi, Q, hk => by
  simp only [codeOk, Bool.and_eq_true, Bool.not_eq_true'] at hc
  exact range_sound (by
   cases hq : h0.flat with
   | false => rfl
   | true => rw [hfl hq] at hc; exact absurd hc.1.1 (by simp)) hnt hE hF hs hc.1.2 hc.2 hsi hk
 | .refuse _, s, k, hs, _, a, w, h, hsi, Q, hk => by simp [exec] at hs
end
end Go.Abs
namespace Go.Abs
open Go
set_option linter.unusedVariables false
set_option linter.unusedSimpArgs false
set_option linter.unnecessarySimpa false
set_option linter.unusedSectionVars false
variable [Tabs]
section
variable {P : Program} {g0 : G} {h0 : Gh} {w0 : World} {nt : Nat}
theorem ext_putDef {w : World} {D : Nat} {x y : Option (List Deferred)} (hD : w.heap[D]? = some (.deferred x)) (X : Nat → Nat) : Ext w X (w.putObj D (.deferred y)) X := by
 refine ⟨fun _ => Nat.le_refl _, fun b i _ => ?_⟩
 by_cases hb : b = D
 ·subst hb
  simp only [World.cell?, putObj_same hD, hD]
 ·simp only [World.cell?, putObj_other hb]
theorem Marks.tail {df : List Deferred} {fl : Bool} {D : Nat} {ds : List Deferred} (h : Marks df fl ({ target := .collected D, args := #[] } :: ds)) : Marks df fl ds ∧ ({ target := .collected D, args := #[] } : Deferred) ∉ ds := by
 obtain ⟨h1, ms, h2, h3, h4, h5⟩ := h
 cases ms with
 | nil =>
  have : ({ target := .collected D, args := #[] } : Deferred) ∈ df := by
   have h2 : _ = df := h2
   rw [← h2]; exact List.mem_cons_self
  exact absurd rfl (h1 _ this D)
 | cons m ms =>
  simp only [List.cons_append, List.cons.injEq] at h2
  obtain ⟨rfl, rfl⟩ := h2
  rw [List.nodup_cons] at h3
  refine ⟨⟨h1, ms, rfl, h3.2, fun x hx => h4 x (List.mem_cons_of_mem _ hx), fun hf => by cases h5 hf⟩, fun hm => ?_⟩
  rcases List.mem_append.1 hm with hm | hm
  ·exact h3.1 hm
  ·exact absurd rfl (h1 _ hm D)
theorem SI.shut {s : St} {a : Act} {w : World} {h : Gh} (hrod : ∀ l, l < g0.lp.length → (h0.ro l).2 < w0.heap.size) (hsi : SI nt g0 h0 w0 s a w h) {D : Nat} {ds : List Deferred} (hd : a.defers = { target := .collected D, args := #[] } :: ds) :
  SI nt g0 h0 w0 s { a with defers := ds } (w.putObj D (.deferred none)) h ∧ Ext w h.L (w.putObj D (.deferred none)) h.L ∧ (Instr.takeDeferred D).run P w = .ok [] (w.putObj D (.deferred none)) := by
 have hD := hsi.fi.dfr _ (by rw [hd]; exact List.mem_cons_self) D rfl
 have hnew : w0.heap.size ≤ D := hsi.dnew _ (by rw [hd]; exact List.mem_cons_self) D rfl
 have hE := ext_putDef (y := none) hD h.L
 have hC : ∀ (b : Nat) (c : Array Value) (e : TypeId), w.heap[b]? = some (.cells c e (0, 0)) → (w.putObj D (.deferred none)).heap[b]? = some (.cells c e (0, 0)) := fun b c e hb => by
  rw [putObj_other (by rintro rfl; rw [hb] at hD; cases hD), hb]
 have hga : ∀ i b, h.ga i = some b → (w.putObj D (.deferred none)).heap[b]? = w.heap[b]? := fun i b hi => by
  obtain ⟨c, e, hc⟩ := hsi.fi.gi.gaC i b hi
  rw [hC b c e hc, hc]
 have hlen : s.g.lp.length = g0.lp.length := by
  have := congrArg List.length hsi.lps
  simpa using this
 have hsz : (w.putObj D (.deferred none)).heap.size = w.heap.size := by simp [World.putObj]
 have hnd := hsi.nd
 rw [hd] at hnd
 obtain ⟨hnd2, hnd1⟩ := hnd.tail
 refine ⟨⟨⟨hsi.fi.size, ?_, ?_, ?_⟩, ?_, hsi.dp, hsi.lps, hnd2, ?_, hsi.lpd, hsi.bxd⟩, hE, run_takeDeferred hD⟩
 ·intro t v hv
  obtain ⟨h1, h2⟩ := hsi.fi.tm t v hv
  exact ⟨RepA.world hE hga _ _ h1, h2⟩
 ·refine { bx := ?_, inj := hsi.fi.gi.inj, gaBx := hsi.fi.gi.gaBx, gaInj := hsi.fi.gi.gaInj, gaLt := ?_, gaC := ?_, lim := ?_, lp := ?_, roInj := hsi.fi.gi.roInj, gaTop := hsi.fi.gi.gaTop }
  ·intro d t bo hb
   obtain ⟨h1, h2, b', c, e, h3, h4, h5, h6, h7⟩ := hsi.fi.gi.bx d t bo hb
   exact ⟨h1, h2, b', c, e, h3, hC _ _ _ h4, RepBx.world hE hga _ _ h5, h6, h7⟩
  ·intro i b hi
   rw [hsz]; exact hsi.fi.gi.gaLt i b hi
  ·intro i b hi
   obtain ⟨c, e, hc⟩ := hsi.fi.gi.gaC i b hi
   exact ⟨c, e, hC b c e hc⟩
  ·intro b hb
   rw [hsz] at hb; exact hsi.fi.gi.lim b hb
  ·intro l r hl
   obtain ⟨hp, X, q, h1, h2, h3, h4⟩ := hsi.fi.gi.lp l r hl
   have hlt : l < g0.lp.length := by rw [← hlen]; exact (List.getElem?_eq_some_iff.1 hl).1
   refine ⟨hp, X, q, ?_, ?_, h3, fun t v hv => ⟨RepA.world hE hga _ _ (h4 t v hv).1, (h4 t v hv).2⟩⟩
   ·rw [putObj_other (by rintro e; rw [e, hD] at h1; cases h1), h1]
   ·rw [putObj_other, h2]
    rintro rfl
    have := hrod l hlt
    rw [h3.2, hsi.rel.ro l hlt] at hnew
    omega
 ·intro x hxm X x1
  have x2 := hsi.fi.dfr x (by rw [hd]; exact List.mem_cons_of_mem _ hxm) X x1
  rw [putObj_other, x2]
  rintro rfl
  rw [x1] at hxm
  exact hnd1 hxm
 ·exact
   {hsi.rel with
    size := by rw [hsz]; exact hsi.rel.size
    ext := hsi.rel.ext.trans hE
    keep := fun b hb hm => by
     obtain ⟨a1, a2⟩ := hsi.rel.keep b hb hm
     exact ⟨by rw [putObj_other (by omega), a1], a2⟩ }
 ·intro x hx X hX
  exact hsi.dnew x (by rw [hd]; exact List.mem_cons_of_mem _ hx) X hX
theorem leaves_all {fn : Func} {R : Ending → World → Prop} {u : FrameMode} (hu : u ≠ .run) (hrod : ∀ l, l < g0.lp.length → (h0.ro l).2 < w0.heap.size) {s : St} {h : Gh} {tmps : Array Value} :
  ∀ (ds : List Deferred) {w : World}, SI nt g0 h0 w0 s { tmps, defers := ds } w h → (∀ w', SI nt g0 h0 w0 s { tmps, defers := h0.df } w' h → Ext w h.L w' h.L → LeavesInM Fence.wide 0 P fn tmps R h0.df u w') → LeavesInM Fence.wide 0 P fn tmps R ds u w := by
 intro ds
 induction ds with
 | nil =>
  intro w hsi hfin
  obtain ⟨_, ms, h2, _⟩ := hsi.nd
  have h2 : [] = ms ++ h0.df := h2
  have hdf : h0.df = [] := (List.append_eq_nil_iff.1 h2.symm).2
  have := hfin w (by rw [hdf]; exact hsi) (Ext.refl _ _)
  rw [hdf] at this
  exact this
 | cons d ds ih =>
  intro w hsi hfin
  obtain ⟨h1, ms, h2, h3, h4, h5⟩ := hsi.nd
  cases ms with
  | nil =>
   have h2 : d :: ds = h0.df := h2
   rw [h2] at hsi ⊢
   exact hfin w hsi (Ext.refl _ _)
  | cons m ms =>
   have h2 : d :: ds = m :: (ms ++ h0.df) := h2
   obtain ⟨rfl, rfl⟩ : d = m ∧ ds = ms ++ h0.df := by simpa using h2
   obtain ⟨D, hx⟩ := h4 d List.mem_cons_self
   obtain ⟨q1, q2, q3⟩ := SI.shut (P := P) hrod hsi (D := D) (ds := ms ++ h0.df) (by rw [hx])
   refine ⟨hu, .inl ⟨D, _, by rw [hx], q3, ?_⟩⟩
   exact ih q1 (fun w' h1 h2 => hfin w' h1 (q2.trans h2))
theorem loadVar_of_loadAt {t : TypeId} {pv u : Value} {w : World} (h : (Instr.loadAt t pv).run P w = .ok u w) : ∃ a, pv = .pointer (some a) ∧ (loadVar t a).run P w = .ok u w := by
 unfold Instr.loadAt at h
 cases pv with
 | pointer a =>
  cases a with
  | none => simp [Instr.sureAddr, asAddr, runtimePanic] at h
  | some a => exact ⟨a, rfl, by simpa [Instr.sureAddr, asAddr] using h⟩
 | _ => simp [Instr.sureAddr, asAddr, stuck] at h
theorem RepA.nrmA {T : Nat → Option TI} {t : Nat} {w : World} {h : Gh} {a : AV} {v : Value} (hr : RepA w h a v) : RepA w h (nrmA T t a) v := by
 cases a with
 | d x => simp only [Go.Abs.nrmA, RepA] at hr ⊢; exact hr.nrmD
 | _ => exact hr
theorem AV.ok.nrmA {T : Nat → Option TI} {t : Nat} {Q : Id → Prop} {K : Nat → Nat → Prop} {Y : Nat → Prop} {a : AV} (ho : a.ok Q K Y) : (nrmA T t a).ok Q K Y := by
 cases a with
 | d x => simp only [Go.Abs.nrmA, AV.ok]
 | _ => exact ho
theorem resVars_sound {T : Nat → Option TI} (hT : TyOk P T) {s : St} {a : Act} {w : World} {h : Gh} (hf : FI nt s a w h) : ∀ (l : List ResultVar) {rs : List AV}, resVars T s l = some rs →
  ∃ vs, RepAs w h rs vs ∧ AV.oks (TmQ s.fr s.g.dp) (KG s.g s.g.dp) (YG s.g s.g.dp) rs ∧
   (l.mapM (m := Sem) fun x => match x with
    | .tmp t => pure (a.tmps.getD t undef)
    | .cell x t => do loadVar t (← asAddr (a.tmps.getD x undef))).run P w = .ok vs w
 | [], rs, hs => by
  simp only [resVars, Option.some.injEq] at hs; subst hs
  exact ⟨[], by simp [RepAs], by simp [AV.oks], by simp⟩
 | .tmp t :: rest, rs, hs => by
  simp only [resVars] at hs
  cases ht : s.tm t with
  | none => simp [ht] at hs
  | some v =>
   cases hr : resVars T s rest with
   | none => simp [ht, hr] at hs
   | some as =>
    simp only [ht, hr, Option.some.injEq] at hs; subst hs
    obtain ⟨vs, q1, q2, q3⟩ := resVars_sound hT hf rest hr
    obtain ⟨p1, p2⟩ := hf.tm t v ht
    refine ⟨a.tmps.getD t undef :: vs, ⟨_, _, rfl, p1, q1⟩, ⟨p2, q2⟩, ?_⟩
    rw [List.mapM_cons]
    simp only [Sem.run_bind, Sem.run_pure, Result.andThen, q3]
 | .cell t ty :: rest, rs, hs => by
  simp only [resVars] at hs
  cases ht : s.tm t with
  | none => simp [ht] at hs
  | some p =>
   cases hl : loadA T s.g.bx ty p with
   | none => simp [ht, hl] at hs
   | some v =>
    cases hr : resVars T s rest with
    | none => simp [ht, hl, hr] at hs
    | some as =>
     simp only [ht, hl, hr, Option.some.injEq] at hs; subst hs
     obtain ⟨vs, q1, q2, q3⟩ := resVars_sound hT hf rest hr
     obtain ⟨p1, p2⟩ := hf.tm t p ht
     obtain ⟨u, hrun, hrep, hok⟩ := loadA_sound hT hf.gi hl p1 (fun i hi => by cases i with
      | tmp _ _ _ => exact hi.elim
      | res _ => exact hi.elim
      | box _ _ _ => trivial) p2 (fun l hl => hl)
     obtain ⟨ad, he, hrun'⟩ := loadVar_of_loadAt hrun
     refine ⟨u :: vs, ⟨_, _, rfl, RepA.nrmA hrep, q1⟩, ⟨AV.ok.nrmA hok, q2⟩, ?_⟩
     have hca : (do loadVar ty (← asAddr (a.tmps.getD t undef)) : Sem Value).run P w = .ok u w := by
      rw [he]; simpa [asAddr] using hrun'
     rw [List.mapM_cons]
     rw [Sem.run_bind, hca]
     simp only [Sem.run_bind, Sem.run_pure, Result.andThen, q3]
end
end Go.Abs
namespace Go.Abs
open Go
set_option linter.unusedVariables false
set_option linter.unusedSimpArgs false
set_option linter.unnecessarySimpa false
set_option linter.unusedSectionVars false
variable [Tabs]
section
variable {P : Program} {g0 : G} {h0 : Gh} {w0 : World} {nt : Nat}
def gaClear (ga : Id → Option Nat) (dp : Nat) : Id → Option Nat
 | .tmp d t j => if d = dp then none else ga (.tmp d t j)
 | k => ga k
theorem gaClear_inv {ga : Id → Option Nat} {dp : Nat} {k : Id} {b : Nat} (h : gaClear ga dp k = some b) : ga k = some b ∧ ∀ t j, k ≠ .tmp dp t j := by
 cases k with
 | tmp d t j =>
  simp only [gaClear] at h
  split at h
  ·cases h
  ·rename_i e
   exact ⟨h, fun t' j' e' => by cases e'; exact e rfl⟩
 | box d t j => exact ⟨h, by simp⟩
 | res j => exact ⟨h, by simp⟩
theorem GI.pop {g : G} {w : World} {h : Gh} (hg : GI g w h) {dp : Nat} (hdp : g.dp = dp + 1) (hlp : ∀ r ∈ g.lp, r.dp ≤ dp) : GI (popG g (dp + 1)) w { h with ga := gaClear h.ga (dp + 1) } := by
 have hbx : ∀ d t, (popG g (dp + 1)).bx d t = if d = dp + 1 then none else g.bx d t := by
  intro d t
  show (if Nat.beq d (dp + 1) then none else g.bx d t) = _
  by_cases e : d = dp + 1
  ·rw [if_pos (by simpa using e), if_pos e]
  ·rw [if_neg (by simpa using e), if_neg e]
 have hsub : ∀ d t bo, (popG g (dp + 1)).bx d t = some bo → g.bx d t = some bo ∧ d ≤ dp := by
  intro d t bo hb
  rw [hbx] at hb
  split at hb
  ·cases hb
  ·rename_i e
   have := (hg.bx d t bo hb).1
   exact ⟨hb, by omega⟩
 have hsome : ∀ d t, ((popG g (dp + 1)).bx d t).isSome = true → (g.bx d t).isSome = true := by
  intro d t hs
  obtain ⟨bo, hbo⟩ := Option.isSome_iff_exists.1 hs
  rw [(hsub d t bo hbo).1]; rfl
 have hK : ∀ n, n ≤ dp → ∀ d t, KG g n d t → KG (popG g (dp + 1)) n d t := fun n hn d t hk => ⟨hk.1, by rw [hbx, if_neg (by have := hk.1; omega)]; exact hk.2⟩
 have hga : ∀ i b, IsBox i → h.ga i = some b → gaClear h.ga (dp + 1) i = some b ∧ h.L b = h.L b ∧ w.heap[b]? = w.heap[b]? := by
  intro i b hi hb
  cases i with
  | box _ _ _ => exact ⟨hb, rfl, rfl⟩
  | _ => exact hi.elim
 refine { bx := ?_, inj := ?_, gaBx := ?_, gaInj := ?_, gaLt := ?_, gaC := ?_, lim := hg.lim, lp := ?_, roInj := hg.roInj, gaTop := ?_ }
 ·intro d t bo hbo
  obtain ⟨q1, q2⟩ := hsub d t bo hbo
  obtain ⟨h1, h2, b', c, e, h3, h4, h5, h6, h7⟩ := hg.bx d t bo q1
  refine ⟨q2, AV.oks.mono (fun _ h => h) (hK d q2) (fun _ h => h) _ h2, b', c, e, h3, h4, ?_, h6, h7⟩
  exact RepBx.ext (h := h) (h' := { h with ga := gaClear h.ga (dp + 1) }) (Ext.refl w h.L) (fun _ _ _ _ h => h) (fun _ _ => rfl) hga _ _ h2 h5
 ·intro d t d' t' b q1 q2
  exact hg.inj d t d' t' b (hsome d t q1) (hsome d' t' q2)
 ·intro i b d t q1 q2
  exact hg.gaBx i b d t (gaClear_inv q1).1 (hsome d t q2)
 ·intro i j b q1 q2
  exact hg.gaInj i j b (gaClear_inv q1).1 (gaClear_inv q2).1
 ·intro i b q1
  exact hg.gaLt i b (gaClear_inv q1).1
 ·intro i b q1
  exact hg.gaC i b (gaClear_inv q1).1
 ·intro l r hl
  obtain ⟨hp, D, tmps, h1, h2, h3, h4⟩ := hg.lp l r hl
  have hrd := hlp r (List.mem_of_getElem? hl)
  refine ⟨⟨hp.1, hrd, hp.2.2⟩, D, tmps, h1, h2, h3, fun t v hv => ?_⟩
  obtain ⟨h5, h6⟩ := h4 t v hv
  exact ⟨RepA.ext (h := h) (h' := { h with ga := gaClear h.ga (dp + 1) }) (Ext.refl w h.L) (fun _ _ _ _ h => h) (fun _ _ => rfl) (fun _ _ h => h.elim) _ _ h6 h5, AV.ok.mono (fun _ h => h) (hK r.dp hrd) (fun _ h => h) _ h6⟩
 ·intro d t j hd
  show gaClear h.ga (dp + 1) (.tmp d t j) = none
  simp only [gaClear]
  split
  ·rfl
  ·refine hg.gaTop d t j ?_
   have hd : dp < d := hd
   omega
theorem Rel.pop {g : G} {w : World} {h : Gh} (hr : Rel g0 h0 w0 g w h) {dp : Nat} (h0dp : g0.dp ≤ dp) (hbxd : ∀ d t, (g0.bx d t).isSome = true → d ≤ dp) : Rel g0 h0 w0 (popG g (dp + 1)) w { h with ga := gaClear h.ga (dp + 1) } := by
 have hbx : ∀ d t, (popG g (dp + 1)).bx d t = if d = dp + 1 then none else g.bx d t := by
  intro d t
  show (if Nat.beq d (dp + 1) then none else g.bx d t) = _
  by_cases e : d = dp + 1
  ·rw [if_pos (by simpa using e), if_pos e]
  ·rw [if_neg (by simpa using e), if_neg e]
 exact
  {hr with
   bxs := fun d t hs => by
    obtain ⟨a1, a2⟩ := hr.bxs d t hs
    exact ⟨by rw [hbx, if_neg (by have := hbxd d t hs; omega)]; exact a1, a2⟩
   ga := fun d t j hd => by
    rw [← hr.ga d t j hd]
    show gaClear h.ga (dp + 1) (.tmp d t j) = _
    simp only [gaClear]
    rw [if_neg (by omega)]
   bxMay := fun d t b hs hb => hr.bxMay d t b (by
    rw [hbx] at hs
    split at hs
    ·cases hs
    ·exact hs) hb
   gaMay := fun i b hi hb => hr.gaMay i b hi (gaClear_inv hb).1 }
mutual
 theorem retAV_sound {g : G} {w : World} {h : Gh} (hg : GI g w h) {dp : Nat} {Q : Id → Prop} {Y : Nat → Prop} : ∀ (a x : AV) (v : Value), retAV g.bx dp a = some x → a.ok Q (KG g dp) Y → RepA w (frzH g w h fun d _ => Nat.beq d dp) a v →
   RepA w (frzH g w h fun d _ => Nat.beq d dp) x v ∧ x.ok (fun _ => False) (fun d t => KG g dp d t ∧ d < dp) Y ∧ noTup x = true
  | .d y, x, v, hx, ho, hr => by
   simp only [retAV, Option.some.injEq] at hx; subst hx
   exact ⟨hr, by simp [AV.ok], rfl⟩
  | .own i sz es, x, v, hx, ho, hr => by
   simp only [retAV, Option.some.injEq] at hx; subst hx
   exact ⟨by simp only [RepA]; exact hr.own_sl, by simp [AV.ok], rfl⟩
  | .ptr d1 t off, x, v, hx, ho, hr => by
   simp only [retAV] at hx
   simp only [AV.ok] at ho
   split at hx
   ·rename_i hlt
    have hlt : d1 < dp := by simpa using hlt
    simp only [Option.some.injEq] at hx; subst hx
    exact ⟨hr, by simp only [AV.ok]; exact ⟨ho, hlt⟩, rfl⟩
   ·rename_i hlt
    have hd : d1 = dp := by
     have h1 : ¬ d1 < dp := by simpa using hlt
     have h2 := ho.1
     omega
    split at hx
    ·rename_i b hb
     split at hx
     ·rename_i cs hcs
      split at hx
      case isFalse => cases hx
      rename_i hle
      have hle : off ≤ cs.length := by simpa using hle
      simp only [Option.some.injEq] at hx; subst hx
      have hbf : (frzG g fun d _ => Nat.beq d dp).bx d1 t = some { cells := b.cells, frz := true, ty := b.ty } := by
       show frzBx g.bx (fun d _ => Nat.beq d dp) d1 t = _
       unfold frzBx
       rw [hb, hd]
       simp
      obtain ⟨h1, h2, b', c, e, h3, h4, ⟨h5, -⟩, h6, h7⟩ := (hg.frz fun d _ => Nat.beq d dp).bx d1 t _ hbf
      simp only [RepA] at hr
      obtain ⟨b'', hb'', rfl⟩ := hr
      rw [hb''] at h3; cases h3
      have hv := RepAs.datas _ _ _ hcs h5
      have hl := hv.length
      refine ⟨?_, by simp [AV.ok], rfl⟩
      simp only [RepA, RepV]
      refine ⟨_, off, c.toList.drop off, rfl, hv.drop, ?_, ?_⟩
      ·rw [h7, if_pos rfl]
       simp at hl ⊢; omega
      ·intro k u hk
       have hk' : c.toList[off + k]? = some u := by simpa [List.getElem?_drop] using hk
       refine ⟨?_, h6 u (List.mem_of_getElem? hk')⟩
       simp only [World.cell?, h4]
       simpa using hk'
     ·cases hx
    ·cases hx
  | .fn f caps, x, v, hx, ho, hr => by
   simp only [retAV] at hx
   split at hx
   ·rename_i cs hcs
    simp only [Option.some.injEq] at hx; subst hx
    simp only [AV.ok] at ho
    simp only [RepA] at hr
    obtain ⟨cv, rfl, hc⟩ := hr
    obtain ⟨q1, q2⟩ := retAVs_sound hg caps cs _ hcs ho hc
    obtain ⟨p1, p2⟩ := mkFn_sound (Q := fun _ => False) (f := f) q1 q2
    refine ⟨p1, p2, ?_⟩
    unfold mkFn
    split <;> rfl
   ·cases hx
  | .tup xs, x, v, hx, ho, hr => by simp [retAV] at hx
  | .yld l, x, v, hx, ho, hr => by
   simp only [retAV, Option.some.injEq] at hx; subst hx
   exact ⟨hr, by simpa only [AV.ok] using ho, rfl⟩
 theorem retAVs_sound {g : G} {w : World} {h : Gh} (hg : GI g w h) {dp : Nat} {Q : Id → Prop} {Y : Nat → Prop} : ∀ (as xs : List AV) (vs : List Value), retAVs g.bx dp as = some xs → AV.oks Q (KG g dp) Y as → RepAs w (frzH g w h fun d _ => Nat.beq d dp) as vs →
   RepAs w (frzH g w h fun d _ => Nat.beq d dp) xs vs ∧ AV.oks (fun _ => False) (fun d t => KG g dp d t ∧ d < dp) Y xs
  | [], xs, vs, hx, ho, hr => by
   simp only [retAVs, Option.some.injEq] at hx; subst hx
   exact ⟨by simpa only [RepAs] using hr, by simp [AV.oks]⟩
  | a :: as, xs, vs, hx, ho, hr => by
   simp only [retAVs] at hx
   cases h1 : retAV g.bx dp a with
   | none => simp [h1] at hx
   | some x =>
    cases h2 : retAVs g.bx dp as with
    | none => simp [h1, h2] at hx
    | some ys =>
     simp only [h1, h2, Option.some.injEq] at hx; subst hx
     simp only [AV.oks, RepAs] at ho hr ⊢
     obtain ⟨u, us, rfl, q1, q2⟩ := hr
     obtain ⟨p1, p2, _⟩ := retAV_sound hg a x u h1 ho.1 q1
     obtain ⟨p3, p4⟩ := retAVs_sound hg as ys us h2 ho.2 q2
     exact ⟨⟨u, us, rfl, p1, p3⟩, p2, p4⟩
end
def PreL (bx : Nat → Nat → Option Box) (dp : Nat) (w : World) (K : Nat → Nat → Prop) (Y : Nat → Prop) (h : Gh) (seen : List Id) : List AV → List Value → Prop
 | [], vs => vs = []
 | a :: as, vs => ∃ u us, vs = u :: us ∧ PreL bx dp w K Y h seen as us ∧
   (∀ i sz es, a = .own i sz es → (∀ k, i ≠ .res k) ∧ (∀ d t k, i = .tmp d t k → d = dp) ∧ RepV w h.L (.sl sz es) u ∧ (i ∉ seen → RepA w h (.own i sz es) u)) ∧
   ((∀ i sz es, a ≠ .own i sz es) → ∀ x, retAV bx dp a = some x → RepA w h x u ∧ x.ok (fun _ => False) K Y ∧ noTup x = true)
theorem PreL.step {bx : Nat → Nat → Option Box} {dp : Nat} {w : World} {K : Nat → Nat → Prop} {Y : Nat → Prop} {h h' : Gh} {seen seen' : List Id} (hL : h'.L = h.L) (hbe : h'.be = h.be) (hro : h'.ro = h.ro)
  (hs : ∀ i, (∀ k, i ≠ .res k) → i ∉ seen' → i ∉ seen ∧ h'.ga i = h.ga i) : ∀ {as : List AV} {vs : List Value}, PreL bx dp w K Y h seen as vs → PreL bx dp w K Y h' seen' as vs
 | [], vs, hp => by simpa only [PreL] using hp
 | a :: as, vs, hp => by
  simp only [PreL] at hp ⊢
  obtain ⟨u, us, rfl, h1, h2, h3⟩ := hp
  refine ⟨u, us, rfl, PreL.step hL hbe hro hs h1, ?_, ?_⟩
  ·intro i sz es he
   obtain ⟨q1, q2, q3, q4⟩ := h2 i sz es he
   refine ⟨q1, q2, by rw [hL]; exact q3, fun hn => ?_⟩
   obtain ⟨s1, s2⟩ := hs i q1 hn
   have := q4 s1
   simp only [RepA, Owned] at this ⊢
   rw [hL, s2]; exact this
  ·intro hne x hx
   obtain ⟨q1, q2, q3⟩ := h3 hne x hx
   refine ⟨RepA.ext (h := h) (h' := h') (by rw [hL]; exact Ext.refl w h.L) (fun d t b _ hb => by rw [hbe]; exact hb) (fun l _ => by rw [hro]) (fun _ _ h => h.elim) _ _ q2 q1, q2, q3⟩
theorem retRes_sound {bx : Nat → Nat → Option Box} {dp : Nat} {K : Nat → Nat → Prop} {Y : Nat → Prop} {w : World} {fr : Nat → Bool} {a : Act} (hd0 : g0.dp < dp) : ∀ (as : List AV) {j : Nat} {seen : List Id} {xs : List AV}, retRes bx dp j seen as = some xs →
  ∀ {g : G} {h : Gh} {vs : List Value}, g.dp = dp → FI nt { tm := fun _ => none, fr, g } a w h → Rel g0 h0 w0 g w h → PreL bx dp w K Y h seen as vs →
  ∃ h', FI nt { tm := fun _ => none, fr, g := { g with bx := demRes as g.bx } } a w h' ∧ Rel g0 h0 w0 { g with bx := demRes as g.bx } w h' ∧ RepAs w h' xs vs ∧ ResAt j xs ∧ xs.all noTup = true ∧ AV.oks IsRes K Y xs ∧
   h'.L = h.L ∧ (∀ k, k < j → h'.ga (.res k) = h.ga (.res k)) ∧ h'.be = h.be ∧ h'.ro = h.ro
 | [], j, seen, xs, hx, g, h, vs, hdp, hf, hr, hp => by
  simp only [retRes, Option.some.injEq] at hx; subst hx
  simp only [PreL] at hp; subst hp
  exact ⟨h, hf, hr, by simp [RepAs], by simp [ResAt], rfl, by simp [AV.oks], rfl, fun _ _ => rfl, rfl, rfl⟩
 | a0 :: as, j, seen, xs, hx, g, h, vs, hdp, hf, hr, hp => by
  simp only [PreL] at hp
  obtain ⟨u, us, rfl, hp1, hp2, hp3⟩ := hp
  have other : (∀ i sz es, a0 ≠ .own i sz es) → demRes (a0 :: as) g.bx = demRes as g.bx → (∃ x ys, retAV bx dp a0 = some x ∧ retRes bx dp (j + 1) seen as = some ys ∧ xs = x :: ys) →
    ∃ h', FI nt { tm := fun _ => none, fr, g := { g with bx := demRes (a0 :: as) g.bx } } a w h' ∧ Rel g0 h0 w0 { g with bx := demRes (a0 :: as) g.bx } w h' ∧ RepAs w h' xs (u :: us) ∧ ResAt j xs ∧ xs.all noTup = true ∧ AV.oks IsRes K Y xs ∧
     h'.L = h.L ∧ (∀ k, k < j → h'.ga (.res k) = h.ga (.res k)) ∧ h'.be = h.be ∧ h'.ro = h.ro := by
   rintro hne hdem ⟨x, ys, hxa, hys, rfl⟩
   obtain ⟨q1, q2, q3⟩ := hp3 hne x hxa
   obtain ⟨h', f1, r1, p1, p2, p3, p4, p5, p6, p7, p8⟩ := retRes_sound hd0 as hys hdp hf hr hp1
   rw [hdem]
   refine ⟨h', f1, r1, ⟨u, us, rfl, ?_, p1⟩, ⟨?_, p2⟩, ?_, ⟨AV.ok.mono (fun _ h => h.elim) (fun _ _ h => h) (fun _ h => h) _ q2, p4⟩, p5, fun k hk => p6 k (by omega), p7, p8⟩
   ·exact RepA.ext (h := h) (h' := h') (by rw [p5]; exact Ext.refl w h.L) (fun d t b _ hb => by rw [p7]; exact hb) (fun l _ => by rw [p8]) (fun _ _ h => h.elim) _ _ q2 q1
   ·intro i sz es he
    rw [he] at q2
    simp only [AV.ok] at q2
   ·simp [q3, p3]
  cases a0 with
  | own i sz es =>
   obtain ⟨q1, q2, q3, q4⟩ := hp2 i sz es rfl
   simp only [retRes] at hx
   cases hys : retRes bx dp (j + 1) (i :: seen) as with
   | none => simp [hys] at hx
   | some ys =>
    simp only [hys, Option.some.injEq] at hx
    obtain ⟨f1, n1⟩ := hf.dem i
    have r1 := hr.dem (s := { tm := fun _ => none, fr, g }) i
    by_cases hseen : i ∈ seen
    ·have hany : (seen.any fun k => decide (k = i)) = true := List.any_eq_true.2 ⟨i, hseen, by simp⟩
     rw [hany] at hx
     simp only [if_true] at hx
     subst hx
     obtain ⟨h', f2, r2, p1, p2, p3, p4, p5, p6, p7, p8⟩ := retRes_sound hd0 as hys (g := { g with bx := demBx i g.bx }) hdp f1 r1
      (PreL.step (h := h) (h' := h) (seen := seen) (seen' := i :: seen) rfl rfl rfl (fun k _ hk => ⟨fun hh => hk (by simp [hh]), rfl⟩) hp1)
     refine ⟨h', f2, r2, ⟨u, us, rfl, ?_, p1⟩, ⟨by intro i' sz' es' he; simp at he, p2⟩, ?_, ⟨by simp [AV.ok], p4⟩, p5, fun k hk => p6 k (by omega), p7, p8⟩
     ·simp only [RepA]; rw [p5]; exact q3
     ·simp [noTup, p3]
    ·have hany : (seen.any fun k => decide (k = i)) = false := by
      rw [List.any_eq_false]
      intro k hk he
      simp at he; subst he; exact hseen hk
     rw [hany] at hx
     simp only [Bool.false_eq_true, if_false] at hx
     subst hx
     have nres : NoIn (.res j) (demSt i { tm := fun _ => none, fr, g }) := by
      refine ⟨fun t v hv => ?_, fun d t bo hb => ?_⟩
      ·cases hv
      ·obtain ⟨_, h2, _⟩ := f1.gi.bx d t bo hb
       exact AV.oks.mono (fun k hk e => by subst e; exact hk) (fun _ _ _ => trivial) (fun _ _ => trivial) _ h2
     have f2 := f1.ren n1 nres (by intro d t k e; cases e)
     have r2 := r1.ren (i := i) (j := .res j) (fun d t k e => by rw [q2 d t k e]; exact hd0) (by intro d t k e; cases e)
     have hgr : ∀ k, k ≠ i → k ≠ .res j → renGa h.ga i (.res j) k = h.ga k := by
      intro k h1 h2
      unfold renGa
      rw [if_neg h2, if_neg h1]
     obtain ⟨h', f3, r3, p1, p2, p3, p4, p5, p6, p7, p8⟩ := retRes_sound hd0 as hys (g := { g with bx := demBx i g.bx }) (h := { h with ga := renGa h.ga i (.res j) }) hdp f2 r2
      (PreL.step (h := h) (h' := { h with ga := renGa h.ga i (.res j) }) (seen := seen) (seen' := i :: seen) rfl rfl rfl (fun k hk hns => ⟨fun hh => hns (by simp [hh]), hgr k (fun e => hns (by simp [e])) (hk j)⟩) hp1)
     have own := Owned.ren (j := .res j) (q4 hseen)
     refine ⟨h', f3, r3, ⟨u, us, rfl, ?_, p1⟩, ⟨by intro i' sz' es' he; cases he; rfl, p2⟩, ?_, ⟨by simp only [AV.ok]; trivial, p4⟩, p5, fun k hk => ?_, p7, p8⟩
     ·simp only [RepA, Owned] at own ⊢
      rw [p5, p6 j (by omega)]
      exact own
     ·simp [noTup, p3]
     ·rw [p6 k (by omega)]
      exact hgr _ (fun e => q1 k e.symm) (by intro e; cases e; omega)
  | d y =>
   refine other (by intros; simp) rfl ?_
   simp only [retRes] at hx
   cases h1 : retAV bx dp (.d y) with
   | none => simp [h1] at hx
   | some x =>
    cases h2 : retRes bx dp (j + 1) seen as with
    | none => simp [h1, h2] at hx
    | some ys => simp only [h1, h2, Option.some.injEq] at hx; exact ⟨x, ys, rfl, rfl, hx.symm⟩
  | ptr d1 t off =>
   refine other (by intros; simp) rfl ?_
   simp only [retRes] at hx
   cases h1 : retAV bx dp (.ptr d1 t off) with
   | none => simp [h1] at hx
   | some x =>
    cases h2 : retRes bx dp (j + 1) seen as with
    | none => simp [h1, h2] at hx
    | some ys => simp only [h1, h2, Option.some.injEq] at hx; exact ⟨x, ys, rfl, rfl, hx.symm⟩
  | fn f caps =>
   refine other (by intros; simp) rfl ?_
   simp only [retRes] at hx
   cases h1 : retAV bx dp (.fn f caps) with
   | none => simp [h1] at hx
   | some x =>
    cases h2 : retRes bx dp (j + 1) seen as with
    | none => simp [h1, h2] at hx
    | some ys => simp only [h1, h2, Option.some.injEq] at hx; exact ⟨x, ys, rfl, rfl, hx.symm⟩
  | tup ts =>
   refine other (by intros; simp) rfl ?_
   simp only [retRes] at hx
   cases h1 : retAV bx dp (.tup ts) with
   | none => simp [h1] at hx
   | some x =>
    cases h2 : retRes bx dp (j + 1) seen as with
    | none => simp [h1, h2] at hx
    | some ys => simp only [h1, h2, Option.some.injEq] at hx; exact ⟨x, ys, rfl, rfl, hx.symm⟩
  | yld l =>
   refine other (by intros; simp) rfl ?_
   simp only [retRes] at hx
   cases h1 : retAV bx dp (.yld l) with
   | none => simp [h1] at hx
   | some x =>
    cases h2 : retRes bx dp (j + 1) seen as with
    | none => simp [h1, h2] at hx
    | some ys => simp only [h1, h2, Option.some.injEq] at hx; exact ⟨x, ys, rfl, rfl, hx.symm⟩
  | raw o k i sz es => simp [retRes, retAV] at hx
  | old o z n => simp [retRes, retAV] at hx
theorem demRes_congr : ∀ (as : List AV) (bx bx' : Nat → Nat → Option Box) (d t : Nat), bx d t = bx' d t → demRes as bx d t = demRes as bx' d t
 | [], bx, bx', d, t, h => h
 | .own i _ _ :: rest, bx, bx', d, t, h => demRes_congr rest _ _ d t (by unfold demBx; rw [h])
 | .d _ :: rest, bx, bx', d, t, h => demRes_congr rest _ _ d t h
 | .ptr _ _ _ :: rest, bx, bx', d, t, h => demRes_congr rest _ _ d t h
 | .fn _ _ :: rest, bx, bx', d, t, h => demRes_congr rest _ _ d t h
 | .tup _ :: rest, bx, bx', d, t, h => demRes_congr rest _ _ d t h
 | .yld _ :: rest, bx, bx', d, t, h => demRes_congr rest _ _ d t h
 | .raw _ _ _ _ _ :: rest, bx, bx', d, t, h => demRes_congr rest _ _ d t h
 | .old _ _ _ :: rest, bx, bx', d, t, h => demRes_congr rest _ _ d t h
end
end Go.Abs
namespace Go.Abs
open Go
set_option linter.unusedVariables false
set_option linter.unusedSimpArgs false
set_option linter.unusedSectionVars false
variable [Tabs]
def hidGa (dp : Nat) (ga : Id → Option Nat) : Id → Option Nat
 | .tmp d t j => if Nat.beq d dp then none else ga (.tmp d t j)
 | i => ga i
def unGa (dp : Nat) (ga ga' : Id → Option Nat) : Id → Option Nat
 | .tmp d t j => if Nat.beq d dp then ga (.tmp d t j) else ga' (.tmp d t j)
 | i => ga' i
def hidH (g : G) (h : Gh) : Gh := { h with ga := hidGa g.dp h.ga }
def unH (g : G) (h h' : Gh) : Gh := { L := h'.L, be := fun d t => if Nat.beq d g.dp then h.be d t else h'.be d t, ga := unGa g.dp h.ga h'.ga, ro := h'.ro }
section
variable {g : G} {w : World} {h : Gh}
theorem hid_bx {d t : Nat} {o : Option Box} (hb : (hidG g).bx d t = o) (hs : o.isSome = true) : d ≠ g.dp ∧ g.bx d t = o := by
 unfold hidG at hb
 dsimp only at hb
 split at hb
 ·rw [← hb] at hs; cases hs
 ·rename_i hne
  exact ⟨fun e => hne (by rw [e]; exact Nat.beq_refl _), hb⟩
theorem hid_ne {d t : Nat} (hd : d ≠ g.dp) : (hidG g).bx d t = g.bx d t := by
 unfold hidG
 dsimp only
 rw [if_neg]
 intro e; exact hd (Nat.eq_of_beq_eq_true e)
theorem hidGa_some {i : Id} {b : Nat} (hi : hidGa g.dp h.ga i = some b) : h.ga i = some b := by
 cases i with
 | tmp d t j =>
  simp only [hidGa] at hi
  split at hi
  ·cases hi
  ·exact hi
 | _ => exact hi
theorem hid_K {n : Nat} (hn : n < g.dp) {d t : Nat} (hk : KG g n d t) : KG (hidG g) n d t := ⟨hk.1, by rw [hid_ne (by have := hk.1; omega)]; exact hk.2⟩
theorem GI.hid (hg : GI g w h) (h1 : 1 ≤ g.dp) (hlp : ∀ (l : Nat) (r : LoopRec), g.lp[l]? = some r → r.dp < g.dp) : GI (hidG g) w (hidH g h) where
 bx := fun d t bo hb => by
  obtain ⟨hd, hb⟩ := hid_bx hb rfl
  obtain ⟨h2, h3, b, c, e, h4, h5, h6, h7, h8⟩ := hg.bx d t bo hb
  have hlt : d < g.dp := by omega
  refine ⟨by show d ≤ g.dp - 1; omega, AV.oks.mono (fun _ hh => hh) (fun _ _ hk => hid_K hlt hk) (fun _ hh => hh) _ h3, b, c, e, h4, h5, ?_, h7, h8⟩
  exact RepBx.ext (h := h) (h' := hidH g h) (Ext.refl _ _) (fun _ _ _ _ hh => hh) (fun _ _ => rfl) (fun i b hi hib => by
   cases i with
   | box _ _ _ => exact ⟨hib, rfl, rfl⟩
   | _ => exact hi.elim) _ _ h3 h6
 inj := fun d t d' t' b ha hb hc hd => by
  obtain ⟨o, ho⟩ := Option.isSome_iff_exists.1 ha
  obtain ⟨o', ho'⟩ := Option.isSome_iff_exists.1 hb
  obtain ⟨_, ho⟩ := hid_bx ho rfl
  obtain ⟨_, ho'⟩ := hid_bx ho' rfl
  exact hg.inj d t d' t' b (by rw [ho]; rfl) (by rw [ho']; rfl) hc hd
 gaBx := fun i b d t hi hs => by
  obtain ⟨o, ho⟩ := Option.isSome_iff_exists.1 hs
  obtain ⟨_, ho⟩ := hid_bx ho rfl
  exact hg.gaBx i b d t (hidGa_some hi) (by rw [ho]; rfl)
 gaInj := fun i j b hi hj => hg.gaInj i j b (hidGa_some hi) (hidGa_some hj)
 gaLt := fun i b hi => hg.gaLt i b (hidGa_some hi)
 gaC := fun i b hi => hg.gaC i b (hidGa_some hi)
 lim := hg.lim
 lp := fun l r hl => by
  obtain ⟨⟨p1, p2, p3⟩, D, tmps, q1, q2, q3, q4⟩ := hg.lp l r hl
  have hlt := hlp l r hl
  refine ⟨⟨p1, by show r.dp ≤ g.dp - 1; omega, p3⟩, D, tmps, q1, q2, q3, fun t v hv => ?_⟩
  obtain ⟨r1, r2⟩ := q4 t v hv
  exact ⟨RepA.ext (h := h) (h' := hidH g h) (Ext.refl _ _) (fun _ _ _ _ hh => hh) (fun _ _ => rfl) (fun _ _ hh => hh.elim) _ _ r2 r1, AV.ok.mono (fun _ hh => hh) (fun _ _ hk => hid_K hlt hk) (fun _ hh => hh) _ r2⟩
 roInj := hg.roInj
 gaTop := fun d t j hd => by
  show hidGa g.dp h.ga (.tmp d t j) = none
  simp only [hidGa]
  have hd : g.dp - 1 < d := hd
  split
  ·rfl
  ·rename_i hne
   exact hg.gaTop d t j (by
    have : d ≠ g.dp := fun e => hne (by rw [e]; exact Nat.beq_refl _)
    omega)
theorem may_hid {b : Nat} (hm : May (hidG g) (hidH g h) b) : May g h b := by
 rcases hm with ⟨d, t, hs, hb⟩ | ⟨i, hi, hb⟩ | ⟨l, hl, hb⟩
 ·obtain ⟨o, ho⟩ := Option.isSome_iff_exists.1 hs
  obtain ⟨_, ho⟩ := hid_bx ho rfl
  exact .inl ⟨d, t, by rw [ho]; rfl, hb⟩
 ·exact .inr (.inl ⟨i, hi, hidGa_some hb⟩)
 ·exact .inr (.inr ⟨l, hl, hb⟩)
theorem box_aside (hg : GI g w h) {t b : Nat} (hs : (g.bx g.dp t).isSome = true) (hb : h.be g.dp t = some b) : b < w.heap.size ∧ ¬ May (hidG g) (hidH g h) b := by
 obtain ⟨bo, hbo⟩ := Option.isSome_iff_exists.1 hs
 obtain ⟨_, _, b', c, e, h3, h4, _⟩ := hg.bx _ t bo hbo
 rw [hb] at h3; cases h3
 refine ⟨lt_of_heap h4, ?_⟩
 rintro (⟨d, t', hs', hb'⟩ | ⟨i, hi, hb'⟩ | ⟨l, hl, rfl⟩)
 ·obtain ⟨o, ho⟩ := Option.isSome_iff_exists.1 hs'
  obtain ⟨hd, ho⟩ := hid_bx ho rfl
  exact hd (hg.inj d t' g.dp t b (by rw [ho]; rfl) hs hb' hb).1
 ·exact hg.gaBx i b g.dp t (hidGa_some hb') hs hb
 ·obtain ⟨_, D, tmps, q1, _⟩ := hg.lp l _ (List.getElem?_eq_getElem hl)
  have q1' : w.heap[(h.ro l).1]? = some (.loop _) := q1
  have h4' : w.heap[(h.ro l).1]? = some (.cells c e.1 (0, 0)) := h4
  rw [h4'] at q1'; cases q1'
theorem row_aside (hg : GI g w h) {t j b : Nat} (hb : h.ga (.tmp g.dp t j) = some b) : b < w.heap.size ∧ ¬ May (hidG g) (hidH g h) b := by
 obtain ⟨c, e, h4⟩ := hg.gaC _ b hb
 refine ⟨lt_of_heap h4, ?_⟩
 rintro (⟨d, t', hs', hb'⟩ | ⟨i, hi, hb'⟩ | ⟨l, hl, rfl⟩)
 ·obtain ⟨o, ho⟩ := Option.isSome_iff_exists.1 hs'
  obtain ⟨hd, ho⟩ := hid_bx ho rfl
  exact hg.gaBx _ b d t' hb (by rw [ho]; rfl) hb'
 ·exact hi _ _ _ (hg.gaInj i _ b (hidGa_some hb') hb)
 ·obtain ⟨_, D, tmps, q1, _⟩ := hg.lp l _ (List.getElem?_eq_getElem hl)
  have q1' : w.heap[(h.ro l).1]? = some (.loop _) := q1
  have h4' : w.heap[(h.ro l).1]? = some (.cells c e (0, 0)) := h4
  rw [h4'] at q1'; cases q1'
variable {g' : G} {w' : World} {h' : Gh}
theorem un_eq {t : Nat} : (unG g g').bx g.dp t = (g.bx g.dp t).map fun b => { b with cells := demAlls b.cells } := by
 unfold unG
 dsimp only
 rw [if_pos (Nat.beq_refl _)]
 cases g.bx g.dp t <;> rfl
theorem un_ne {d t : Nat} (hd : d ≠ g.dp) : (unG g g').bx d t = g'.bx d t := by
 unfold unG
 dsimp only
 rw [if_neg (fun e => hd (Nat.eq_of_beq_eq_true e))]
theorem unbe_eq {t : Nat} : (unH g h h').be g.dp t = h.be g.dp t := by
 unfold unH; dsimp only; rw [if_pos (Nat.beq_refl _)]
theorem unbe_ne {d t : Nat} (hd : d ≠ g.dp) : (unH g h h').be d t = h'.be d t := by
 unfold unH; dsimp only; rw [if_neg (fun e => hd (Nat.eq_of_beq_eq_true e))]
theorem unhide (hg : GI g w h) (h1 : 1 ≤ g.dp) (hlp : ∀ (l : Nat) (r : LoopRec), g.lp[l]? = some r → r.dp < g.dp) (hg' : GI g' w' h') (hr : Rel (hidG g) (hidH g h) w g' w' h') (hdp : g'.dp = g.dp - 1) (hlps : g'.lp.map LoopRec.dp = g.lp.map LoopRec.dp) :
  GI (unG g g') w' (unH g h h') ∧ Rel g h w (unG g g') w' (unH g h h') := by
 have bxm : ∀ d t b, d ≠ g.dp → (g'.bx d t).isSome = true → h'.be d t = some b → w.heap.size ≤ b ∨ May (hidG g) (hidH g h) b := fun d t b _ hs hb => hr.bxMay d t b hs hb
 have gam : ∀ i b, (∀ t j, i ≠ .tmp g.dp t j) → h'.ga i = some b → (w.heap.size ≤ b ∨ May (hidG g) (hidH g h) b) ∨ h.ga i = some b := by
  intro i b hi hb
  cases i with
  | tmp d t j =>
   by_cases hd : d < g.dp
   ·right
    have e := hr.ga d t j (by show d ≤ g.dp - 1; omega)
    rw [e] at hb
    exact hidGa_some hb
   ·have hne : d ≠ g.dp := fun e => hi t j (by rw [e])
    rw [hg'.gaTop d t j (by rw [hdp]; omega)] at hb
    cases hb
  | box d t j => exact .inl (hr.gaMay _ b (by intro _ _ _ e; cases e) hb)
  | res j => exact .inl (hr.gaMay _ b (by intro _ _ _ e; cases e) hb)
 have asideB : ∀ {t b}, (g.bx g.dp t).isSome = true → h.be g.dp t = some b → ¬ (w.heap.size ≤ b ∨ May (hidG g) (hidH g h) b) := fun hs hb hh => by
  obtain ⟨a1, a2⟩ := box_aside hg hs hb
  rcases hh with hh | hh
  ·omega
  ·exact a2 hh
 have asideR : ∀ {t j b}, h.ga (.tmp g.dp t j) = some b → ¬ (w.heap.size ≤ b ∨ May (hidG g) (hidH g h) b) := fun hb hh => by
  obtain ⟨a1, a2⟩ := row_aside hg hb
  rcases hh with hh | hh
  ·omega
  ·exact a2 hh
 have lpAt : ∀ (l : Nat) (r : LoopRec), g.lp[l]? = some r → ∃ r' : LoopRec, g'.lp[l]? = some r' ∧ r'.dp = r.dp := by
  intro l r hl
  have e : (g'.lp.map LoopRec.dp)[l]? = (g.lp.map LoopRec.dp)[l]? := by rw [hlps]
  rw [List.getElem?_map, List.getElem?_map, hl] at e
  cases hl' : g'.lp[l]? with
  | none => rw [hl'] at e; cases e
  | some r' => rw [hl'] at e; simp only [Option.map_some, Option.some.injEq] at e; exact ⟨r', rfl, e⟩
 have Kun : ∀ {n d t}, n < g.dp → KG g' n d t → KG (unG g g') n d t := fun hn hk => ⟨hk.1, by rw [un_ne (by have := hk.1; omega)]; exact hk.2⟩
 have Kold : ∀ {n d t}, n ≤ g.dp → KG g n d t → KG (unG g g') n d t := fun {n d t} hn hk => by
  refine ⟨hk.1, ?_⟩
  by_cases hd : d = g.dp
  ·subst hd; rw [un_eq]
   obtain ⟨bo, hbo⟩ := Option.isSome_iff_exists.1 hk.2
   rw [hbo]; rfl
  ·rw [un_ne hd]
   exact (hr.bxs d t (by rw [hid_ne hd]; exact hk.2)).1
 have beold : ∀ {d t b}, (g.bx d t).isSome = true → h.be d t = some b → (unH g h h').be d t = some b := fun {d t b} hs hb => by
  by_cases hd : d = g.dp
  ·subst hd; rw [unbe_eq]; exact hb
  ·rw [unbe_ne hd, (hr.bxs d t (by rw [hid_ne hd]; exact hs)).2]; exact hb
 have hge : ∀ i b, (∀ t j, i ≠ .tmp g.dp t j) → h'.ga i = some b → (unH g h h').ga i = some b := fun i b hi hb => by
  cases i with
  | tmp d t j =>
   show unGa g.dp h.ga h'.ga (.tmp d t j) = some b
   simp only [unGa]
   rw [if_neg (fun e => hi t j (by rw [Nat.eq_of_beq_eq_true e]))]
   exact hb
  | _ => exact hb
 have gaun : ∀ i b, (unH g h h').ga i = some b → (∃ t j, i = .tmp g.dp t j ∧ h.ga i = some b) ∨ ((∀ t j, i ≠ .tmp g.dp t j) ∧ h'.ga i = some b) := by
  intro i b hi
  cases i with
  | tmp d t j =>
   have hi : unGa g.dp h.ga h'.ga (.tmp d t j) = some b := hi
   simp only [unGa] at hi
   split at hi
   ·rename_i e
    have e := Nat.eq_of_beq_eq_true e
    subst e
    exact .inl ⟨t, j, rfl, hi⟩
   ·rename_i e
    exact .inr ⟨fun t' j' he => by cases he; exact e (Nat.beq_refl _), hi⟩
  | box d t j => exact .inr ⟨(fun _ _ e => by cases e), hi⟩
  | res j => exact .inr ⟨(fun _ _ e => by cases e), hi⟩
 have repn : ∀ {Q : Id → Prop} {n : Nat} {Y : Nat → Prop} {as : List AV} {vs : List Value}, n < g.dp → (∀ i, Q i → ∀ t j, i ≠ .tmp g.dp t j) → AV.oks Q (KG g' n) Y as → RepAs w' h' as vs → RepAs w' (unH g h h') as vs := by
  intro Q n Y as vs hn hQ ho hrep
  exact RepAs.ext (h := h') (h' := unH g h h') (Ext.refl _ _) (fun d t b hk hb => by rw [unbe_ne (by have := hk.1; omega)]; exact hb) (fun _ _ => rfl) (fun i b hi hb => ⟨hge i b (hQ i hi) hb, rfl, rfl⟩) _ _ ho hrep
 have repnB : ∀ {Q : Id → Prop} {n : Nat} {Y : Nat → Prop} {ty : Nat × Nat} {as : List AV} {vs : List Value}, n < g.dp → (∀ i, Q i → ∀ t j, i ≠ .tmp g.dp t j) → AV.oks Q (KG g' n) Y as → RepBx w' h' ty as vs → RepBx w' (unH g h h') ty as vs := by
  intro Q n Y ty as vs hn hQ ho hrep
  exact RepBx.ext (h := h') (h' := unH g h h') (Ext.refl _ _) (fun d t b hk hb => by rw [unbe_ne (by have := hk.1; omega)]; exact hb) (fun _ _ => rfl) (fun i b hi hb => ⟨hge i b (hQ i hi) hb, rfl, rfl⟩) _ _ ho hrep
 have repn1 : ∀ {Q : Id → Prop} {n : Nat} {Y : Nat → Prop} {a : AV} {v : Value}, n < g.dp → (∀ i, Q i → ∀ t j, i ≠ .tmp g.dp t j) → AV.ok Q (KG g' n) Y a → RepA w' h' a v → RepA w' (unH g h h') a v := by
  intro Q n Y a v hn hQ ho hrep
  exact RepA.ext (h := h') (h' := unH g h h') (Ext.refl _ _) (fun d t b hk hb => by rw [unbe_ne (by have := hk.1; omega)]; exact hb) (fun _ _ => rfl) (fun i b hi hb => ⟨hge i b (hQ i hi) hb, rfl, rfl⟩) _ _ ho hrep
 have boxQ : ∀ i, IsBox i → ∀ t j, i ≠ .tmp g.dp t j := fun i hi t j e => by subst e; exact hi.elim
 refine ⟨⟨?_, ?_, ?_, ?_, ?_, ?_, hg'.lim, ?_, hg'.roInj, ?_⟩, ⟨hr.os, hr.tape, hr.output, hr.size, hr.ext, ?_, ?_, hr.ro, ?_, ?_, ?_, ?_, hr.lpLen⟩⟩
 ·intro d t bo hb
  by_cases hd : d = g.dp
  ·subst hd
   rw [un_eq] at hb
   obtain ⟨bo0, hbo, rfl⟩ := Option.map_eq_some_iff.1 hb
   obtain ⟨_, h3, b, c, e, h4, h5, h6, h7, h8⟩ := hg.bx _ t bo0 hbo
   obtain ⟨a1, a2⟩ := box_aside hg (by rw [hbo]; rfl) h4
   obtain ⟨k1, k2⟩ := hr.keep b a1 a2
   have hoks : AV.oks NoId (KG g g.dp) (YG g g.dp) (demAlls bo0.cells) := AV.oks.demAll _ h3
   refine ⟨Nat.le_refl _, ?_, b, c, e, by rw [unbe_eq]; exact h4, by rw [k1]; exact h5, ?_, h7, ?_⟩
   ·refine AV.oks.mono (fun _ hh => hh.elim) (fun _ _ hk => Kold (Nat.le_refl _) hk) (fun l hl => ?_) _ hoks
    obtain ⟨r, hl1, hl2⟩ := hl
    obtain ⟨r', hl3, hl4⟩ := lpAt l r hl1
    exact ⟨r', hl3, by omega⟩
   ·refine RepBx.ext (h := h) (h' := unH g h h') hr.ext (fun d t b hk hb => beold hk.2 hb) (fun l hl => ?_) (fun _ _ hh => hh.elim) _ _ hoks (RepBx.noOwn (w' := w) (h' := h) (RepAs.demAll _ _ h6.1) (fun i sz es hh => by
     have := oks_at hoks hh
     simp only [AV.ok, NoId] at this))
    exact hr.ro l (by obtain ⟨r, hl1, _⟩ := hl; exact (List.getElem?_eq_some_iff.1 hl1).1)
   ·show h'.L b = _
    rw [k2]
    exact h8
  ·rw [un_ne hd] at hb
   obtain ⟨h2, h3, b, c, e, h4, h5, h6, h7, h8⟩ := hg'.bx d t bo hb
   have hlt : d < g.dp := by omega
   refine ⟨by show d ≤ g.dp; omega, AV.oks.mono (fun _ hh => hh) (fun _ _ hk => Kun hlt hk) (fun _ hh => hh) _ h3, b, c, e, by rw [unbe_ne hd]; exact h4, h5, repnB hlt boxQ h3 h6, h7, h8⟩
 ·intro d t d' t' b hs hs' hb hb'
  by_cases hd : d = g.dp
  ·by_cases hd' : d' = g.dp
   ·subst hd; subst hd'
    rw [unbe_eq] at hb hb'
    rw [un_eq] at hs hs'
    exact hg.inj _ t _ t' b (by simpa using hs) (by simpa using hs') hb hb'
   ·subst hd
    rw [unbe_eq] at hb
    rw [un_eq] at hs
    rw [unbe_ne hd'] at hb'
    rw [un_ne hd'] at hs'
    exact absurd (bxm d' t' b hd' hs' hb') (asideB (by simpa using hs) hb)
  ·by_cases hd' : d' = g.dp
   ·subst hd'
    rw [unbe_eq] at hb'
    rw [un_eq] at hs'
    rw [unbe_ne hd] at hb
    rw [un_ne hd] at hs
    exact absurd (bxm d t b hd hs hb) (asideB (by simpa using hs') hb')
   ·rw [unbe_ne hd] at hb
    rw [un_ne hd] at hs
    rw [unbe_ne hd'] at hb'
    rw [un_ne hd'] at hs'
    exact hg'.inj d t d' t' b hs hs' hb hb'
 ·intro i b d t hi hs hb
  by_cases hd : d = g.dp
  ·subst hd
   rw [unbe_eq] at hb
   rw [un_eq] at hs
   have hs : (g.bx g.dp t).isSome = true := by simpa using hs
   rcases gaun i b hi with ⟨t', j', rfl, hi⟩ | ⟨hne, hi⟩
   ·exact hg.gaBx _ b _ t hi hs hb
   ·rcases gam i b hne hi with hh | hh
    ·exact asideB hs hb hh
    ·exact hg.gaBx _ b _ t hh hs hb
  ·rw [unbe_ne hd] at hb
   rw [un_ne hd] at hs
   rcases gaun i b hi with ⟨t', j', rfl, hi⟩ | ⟨hne, hi⟩
   ·exact asideR hi (bxm d t b hd hs hb)
   ·exact hg'.gaBx i b d t hi hs hb
 ·intro i j b hi hj
  rcases gaun i b hi with ⟨t1, j1, rfl, hi⟩ | ⟨hne, hi⟩
  ·rcases gaun j b hj with ⟨t2, j2, rfl, hj⟩ | ⟨hne2, hj⟩
   ·exact hg.gaInj _ _ b hi hj
   ·rcases gam j b hne2 hj with hh | hh
    ·exact absurd hh (asideR hi)
    ·exact hg.gaInj _ _ b hi hh
  ·rcases gaun j b hj with ⟨t2, j2, rfl, hj⟩ | ⟨hne2, hj⟩
   ·rcases gam i b hne hi with hh | hh
    ·exact absurd hh (asideR hj)
    ·exact hg.gaInj _ _ b hh hj
   ·exact hg'.gaInj _ _ b hi hj
 ·intro i b hi
  rcases gaun i b hi with ⟨t1, j1, rfl, hi⟩ | ⟨hne, hi⟩
  ·have := hg.gaLt _ b hi; have := hr.size; omega
  ·exact hg'.gaLt _ b hi
 ·intro i b hi
  rcases gaun i b hi with ⟨t1, j1, rfl, hi⟩ | ⟨hne, hi⟩
  ·obtain ⟨c, e, hc⟩ := hg.gaC _ b hi
   obtain ⟨a1, a2⟩ := row_aside hg hi
   exact ⟨c, e, by rw [(hr.keep b a1 a2).1]; exact hc⟩
  ·exact hg'.gaC _ b hi
 ·intro l r hl
  obtain ⟨⟨p1, p2, p3⟩, D, tmps, q1, q2, q3, q4⟩ := hg'.lp l r hl
  have hlt : r.dp < g.dp := by omega
  refine ⟨⟨p1, by show r.dp ≤ g.dp; omega, p3⟩, D, tmps, q1, q2, q3, fun t v hv => ?_⟩
  obtain ⟨r1, r2⟩ := q4 t v hv
  exact ⟨repn1 hlt (fun _ hh => hh.elim) r2 r1, AV.ok.mono (fun _ hh => hh) (fun _ _ hk => Kun hlt hk) (fun _ hh => hh) _ r2⟩
 ·intro d t j hd
  have hd : g.dp < d := hd
  show unGa g.dp h.ga h'.ga (.tmp d t j) = none
  simp only [unGa]
  rw [if_neg (fun e => by have := Nat.eq_of_beq_eq_true e; omega)]
  exact hg'.gaTop d t j (by rw [hdp]; omega)
 ·intro b hb hm
  exact hr.keep b hb (fun hh => hm (may_hid hh))
 ·intro d t hs
  by_cases hd : d = g.dp
  ·subst hd; rw [un_eq, unbe_eq]; exact ⟨by simpa using hs, rfl⟩
  ·rw [un_ne hd, unbe_ne hd]
   exact hr.bxs d t (by rw [hid_ne hd]; exact hs)
 ·intro d t j hd
  show unGa g.dp h.ga h'.ga (.tmp d t j) = _
  simp only [unGa]
  split
  ·rfl
  ·rename_i hne
   have hne : d ≠ g.dp := fun e => hne (by rw [e]; exact Nat.beq_refl _)
   rw [hr.ga d t j (by show d ≤ g.dp - 1; omega)]
   show hidGa g.dp h.ga (.tmp d t j) = _
   simp only [hidGa]
   rw [if_neg (fun e => hne (Nat.eq_of_beq_eq_true e))]
 ·intro d t b hs hb
  by_cases hd : d = g.dp
  ·subst hd
   rw [un_eq] at hs
   rw [unbe_eq] at hb
   exact .inr (.inl ⟨_, t, by simpa using hs, hb⟩)
  ·rw [un_ne hd] at hs
   rw [unbe_ne hd] at hb
   exact (hr.bxMay d t b hs hb).imp id may_hid
 ·intro i b hi hb
  rcases gaun i b hb with ⟨t1, j1, rfl, hb⟩ | ⟨hne, hb⟩
  ·have := hi _ _ _ rfl; omega
  ·exact (hr.gaMay i b (fun d t j e => by have : g.dp < d := hi d t j e; show g.dp - 1 < d; omega) hb).imp id may_hid
 ·intro l hl
  exact (hr.lpMay l hl).imp id may_hid
theorem OutM.un (h1 : 1 ≤ g.dp) (hdp : g'.dp = g.dp - 1) {out : Out} {e : Ending} (hm : OutM g' w' h' out e) : OutM (unG g g') w' (unH g h h') out e := by
 cases out with
 | pan x =>
  cases e with
  | panicked chain => exact hm
  | returned v => exact hm.elim
  | outgrown => exact hm.elim
 | ret rs =>
  cases e with
  | returned v =>
   obtain ⟨vs, rfl, h2, h3, h4, h5⟩ := hm
   refine ⟨vs, rfl, ?_, h3, h4, ?_⟩
   ·refine RepAs.ext (h := h') (h' := unH g h h') (Ext.refl _ _) (fun d t b hk hb => by rw [unbe_ne (by have := hk.1; omega)]; exact hb) (fun _ _ => rfl) (fun i b hi hb => ?_) _ _ h5 h2
    cases i with
    | res j => exact ⟨hb, rfl, rfl⟩
    | _ => exact hi.elim
   ·refine AV.oks.mono (fun _ hh => hh) (fun d t hk => ⟨by show d ≤ g.dp; have := hk.1; omega, by rw [un_ne (by have := hk.1; omega)]; exact hk.2⟩) (fun l hl => ?_) _ h5
    obtain ⟨r, hl1, hl2⟩ := hl
    exact ⟨r, hl1, by show r.dp < g.dp + 1; omega⟩
  | panicked c => exact hm.elim
  | outgrown => exact hm.elim
end
theorem hideE_sound {P : Program} {R : Type} (on : Bool) {E : Cal → List AV → G → (Out → G → Option R) → Option R} (hE : ESound P E) : ESound P (hideE on E) := by
 intro cal args g k r hr w h vs hg hv ho htb
 cases cal with
 | yld l => exact hE (.yld l) args g k r hr w h vs hg hv ho htb
 | fn f =>
  unfold hideE at hr
  dsimp only at hr
  split at hr
  case isFalse => exact hE (.fn f) args g k r hr w h vs hg hv ho htb
  rename_i hc
  simp only [Bool.and_eq_true, List.all_eq_true] at hc
  obtain ⟨⟨⟨_, c1⟩, c2⟩, c3⟩ := hc
  have c1 : 1 ≤ g.dp := Nat.le_of_ble_eq_true c1
  have hlp : ∀ (l : Nat) (r : LoopRec), g.lp[l]? = some r → r.dp < g.dp := fun l r hl => by
   have := c3 r (List.mem_of_getElem? hl)
   simpa using this
  have ho1 : AV.oks NoId (KG g (g.dp - 1)) (YG (hidG g) (g.dp - 1 + 1)) args := AV.oks.upto args c2 ho
  have ho2 : AV.oks NoId (KG (hidG g) (hidG g).dp) (YG (hidG g) ((hidG g).dp + 1)) args := AV.oks.mono (fun _ hh => hh) (fun d t hk => hid_K (by show g.dp - 1 < g.dp; omega) hk) (fun _ hh => hh) _ ho1
  have hv' : RepAs w (hidH g h) args vs := RepAs.ext (h := h) (h' := hidH g h) (Ext.refl _ _) (fun _ _ _ _ hh => hh) (fun _ _ => rfl) (fun _ _ hh => hh.elim) _ _ ho hv
  have main := hE (.fn f) args (hidG g) _ r hr w (hidH g h) vs (hg.hid c1 hlp) hv' ho2 (htb.may fun b => may_hid)
  cases f with
  | func f =>
   refine ⟨main.1, main.2.mono ?_⟩
   rintro e w' ⟨out, g', h', hm, hg', hrel, hd, hl, hk⟩
   obtain ⟨q1, q2⟩ := unhide hg c1 hlp hg' hrel hd hl
   exact ⟨out, unG g g', unH g h h', hm.un c1 hd, q1, q2, rfl, hl, hk⟩
  | _ => exact main
end Go.Abs
namespace Go.Abs
open Go
set_option linter.unusedVariables false
set_option linter.unusedSimpArgs false
set_option linter.unnecessarySimpa false
set_option linter.unusedSectionVars false
variable [Tabs]
def KSound (P : Program) (f : FuncId) (kf : List D → Option Out) : Prop :=
 ∀ ds out, kf ds = some out → ∀ w L vs, (∀ b, w.heap.size ≤ b → L b = 0) → RepVs w L ds vs → Tabs.p w → FOk P f ∧
  CallsIn Fence.wide 0 P f vs.toArray w (fun e w' => ∃ g' h', OutM g' w' h' out e ∧ OutD out ∧ GI g' w' h' ∧ Rel G0 (H0 L) w g' w' h')
def XSound (P : Program) (f : FuncId) (x : List AV → G → Option (Bool × Out × G)) : Prop :=
 ∀ args g out g', x args g = some (true, out, g') → ∀ w h vs, GI g w h → RepAs w h args vs → AV.oks NoId (KG g g.dp) (YG g (g.dp + 1)) args → Tb g h w → FOk P f ∧
  CallsIn Fence.wide 0 P f vs.toArray w (fun e w' => ∃ h', OutM g' w' h' out e ∧ GI g' w' h' ∧ Rel g h w g' w' h' ∧ g'.dp = g.dp ∧ g'.lp.map LoopRec.dp = g.lp.map LoopRec.dp)
structure PrOk (P : Program) (p : Pr) : Prop where
 mix : P.follows .mixedOrders = true
 T : TyOk P p.T
 F : ∀ f F, p.F f = some F → P.funcs[f]? = some F ∧ (F.name == "runtime.NumGoroutine") = false
 H : ∀ f F code, p.F f = some F → F.body = some code → codeOk (p.H f) code = true
 K : ∀ f kf, p.K f = some kf → KSound P f kf
 X : ∀ f x, p.X f = some x → XSound P f x := by intro f x h; cases h
section
variable {P : Program} {g0 : G} {h0 : Gh} {w0 : World} {nt : Nat}
theorem GI.deeper {g : G} {w : World} {h : Gh} (hg : GI g w h) : GI { g with dp := g.dp + 1 } w h where
 bx := fun d t bo hb => by
  obtain ⟨h1, h2⟩ := hg.bx d t bo hb
  exact ⟨Nat.le_succ_of_le h1, h2⟩
 inj := hg.inj
 gaBx := hg.gaBx
 gaInj := hg.gaInj
 gaLt := hg.gaLt
 gaC := hg.gaC
 lim := hg.lim
 lp := fun l r hl => by
  obtain ⟨hp, rest⟩ := hg.lp l r hl
  exact ⟨⟨hp.1, Nat.le_succ_of_le hp.2.1, hp.2.2⟩, rest⟩
 roInj := hg.roInj
 gaTop := fun d t j hd => hg.gaTop d t j (by have hd : g.dp + 1 < d := hd; omega)
theorem Rel.deeper {g : G} {w : World} {h : Gh} (hg : GI g w h) : Rel g h w { g with dp := g.dp + 1 } w h :=
 let r := Rel.refl hg
 {os := r.os, tape := r.tape, output := r.output, size := r.size, ext := r.ext, keep := r.keep, bxs := r.bxs, ro := r.ro, ga := r.ga, bxMay := r.bxMay, gaMay := r.gaMay, lpMay := r.lpMay, lpLen := r.lpLen }
theorem argTm_get : ∀ {as : List AV} {vs : List Value} {t : Nat} {v : AV} {w : World} {h : Gh} {Q : Id → Prop} {K : Nat → Nat → Prop} {Y : Nat → Prop}, RepAs w h as vs → AV.oks Q K Y as → argTm as t = some v → ∃ u, vs[t]? = some u ∧ RepA w h v u ∧ v.ok Q K Y
 | [], vs, t, v, w, h, Q, K, Y, _, _, ht => by simp [argTm] at ht
 | a :: as, vs, t, v, w, h, Q, K, Y, hr, ho, ht => by
  simp only [RepAs, AV.oks] at hr ho
  obtain ⟨u, us, rfl, h1, h2⟩ := hr
  cases t with
  | zero => simp only [argTm, Option.some.injEq] at ht; subst ht; exact ⟨u, rfl, h1, ho.1⟩
  | succ t => simp only [argTm] at ht; simpa using argTm_get h2 ho.2 ht
mutual
 theorem RepA.base {w : World} {h : Gh} (df : List Deferred) (fl : Bool) : ∀ (a : AV) (v : Value), RepA w h a v → RepA w { h with df := df, flat := fl } a v
  | .d _, v, hr => by simpa only [RepA] using hr
  | .own _ _ _, v, hr => by simp only [RepA] at hr ⊢; exact hr
  | .ptr _ _ _, v, hr => by simpa only [RepA] using hr
  | .fn _ caps, v, hr => by
   simp only [RepA] at hr ⊢
   obtain ⟨cv, rfl, hc⟩ := hr
   exact ⟨cv, rfl, RepAs.base df fl caps _ hc⟩
  | .tup xs, v, hr => by
   simp only [RepA] at hr ⊢
   obtain ⟨cv, rfl, hc⟩ := hr
   exact ⟨cv, rfl, RepAs.base df fl xs _ hc⟩
  | .yld _, v, hr => by simpa only [RepA] using hr
  | .raw _ _ _ _ _, v, hr => by simp only [RepA] at hr ⊢; exact hr
  | .old _ _ _, v, hr => by simpa only [RepA] using hr
 theorem RepAs.base {w : World} {h : Gh} (df : List Deferred) (fl : Bool) : ∀ (as : List AV) (vs : List Value), RepAs w h as vs → RepAs w { h with df := df, flat := fl } as vs
  | [], vs, hr => by simpa only [RepAs] using hr
  | a :: as, vs, hr => by
   simp only [RepAs] at hr ⊢
   obtain ⟨u, us, rfl, h1, h2⟩ := hr
   exact ⟨u, us, rfl, RepA.base df fl a u h1, RepAs.base df fl as us h2⟩
end
theorem GI.base {g : G} {w : World} {h : Gh} (hg : GI g w h) (df : List Deferred) (fl : Bool) : GI g w { h with df := df, flat := fl } where
 bx := fun d t bo hb => by
  obtain ⟨h1, h2, b, c, e, h3, h4, h5, h6⟩ := hg.bx d t bo hb
  exact ⟨h1, h2, b, c, e, h3, h4, ⟨RepAs.base df fl _ _ h5.1, h5.2⟩, h6⟩
 inj := hg.inj
 gaBx := hg.gaBx
 gaInj := hg.gaInj
 gaLt := hg.gaLt
 gaC := hg.gaC
 lim := hg.lim
 lp := fun l r hl => by
  obtain ⟨hp, D, q, h1, h2, h3, h4⟩ := hg.lp l r hl
  exact ⟨hp, D, q, h1, h2, h3, fun t v hv => ⟨RepA.base df fl _ _ (h4 t v hv).1, (h4 t v hv).2⟩⟩
 roInj := hg.roInj
 gaTop := hg.gaTop
theorem Rel.based {g g' : G} {w w' : World} {h h' : Gh} {df : List Deferred} {fl : Bool} (r : Rel g { h with df := df, flat := fl } w g' w' h') : Rel g h w g' w' h' :=
 {os := r.os, tape := r.tape, output := r.output, size := r.size, ext := r.ext, keep := r.keep, bxs := r.bxs, ro := r.ro, ga := r.ga, bxMay := r.bxMay, gaMay := r.gaMay, lpMay := r.lpMay, lpLen := r.lpLen }
theorem CallQ.based {R : Type} {k : Out → G → Option R} {r : R} {g : G} {h : Gh} {w : World} {df : List Deferred} {fl : Bool} {e : Ending} {w' : World} (hq : CallQ k r g { h with df := df, flat := fl } w e w') : CallQ k r g h w e w' := by
 obtain ⟨out, g', h', h1, h2, h3, h4⟩ := hq
 exact ⟨out, g', h', h1, h2, h3.based, h4⟩
theorem SI.enter {g : G} {w : World} {h : Gh} (hdf : h.df = []) (hg : GI g w h) {args : List AV} {vs : List Value} (hr : RepAs w h args vs) (ho : AV.oks NoId (KG g g.dp) (YG g (g.dp + 1)) args) {n : Nat} (hn : args.length ≤ n) (htb : Tb g h w) :
  SI n g h w { tm := argTm args, fr := fun _ => false, g := { g with dp := g.dp + 1 } } { tmps := vs.toArray ++ Array.replicate (n - vs.toArray.size) undef, defers := [] } w h := by
 have hlen := hr.length
 refine ⟨⟨?_, ?_, hg.deeper, fun x hx => by cases hx⟩, Rel.deeper hg, rfl, rfl, by rw [hdf]; exact Marks.nil, fun x hx => by (cases hx), ?_, ?_⟩
 ·simp; omega
 ·intro t v hv
  obtain ⟨u, hu, h1, h2⟩ := argTm_get hr ho hv
  refine ⟨?_, AV.ok.mono (fun _ h => h.elim) (fun d t hk => ⟨Nat.le_succ_of_le hk.1, hk.2⟩) (fun l hl => hl) _ h2⟩
  have hlt : t < vs.length := (List.getElem?_eq_some_iff.1 hu).1
  have : (vs.toArray ++ Array.replicate (n - vs.toArray.size) undef).getD t undef = u := by
   rw [Array.getD_eq_getD_getElem?, Array.getElem?_append_left (by simpa using hlt)]
   simp [hu]
  rw [this]; exact h1
 ·intro r hr'
  obtain ⟨l, hl⟩ := List.getElem?_of_mem hr'
  exact (hg.lp l r hl).1.2.1
 ·refine ⟨fun d t hs => ?_, htb⟩
  obtain ⟨bo, hbo⟩ := Option.isSome_iff_exists.1 hs
  exact (hg.bx d t bo hbo).1
theorem rod_of {g : G} {w : World} {h : Gh} (hg : GI g w h) : ∀ l, l < g.lp.length → (h.ro l).2 < w.heap.size := by
 intro l hl
 obtain ⟨_, D, q, h1, h2, h3, _⟩ := hg.lp l _ (List.getElem?_eq_getElem hl)
 rw [← h3.2]
 exact lt_of_heap h2
theorem SI.lpdp {s : St} {a : Act} {w : World} {h : Gh} (hsi : SI nt g0 h0 w0 s a w h) : ∀ r ∈ s.g.lp, r.dp ≤ g0.dp := by
 intro r hr
 have hm : r.dp ∈ g0.lp.map LoopRec.dp := by rw [← hsi.lps]; exact List.mem_map_of_mem hr
 obtain ⟨r0, hr0, hrd⟩ := List.mem_map.1 hm
 have := hsi.lpd r0 hr0
 omega
theorem SI.gone {s : St} {a : Act} {w : World} {h : Gh} (hsi : SI nt g0 h0 w0 s a w h) : GI (popG s.g (g0.dp + 1)) w { h with ga := gaClear h.ga (g0.dp + 1) } ∧ Rel g0 h0 w0 (popG s.g (g0.dp + 1)) w { h with ga := gaClear h.ga (g0.dp + 1) } :=
 ⟨hsi.fi.gi.pop hsi.dp hsi.lpdp, hsi.rel.pop (Nat.le_refl _) hsi.bxd.1⟩
theorem FI.notm {s : St} {a : Act} {w : World} {h : Gh} (hf : FI nt s a w h) : FI nt { tm := fun _ => none, fr := s.fr, g := s.g } a w h :=
 ⟨hf.size, fun t v hv => (by cases hv), hf.gi, hf.dfr⟩
theorem pre_of {g : G} {w : World} {h : Gh} (hg : GI g w h) {fr : Nat → Bool} : ∀ {rs : List AV} {vs : List Value}, AV.oks (TmQ fr g.dp) (KG g g.dp) (YG g g.dp) rs → RepAs w h rs vs →
  PreL g.bx g.dp w (fun d t => KG g g.dp d t ∧ d < g.dp) (YG g g.dp) (frzH g w h fun d _ => Nat.beq d g.dp) [] rs vs
 | [], vs, _, hr => by simpa only [PreL, RepAs] using hr
 | a :: as, vs, ho, hr => by
  simp only [RepAs, AV.oks, PreL] at hr ho ⊢
  obtain ⟨u, us, rfl, h1, h2⟩ := hr
  have hf := RepA.frz hg (fun d _ => Nat.beq d g.dp) h1
  refine ⟨u, us, rfl, pre_of hg ho.2 h2, ?_, ?_⟩
  ·intro i sz es he
   subst he
   have hi := ho.1
   simp only [AV.ok] at hi
   refine ⟨fun k e => ?_, fun d t k e => ?_, hf.own_sl, fun _ => hf⟩
   ·subst e; exact hi
   ·subst e; exact hi.1
  ·intro hne x hx
   exact retAV_sound hg a x u hx ho.1 hf
theorem returned {T : Nat → Option TI} (hT : TyOk P T) {F : Func} {R : Type} {k : Out → G → Option R} {r : R} {s : St} {a : Act} {w : World} {h : Gh} (hsi : SI nt g0 h0 w0 s a w h) {rs rs' : List AV}
  (h1 : resVars T s F.results.toList = some rs) (h2 : retRes s.g.bx (g0.dp + 1) 0 [] rs = some rs') (hk : k (.ret rs') (popG { s.g with bx := demRes rs s.g.bx } (g0.dp + 1)) = some r) :
  ∃ v, (results F a.tmps).run P w = .ok v w ∧ CallQ k r g0 h0 w0 (.returned v) w := by
 obtain ⟨vs, hrep, hok, hrun⟩ := resVars_sound hT hsi.fi F.results.toList h1
 have hpre := pre_of hsi.fi.gi hok hrep
 rw [hsi.dp] at hpre
 have f1 := (hsi.fi.frz (fun d _ => Nat.beq d (g0.dp + 1))).notm
 have r1 := hsi.rel.frz hsi.fi.gi (fun d _ => Nat.beq d (g0.dp + 1))
 obtain ⟨h', f2, r2, p1, p2, p3, p4, p5, p6, p7, p8⟩ := retRes_sound (Nat.lt_succ_self _) rs h2 (g := frzG s.g fun d _ => Nat.beq d (g0.dp + 1)) (fr := s.fr) (a := a) hsi.dp f1 r1 hpre
 have hpop : popG { (frzG s.g fun d _ => Nat.beq d (g0.dp + 1)) with bx := demRes rs (frzG s.g fun d _ => Nat.beq d (g0.dp + 1)).bx } (g0.dp + 1) = popG { s.g with bx := demRes rs s.g.bx } (g0.dp + 1) := by
  unfold popG
  simp only [G.mk.injEq]
  refine ⟨?_, trivial, rfl⟩
  funext d t
  split
  ·rfl
  ·rename_i hne
   refine demRes_congr rs _ _ d t ?_
   show frzBx s.g.bx (fun d _ => Nat.beq d (g0.dp + 1)) d t = _
   unfold frzBx
   have hne' : Nat.beq d (g0.dp + 1) = false := Bool.eq_false_iff.2 hne
   cases s.g.bx d t with
   | none => rfl
   | some b => simp only [hne', Bool.false_or]
 have hlp : ∀ rr ∈ s.g.lp, rr.dp ≤ g0.dp := hsi.lpdp
 have gi := f2.gi.pop (dp := g0.dp) hsi.dp hlp
 have rl := r2.pop (Nat.le_refl _) hsi.bxd.1
 rw [hpop] at gi rl
 have hres : (results F a.tmps).run P w = .ok (resVal vs) w := by
  unfold results
  rw [Array.mapM_eq_mapM_toList, Sem.run_bind, map_eq_pure_bind, Sem.run_bind]
  have hr2 := hrun
  erw [hr2]
  simp only [Result.andThen, Sem.run_pure]
  cases vs with
  | nil => rfl
  | cons v vt =>
   cases vt with
   | nil => rfl
   | cons v2 vt2 => simp [resVal]
 refine ⟨resVal vs, hres, .ret rs', _, { h' with ga := gaClear h'.ga (g0.dp + 1) }, ⟨vs, rfl, ?_, p2, p3, ?_⟩, gi, rl, ?_, ?_, hk⟩
 ·refine RepAs.ext (h := h') (h' := { h' with ga := gaClear h'.ga (g0.dp + 1) }) (Ext.refl _ _) (fun _ _ _ _ h => h) (fun _ _ => rfl) ?_ _ _ p4 p1
  intro i b hi hb
  cases i with
  | res j => exact ⟨hb, rfl, rfl⟩
  | _ => exact hi.elim
 ·refine AV.oks.mono (fun _ h => h) ?_ ?_ _ p4
  ·rintro d t ⟨hkg, hlt⟩
   refine ⟨by show d ≤ g0.dp + 1 - 1; omega, ?_⟩
   show (if Nat.beq d (g0.dp + 1) then none else demRes rs s.g.bx d t).isSome = true
   rw [if_neg (by have := hsi.dp; simp; omega)]
   have : ∀ (as : List AV) (bx : Nat → Nat → Option Box), (demRes as bx d t).isSome = (bx d t).isSome := by
    intro as
    induction as with
    | nil => intro bx; rfl
    | cons x xs ih =>
     intro bx
     cases x with
     | own i sz es => simp only [demRes]; rw [ih, demBx_isSome]
     | _ => exact ih bx
   rw [this]
   exact hkg.2
  ·rintro l ⟨rr, q1, q2⟩
   exact ⟨rr, q1, by show rr.dp < g0.dp + 1 - 1 + 1; have := hsi.dp; omega⟩
 ·show g0.dp + 1 - 1 = g0.dp
  omega
 ·exact hsi.lps
end
end Go.Abs
namespace Go.Abs
open Go
set_option linter.unusedVariables false
set_option linter.unusedSimpArgs false
set_option linter.unnecessarySimpa false
set_option linter.unusedSectionVars false
variable [Tabs]
section
variable {P : Program} {g0 : G} {h0 : Gh} {w0 : World} {nt : Nat}
theorem deferIn_some {c : Code} {ops : Array Oper} {x : Operand} (h : deferIn c = some (ops, x)) :
  ∃ id o cl, c = .region id ops false ∧ ops[ops.size - 1]? = some o ∧ 0 < ops.size ∧ o.guard = none ∧ o.dst = none ∧ o.op = .defer cl ∧ cl.callee = .value x ∧ cl.args = #[] := by
 unfold deferIn at h
 split at h
 ·rename_i id ops' draw
  split at h
  ·cases h
  ·split at h
   ·rename_i o ho
    split at h
    ·rename_i cl hg hds hop
     split at h
     ·rename_i f hcl hargs
      simp only [Option.some.injEq, Prod.mk.injEq] at h
      obtain ⟨rfl, rfl⟩ := h
      have hb : ops'[ops'.size - 1]? = some o := by rw [Array.back?] at ho; exact ho
      refine ⟨id, o, cl, rfl, hb, ?_, hg, hds, hop, hcl, by simpa using hargs⟩
      have := (Array.getElem?_eq_some_iff.1 hb).1
      omega
     ·cases h
    ·cases h
   ·cases h
 ·cases h
theorem recOf_some {F : Func} {d : Nat} {ops : Array Oper} {b : Code} (h : recOf F = some (d, ops, b)) :
  ∃ id o cl, F.body = some (.seq (.region id ops false) b) ∧ ops[0]? = some o ∧ o.guard = none ∧ o.dst = some d ∧ o.op = .call cl ∧ cl.callee = .builtin .recover ∧ F.results = #[] := by
 unfold recOf at h
 split at h
 ·rename_i id ops' draw b' hb
  split at h
  ·rename_i o ho
   split at h
   ·rename_i d' cl hg hd hop
    split at h
    ·rename_i r hcl
     split at h
     ·rename_i hr
      simp only [Option.some.injEq, Prod.mk.injEq] at h
      obtain ⟨rfl, rfl, rfl⟩ := h
      exact ⟨id, o, cl, hb, ho, hg, hd, hop, hcl, by simpa using hr⟩
     ·cases h
    ·cases h
   ·cases h
  ·cases h
 ·cases h
theorem SI.flat {s : St} {a : Act} {w : World} {h : Gh} (hsi : SI nt g0 h0 w0 s a w h) (hf : h0.flat = true) : a.defers = h0.df := by
 obtain ⟨_, ms, h2, _, _, h5⟩ := hsi.nd
 rw [h2, h5 hf]; rfl
theorem SI.deeper {s : St} {a : Act} {w : World} {h : Gh} (hsi : SI nt g0 h0 w0 s a w h) {dv : Deferred} (hdv : ∀ D, dv.target ≠ .collected D) :
  SI nt s.g { h with df := [dv], flat := true } w (deeper s) { a with defers := [dv] } w { h with df := [dv], flat := true } := by
 refine ⟨⟨hsi.fi.size, ?_, (hsi.fi.gi.base [dv] true).deeper, ?_⟩, (Rel.deeper (hsi.fi.gi.base [dv] true)), rfl, rfl, ?_, ?_, ?_, ?_⟩
 ·intro t v hv
  obtain ⟨u, hu, rfl⟩ := mapTm_some hv
  obtain ⟨h1, h2⟩ := hsi.fi.tm t u hu
  refine ⟨RepA.base _ _ _ _ (RepA.demAll _ _ h1), ?_⟩
  refine AV.ok.mono (fun _ h => h) (fun d t hk => ⟨Nat.le_succ_of_le hk.1, hk.2⟩) (fun l hl => ?_) _ (AV.ok.demAll (Q' := TmQ (fun _ => false) (s.g.dp + 1)) u h2)
  obtain ⟨r, y1, y2⟩ := hl
  exact ⟨r, y1, Nat.lt_succ_of_lt y2⟩
 ·intro x hx D hD
  simp only [List.mem_singleton] at hx
  subst hx
  rw [hD] at hdv
  exact absurd rfl (hdv D)
 ·refine ⟨?_, [], rfl, List.nodup_nil, (fun x hx => by cases hx), fun _ => rfl⟩
  intro x hx D
  have hx : x ∈ [dv] := hx
  simp only [List.mem_singleton] at hx
  subst hx
  exact hdv D
 ·intro x hx D hD
  simp only [List.mem_singleton] at hx
  subst hx
  exact absurd hD (hdv D)
 ·intro r hr
  exact Nat.le_trans (hsi.lpdp r hr) (by rw [hsi.dp]; omega)
 ·refine ⟨fun d t hs => ?_, hsi.tb.may fun _ hh => hh⟩
  obtain ⟨bo, hbo⟩ := Option.isSome_iff_exists.1 hs
  exact (hsi.fi.gi.bx d t bo hbo).1
theorem execD_sound (hmix : P.follows .mixedOrders = true) {R : Type} [Same R] {cx : Cx R} (hT : TyOk P cx.T) (hnt : cx.nt = nt) (hC : CSound P cx.C) (hE : ESound P cx.E) (hfl0 : h0.flat = true) (hfl : cx.hint.flat = true) (hdf : h0.df = []) {r : R}
  {Q : Exit → Act → World → Prop} {k : Ex → St → Option R} {kd : AV → Ex → St → Option R} (hk : ExOk k r nt g0 h0 w0 Q)
  (hkd : ∀ (f : AV) (s' : St) (a' : Act) (w' : World) (h' : Gh) (dv : Deferred) (fn : Fn) (cv : Array Value), SI nt g0 h0 w0 s' a' w' h' → dv = { target := .fn fn cv, args := #[] } → RepA w' h' f (.func fn #[] cv) → f.ok (TmQ s'.fr s'.g.dp) (KG s'.g s'.g.dp) (YG s'.g s'.g.dp) →
   ExOk (kd f) r nt s'.g { h' with df := [dv], flat := true } w' Q) :
  ∀ (c : Code) {s : St}, execD cx c s k kd = some r → codeOk cx.hint c = true → ∀ {a : Act} {w : World} {h : Gh}, SI nt g0 h0 w0 s a w h → c.wpIn Fence.wide 0 P Q a w := by
 intro c
 induction c with
 | seq x y ihx ihy =>
  intro s hs hc a w h hsi
  have hc0 := hc
  simp only [codeOk, Bool.and_eq_true] at hc
  unfold execD at hs
  split at hs
  ·rename_i ops op hdi
   obtain ⟨id, o, cl, rfl, ho, hpos, hg, hds, hop, hcl, hargs⟩ := deferIn_some hdi
   refine wpIn_seq (wpIn_region ?_)
   have hlist : List.range ops.size = List.range' 0 (ops.size - 1) ++ [ops.size - 1] := by
    have : ops.size = (ops.size - 1) + 1 := by omega
    rw [this, List.range_succ, List.range_eq_range']
    simp
   rw [hlist]
   refine runOps_part hT hnt hC hE (.inl rfl) (eff := fun _ => true) ?_ (ops.size - 1) 0 (ops.toList.take (ops.size - 1)) (by simp) (by simp) hs hsi
   constructor
   ·intro s' a' w' h' hsi' hk'
    simp only at hk'
    cases hx : ev s'.tm op with
    | none => simp [hx] at hk'
    | some f =>
     simp only [hx] at hk'
     cases hcq : cloQ f with
     | false => simp [hcq] at hk'
     | true =>
     simp only [hcq] at hk'
     have hrep := ev_rep (Tms.of hsi'.fi) hx
     have hok := ev_ok (fun t v hv => (hsi'.fi.tm t v hv).2) hx
     simp only [wpOpsIn, ho]
     rw [if_pos (by simp [Region.wanted, hg])]
     refine ⟨fun f _ => trivial, ?_⟩
     have hfn : ∃ fn cv, a'.eval op = .func fn #[] cv ∧ RepA w' h' f (.func fn #[] cv) := by
      cases f with
      | fn fn caps =>
       have hrep0 := hrep
       simp only [RepA] at hrep
       obtain ⟨cv, he, _⟩ := hrep
       exact ⟨fn, cv, he, by rw [← he]; exact hrep0⟩
      | d x =>
       cases x with
       | fn fn caps =>
        have hrep0 := hrep
        simp only [RepA, RepV] at hrep
        obtain ⟨cv, he, _⟩ := hrep
        exact ⟨fn, cv, he, by rw [← he]; exact hrep0⟩
       | _ => cases hcq
      | _ => cases hcq
     obtain ⟨fn, cv, he, hrep'⟩ := hfn
     have hrun : (Oper.semAt Fence.wide.round a'.eval o).run P w' = .ok (.defer { target := .fn fn cv, args := #[] }) w' := by
      show (Oper.semAt none a'.eval o).run P w' = _
      rw [Oper.semAt_none]
      simp [execOp, hop, resolve, hcl, hargs, he, Deferred.ofValue]
     rw [hrun, Oper.uponIn_defer]
     have hd0 : a'.defers = [] := by rw [hsi'.flat hfl0, hdf]
     rw [hd0, hds]
     simp only [wpOpsIn, Exit.then, Act.put]
     exact exec_sound hmix hT hnt hC hE (.inl rfl) (fun _ => hfl) y hk' hc.2 (hsi'.deeper (dv := { target := .fn fn cv, args := #[] }) (fun D e => by cases e)) (hkd f s' a' w' h' _ fn cv hsi' rfl hrep' hok)
   ·intro x s' a' w' h' v hsi' hv hk'
    cases hk'
  ·refine wpIn_seq (exec_sound hmix hT hnt hC hE (.inl rfl) (fun _ => hfl) x hs hc.1 hsi ?_)
   intro ex s' a' w' h' hsi' hk'
   cases ex with
   | normal => exact ihy hk' hc.2 hsi'
   | exit id => exact hk (.exit id) s' a' w' h' hsi' hk'
   | goto l => exact hk (.goto l) s' a' w' h' hsi' hk'
   | ret => exact hk .ret s' a' w' h' hsi' hk'
   | panic x => exact hk (.panic x) s' a' w' h' hsi' hk'
 | _ =>
  intro s hs hc a w h hsi
  unfold execD at hs
  exact exec_sound hmix hT hnt hC hE (.inl rfl) (fun _ => hfl) _ hs hc hsi hk
theorem stepsS_sound {R : Type} {cx : Cx R} (hT : TyOk P cx.T) (hnt : cx.nt = nt) {ops : Array Oper} {Q : Exit → Act → List Frame → World → Prop} {cs : List Frame} {k : St → Option R} {r : R}
  (hk : ∀ s' a' w' h', SI nt g0 h0 w0 s' a' w' h' → k s' = some r → Q .normal a' cs w') :
  ∀ (n : Nat) (i : Nat) (l : List Oper), l = ops.toList.drop i → n = l.length → ∀ {s : St}, stepsS cx ops l s k = some r → ∀ {a : Act} {w : World} {h : Gh}, SI nt g0 h0 w0 s a w h → wpOpsSIn Fence.wide 0 P ops Q (List.range' i n) a cs w := by
 intro n
 induction n with
 | zero =>
  intro i l hl hn s hs a w h hsi
  cases l with
  | cons _ _ => simp at hn
  | nil => exact hk _ _ _ _ hsi hs
 | succ n ih =>
  intro i l hl hn s hs a w h hsi
  cases l with
  | nil => simp at hn
  | cons o rest =>
   have ho : ops[i]? = some o := by
    have : (ops.toList.drop i)[0]? = some o := by rw [← hl]; rfl
    simpa using this
   have hrest : rest = ops.toList.drop (i + 1) := by
    have : (ops.toList.drop i).tail = rest := by rw [← hl]; rfl
    rw [← this, List.tail_drop]
   simp only [List.range', wpOpsSIn, ho]
   simp only [stepsS] at hs
   split at hs
   ·rename_i hg hgo
    split at hs
    ·rename_i s' hst
     obtain ⟨nx, w', a', h', hrun, hdid, f', r'⟩ := stepOp_sound (P := P) hT hsi.fi hsi.rel hsi.hdp (by rw [← hnt]; exact hst)
     obtain ⟨g1, g2⟩ := stepOp_g hst
     refine ⟨fun f _ => trivial, ?_⟩
     rw [if_pos (by simp [Region.wanted, hg]), hrun]
     have hdf : a'.defers = a.defers := by
      rcases hdid with ⟨u, _, rfl⟩ | ⟨_, rfl⟩ <;> exact put_defers _ _ _
     have hsi' : SI nt g0 h0 w0 s' a' w' h' := ⟨f', r', by rw [g1]; exact hsi.dp, by rw [g2]; exact hsi.lps, by rw [hdf]; exact hsi.nd, by rw [hdf]; exact hsi.dnew, hsi.lpd, hsi.bxd⟩
     have := ih (i + 1) rest hrest (by simpa using hn) hs hsi'
     rcases hdid with ⟨u, rfl, rfl⟩ | ⟨rfl, rfl⟩
     ·exact this
     ·exact this
    ·cases hs
   ·cases hs
def Recs (w : World) (L : Nat → Nat) (u : FrameMode) (rv : D) : Prop :=
 (u = .returning ∧ rv = .nili) ∨ ∃ v, u = .panicking [{ v, recovered := false }] ∧ RepV w L rv v
theorem rec_sound (hmix : P.follows .mixedOrders = true) {R : Type} [Same R] {cx : Cx R} (hT : TyOk P cx.T) (hC : CSound P cx.C) (hE : ESound P cx.E) (hfl : cx.hint.flat = true) {f : FuncId} {F : Func} (hPf : P.funcs[f]? = some F) (hcx : cx.nt = F.ntmps)
  {d : Nat} {ops : Array Oper} {b : Code} (hrec : recOf F = some (d, ops, b)) (hok : ∀ code, F.body = some code → codeOk cx.hint code = true) {g : G} {w : World} {h : Gh} (hdf : h.df = []) (hfl0 : h.flat = true) (hg : GI g w h) (htb : Tb g h w)
  {caps : List AV} {vs : List Value} (hr : RepAs w h caps vs) (ho : AV.oks NoId (KG g g.dp) (YG g (g.dp + 1)) caps) (hlen : caps.length ≤ F.ntmps) {u : FrameMode} {rv : D} (hrv : Recs w h.L u rv) {k : Ex → St → Option R} {r : R}
  (hs : runRec cx d ops b rv { tm := argTm caps, fr := fun _ => false, g := { g with dp := g.dp + 1 } } k = some r) {Rr : Ending → FrameMode → World → Prop}
  (hk : ∀ ex s' a' w' h' u', SI F.ntmps g h w s' a' w' h' → k ex s' = some r → settle u' = .returning → (ex = .normal ∨ ex = .ret) ∧ Rr (.returned (.tuple #[])) u' w' ∨ (ex ≠ .normal ∧ ex ≠ .ret) ∧ False) :
  CallsDIn Fence.wide 0 P f vs.toArray u w Rr := by
 obtain ⟨id, o, cl, hb, ho0, hg0, hd0, hop, hcl, hres⟩ := recOf_some hrec
 have hcode := hok _ hb
 simp only [codeOk, Bool.and_eq_true] at hcode
 refine callsDIn_of_wpSIn hPf hb trivial ?_
 intro c₀ cs hu
 unfold runRec at hs
 split at hs
 case isFalse => cases hs
 rename_i hlt
 have hsi := SI.enter hdf hg hr ho hlen htb
 refine wpSIn_seq (wpSIn_region ?_)
 have hpos : 0 < ops.size := (Array.getElem?_eq_some_iff.1 ho0).1
 have hlist : List.range ops.size = 0 :: List.range' 1 (ops.size - 1) := by
  have : ops.size = (ops.size - 1) + 1 := by omega
  rw [List.range_eq_range', this, List.range'_succ]
  simp
 rw [hlist]
 simp only [wpOpsSIn, ho0]
 refine ⟨fun f _ => trivial, ?_⟩
 rw [if_pos (by simp [Region.wanted, hg0])]
 have hrun : ∀ (ρ : Operand → Value), (execOp ρ o).run P w = .ok .recover w := by
  intro ρ
  simp [execOp, hop, resolve, hcl, invoke, builtin]
 rw [hrun]
 have rest : ∀ (cs1 : List Frame) (v : Value) (u' : FrameMode), RepV w h.L rv v → cs1 = { c₀ with mode := u' } :: cs → settle u' = .returning →
   wpOpsSIn Fence.wide 0 P ops (Exit.thenS (b.wpSIn Fence.wide 0 P (bodyPostS P F c₀ cs Rr)) (bodyPostS P F c₀ cs Rr)) (List.range' 1 (ops.size - 1)) (Act.put { tmps := vs.toArray ++ Array.replicate (F.ntmps - vs.toArray.size) undef, defers := [] } o.dst v) cs1 w := by
  intro cs1 v u' hv hcs1 hset
  have hf1 := hsi.fi.put (d := d) (by rw [← hcx]; simpa using hlt) (v := .d rv) (u := v) (by simpa only [RepA] using hv) (by simp [AV.ok])
  have hsi1 : SI F.ntmps g h w { tm := upd (argTm caps) d (some (.d rv)), fr := fun _ => false, g := { g with dp := g.dp + 1 } } (Act.put { tmps := vs.toArray ++ Array.replicate (F.ntmps - vs.toArray.size) undef, defers := [] } o.dst v) w h := by
   rw [hd0]
   exact ⟨hf1, hsi.rel, hsi.dp, hsi.lps, hsi.nd, hsi.dnew, hsi.lpd, hsi.bxd⟩
  refine stepsS_sound (P := P) hT hcx ?_ (ops.size - 1) 1 (ops.toList.drop 1) rfl (by simp) hs hsi1
  intro s' a' w' h' hsi' hk'
  show b.wpSIn Fence.wide 0 P (bodyPostS P F c₀ cs Rr) a' cs1 w'
  refine wpSIn_of_wpIn rfl ?_
  refine exec_sound hmix hT hcx hC hE (.inl rfl) (fun _ => hfl) b hk' hcode.2 hsi' ?_
  intro ex s2 a2 w2 h2 hsi2 hk2
  have hdef : a2.defers = [] := by rw [hsi2.flat hfl0, hdf]
  have hresult : (results F a2.tmps).run P w2 = .ok (.tuple #[]) w2 := by
   unfold results
   rw [hres]
   simp
  rcases hk ex s2 a2 w2 h2 u' hsi2 hk2 hset with ⟨hex, hR⟩ | ⟨_, hf⟩
  ·rcases hex with rfl | rfl
   ·exact ⟨hdef, u', hcs1, .tuple #[], hresult, hR⟩
   ·exact ⟨hdef, u', hcs1, .tuple #[], hresult, hR⟩
  ·exact hf.elim
 rcases hrv with ⟨rfl, rfl⟩ | ⟨v, rfl, hv⟩
 ·have hnone : recoverD (c₀ :: cs) = none := by simp [recoverD, hu]
  simp only [hnone]
  exact rest (c₀ :: cs) .nilIface .returning (by simp [RepV]) (by rw [← hu]) rfl
 ·have hsome : recoverD (c₀ :: cs) = some (v, { c₀ with mode := .panicking [{ v, recovered := true }] } :: cs) := by simp [recoverD, hu]
  simp only [hsome]
  exact rest _ v _ hv rfl rfl
theorem keepLow_some {n : Nat} {a v : AV} (h : keepLow n a = some v) : v = a ∧ ((∃ x, a = .d x) ∨ ∃ d t o, a = .ptr d t o ∧ d ≤ n) := by
 unfold keepLow at h
 split at h
 ·simp only [Option.some.injEq] at h; subst h; exact ⟨rfl, .inl ⟨_, rfl⟩⟩
 ·rename_i d t o
  split at h
  ·rename_i hle
   simp only [Option.some.injEq] at h; subst h
   exact ⟨rfl, .inr ⟨d, t, o, rfl, by simpa using hle⟩⟩
  ·cases h
 ·cases h
theorem lowTm_some {n : Nat} {tm : Nat → Option AV} {t : Nat} {v : AV} (h : lowTm n tm t = some v) : tm t = some v ∧ ((∃ x, v = .d x) ∨ ∃ d u o, v = .ptr d u o ∧ d ≤ n) := by
 unfold lowTm at h
 cases ht : tm t with
 | none => simp [ht] at h
 | some a =>
  simp only [ht] at h
  obtain ⟨rfl, h2⟩ := keepLow_some h
  exact ⟨rfl, h2⟩
theorem SI.after {n3 : Nat} {g : G} {w w' w'' w3 : World} {s' s'' s3 : St} {a' a'' a3 : Act} {h' h'' h3 : Gh} {df : List Deferred} {fl : Bool} (hdf : h0.df = [])
  (hsi' : SI nt g h0 w s' a' w' h') (hsi'' : SI nt s'.g { h' with df := df, flat := fl } w' s'' a'' w'' h'') {df3 : List Deferred} {fl3 : Bool}
  (hsi3 : SI n3 (popG s''.g (s'.g.dp + 1)) { h'' with ga := gaClear h''.ga (s'.g.dp + 1), df := df3, flat := fl3 } w'' s3 a3 w3 h3) :
  SI nt g h0 w { tm := lowTm s'.g.dp s''.tm, fr := fun _ => false, g := popG s3.g (s'.g.dp + 1) } { tmps := a''.tmps, defers := [] } w3 { h3 with ga := gaClear h3.ga (s'.g.dp + 1) } := by
 obtain ⟨G2, R2⟩ := hsi''.gone
 obtain ⟨G3, R3⟩ := hsi3.gone
 have hdp3 : (popG s''.g (s'.g.dp + 1)).dp + 1 = s'.g.dp + 1 := rfl
 rw [hdp3] at G3 R3
 have R3' : Rel (popG s''.g (s'.g.dp + 1)) { h'' with ga := gaClear h''.ga (s'.g.dp + 1) } w'' (popG s3.g (s'.g.dp + 1)) w3 { h3 with ga := gaClear h3.ga (s'.g.dp + 1) } := R3.based
 have R2' := R2.based
 have h1 : g.dp ≤ s'.g.dp := by rw [hsi'.dp]; omega
 have R12 := hsi'.rel.call R2' h1
 have R13 : Rel g h0 w (popG s3.g (s'.g.dp + 1)) w3 { h3 with ga := gaClear h3.ga (s'.g.dp + 1) } := R12.call R3' h1
 refine ⟨⟨hsi''.fi.size, ?_, G3, fun x hx => by cases hx⟩, R13, ?_, ?_, by rw [hdf]; exact Marks.nil, fun x hx => (by cases hx), hsi'.lpd, hsi'.bxd⟩
 ·intro t v hv
  obtain ⟨ht, hlow⟩ := lowTm_some hv
  obtain ⟨q1, q2⟩ := hsi''.fi.tm t v ht
  rcases hlow with ⟨x, rfl⟩ | ⟨d, u, o, rfl, hle⟩
  ·refine ⟨?_, by simp [AV.ok]⟩
   simp only [RepA] at q1 ⊢
   exact q1.ext R3'.ext
  ·simp only [RepA, AV.ok] at q1 q2 ⊢
   obtain ⟨b, hb, he⟩ := q1
   have hs2 : ((popG s''.g (s'.g.dp + 1)).bx d u).isSome = true := by
    show (if Nat.beq d (s'.g.dp + 1) then none else s''.g.bx d u).isSome = true
    rw [if_neg (by simp; omega)]
    exact q2.2
   obtain ⟨b1, b2⟩ := R3'.bxs d u hs2
   exact ⟨⟨b, by rw [b2]; exact hb, he⟩, hle, b1⟩
 ·show s'.g.dp + 1 - 1 = _
  rw [hsi'.dp]; rfl
 ·show s3.g.lp.map LoopRec.dp = _
  rw [hsi3.lps]
  show s''.g.lp.map LoopRec.dp = _
  rw [hsi''.lps]
  exact hsi'.lps
theorem leave_dfr (hmix : P.follows .mixedOrders = true) {R : Type} [Same R] {cx : Cx R} (hT : TyOk P cx.T) (hC : CSound P cx.C) (hE : ESound P cx.E) (hfl : cx.hint.flat = true) {F F' : Func} {f' : FuncId} (hPf : P.funcs[f']? = some F') (hname : (F'.name == "runtime.NumGoroutine") = false) (hcx : cx.nt = F'.ntmps)
  {d : Nat} {ops : Array Oper} {b : Code} (hrec : recOf F' = some (d, ops, b)) (hok : ∀ code, F'.body = some code → codeOk cx.hint code = true) {g : G} {w w' w'' : World} {s' s'' : St} {a' a'' : Act} {h' h'' : Gh} (hdf : h0.df = []) {df : List Deferred} {fl : Bool}
  (hsi' : SI nt g h0 w s' a' w' h') (hsi'' : SI nt s'.g { h' with df := df, flat := fl } w' s'' a'' w'' h'') {caps : List AV} {cv : Array Value}
  (hr : RepAs w' h' caps cv.toList) (ho : AV.oks NoId (KG s'.g s'.g.dp) (YG s'.g (s'.g.dp + 1)) caps) (hlen : caps.length ≤ F'.ntmps) {u : FrameMode} {rv : D} (hrv : Recs w'' h''.L u rv) {done : St → Option R} {r : R}
  (hs : runRec cx d ops b rv { tm := argTm caps, fr := fun _ => false, g := { popG s''.g (s'.g.dp + 1) with dp := s'.g.dp + 1 } } (fun e s3 => match e with
   | .normal => done { tm := lowTm s'.g.dp s''.tm, fr := fun _ => false, g := popG s3.g (s'.g.dp + 1) }
   | .ret => done { tm := lowTm s'.g.dp s''.tm, fr := fun _ => false, g := popG s3.g (s'.g.dp + 1) }
   | _ => none) = some r) {Rr : Ending → World → Prop}
  (hdone : ∀ s4 a4 w4 h4, SI nt g h0 w s4 a4 w4 h4 → done s4 = some r → ∃ v, (results F a4.tmps).run P w4 = .ok v w4 ∧ Rr (.returned v) w4) :
  LeavesInM Fence.wide 0 P F a''.tmps Rr [{ target := .fn (.func f') cv, args := #[] }] u w'' := by
 have hu : u ≠ .run := by
  rcases hrv with ⟨rfl, _⟩ | ⟨v, rfl, _⟩ <;> (intro e; cases e)
 obtain ⟨id, o, cl, hb, _⟩ := recOf_some hrec
 have hfok : FOk P f' := ⟨F', _, hPf, hb, hname⟩
 obtain ⟨G2, R2⟩ := hsi''.gone
 have R2' := R2.based
 have hlenp : s''.g.lp.length = s'.g.lp.length := by
  have := congrArg List.length hsi''.lps
  simpa using this
 have hcr : RepAs w'' { h'' with ga := gaClear h''.ga (s'.g.dp + 1), df := [], flat := true } caps cv.toList := by
  refine RepAs.base (h := { h'' with ga := gaClear h''.ga (s'.g.dp + 1) }) [] true _ _ ?_
  refine RepAs.ext (h' := { h'' with ga := gaClear h''.ga (s'.g.dp + 1) }) (K := KG s'.g s'.g.dp) (Y := YG s'.g (s'.g.dp + 1)) (Q := NoId) R2'.ext ?_ ?_ (fun _ _ hh => hh.elim) caps _ ho hr
  ·intro d t b hk hb
   have := (R2'.bxs d t hk.2).2
   show h''.be d t = some b
   rw [← hb]; exact this
  ·intro l hl
   have := R2'.ro l hl.lt
   exact this
 have hco : AV.oks NoId (KG (popG s''.g (s'.g.dp + 1)) (popG s''.g (s'.g.dp + 1)).dp) (YG (popG s''.g (s'.g.dp + 1)) ((popG s''.g (s'.g.dp + 1)).dp + 1)) caps := by
  refine AV.oks.mono (fun _ h => h) ?_ ?_ _ ho
  ·intro d t hk
   exact ⟨hk.1, (R2'.bxs d t hk.2).1⟩
  ·intro l hl
   exact YG.lps (g := s'.g) (g' := popG s''.g (s'.g.dp + 1)) hsi''.lps hl
 refine ⟨hu, .inr ⟨(fun h => by cases h), .func f', cv, f', cv, rfl, ?_, fun _ _ => trivial, ?_⟩⟩
 ·have := hfok.run cv w''
  simp [invoke, this]
 ·have hcall := rec_sound hmix hT hC hE hfl hPf hcx hrec hok (g := popG s''.g (s'.g.dp + 1)) (h := { h'' with ga := gaClear h''.ga (s'.g.dp + 1), df := [], flat := true }) rfl rfl (G2.base [] true) ((hsi'.tb.rel R2').may fun _ hh => hh) hcr hco hlen (u := u) (rv := rv) hrv hs
   (Rr := fun e u' w3 => match e with
    | .returned _ => LeavesInM Fence.wide 0 P F a''.tmps Rr [] (settle u') w3
    | .panicked chain => LeavesInM Fence.wide 0 P F a''.tmps Rr [] (raised u' chain) w3
    | .outgrown => Rr .outgrown w3) ?_
  ·have he : cv.toList.toArray = cv := by apply Array.ext'; simp
   rw [he] at hcall
   refine hcall.mono ?_
   intro e u' w3 hh
   cases e <;> exact hh
  ·intro ex s3 a3 w3 h3 u' hsi3 hk3 hset
   have hfin : ∀ s4, s4 = ({ tm := lowTm s'.g.dp s''.tm, fr := fun _ => false, g := popG s3.g (s'.g.dp + 1) } : St) → done s4 = some r → LeavesInM Fence.wide 0 P F a''.tmps Rr [] (settle u') w3 := by
    rintro s4 rfl hd4
    rw [hset]
    exact hdone _ { tmps := a''.tmps, defers := [] } _ _ (SI.after hdf hsi' hsi'' hsi3) hd4
   cases ex with
   | normal => exact .inl ⟨.inl rfl, hfin _ rfl hk3⟩
   | ret => exact .inl ⟨.inr rfl, hfin _ rfl hk3⟩
   | exit _ => cases hk3
   | goto _ => cases hk3
   | panic _ => cases hk3
theorem recAV_sound {p : Pr} (hp : PrOk P p) {R : Type} [Same R] {cxOf : FuncId → Func → Cx R} (c1 : ∀ f F, (cxOf f F).T = p.T) (c2 : ∀ f F, CSound P (cxOf f F).C) (c3 : ∀ f F, ESound P (cxOf f F).E) (c4 : ∀ f F, (cxOf f F).hint = p.H f) (c5 : ∀ f F, (cxOf f F).nt = F.ntmps)
  {F : Func} {g : G} {w w' w'' : World} {s' s'' : St} {a' a'' : Act} {h' h'' : Gh} (hdf : h0.df = []) {fn : Fn} {cv : Array Value}
  (hsi' : SI nt g h0 w s' a' w' h') (hsi'' : SI nt s'.g { h' with df := [{ target := .fn fn cv, args := #[] }], flat := true } w' s'' a'' w'' h'') {fA : AV}
  (hrep : RepA w' h' fA (.func fn #[] cv)) (hok : fA.ok (TmQ s'.fr s'.g.dp) (KG s'.g s'.g.dp) (YG s'.g s'.g.dp)) {u : FrameMode} {rv : D} (hrv : Recs w'' h''.L u rv) {done : St → Option R} {r : R}
  (hs : recAV p cxOf s'.g.dp fA rv s''.g (afterRec s'.g.dp s''.tm done) = some r) {Rr : Ending → World → Prop}
  (hdone : ∀ s4 a4 w4 h4, SI nt g h0 w s4 a4 w4 h4 → done s4 = some r → ∃ v, (results F a4.tmps).run P w4 = .ok v w4 ∧ Rr (.returned v) w4) :
  LeavesInM Fence.wide 0 P F a''.tmps Rr a''.defers u w'' := by
 have hdef : a''.defers = [{ target := .fn fn cv, args := #[] }] := hsi''.flat rfl
 rw [hdef]
 have clo : ∀ (f' : FuncId) (caps : List AV), fn = .func f' → RepAs w' h' caps cv.toList → AV.oks NoId (KG s'.g s'.g.dp) (YG s'.g (s'.g.dp + 1)) caps →
   recCall p cxOf s'.g.dp f' caps rv s''.g (afterRec s'.g.dp s''.tm done) = some r → LeavesInM Fence.wide 0 P F a''.tmps Rr [{ target := .fn fn cv, args := #[] }] u w'' := by
  rintro f' caps rfl hcr hco hq
  unfold recCall at hq
  cases hF' : p.F f' with
  | none => simp [hF'] at hq
  | some F' =>
   simp only [hF'] at hq
   cases hrc : recOf F' with
   | none => simp [hrc] at hq
   | some dob =>
    obtain ⟨d, ops, b⟩ := dob
    simp only [hrc] at hq
    cases hc2 : (Nat.ble caps.length F'.ntmps && (p.H f').flat) with
    | false => simp [hc2] at hq
    | true =>
     simp only [hc2] at hq
     simp only [Bool.and_eq_true] at hc2
     obtain ⟨hPf', hname'⟩ := hp.F f' F' hF'
     refine leave_dfr (cx := cxOf f' F') hp.mix (by rw [c1]; exact hp.T) (c2 f' F') (c3 f' F') (by rw [c4]; exact hc2.2) hPf' hname' (c5 f' F') hrc (fun code hb' => by rw [c4]; exact hp.H f' F' code hF' hb') hdf hsi' hsi'' hcr hco (by simpa using hc2.1) hrv (done := done) ?_ hdone
     exact hq
 unfold recAV at hs
 split at hs
 ·rename_i f' caps
  simp only [RepA, AV.ok] at hrep hok
  obtain ⟨cv', he, hcr⟩ := hrep
  cases he
  exact clo f' caps rfl hcr (AV.oks.mono (fun _ h => h.elim) (fun _ _ h => h) (fun l hl => by obtain ⟨r, y1, y2⟩ := hl; exact ⟨r, y1, by omega⟩) _ hok) hs
 ·rename_i f' ds
  simp only [RepA, RepV] at hrep
  obtain ⟨cv', he, hcr⟩ := hrep
  cases he
  exact clo f' (ds.map .d) rfl (RepAs.of_d hcr) (oks_d _) hs
 ·cases hs
end
end Go.Abs
namespace Go.Abs
open Go
set_option linter.unusedVariables false
set_option linter.unusedSimpArgs false
set_option linter.unnecessarySimpa false
set_option linter.unusedSectionVars false
variable [Tabs]
section
variable {P : Program} {g0 : G} {h0 : Gh} {w0 : World} {nt : Nat}
theorem setPend_get {g : G} {l : Nat} {e : Option Ex} {j : Nat} {rec : LoopRec} (h : (setPend l e g).lp[j]? = some rec) : ∃ r, g.lp[j]? = some r ∧ ((j ≠ l ∧ rec = r) ∨ (j = l ∧ rec = { r with pend := e })) := by
 have h' : (g.lp.modify l fun r => { r with pend := e })[j]? = some rec := h
 rw [List.getElem?_modify] at h'
 cases hg : g.lp[j]? with
 | none => rw [hg] at h'; cases h'
 | some r =>
  rw [hg] at h'
  simp only [Option.map_eq_map, Option.map_some] at h'
  refine ⟨r, rfl, ?_⟩
  by_cases hj : l = j
  ·rw [if_pos hj] at h'; cases h'; exact .inr ⟨hj.symm, rfl⟩
  ·rw [if_neg hj] at h'; cases h'; exact .inl ⟨fun e => hj e.symm, rfl⟩
theorem setPend_dps (g : G) (l : Nat) (e : Option Ex) : (setPend l e g).lp.map LoopRec.dp = g.lp.map LoopRec.dp := by
 apply List.ext_getElem?
 intro i
 simp only [List.getElem?_map, setPend, List.getElem?_modify]
 cases g.lp[i]? with
 | none => rfl
 | some r => simp only [Option.map_some]; split <;> rfl
theorem GI.setPend {g : G} {w : World} {h : Gh} (hg : GI g w h) {l : Nat} {r : LoopRec} {q : Array Value × FuncId} {D : Nat} (hl : g.lp[l]? = some r) (hL : w.heap[(h.ro l).1]? = some (.loop (loopObj r q D))) {e : Option Ex}
  (he : ∀ e', e = some e' → e' = .normal ∨ (exCode e').isSome = true) : GI (setPend l e g) (w.putObj (h.ro l).1 (.loop (loopObj { r with pend := e } q D))) h := by
 have hY : ∀ d j, YG g d j → YG (Abs.setPend l e g) d j := fun d j hy => YG.lps (setPend_dps g l e) hy
 refine hg.putLoop hL rfl rfl (fun d j _ hy => hY d j hy) (by simp [Abs.setPend]) ?_
 intro j rec hj
 obtain ⟨r1, h1, h2⟩ := setPend_get hj
 rcases h2 with ⟨hne, rfl⟩ | ⟨rfl, rfl⟩
 ·refine .inl ⟨h1, ?_, fun n hn => hY _ n hn⟩
  intro heq
  exact hne (hg.roInj j l (List.getElem?_eq_some_iff.1 h1).1 (List.getElem?_eq_some_iff.1 hl).1 heq)
 ·rw [hl] at h1; cases h1
  right
  obtain ⟨hp, D', q', h3, h4, h5, h6⟩ := hg.lp j r hl
  rw [hL] at h3
  have hq : q' = q ∧ D' = D := by
   have := h3
   simp only [Option.some.injEq, Obj.loop.injEq, loopObj, Loop.mk.injEq] at this
   exact ⟨Prod.ext this.2.2.2.1.symm this.2.2.1.symm, this.2.2.2.2.2.2.2.symm⟩
  obtain ⟨rfl, rfl⟩ := hq
  refine ⟨⟨he, hp.2⟩, D', q', putObj_same hL, ?_, h5, fun t v hv => ?_⟩
  ·rw [putObj_other (by rintro e; rw [e, hL] at h4; cases h4), h4]
  ·obtain ⟨p1, p2⟩ := h6 t v hv
   refine ⟨RepA.world (ext_putObj hL h.L) (fun i b hi => ?_) _ _ p1, AV.ok.mono (fun _ h => h) (fun _ _ h => h) (fun n hn => hY _ n hn) _ p2⟩
   obtain ⟨c, e, hc⟩ := hg.gaC i b hi
   rw [putObj_other (by rintro e; rw [e, hL] at hc; cases hc)]
theorem SI.setPend {s : St} {a : Act} {w : World} {h : Gh} (hsi : SI nt g0 h0 w0 s a w h) {l : Nat} {r : LoopRec} {q : Array Value × FuncId} {D : Nat} (hl : s.g.lp[l]? = some r) (hl0 : l < g0.lp.length) (hL : w.heap[(h.ro l).1]? = some (.loop (loopObj r q D))) {e : Option Ex}
  (he : ∀ e', e = some e' → e' = .normal ∨ (exCode e').isSome = true) : SI nt g0 h0 w0 { tm := s.tm, fr := s.fr, g := setPend l e s.g } a (w.putObj (h.ro l).1 (.loop (loopObj { r with pend := e } q D))) h := by
 have hlen : s.g.lp.length = g0.lp.length := by
  have := congrArg List.length hsi.lps
  simpa using this
 have hga : ∀ i b, h.ga i = some b → (w.putObj (h.ro l).1 (.loop (loopObj { r with pend := e } q D))).heap[b]? = w.heap[b]? := fun i b hi => by
  obtain ⟨c, e, hc⟩ := hsi.fi.gi.gaC i b hi
  rw [putObj_other (by rintro e; rw [e, hL] at hc; cases hc)]
 refine ⟨⟨hsi.fi.size, fun t v hv => ?_, hsi.fi.gi.setPend hl hL he, fun x hx => ?_⟩, ?_, hsi.dp, ?_, hsi.nd, hsi.dnew, hsi.lpd, hsi.bxd⟩
 ·obtain ⟨h1, h2⟩ := hsi.fi.tm t v hv
  exact ⟨RepA.world (ext_putObj hL h.L) hga _ _ h1, AV.ok.mono (fun _ h => h) (fun _ _ h => h) (fun n hn => YG.lps (setPend_dps s.g l e) hn) _ h2⟩
 ·intro X x1
  have x2 := hsi.fi.dfr x hx X x1
  rw [putObj_other (by rintro e; rw [e, hL] at x2; cases x2), x2]
 ·exact hsi.rel.putLoop hL (hsi.rel.lpMay l (by omega)) rfl (by simp [Abs.setPend]) (by simp [Abs.setPend]; omega)
 ·rw [setPend_dps]; exact hsi.lps
theorem fold_set (t : Nat) : ∀ (ps : List Nat) (vs : List Value) (T0 : Array Value), ps.any (Nat.beq t ·) = false → ((ps.zip vs).foldl (fun T (p : Nat × Value) => T.setIfInBounds p.1 p.2) T0)[t]? = T0[t]?
 | [], vs, T0, _ => by simp
 | p :: ps, [], T0, _ => by simp
 | p :: ps, v :: vs, T0, hp => by
  simp only [List.any_cons, Bool.or_eq_false_iff] at hp
  simp only [List.zip_cons_cons, List.foldl_cons]
  rw [fold_set t ps vs _ hp.2, Array.getElem?_setIfInBounds_ne]
  intro e; rw [e] at hp; simp at hp
theorem fold_size : ∀ (ps : List Nat) (vs : List Value) (T0 : Array Value), ((ps.zip vs).foldl (fun T (p : Nat × Value) => T.setIfInBounds p.1 p.2) T0).size = T0.size
 | [], vs, T0 => by simp
 | p :: ps, [], T0 => by simp
 | p :: ps, v :: vs, T0 => by
  simp only [List.zip_cons_cons, List.foldl_cons]
  rw [fold_size ps vs]; simp
theorem fold_look {w : World} {h : Gh} {n : Nat} : ∀ (ps : List Nat) (ds : List D) (vs : List Value) (T0 : Array Value) (tm : Nat → Option AV), distinct ps = true → ps.all (Nat.blt · n) = true → T0.size = n → ds.length = ps.length → RepVs w h.L ds vs →
  (∀ t v, tm t = some v → RepA w h v (T0.getD t undef)) → ∀ t v, (match look (ps.zip (ds.map fun x => some (AV.d x))) t with
   | some a => some a
   | none => tm t) = some v → RepA w h v (((ps.zip vs).foldl (fun T (p : Nat × Value) => T.setIfInBounds p.1 p.2) T0).getD t undef)
 | [], ds, vs, T0, tm, _, _, _, _, _, htm, t, v, hv => by
  simp [look] at hv
  simpa using htm t v hv
 | p :: ps, [], vs, T0, tm, _, _, _, hl, _, _, t, v, hv => by simp at hl
 | p :: ps, d :: ds, vs, T0, tm, hd, hb, hs, hl, hr, htm, t, v, hv => by
  simp only [RepVs] at hr
  obtain ⟨u, us, rfl, h1, h2⟩ := hr
  simp only [distinct, Bool.and_eq_true, Bool.not_eq_true'] at hd
  simp only [List.all_cons, Bool.and_eq_true] at hb
  have hlt : p < T0.size := by rw [hs]; simpa using hb.1
  simp only [List.zip_cons_cons, List.map_cons, List.foldl_cons, look] at hv ⊢
  by_cases ht : t = p
  ·subst ht
   rw [if_pos (by simp)] at hv
   simp only [Option.some.injEq] at hv
   subst hv
   rw [Array.getD_eq_getD_getElem?, fold_set t ps us _ hd.1]
   simp only [Array.getElem?_setIfInBounds_self_of_lt hlt, Option.getD_some, RepA]
   exact h1
  ·rw [if_neg (by simpa using ht)] at hv
   refine fold_look ps ds us (T0.setIfInBounds p u) (fun t => if t = p then none else tm t) hd.2 hb.2 (by simpa using hs) (by simpa using hl) h2 ?_ t v ?_
   ·intro t' v' hv'
    split at hv'
    ·cases hv'
    ·rename_i hne
     have := htm t' v' hv'
     rw [Array.getD_eq_getD_getElem?] at this ⊢
     rw [Array.getElem?_setIfInBounds_ne (Ne.symm hne)]
     exact this
   ·rw [if_neg ht]; exact hv
theorem look_d {ps : List Nat} {ds : List D} {t : Nat} {a : AV} (h : look (ps.zip (ds.map fun x => some (AV.d x))) t = some a) : ∃ x, a = .d x := by
 induction ps generalizing ds with
 | nil => simp [look] at h
 | cons p ps ih =>
  cases ds with
  | nil => simp [look] at h
  | cons d ds =>
   simp only [List.map_cons, List.zip_cons_cons, look] at h
   split at h
   ·simp at h; exact ⟨d, h.symm⟩
   ·exact ih h
theorem yield_sound {p : Pr} (hp : PrOk P p) {R : Type} [Same R] {cx : Cx R} (hT : TyOk P cx.T) (hC : CSound P cx.C) (hE : ESound P cx.E) {g : G} {w : World} {h : Gh} (hdf : h.df = []) (hflat : h.flat = false) (hg : GI g w h) (htb : Tb g h w) {l : Nat} {r : LoopRec} (hl : g.lp[l]? = some r) (hcn : cx.nt = r.nt) (hch : cx.hint = r.hint) {args : List AV} {vs : List Value} (hr : RepAs w h args vs)
    {ds : List D} (hds : AV.datas args = some ds) (hlen : ds.length = r.params.length) (hdist : distinct r.params = true) (hlt : r.params.all (Nat.blt · r.nt) = true) {k : Out → G → Option R} {res : R}
    (hs : exec cx r.assign { tm := fun t => match look (r.params.zip (ds.map fun x => some (AV.d x))) t with
              | some a => some a
              | none => r.tm t, fr := fun _ => false, g := { g with dp := g.dp + 1 } } (fun e s => match e with
                | .normal => match s.g.lp[l]? with
                  | some r1 => match r1.pend with
                    | none => exec cx r.body { tm := s.tm, fr := s.fr, g := setPend l (some .normal) s.g } fun e s => match e with
                      | .normal => k (.ret [.d (.bool true)]) (setPend l none (popG s.g (g.dp + 1)))
                      | .panic _ => none
                      | e => k (.ret [.d (.bool false)]) (setPend l (some e) (popG s.g (g.dp + 1)))
                    | some _ => none
                  | none => none
                | _ => none) = some res) :
    ∃ f tmps assign body, (Instr.yield (h.ro l).1 vs.toArray).run P w = .ok (.round (h.ro l).1 f tmps assign body) w ∧
        RoundIn Fence.wide 0 P (h.ro l).1 f tmps assign body w (CallQ k res g h w) := by
  obtain ⟨hpc, D, q, q1, q2, q3, q4⟩ := hg.lp l r hl
  have hll : l < g.lp.length := (List.getElem?_eq_some_iff.1 hl).1
  have hvl : vs.length = ds.length := by
    have := RepAs.datas _ _ _ hds hr
    exact this.length
  have hy := run_yield (P := P) (args := vs.toArray) q1 (by simp [loopObj]; omega)
  refine ⟨_, _, _, _, hy, ?_⟩
  have htm0 : ((loopObj r q D).params.zip vs.toArray).foldl (fun tmps (x : Tmp × Value) => tmps.setIfInBounds x.1 x.2) (loopObj r q D).tmps = (r.params.zip vs).foldl (fun T (p : Nat × Value) => T.setIfInBounds p.1 p.2) q.1 := by
    rw [← Array.foldl_toList]
    simp [loopObj]
  have hF : FR (Fence.wide.inRound (h.ro l).1) g h := .inr ⟨l, hll, rfl⟩
  refine roundIn_of_wpIn trivial ?_
  have hsi : SI r.nt g h w { tm := fun t => match look (r.params.zip (ds.map fun x => some (AV.d x))) t with
              | some a => some a
              | none => r.tm t, fr := fun _ => false, g := { g with dp := g.dp + 1 } }
      { tmps := ((loopObj r q D).params.zip vs.toArray).foldl (fun tmps (x : Tmp × Value) => tmps.setIfInBounds x.1 x.2) (loopObj r q D).tmps, defers := [] } w h := by
    rw [htm0]
    refine ⟨⟨?_, ?_, hg.deeper, fun x hx => by cases hx⟩, Rel.deeper hg, rfl, rfl, by rw [hdf]; exact Marks.nil, fun x hx => by (cases hx), ?_, ?_⟩
    · rw [fold_size]; exact q3.1
    · intro t v hv
      refine ⟨fold_look r.params ds vs q.1 r.tm hdist hlt q3.1 hlen (RepAs.datas _ _ _ hds hr) (fun t v hv => (q4 t v hv).1) t v hv, ?_⟩
      simp only at hv
      split at hv
      · rename_i a ha
        cases hv
        obtain ⟨x, rfl⟩ := look_d ha
        simp [AV.ok]
      · have := (q4 t v hv).2
        exact AV.ok.mono (fun _ h => h.elim) (fun d t hk => ⟨Nat.le_succ_of_le (Nat.le_trans hk.1 hpc.2.1), hk.2⟩) (fun n hn => by
          obtain ⟨r', y1, y2⟩ := hn
          exact ⟨r', y1, Nat.lt_succ_of_le (Nat.le_of_lt (Nat.lt_of_lt_of_le y2 hpc.2.1))⟩) _ this
    · intro r' hr'
      obtain ⟨j, hj⟩ := List.getElem?_of_mem hr'
      exact (hg.lp j r' hj).1.2.1
    · refine ⟨fun d t hs => ?_, htb⟩
      obtain ⟨bo, hbo⟩ := Option.isSome_iff_exists.1 hs
      exact (hg.bx d t bo hbo).1
  refine exec_sound hp.mix hT hcn hC hE hF (fun e => by rw [hflat] at e; cases e) r.assign hs (by rw [hch]; exact hpc.2.2.1) hsi ?_
  intro ex s1 a1 w1 h1 hsi1 hk1
  cases ex with
  | exit id => simp at hk1
  | goto l => simp at hk1
  | ret => simp at hk1
  | panic x => simp at hk1
  | normal =>
    simp only at hk1
    cases hl1 : s1.g.lp[l]? with
    | none => simp [hl1] at hk1
    | some r1 =>
      simp only [hl1] at hk1
      cases hpe : r1.pend with
      | some e => simp [hpe] at hk1
      | none =>
        simp only [hpe] at hk1
        obtain ⟨hpc1, D1, qq1, u1, u2, u3, u4⟩ := hsi1.fi.gi.lp l r1 hl1
        have hro1 : h1.ro l = h.ro l := hsi1.rel.ro l hll
        have hb := run_beginRound (P := P) u1 (by simp [loopObj, hpe])
        rw [hro1] at hb
        refine ⟨_, hb, ?_⟩
        have hsi2 := hsi1.setPend hl1 hll u1 (e := some .normal) (by intro e' he; cases he; exact .inl rfl)
        have hobj : ({ loopObj r1 qq1 D1 with state := .busy } : Loop) = loopObj { r1 with pend := some .normal } qq1 D1 := by simp [loopObj, hpe, exCode]
        rw [hobj, ← hro1]
        refine exec_sound hp.mix hT hcn hC hE (by rw [hro1]; exact hF) (fun e => by rw [hflat] at e; cases e) r.body hk1 (by rw [hch]; exact hpc.2.2.2) hsi2 ?_
        intro ex s2 a2 w2 h2 hsi3 hk2
        have hlen3 : s2.g.lp.length = g.lp.length := by
          have := congrArg List.length hsi3.lps
          simpa using this
        obtain ⟨r2, hl2⟩ : ∃ r2, s2.g.lp[l]? = some r2 := ⟨_, List.getElem?_eq_getElem (by omega)⟩
        obtain ⟨hpc2, D2, qq2, v1, v2, v3, v4⟩ := hsi3.fi.gi.lp l r2 hl2
        have hro2 : h2.ro l = h.ro l := hsi3.rel.ro l hll
        have fin : ∀ (e : Option Ex) (jump : Option Code) (b : Bool), (∀ e', e = some e' → e' = .normal ∨ (exCode e').isSome = true) → ({ loopObj r2 qq2 D2 with state := if jump.isNone then .ready else .done, pending := jump } : Loop) = loopObj { r2 with pend := e } qq2 D2 →
            jump.isNone = b → k (.ret [.d (.bool b)]) (setPend l e (popG s2.g (g.dp + 1))) = some res → ∃ v w', (Instr.endRound (h1.ro l).1 jump).run P w2 = .ok v w' ∧ CallQ k res g h w (.returned v) w' := by
          intro e jump b he hobj2 hb2 hkk
          have hend := run_endRound (P := P) jump v1
          rw [hobj2] at hend
          obtain ⟨gi, rl⟩ := hsi3.gone
          have hlp2 : (popG s2.g (g.dp + 1)).lp[l]? = some r2 := hl2
          have gi2 := gi.setPend hlp2 v1 (e := e) he
          have rl2 := rl.putLoop (g' := setPend l e (popG s2.g (g.dp + 1))) v1 (rl.lpMay l (by show l < s2.g.lp.length; omega)) rfl (by simp [Abs.setPend]) (by simp [Abs.setPend, popG]; omega) (r' := loopObj { r2 with pend := e } qq2 D2)
          rw [hro1, ← hro2]
          refine ⟨_, _, hend, .ret [.d (.bool b)], _, _, ⟨[.bool b], ?_, ?_, ?_, rfl, ?_⟩, gi2, rl2, ?_, ?_, hkk⟩
          · rw [hb2]; rfl
          · simp [RepAs, RepA, RepV]
          · exact ⟨(by intro i sz es he; cases he), trivial⟩
          · simp [AV.oks, AV.ok]
          · show g.dp + 1 - 1 = g.dp
            omega
          · rw [setPend_dps]
            exact hsi3.lps
        cases ex with
        | normal =>
          exact fin none none true (by intro e' he; cases he) (by simp [loopObj]) rfl hk2
        | exit id =>
          exact fin (some (.exit id)) (some (.exit id)) false (by intro e' he; cases he; exact .inr rfl) (by simp [loopObj, exCode]) rfl hk2
        | goto t =>
          exact fin (some (.goto t)) (some (.goto t)) false (by intro e' he; cases he; exact .inr rfl) (by simp [loopObj, exCode]) rfl hk2
        | ret =>
          exact fin (some .ret) (some .ret) false (by intro e' he; cases he; exact .inr rfl) (by simp [loopObj, exCode]) rfl hk2
        | panic x => simp at hk2
theorem GI.start {w : World} {L : Nat → Nat} (hL : ∀ b, w.heap.size ≤ b → L b = 0) : GI G0 w (H0 L) where
 bx := fun d t bo hb => by cases hb
 inj := fun d t d' t' b h => by cases h
 gaBx := fun i b d t h => by cases h
 gaInj := fun i j b h => by cases h
 gaLt := fun i b h => by cases h
 gaC := fun i b h => by cases h
 lim := hL
 lp := fun l r h => by simp [G0] at h
 roInj := fun l l' h => by simp [G0] at h
 gaTop := fun _ _ _ _ => rfl
theorem run_sound {p : Pr} (hp : PrOk P p) : ∀ (n : Nat) (R : Type) [Same R], ESound P (run p n R)
 | 0, R, _ => fun cal args g k r hr => by simp [run] at hr
 | n + 1, R, _ => by
  have hC : CSound P (fun fn ds => match fn with
   | .func f => match p.K f with
    | some kf => kf ds
    | none => run p n Out (.fn fn) ((nrmArgs p f ds).map .d) G0 purify
   | _ => none) := by
   intro fn ds out ho w L vs hL hv htp
   cases fn with
   | func f =>
    simp only at ho
    cases hk : p.K f with
    | some kf =>
     simp only [hk] at ho
     obtain ⟨h1, h2⟩ := hp.K f kf hk ds out ho w L vs hL hv htp
     exact ⟨f, rfl, h1, h2⟩
    | none =>
     simp only [hk] at ho
     have hv : RepVs w L (nrmArgs p f ds) vs := by
      unfold nrmArgs
      split
      ·exact hv.nrmDs
      ·exact hv
     obtain ⟨h1, h2⟩ := run_sound hp n Out _ _ _ _ _ ho w (H0 L) vs (GI.start hL) (RepAs.of_d hv) (oks_d _) ⟨htp, fun b _ => may_G0⟩
     refine ⟨f, rfl, h1, h2.mono ?_⟩
     rintro e w' ⟨out', g', h', hm, hG, hR, _, _, hpur⟩
     have : out' = out ∧ OutD out := by
      cases out' with
      | ret rs =>
       simp only [purify] at hpur
       split at hpur
       ·rename_i hc; cases hpur; exact ⟨rfl, hc⟩
       ·cases hpur
      | pan x => simp only [purify, Option.some.injEq] at hpur; subst hpur; exact ⟨rfl, trivial⟩
     obtain ⟨rfl, hd⟩ := this
     exact ⟨g', h', hm, hd, hG, hR⟩
   | _ => simp at ho
  have hE0 := run_sound hp n R
  intro cal args g k r hr w h vs hg hv ho htb
  unfold run at hr
  simp only at hr
  cases cal with
  | fn fn =>
   cases fn with
   | func f =>
    simp only at hr
    cases hX : p.X f with
    | some x =>
     simp only [hX] at hr
     cases hx : x args g with
     | none => simp [hx] at hr
     | some og =>
      obtain ⟨c, out, g'⟩ := og
      simp only [hx] at hr
      cases c with
      | false => cases hr
      | true =>
      simp only at hr
      obtain ⟨h1, h2⟩ := hp.X f x hX args g out g' hx w h vs hg hv ho htb
      refine ⟨h1, h2.mono ?_⟩
      rintro e w' ⟨h', q1, q2, q3, q4, q5⟩
      exact ⟨out, g', h', q1, q2, q3, q4, q5, hr⟩
    | none =>
    simp only [hX] at hr
    cases hF : p.F f with
    | none => simp [hF] at hr
    | some F =>
     simp only [hF] at hr
     cases hb : F.body with
     | none => simp [hb] at hr
     | some code =>
      simp only [hb] at hr
      split at hr
      case isFalse => cases hr
      rename_i hle
      have hle : args.length ≤ F.ntmps := by simpa using hle
      obtain ⟨hPf, hname⟩ := hp.F f F hF
      refine ⟨⟨F, code, hPf, hb, hname⟩, ?_⟩
      refine callsIn_of_wp_marks hPf hb trivial ?_
      have hcode := hp.H f F code hF hb
      have hrod := rod_of hg
      have ret : ∀ (fl : Bool) (s' : St) (a' : Act) (w' : World) (h' : Gh), SI F.ntmps g { h with df := [], flat := fl } w s' a' w' h' → (match resVars p.T s' F.results.toList with
        | some rs => match retRes s'.g.bx (g.dp + 1) 0 [] rs with
         | some rs' => k (.ret rs') (popG { s'.g with bx := demRes rs s'.g.bx } (g.dp + 1))
         | none => none
        | none => none) = some r → ∃ v, (results F a'.tmps).run P w' = .ok v w' ∧ CallQ k r g h w (.returned v) w' := by
       intro fl s' a' w' h' hsi' hk'
       cases h1 : resVars p.T s' F.results.toList with
       | none => simp [h1] at hk'
       | some rs =>
        simp only [h1] at hk'
        cases h2 : retRes s'.g.bx (g.dp + 1) 0 [] rs with
        | none => simp [h2] at hk'
        | some rs' =>
         simp only [h2] at hk'
         obtain ⟨v, hv1, hv2⟩ := returned hp.T hsi' h1 h2 hk'
         exact ⟨v, hv1, hv2.based⟩
      have plain : ∀ (fl : Bool) (ex : Ex) (s' : St) (a' : Act) (w' : World) (h' : Gh), SI F.ntmps g { h with df := [], flat := fl } w s' a' w' h' → (match ex with
        | .panic x => k (.pan x) (popG s'.g (g.dp + 1))
        | .exit _ => none
        | .goto _ => none
        | _ => match resVars p.T s' F.results.toList with
         | some rs => match retRes s'.g.bx (g.dp + 1) 0 [] rs with
          | some rs' => k (.ret rs') (popG { s'.g with bx := demRes rs s'.g.bx } (g.dp + 1))
          | none => none
         | none => none) = some r → ExQ (bodyPostM Fence.wide 0 P F (CallQ k r g h w)) a' w' h' ex := by
       intro fl ex s' a' w' h' hsi' hk'
       have rt : (match resVars p.T s' F.results.toList with
         | some rs => match retRes s'.g.bx (g.dp + 1) 0 [] rs with
          | some rs' => k (.ret rs') (popG { s'.g with bx := demRes rs s'.g.bx } (g.dp + 1))
          | none => none
         | none => none) = some r → LeavesInM Fence.wide 0 P F a'.tmps (CallQ k r g h w) a'.defers .returning w' := by
        intro hk'
        refine leaves_all (h0 := { h with df := [], flat := fl }) (by simp) hrod a'.defers (tmps := a'.tmps) hsi' ?_
        intro w'' hsi'' _
        exact ret fl s' { tmps := a'.tmps, defers := [] } w'' h' hsi'' hk'
       cases ex with
       | normal => exact rt hk'
       | ret => exact rt hk'
       | exit id => simp at hk'
       | goto l => simp at hk'
       | panic x =>
        simp only at hk'
        intro v hx
        show LeavesInM Fence.wide 0 P F a'.tmps (CallQ k r g h w) a'.defers (.panicking [{ v, recovered := false }]) w'
        refine leaves_all (h0 := { h with df := [], flat := fl }) (by simp) hrod a'.defers (tmps := a'.tmps) hsi' ?_
        intro w'' hsi'' hext
        obtain ⟨gi, rl⟩ := hsi''.gone
        exact ⟨.pan x, popG s'.g (g.dp + 1), { h' with ga := gaClear h'.ga (g.dp + 1) }, ⟨v, rfl, hx.ext hext⟩, gi, rl.based, (by show g.dp + 1 - 1 = g.dp; omega), hsi''.lps, hk'⟩
      cases hdr : (p.H f).dfr with
      | false =>
       simp only [hdr] at hr
       have hsi := SI.enter (h := { h with df := [], flat := false }) rfl (hg.base [] false) (RepAs.base [] false _ _ hv) ho hle htb
       refine exec_sound (F := Fence.wide) hp.mix hp.T rfl hC (hideE_sound _ hE0) (.inl rfl) (fun e => by cases e) code hr hcode hsi ?_
       exact fun ex s' a' w' h' hsi' hk' => plain false ex s' a' w' h' hsi' hk'
      | true =>
       simp only [hdr] at hr
       have hsi := SI.enter (h := { h with df := [], flat := true }) rfl (hg.base [] true) (RepAs.base [] true _ _ hv) ho hle htb
       cases hff : (p.H f).flat with
       | false => simp [hff] at hr
       | true =>
       simp only [hff] at hr
       refine execD_sound hp.mix hp.T rfl hC (hideE_sound _ hE0) rfl hff rfl (fun ex s' a' w' h' hsi' hk' => plain true ex s' a' w' h' hsi' hk') ?_ code hr hcode hsi
       intro fA s' a' w' h' dv fn cv hsi' hdv hrep hok ex s'' a'' w'' h'' hsi'' hk''
       have hdp : s'.g.dp = g.dp + 1 := hsi'.dp
       subst hdv
       have hdone : ∀ s4 a4 w4 h4, SI F.ntmps g { h with df := [], flat := true } w s4 a4 w4 h4 → (match resVars p.T s4 F.results.toList with
          | some rs => match retRes s4.g.bx (g.dp + 1) 0 [] rs with
           | some rs' => k (.ret rs') (popG { s4.g with bx := demRes rs s4.g.bx } (g.dp + 1))
           | none => none
          | none => none) = some r → ∃ v, (results F a4.tmps).run P w4 = .ok v w4 ∧ CallQ k r g h w (.returned v) w4 := fun s4 a4 w4 h4 => ret true s4 a4 w4 h4
       rw [← hdp] at hdone
       simp only at hk''
       rw [← hdp] at hk''
       have fin := fun {u : FrameMode} {rv : D} (hrv : Recs w'' h''.L u rv) hs => recAV_sound (u := u) (rv := rv) (F := F) (R := R)
        (cxOf := fun f' F' =>
         {T := p.T
          fuel := p.fuel
          C := fun fn ds => match fn with
           | .func f => match p.K f with
            | some kf => kf ds
            | none => run p n Out (.fn fn) ((nrmArgs p f ds).map .d) G0 purify
           | _ => none
          E := hideE (p.H f').hide (run p n R)
          hint := p.H f'
          fid := f'
          nt := F'.ntmps })
        hp (fun _ _ => rfl) (fun _ _ => hC) (fun _ _ => hideE_sound _ hE0) (fun _ _ => rfl) (fun _ _ => rfl) rfl hsi' hsi'' hrep hok hrv hs hdone
       cases ex with
       | normal => exact fin (.inl ⟨rfl, rfl⟩) hk''
       | ret => exact fin (.inl ⟨rfl, rfl⟩) hk''
       | exit id => cases hk''
       | goto l => cases hk''
       | panic x =>
        intro v hx
        exact fin (.inr ⟨v, rfl, hx⟩) hk''
   | _ => simp at hr
  | yld l =>
   simp only at hr
   cases hl : g.lp[l]? with
   | none => simp [hl] at hr
   | some rec =>
    simp only [hl] at hr
    cases hpe : rec.pend with
    | some e => simp [hpe] at hr
    | none =>
     cases hds : AV.datas args with
     | none => simp [hpe, hds] at hr
     | some ds =>
      simp only [hpe, hds] at hr
      split at hr
      case isFalse => cases hr
      rename_i hc
      simp only [Bool.and_eq_true] at hc
      obtain ⟨⟨c1, c2⟩, c3⟩ := hc
      obtain ⟨f, tmps, as, body, y1, y2⟩ := yield_sound hp hp.T hC (hideE_sound _ hE0) (h := { h with df := [], flat := false }) rfl rfl (hg.base [] false) htb hl rfl rfl (RepAs.base [] false _ _ hv) hds (by simpa using c1) c2 c3 hr
      exact ⟨f, tmps, as, body, y1, y2.mono fun e w' hq => hq.based⟩
end
end Go.Abs
namespace Go.Abs
open Go
set_option linter.unusedVariables false
set_option linter.unusedSimpArgs false
set_option linter.unusedSectionVars false
variable [Tabs]
section
variable {P : Program}
theorem pcall_sound {p : Pr} (hp : PrOk P p) {n : Nat} {f : FuncId} {ds : List D} {out : Out} (ho : pcall p n f ds = some out) {w : World} {L : Nat → Nat} {vs : List Value} (hL : ∀ b, w.heap.size ≤ b → L b = 0) (hv : RepVs w L ds vs) (htp : Tabs.p w) :
  FOk P f ∧ CallsIn Fence.wide 0 P f vs.toArray w (fun e w' => ∃ g' h', OutM g' w' h' out e ∧ OutD out ∧ GI g' w' h' ∧ Rel G0 (H0 L) w g' w' h') := by
 obtain ⟨h1, h2⟩ := run_sound hp n Out _ _ _ _ _ ho w (H0 L) vs (GI.start hL) (RepAs.of_d hv) (oks_d ds) ⟨htp, fun b _ => may_G0⟩
 refine ⟨h1, h2.mono ?_⟩
 rintro e w' ⟨out', g', h', hm, hG, hR, _, _, hpur⟩
 have : out' = out ∧ OutD out := by
  cases out' with
  | ret rs =>
   simp only [purify] at hpur
   split at hpur
   ·rename_i hc; cases hpur; exact ⟨rfl, hc⟩
   ·cases hpur
  | pan x => simp only [purify, Option.some.injEq] at hpur; subst hpur; exact ⟨rfl, trivial⟩
 obtain ⟨rfl, hd⟩ := this
 exact ⟨g', h', hm, hd, hG, hR⟩
def LW (w : World) (b : Nat) : Nat := match w.heap[b]? with
 | some (.cells c _ _) => c.size
 | _ => 0
omit [Tabs] in
theorem LW_lim (w : World) : ∀ b, w.heap.size ≤ b → LW w b = 0 := by
 intro b hb
 unfold LW
 rw [Array.getElem?_eq_none hb]
omit [Tabs] in
theorem TyFact.of {t : TypeId} {ti : TI} {d : TypeDesc} (h1 : (P.info? t).isSome = true) (h2 : ((P.info? t).get h1).size = ti.size) (h3 : ((P.info? t).get h1).bytes = ti.bytes) (h4 : ((P.info? t).get h1).zero.isSome = true)
  (h5 : (((P.info? t).get h1).zero.get h4).cells.toList = ti.zero.map D.zv) (plain : ti.zero.all D.plain = true) (len : ti.zero.length = ti.size) (one : ti.agg = false → ti.size = 1) (hd : P.underlying t = some d) (hr : d.isRow = ti.agg) (hk : KindFact P ti d)
  (h6 : ((P.info? t).get h1).zero.get h4 = zeroV ti) (hm : ti.mark.1 = 0 ∨ ti.mark.1 = t) (hi : ∀ k, ti.int = some k → P.underlying t = some (.int k)) : TyFact P t ti :=
 ⟨⟨_, _, (Option.some_get h1).symm, h2, h3, (Option.some_get h4).symm, h5⟩, plain, len, one, ⟨d, hd, hr, hk⟩, hm, hi, ⟨_, (Option.some_get h1).symm, by rw [← h6]; exact (Option.some_get h4).symm⟩⟩
theorem pcall_bool {p : Pr} (hp : PrOk P p) {n : Nat} {f : FuncId} {ds : List D} {b : Bool} (ho : pcall p n f ds = some (.ret [.d (.bool b)])) {w : World} {L : Nat → Nat} {vs : List Value} (hL : ∀ b, w.heap.size ≤ b → L b = 0) (hv : RepVs w L ds vs) (htp : Tabs.p w) :
  Calls P f vs.toArray w fun e w' => e = .returned (.bool b) ∧ RowKit.Below w.heap.size w w' := by
 refine callsIn_wide.1 ((pcall_sound hp ho hL hv htp).2.mono ?_)
 rintro e w' ⟨g', h', hm, _, hG, hR⟩
 refine ⟨?_, hR.os, hR.tape, hR.output, hR.size, fun b hb => (hR.keep b hb may_G0).1⟩
 cases e with
 | returned v =>
  obtain ⟨us, rfl, hr, _⟩ := hm
  simp only [RepAs, RepA, RepV] at hr
  obtain ⟨u, us', rfl, rfl, rfl⟩ := hr
  rfl
 | panicked c => exact hm.elim
 | outgrown => exact hm.elim
end
end Go.Abs
namespace Go.Abs
open Go
set_option linter.unusedVariables false
set_option linter.unusedSimpArgs false
set_option linter.unnecessarySimpa false
set_option linter.unusedSectionVars false
variable [Tabs]
section
variable {P : Program} {g0 : G} {h0 : Gh} {w0 : World} {nt : Nat}
theorem putBx_twice {bx : Nat → Nat → Option Box} {d u : Nat} {x y : Box} : putBx (putBx bx d u x) d u y = putBx bx d u y := by
 funext d' u'
 simp only [putBx_eq]
 split <;> rfl
theorem byteRow_len (l : List UInt8) : (byteRow l).length = l.length := by simp [byteRow]
theorem byteRow_one (l : List UInt8) : ∀ e ∈ byteRow l, e.length = 1 := by
 intro e he
 simp only [byteRow, List.mem_map] at he
 obtain ⟨c, _, rfl⟩ := he
 rfl
theorem byteRow_append (a b : List UInt8) : byteRow (a ++ b) = byteRow a ++ byteRow b := by simp [byteRow]
theorem byteRow_rep {w : World} {L : Nat → Nat} (l : List UInt8) : RepF w L (byteRow l) (Lib.byteCells l) := strRow_rep l
theorem byteCells_one (l : List UInt8) : ∀ u ∈ Lib.byteCells l, u.oneCell' = true := by
 intro u hu
 simp only [Lib.byteCells, List.mem_map] at hu
 obtain ⟨b, _, rfl⟩ := hu
 rfl
theorem FI.alloc1 {s : St} {a : Act} {w : World} {h : Gh} (hf : FI nt s a w h) (hr : Rel g0 h0 w0 s.g w h) (o : Obj) : FI nt s a (w.alloc o) h ∧ Rel g0 h0 w0 s.g (w.alloc o) h := by
  have hb := below_alloc w o
  have hlim : ∀ b, (w.alloc o).heap.size ≤ b → h.L b = 0 := fun b hh => hf.gi.lim b (by have : (w.alloc o).heap.size = w.heap.size + 1 := by simp
                                                                                        omega)
  refine ⟨⟨hf.size, hf.tm_grow hb (fun _ _ => rfl) (fun _ _ _ => rfl) (fun _ _ => rfl) (fun _ _ => rfl), ?_, dfr_grow hf.dfr hb⟩, ?_⟩
  · exact hf.gi.grow hb (fun _ _ => rfl) hlim (fun _ _ _ => rfl) (fun _ _ => rfl) (fun _ _ => rfl) hf.gi.gaBx hf.gi.gaInj (fun i b hi => by
      obtain ⟨c, e, hc⟩ := hf.gi.gaC i b hi
      exact ⟨c, e, by rw [hb.block b (lt_of_heap hc), hc]⟩) hf.gi.gaTop
  · exact hr.grow hf.gi hb (fun _ _ => rfl) (fun d t _ hs => ⟨hs, rfl⟩) (fun _ _ => rfl) (fun _ _ _ _ => rfl) (fun d t b hs hb' => .inr ⟨d, t, hs, hb'⟩) (fun i b hi => .inr hi) (fun l hl => .inr ⟨hl, rfl⟩) (Nat.le_refl _)
def Buf (w : World) (h : Gh) (bt : TypeId) (i : Id) (v : Value) (l : List UInt8) : Prop :=
 (v = .slice none 0 0 ∧ l = []) ∨ ∃ gb c cc, v = .slice (some ⟨gb, 0, none⟩) l.length c ∧ h.ga i = some gb ∧ h.L gb = l.length ∧ w.heap[gb]? = some (.cells cc bt (0, 0)) ∧ l.length ≤ c ∧ c ≤ cc.size ∧ 0 < c ∧
  ∀ (k : Nat) x, l[k]? = some x → cc[k]? = some (.int .u8 x.toNat)
theorem Buf.own {w : World} {h : Gh} {bt : TypeId} {i : Id} {v : Value} {l : List UInt8} (hb : Buf w h bt i v l) : RepA w h (.own i 1 (byteRow l)) v := by
 simp only [RepA]
 rcases hb with ⟨rfl, rfl⟩ | ⟨gb, c, cc, rfl, h1, h2, h3, h4, h5, h6, h7⟩
 ·exact .inl nils_full
 ·refine .inr ⟨gb, l.length, c, Lib.byteCells l, cc, bt, rfl, (byteRow_len l).symm, h4, byteRow_one l, byteRow_rep l, h1, by rw [h2]; omega, h3, by omega, ?_⟩
  intro k u hk
  refine ⟨?_, byteCells_one l u (List.mem_of_getElem? hk)⟩
  simp only [Lib.byteCells, List.getElem?_map] at hk
  cases hx : l[k]? with
  | none => rw [hx] at hk; cases hk
  | some x =>
   rw [hx] at hk
   simp only [Option.map_some, Option.some.injEq] at hk
   simp only [World.cell?, h3, Nat.zero_add]
   rw [← hk]
   simpa using h7 k x hx
theorem Buf.strong {w : World} {h : Gh} {bt : TypeId} {i : Id} {v p : Value} {l : List UInt8} (hb : Buf w h bt i v l) (a : AV) : StrongL w h bt [a, .own i 1 (byteRow l)] [p, v] := by
 intro j sz es u hj hu
 simp only [List.getElem?_cons_succ, List.getElem?_cons_zero, Option.some.injEq, AV.own.injEq] at hj hu
 obtain ⟨rfl, rfl, rfl⟩ := hj
 subst hu
 rcases hb with ⟨rfl, rfl⟩ | ⟨gb, c, cc, rfl, h1, h2, h3, h4, h5, h6, h7⟩
 ·exact .inl ⟨rfl, rfl⟩
 ·exact .inr ⟨gb, l.length, c, cc, rfl, h1, h2, h3, h4, h5, h6, l, rfl⟩
theorem Buf.of {w : World} {h : Gh} {bt : TypeId} {i : Id} {v p : Value} {a : AV} {es : List (List D)} (hr : RepA w h (.own i 1 es) v) (hs : StrongL w h bt [a, .own i 1 es] [p, v]) : ∃ l, es = byteRow l ∧ Buf w h bt i v l := by
 rcases hs i 1 es v rfl rfl with ⟨rfl, rfl⟩ | ⟨gb, n, c, cc, rfl, h1, h2, h3, h4, h5, h6, l, rfl⟩
 ·exact ⟨[], rfl, .inl ⟨rfl, rfl⟩⟩
 ·refine ⟨l, rfl, .inr ⟨gb, c, cc, ?_⟩⟩
  have hn : n = l.length ∧ ∀ (k : Nat) x, l[k]? = some x → cc[k]? = some (.int .u8 x.toNat) := by
   have cells : ∀ {vs : List Value}, RepF w h.L (byteRow l) vs → cellsAt w gb 0 vs → ∀ (k : Nat) x, l[k]? = some x → cc[k]? = some (.int .u8 x.toNat) := by
    intro vs hrf hc k x hk
    have hg := hrf.get (byteRow_one l) (k := k) (e := [.int .u8 x.toNat]) (by simp [byteRow, hk])
    simp only [RepVs, RepV] at hg
    obtain ⟨u, us, h8, rfl, rfl⟩ := hg
    have h9 : vs[k]? = some (.int .u8 x.toNat) := by
     have := congrArg (fun (l : List Value) => l[0]?) h8
     simp only [Nat.mul_one, List.getElem?_take, List.getElem?_drop] at this
     simpa using this
    have := (hc k _ h9).1
    simp only [World.cell?, h3, Nat.zero_add] at this
    simpa using this
   simp only [RepA] at hr
   rcases hr with hr | ⟨b', n', c', vs, cc', e', h8, h9, h10, h11, h12, h13, h14, h15, h16, h17⟩
   ·simp only [RepV] at hr
    obtain ⟨a', n', vs, h8, h9, h10, h11, h12⟩ := hr
    cases h8
    rw [byteRow_len] at h9
    refine ⟨h9, ?_⟩
    rcases h12 with h12 | ⟨b', o', h12, h13, h14⟩
    ·intro k x hk
     have := (List.getElem?_eq_some_iff.1 hk).1
     omega
    ·cases h12
     exact cells h11 h14
   ·cases h8
    rw [byteRow_len] at h9
    exact ⟨h9, cells h12 h17⟩
  obtain ⟨rfl, hcells⟩ := hn
  exact ⟨rfl, h1, h2, h3, h4, h5, h6, hcells⟩
theorem bld_append {s : St} {a : Act} {w : World} {h : Gh} (hf : FI nt s a w h) (hr : Rel g0 h0 w0 s.g w h) (hdp : g0.dp < s.g.dp) (hnt : 0 < nt) (hfr : ∀ t, s.fr t = false) {bt : TypeId} {d t b : Nat} {bo : Box} (hbo : s.g.bx d t = some bo) (hfrz : bo.frz = false) (hbt : bo.ty.2 = bt)
  (hbe : h.be d t = some b) {p v1 : Value} {e : TypeId} (hp : p.oneCell' = true) (hheap : w.heap[b]? = some (.cells #[p, v1] e (0, 0))) {c0 : AV} (hc0 : RepA w h c0 p) (hc0d : ∃ d' t', c0 = .ptr d' t' 0 ∧ KG s.g d d' t' )
  {i : Id} (hi : NoIn i s) (hib : IsBox i) (hj : NoIn (.box d t 1) s) {l : List UInt8} (hbuf : Buf w h bt i v1 l) {t1 t2 : TypeId} (hu : P.underlying t1 = some (.slice bt)) {inf : TypeInfo} {z : Value} (hinf : P.info? bt = some inf) (hsz : inf.size = 1) (hby : inf.bytes = 1) (hz : inf.zero = some z) (hz1 : z.cells.size = 1)
  {yv : Value} {ys : List UInt8} (hsrc : Src P w t1 t2 1 yv ys.length (Lib.byteCells ys)) (hbd : (l.length + ys.length) * 2 ≤ 1099511627776) (ty : TypeId) :
  ∃ ao n2 k2 w2, (Builtin.append_ #[t1, t2] ty #[v1, yv]).run P w = .ok (.slice ao n2 k2) w2 ∧ w2.heap[b]? = some (.cells #[p, v1] e (0, 0)) ∧
   ∃ h2, FI nt { tm := fun _ => none, fr := fun _ => true, g := { s.g with bx := putBx s.g.bx d t { bo with cells := [c0, .own (.box d t 1) 1 (byteRow (l ++ ys))] } } } a (w2.setRow b #[p, .slice ao n2 k2]) h2 ∧
    Rel g0 h0 w0 { s.g with bx := putBx s.g.bx d t { bo with cells := [c0, .own (.box d t 1) 1 (byteRow (l ++ ys))] } } (w2.setRow b #[p, .slice ao n2 k2]) h2 := by
 have hbnew : b < w.heap.size := lt_of_heap hheap
 have fin : ∀ (ao : Option Addr) (n2 k2 : Nat) (w2 : World) (h2 : Gh) (a2 : Act), FI nt { tm := fun _ => none, fr := fun _ => true, g := s.g } a2 w2 h2 → a2.defers = a.defers → a2.tmps.size = a.tmps.size → Rel g0 h0 w0 s.g w2 h2 → Buf w2 h2 bt (.box d t 1) (.slice ao n2 k2) (l ++ ys) → h2.be d t = some b → w2.heap[b]? = some (.cells #[p, v1] e (0, 0)) → RepA w2 h2 c0 p →
   FI nt { tm := fun _ => none, fr := fun _ => true, g := { s.g with bx := putBx s.g.bx d t { bo with cells := [c0, .own (.box d t 1) 1 (byteRow (l ++ ys))] } } } a (w2.setRow b #[p, .slice ao n2 k2]) h2 ∧
    Rel g0 h0 w0 { s.g with bx := putBx s.g.bx d t { bo with cells := [c0, .own (.box d t 1) 1 (byteRow (l ++ ys))] } } (w2.setRow b #[p, .slice ao n2 k2]) h2 := by
  intro ao n2 k2 w2 h2 a2 f2 ha2 ha3 r2 hb2 hbe2 hh2 hc2
  have := f2.setBox (s := { tm := fun _ => none, fr := fun _ => true, g := s.g }) r2 hbo hfrz hbe2 (c' := #[p, .slice ao n2 k2]) hh2 (cs' := [c0, .own (.box d t 1) 1 (byteRow (l ++ ys))])
   ⟨by simp only [RepAs]; exact ⟨p, _, rfl, hc2, _, _, rfl, hb2.own, rfl⟩, fun _ => by rw [hbt]; exact hb2.strong c0⟩
   (by
    obtain ⟨d', t', rfl, hk⟩ := hc0d
    exact ⟨by simpa only [AV.ok] using hk, by simp only [AV.ok]; trivial, trivial⟩)
   (by
    intro u hu'
    simp only [List.mem_cons, List.not_mem_nil, or_false] at hu'
    rcases hu' with rfl | rfl
    ·exact hp
    ·rfl)
  refine ⟨⟨by rw [← this.1.size]; exact ha3.symm, fun t v hv => (by cases hv), this.1.gi, ?_⟩, this.2⟩
  intro x hx
  exact this.1.dfr x (by rw [ha2]; exact hx)
 have fnone : FI nt { tm := fun _ => none, fr := fun _ => true, g := s.g } a w h := ⟨hf.size, fun t v hv => (by cases hv), hf.gi, hf.dfr⟩
 have noI : ∀ i, NoIn i s → NoIn i { tm := fun _ => none, fr := fun _ => true, g := s.g } := fun i hi => ⟨fun t v hv => (by cases hv), hi.2⟩
 have hboxdef : ∀ d' t' k, Id.box d t 1 = .tmp d' t' k → d' ≤ s.g.dp := fun d' t' k e => by cases e
 have hsrc' := hsrc
 rw [← hsz] at hsrc'
 by_cases hy0 : ys.length = 0
 ·
  have hys : ys = [] := List.length_eq_zero_iff.1 hy0
  subst hys
  have hsz0 : (sizeOf bt).run P w = .ok 1 w := by simp [sizeOf, typeInfo, hinf, hsz]
  have f2 := fnone.ren (noI _ hi) (noI _ hj) hboxdef
  have r2 := hr.ren (i := i) (j := .box d t 1) (fun d' t' k e => by subst e; exact hib.elim) (fun d' t' k e => by cases e)
  rcases hbuf with ⟨rfl, rfl⟩ | ⟨gb, c, cc, rfl, h1, h2, h3, h4, h5, h6, h7⟩
  ·have hrun := run_append_none (P := P) (ty := ty) hu hsz0 none 0 0 (Nat.le_refl _) hsrc
   refine ⟨none, 0, 0, w, hrun, hheap, _, fin none 0 0 w _ a f2 rfl rfl r2 (.inl ⟨rfl, rfl⟩) hbe hheap ?_⟩
   obtain ⟨d', t', rfl, hk⟩ := hc0d
   simpa only [RepA] using hc0
  ·have hrun := run_append_none (P := P) (ty := ty) hu hsz0 (some ⟨gb, 0, none⟩) l.length c h4 hsrc
   refine ⟨_, _, _, w, hrun, hheap, _, fin _ _ _ w _ a f2 rfl rfl r2 ?_ hbe hheap ?_⟩
   ·rw [List.append_nil]
    exact .inr ⟨gb, c, cc, rfl, by simp [renGa, h1], h2, h3, h4, h5, h6, h7⟩
   ·obtain ⟨d', t', rfl, hk⟩ := hc0d
    simpa only [RepA] using hc0
 ·
  have grown : ∀ (cap0 : Nat) (w2 : World) (cc : Array Value) (cap : Nat), RowKit.Below w.heap.size w w2 → w2.heap.size = w.heap.size + 1 → w2.heap[w.heap.size]? = some (.cells cc bt (0, 0)) → (l ++ ys).length ≤ cap → cap ≤ cc.size →
    (∀ (k : Nat) x, (l ++ ys)[k]? = some x → cc[k]? = some (.int .u8 x.toNat)) → (Builtin.append_ #[t1, t2] ty #[v1, yv]).run P w = .ok (.slice (some ⟨w.heap.size, 0, none⟩) (l ++ ys).length cap) w2 →
    ∃ ao n2 k2 w2, (Builtin.append_ #[t1, t2] ty #[v1, yv]).run P w = .ok (.slice ao n2 k2) w2 ∧ w2.heap[b]? = some (.cells #[p, v1] e (0, 0)) ∧
   ∃ h2, FI nt { tm := fun _ => none, fr := fun _ => true, g := { s.g with bx := putBx s.g.bx d t { bo with cells := [c0, .own (.box d t 1) 1 (byteRow (l ++ ys))] } } } a (w2.setRow b #[p, .slice ao n2 k2]) h2 ∧
    Rel g0 h0 w0 { s.g with bx := putBx s.g.bx d t { bo with cells := [c0, .own (.box d t 1) 1 (byteRow (l ++ ys))] } } (w2.setRow b #[p, .slice ao n2 k2]) h2 := by
   intro cap0 w2 cc cap hb hsize hnew hcap hroom hcells hrun
   have hlen : (l ++ ys).length = l.length + ys.length := List.length_append
   obtain ⟨n1, n2⟩ := hf.newRow hr (hfr 0) hnt hdp (sz := 1) (k := none) (es := byteRow (l ++ ys)) (vs := Lib.byteCells (l ++ ys)) (cc := cc) (e := bt) (cap := cap) (by simp [limK]) hb hsize hnew (byteRow_one _) (byteRow_rep _) (by rw [byteRow_len]; exact hcap) (by omega)
    (by
     intro k u hk
     refine ⟨?_, byteCells_one _ u (List.mem_of_getElem? hk)⟩
     simp only [Lib.byteCells, List.getElem?_map] at hk
     cases hx : (l ++ ys)[k]? with
     | none => rw [hx] at hk; cases hk
     | some x =>
      rw [hx] at hk
      simp only [Option.map_some, Option.some.injEq] at hk
      rw [← hk]; exact hcells k x hx)
   have f1 : FI nt { tm := fun _ => none, fr := fun _ => true, g := s.g } (a.put (some 0) (.slice (some ⟨w.heap.size, 0, none⟩) (byteRow (l ++ ys)).length cap)) w2 _ := ⟨n1.size, fun t v hv => (by cases hv), n1.gi, n1.dfr⟩
   have nt0 : NoIn (.tmp s.g.dp 0 0) { tm := fun _ => none, fr := fun _ => true, g := s.g } := noI _ (noIn_fresh hf (hfr 0))
   have f2 := f1.ren nt0 (noI _ hj) hboxdef
   have r2 := n2.ren (i := .tmp s.g.dp 0 0) (j := .box d t 1) (fun d' t' k e => by cases e; exact hdp) (fun d' t' k e => by cases e)
   refine ⟨_, _, _, w2, hrun, by rw [hb.block b hbnew, hheap], _, fin _ _ _ w2 _ _ f2 rfl (by simp [Act.put]) r2 ?_ ?_ (by rw [hb.block b hbnew, hheap]) ?_⟩
   ·refine .inr ⟨w.heap.size, cap, cc, rfl, by simp [renGa, gaNew], ?_, hnew, hcap, hroom, by omega, hcells⟩
    show LNew h.L w.heap.size (limK none (byteRow (l ++ ys)).length * 1) w.heap.size = _
    simp [LNew, limK, byteRow_len]
   ·exact hbe
   ·obtain ⟨d', t', rfl, hk⟩ := hc0d
    simpa only [RepA] using hc0
  have hzc : ∀ n, (Builtin.zeroCells z.cells n).size = n := by intro n; rw [size_zeroCells, hz1, Nat.mul_one]
  have newcells : ∀ (n : Nat) (k : Nat) x, (l ++ ys)[k]? = some x → ((Lib.byteCells l).toArray ++ (Lib.byteCells ys).toArray ++ Builtin.zeroCells z.cells n)[k]? = some (.int .u8 x.toNat) := by
   intro n k x hk
   have hlt : k < (l ++ ys).length := (List.getElem?_eq_some_iff.1 hk).1
   have h1 : (Lib.byteCells l ++ Lib.byteCells ys)[k]? = some (.int .u8 x.toNat) := by
    rw [← Lib.byteCells_append]
    unfold Lib.byteCells
    rw [List.getElem?_map, hk]; rfl
   rw [Array.getElem?_append_left (by simp [Lib.byteCells_length]; simpa using hlt)]
   simpa using h1
  rcases hbuf with ⟨rfl, rfl⟩ | ⟨gb, c, cc, rfl, h1, h2, h3, h4, h5, h6, h7⟩
  ·have hrun := run_append_nil' (P := P) (w := w) t1 t2 ty bt inf z hu hinf hz hsrc' (by omega) (by simp at hbd; omega) (by rw [hby]; simp at hbd; omega)
   have hge := grownCap_ge w ys.length 0 bt
   refine grown 0 _ _ _ ((below_drew w w.heap.size).alloc (by simp) _) (by simp) (by have := heap_new w.drew (.cells ((Lib.byteCells ys).toArray ++ Builtin.zeroCells z.cells (grownCap w ys.length 0 bt - ys.length)) bt (0, 0)); simpa using this) (by simpa using hge) ?_ ?_ (by simpa using hrun)
   ·simp only [Array.size_append, List.size_toArray, Lib.byteCells_length, hzc]
    omega
   ·have := newcells (grownCap w ys.length 0 bt - ys.length)
    simpa [Lib.byteCells] using this
  ·have hlen : (l ++ ys).length = l.length + ys.length := List.length_append
   by_cases hcap : l.length + ys.length ≤ c
   ·
    have hrun := run_append_room' (P := P) t1 t2 ty bt bt inf hu hinf gb l.length c cc h3 hsrc' hy0 (byteCells_one ys) hcap (by rw [hsz, Lib.byteCells_length]; omega)
    rw [hsz, Nat.mul_one] at hrun
    have hgb : gb ≠ b := by
     rintro rfl
     exact hf.gi.gaBx i gb d t h1 (by rw [hbo]; rfl) hbe
    obtain ⟨f2, r2⟩ := fnone.extend (s := { tm := fun _ => none, fr := fun _ => true, g := s.g }) hr (i := i) (j := .box d t 1) (noI _ hi) (noI _ hj) (fun d' t' k e => by subst e; exact hib.elim) (fun d' t' k e => by cases e) hdp (b := gb) (m := l.length) (n := (l ++ ys).length)
     (cc' := (cc.toList.take l.length ++ Lib.byteCells ys ++ cc.toList.drop (l.length + (Lib.byteCells ys).length)).toArray) h1 h3 h2 (by rw [hlen]; omega)
     (by
      intro k hk
      simp only [List.append_assoc, List.getElem?_toArray]
      rw [List.getElem?_append_left (by simp; omega), List.getElem?_take, if_pos hk]
      simp)
    refine ⟨_, _, _, _, hrun, by rw [setRow_other w gb b _ (Ne.symm hgb), hheap], _, fin _ _ _ _ _ a f2 rfl rfl r2 ?_ hbe (by rw [setRow_other w gb b _ (Ne.symm hgb), hheap]) ?_⟩
    ·rw [← hlen]
     refine .inr ⟨gb, c, _, rfl, by simp [renGa, h1], by simp [LNew], setRow_heap w gb cc _ bt (0, 0) h3, by rw [hlen]; exact hcap, ?_, h6, ?_⟩
     ·simp [Lib.byteCells_length]; omega
     ·intro k x hk
      simp only [List.append_assoc, List.getElem?_toArray]
      by_cases hlt : k < l.length
      ·rw [List.getElem?_append_left hlt] at hk
       rw [List.getElem?_append_left (by simp; omega), List.getElem?_take, if_pos hlt]
       simpa using h7 k x hk
      ·rw [List.getElem?_append_right (by omega)] at hk
       have hmin : (cc.toList.take l.length).length = l.length := by simp; omega
       rw [List.getElem?_append_right (by rw [hmin]; omega), hmin]
       have hlt2 : k - l.length < ys.length := (List.getElem?_eq_some_iff.1 hk).1
       rw [List.getElem?_append_left (by simpa [Lib.byteCells_length] using hlt2)]
       simp [Lib.byteCells, hk]
    ·obtain ⟨d', t', rfl, hk⟩ := hc0d
     simpa only [RepA] using hc0
   ·have hrun := run_append_grow' (P := P) (w := w) t1 t2 ty bt inf z hu hinf hz ⟨gb, 0, none⟩ l.length c (Lib.byteCells l) (by rw [hsz, Lib.byteCells_length, Nat.mul_one])
     (fun j v hj => by
      simp only [Lib.byteCells, List.getElem?_map] at hj
      cases hx : l[j]? with
      | none => rw [hx] at hj; cases hj
      | some x =>
       rw [hx] at hj
       simp only [Option.map_some, Option.some.injEq] at hj
       simp only [Addr.add_lit, World.cell?, h3, Nat.zero_add]
       rw [← hj]; simpa using h7 j x hx)
     hsrc' (by omega) (by omega) (by omega) (growslice_fits (by omega) (by rw [hby]; omega))
    have hge := grownCap_ge w (l.length + ys.length) c bt
    refine grown c _ _ _ ((below_drew w w.heap.size).alloc (by simp) _) (by simp) (heap_new w.drew (.cells ((Lib.byteCells l).toArray ++ (Lib.byteCells ys).toArray ++ Builtin.zeroCells z.cells (grownCap w (l.length + ys.length) c bt - (l.length + ys.length))) bt (0, 0))) (by rw [hlen]; exact hge) ?_ (newcells _) (by rw [hlen]; exact hrun)
    simp only [Array.size_append, List.size_toArray, Lib.byteCells_length, hzc]
    omega
theorem FI.lose {s : St} {a : Act} {w w' : World} {h : Gh} (hf : FI nt s a w h) (hr : Rel g0 h0 w0 s.g w h) {i : Id} (hi : NoIn i s) (hib : IsBox i) {gb : Nat} (hga : h.ga i = some gb) {cc : Array Value} {e : TypeId} {fz : Nat × Nat} (hheap : w.heap[gb]? = some (.cells cc e (0, 0)))
  (hos : w'.os = w.os) (htape : w'.tape = w.tape) (hout : w'.output = w.output) (hsize : w'.heap.size = w.heap.size) (hoth : ∀ k, k ≠ gb → w'.heap[k]? = w.heap[k]?) (hgb : w'.heap[gb]? = some (.cells cc e fz)) :
  FI nt s a w' { h with ga := fun k => if k = i then none else h.ga k } ∧ Rel g0 h0 w0 s.g w' { h with ga := fun k => if k = i then none else h.ga k } := by
 have hE : Ext w h.L w' h.L := by
  refine ⟨fun _ => Nat.le_refl _, fun b k _ => ?_⟩
  by_cases hb : b = gb
  ·subst hb; simp only [World.cell?, hgb, hheap]
  ·simp only [World.cell?, hoth b hb]
 have hne : ∀ k b, k ≠ i → h.ga k = some b → b ≠ gb := fun k b hk hb e => by subst e; exact hk (hf.gi.gaInj k i b hb hga)
 have hg : ∀ k b, k ≠ i → h.ga k = some b → (if k = i then none else h.ga k) = some b ∧ h.L b = h.L b ∧ w'.heap[b]? = w.heap[b]? := fun k b hk hb => ⟨by rw [if_neg hk, hb], rfl, hoth b (hne k b hk hb)⟩
 have inv : ∀ k b, (if k = i then none else h.ga k) = some b → k ≠ i ∧ h.ga k = some b := by
  intro k b hk
  split at hk
  ·cases hk
  ·rename_i hki; exact ⟨hki, hk⟩
 have hdef : ∀ D : Nat, w.heap[D]? = some (Obj.deferred (some [])) → w'.heap[D]? = some (Obj.deferred (some [])) := fun D hD => by rw [hoth D (by rintro rfl; rw [hheap] at hD; cases hD), hD]
 refine ⟨⟨hf.size, ?_, ?_, ?_⟩, ?_⟩
 ·intro t v hv
  obtain ⟨h1, h2⟩ := hf.tm t v hv
  exact ⟨RepA.ext (h := h) (h' := { h with ga := fun k => if k = i then none else h.ga k }) hE (fun _ _ _ _ h => h) (fun _ _ => rfl) hg v _ (hi.1 t v hv) h1, h2⟩
 ·refine { bx := ?_, inj := hf.gi.inj, gaBx := ?_, gaInj := ?_, gaLt := ?_, gaC := ?_, lim := ?_, lp := ?_, roInj := hf.gi.roInj, gaTop := ?_ }
  ·intro d t bo hb
   obtain ⟨h1, h2, b', c, e', h3, h4, h5, h6, h7⟩ := hf.gi.bx d t bo hb
   refine ⟨h1, h2, b', c, e', h3, ?_, ?_, h6, h7⟩
   ·rw [hoth b' (by rintro rfl; exact hf.gi.gaBx i b' d t hga (by rw [hb]; rfl) h3), h4]
   ·exact RepBx.ext (h := h) (h' := { h with ga := fun k => if k = i then none else h.ga k }) hE (fun _ _ _ _ h => h) (fun _ _ => rfl) hg _ _ (hi.2 d t bo hb) h5
  ·intro k b d t hk hs
   exact hf.gi.gaBx k b d t (inv k b hk).2 hs
  ·intro k k' b hk hk'
   exact hf.gi.gaInj k k' b (inv k b hk).2 (inv k' b hk').2
  ·intro k b hk
   rw [hsize]; exact hf.gi.gaLt k b (inv k b hk).2
  ·intro k b hk
   obtain ⟨k1, k2⟩ := inv k b hk
   obtain ⟨c, e', hc⟩ := hf.gi.gaC k b k2
   exact ⟨c, e', by rw [hoth b (hne k b k1 k2), hc]⟩
  ·intro b hb
   rw [hsize] at hb; exact hf.gi.lim b hb
  ·intro l r hl
   obtain ⟨hp, D, q, h1, h2, h3, h4⟩ := hf.gi.lp l r hl
   refine ⟨hp, D, q, ?_, hdef D h2, h3, fun t v hv => ⟨?_, (h4 t v hv).2⟩⟩
   ·rw [hoth _ (by intro e; rw [e, hheap] at h1; cases h1), h1]
   ·exact RepA.ext (h := h) (h' := { h with ga := fun k => if k = i then none else h.ga k }) hE (fun _ _ _ _ h => h) (fun _ _ => rfl) (fun _ _ hh => hh.elim) v _ (h4 t v hv).2 (h4 t v hv).1
  ·intro d t j hd
   show (if Id.tmp d t j = i then none else h.ga (.tmp d t j)) = none
   split
   ·rfl
   ·exact hf.gi.gaTop d t j hd
 ·intro x hx D hD
  exact hdef D (hf.dfr x hx D hD)
 ·have hmay := hr.gaMay i gb (fun d t j e => by subst e; exact hib.elim) hga
  exact
   {os := hos.trans hr.os
    tape := htape.trans hr.tape
    output := hout.trans hr.output
    size := by rw [hsize]; exact hr.size
    ext := hr.ext.trans hE
    keep := fun b hb hm => by
     obtain ⟨a1, a2⟩ := hr.keep b hb hm
     refine ⟨(hoth b ?_).trans a1, a2⟩
     rintro rfl
     rcases hmay with h2 | h2
     ·omega
     ·exact hm h2
    bxs := hr.bxs
    ro := hr.ro
    ga := fun d t j hd => by
     show (if Id.tmp d t j = i then none else h.ga (.tmp d t j)) = _
     rw [if_neg (by rintro rfl; exact hib.elim)]
     exact hr.ga d t j hd
    bxMay := hr.bxMay
    gaMay := fun k b hk hb => hr.gaMay k b hk (inv k b hb).2
    lpMay := hr.lpMay
    lpLen := hr.lpLen }
end
def selfOr (d t : Nat) : AV → Bool
 | .d .nilp => true
 | .ptr d' t' off => Nat.beq d' d && Nat.beq t' t && Nat.beq off 0
 | _ => false
def bldIn (d t : Nat) (b : Box) : Option (Id × List (List D)) := match b.cells with
 | [c0, c1] => match selfOr d t c0 with
  | true => match c1 with
   | .d .nils => some (.box d t 1, [])
   | .own i sz es => match Nat.beq sz 1 with
    | true => some (i, es)
    | false => none
   | _ => none
  | false => none
 | _ => none
def bldBx (d t : Nat) (i : Id) (b : Box) (es : List (List D)) (bx : Nat → Nat → Option Box) : Nat → Nat → Option Box := putBx (demBx (.box d t 1) (demBx i bx)) d t { b with cells := [.ptr d t 0, .own (.box d t 1) 1 es] }
section
variable {P : Program}
theorem demBx_get {i : Id} {bx : Nat → Nat → Option Box} {d t : Nat} {bo : Box} (h : bx d t = some bo) : demBx i bx d t = some { bo with cells := dems i bo.cells } := by
 simp only [demBx, h]
theorem Buf.mono {w w' : World} {h h' : Gh} {bt : TypeId} {i : Id} {v : Value} {l : List UInt8} (hb : Buf w h bt i v l) (hga : h'.ga i = h.ga i) (hL : ∀ b, h.ga i = some b → h'.L b = h.L b ∧ w'.heap[b]? = w.heap[b]?) : Buf w' h' bt i v l := by
 rcases hb with hb | ⟨gb, c, cc, h0, h1, h2, h3, h4⟩
 ·exact .inl hb
 ·obtain ⟨q1, q2⟩ := hL gb h1
  exact .inr ⟨gb, c, cc, h0, by rw [hga, h1], by rw [q1, h2], by rw [q2, h3], h4⟩
theorem bldIn_inv {d t : Nat} {cells : List AV} {frz : Bool} {ty : Nat × Nat} {i : Id} {es : List (List D)} (h : bldIn d t ⟨cells, frz, ty⟩ = some (i, es)) :
  ∃ c0 c1, cells = [c0, c1] ∧ selfOr d t c0 = true ∧ ((c1 = .d .nils ∧ i = .box d t 1 ∧ es = []) ∨ c1 = .own i 1 es) := by
 unfold bldIn at h
 match cells, h with
 | [c0, c1], h =>
  dsimp only at h
  cases hs : selfOr d t c0 with
  | false => simp only [hs] at h; cases h
  | true =>
   simp only [hs] at h
   refine ⟨c0, c1, rfl, hs, ?_⟩
   split at h
   ·cases h; exact .inl ⟨rfl, rfl, rfl⟩
   ·split at h
    ·rename_i hz
     cases h
     rw [Nat.eq_of_beq_eq_true hz]
     exact .inr rfl
    ·cases h
   ·cases h
theorem selfOr_sound {w : World} {h : Gh} {d t : Nat} {c0 : AV} {p : Value} {b : Nat} (hs : selfOr d t c0 = true) (hp : RepA w h c0 p) (hbe : h.be d t = some b) : p = .pointer none ∨ p = .pointer (some ⟨b, 0, none⟩) := by
 unfold selfOr at hs
 split at hs
 ·simp only [RepA, RepV] at hp; exact .inl hp
 ·rename_i d' t' off
  simp only [Bool.and_eq_true, Nat.beq_eq] at hs
  obtain ⟨⟨rfl, rfl⟩, rfl⟩ := hs
  simp only [RepA] at hp
  obtain ⟨b', hb', rfl⟩ := hp
  rw [hbe] at hb'; cases hb'
  exact .inr rfl
 ·cases hs
theorem bld_box {g : G} {w : World} {h : Gh} (hg : GI g w h) {d t : Nat} {bo : Box} (hbo : g.bx d t = some bo) {ty bt : Nat} (hty : bo.ty = (ty, bt)) (hty0 : ty ≠ 0) {i : Id} {es : List (List D)} (hin : bldIn d t bo = some (i, es)) :
  d ≤ g.dp ∧ IsBox i ∧ ∃ b p v1 l, h.be d t = some b ∧ w.heap[b]? = some (.cells #[p, v1] ty (0, 0)) ∧ (p = .pointer none ∨ p = .pointer (some ⟨b, 0, none⟩)) ∧ es = byteRow l ∧ Buf w h bt i v1 l ∧ v1.oneCell' = true ∧ (h.ga i ≠ some b) := by
 obtain ⟨hd, hoks, b, c, e, hbe, hheap, hrep, hone, _⟩ := hg.bx d t bo hbo
 obtain ⟨cells, frz, bty⟩ := bo
 dsimp only at hty hoks hrep hheap hin
 subst hty
 have he : e.1 = ty := by
  rcases e.2 with h0 | h0
  ·exact absurd h0 hty0
  ·exact h0.symm
 obtain ⟨c0, c1, rfl, hself, hin⟩ := bldIn_inv hin
 obtain ⟨hreps, hstr⟩ := hrep
 have hreps' := hreps
 simp only [RepAs] at hreps
 obtain ⟨p, us, hc, hp, v1, us', rfl, hv1, rfl⟩ := hreps
 have hcc : c = #[p, v1] := by
  rw [← Array.toList_inj, hc]
 subst hcc
 have hp' := selfOr_sound hself hp hbe
 have hga : ∀ i, h.ga i ≠ some b := fun i hi => hg.gaBx i b d t hi (by rw [hbo]; rfl) hbe
 rw [he] at hheap
 have h1 : v1.oneCell' = true := hone v1 (by simp)
 refine ⟨hd, ?_⟩
 rcases hin with ⟨rfl, rfl, rfl⟩ | rfl
 ·simp only [RepA, RepV] at hv1
  exact ⟨trivial, b, p, v1, [], hbe, hheap, hp', rfl, .inl ⟨hv1, rfl⟩, h1, hga _⟩
 ·obtain ⟨l, hl, hbuf⟩ := Buf.of (a := c0) (p := p) hv1 (hstr hty0)
  simp only [AV.oks, AV.ok] at hoks
  exact ⟨hoks.2.1, b, p, v1, l, hbe, hheap, hp', hl, hbuf, h1, hga _⟩
theorem bld_begin {g : G} {w : World} {h : Gh} (hg : GI g w h) (htb : Tb g h w) {d t : Nat} {bo : Box} (hbo : g.bx d t = some bo) (hfrz : bo.frz = false) {ty bt : Nat} (hty : bo.ty = (ty, bt)) (hty0 : ty ≠ 0) {i : Id} {es : List (List D)} (hib : IsBox i) {b : Nat} {p v1 : Value} {l : List UInt8}
  (hbe : h.be d t = some b) (hheap : w.heap[b]? = some (.cells #[p, v1] ty (0, 0))) (hes : es = byteRow l) (hbuf : Buf w h bt i v1 l) (h1 : v1.oneCell' = true) (hne : h.ga i ≠ some b) :
  ∃ s a, FI 1 s a (w.setRow b #[.pointer (some ⟨b, 0, none⟩), v1]) { h with df := [], flat := true } ∧ Rel g { h with df := [], flat := true } w s.g (w.setRow b #[.pointer (some ⟨b, 0, none⟩), v1]) { h with df := [], flat := true } ∧
   s.g.dp = g.dp + 1 ∧ (∀ t, s.fr t = false) ∧ s.g.lp = g.lp ∧ s.g.bx d t = some { bo with cells := [.ptr d t 0, .d (.sl 1 es)] } ∧ NoIn i s ∧ NoIn (.box d t 1) s ∧
   Buf (w.setRow b #[.pointer (some ⟨b, 0, none⟩), v1]) { h with df := [], flat := true } bt i v1 l ∧ s.g.bx = putBx (demBx (.box d t 1) (demBx i g.bx)) d t { bo with cells := [.ptr d t 0, .d (.sl 1 es)] } := by
 have hg' := hg.base [] true
 have si := SI.enter (h := { h with df := [], flat := true }) rfl hg' (args := []) (vs := []) (by simp [RepAs]) (by simp [AV.oks]) (n := 1) (Nat.zero_le _) htb
 have f0 := si.fi
 have r0 := si.rel
 obtain ⟨f1, n1⟩ := f0.dem i
 have r1 := r0.dem (s := { tm := argTm [], fr := fun _ => false, g := { g with dp := g.dp + 1 } }) i
 obtain ⟨f2, n2⟩ := f1.dem (.box d t 1)
 have r2 := Rel.dem (s := demSt i { tm := argTm [], fr := fun _ => false, g := { g with dp := g.dp + 1 } }) r1 (.box d t 1)
 have n1' := n1.dem (.box d t 1)
 have hbo2 : (demSt (.box d t 1) (demSt i { tm := argTm [], fr := fun _ => false, g := { g with dp := g.dp + 1 } })).g.bx d t = some { bo with cells := dems (.box d t 1) (dems i bo.cells) } := by
  show demBx (.box d t 1) (demBx i g.bx) d t = _
  rw [demBx_get (demBx_get hbo)]
 have hself : RepA w { h with df := [], flat := true } (.ptr d t 0) (.pointer (some ⟨b, 0, none⟩)) := by
  simp only [RepA]
  exact ⟨b, hbe, rfl⟩
 have hsl : RepA w { h with df := [], flat := true } (.d (.sl 1 es)) v1 := by
  have : RepA w { h with df := [], flat := true } (.own i 1 es) v1 := by
   rw [hes]
   exact (hbuf.mono (h' := { h with df := [], flat := true }) rfl (fun _ _ => ⟨rfl, rfl⟩)).own
  simp only [RepA]
  exact this.own_sl
 have hset := f2.setBox r2 hbo2 hfrz hbe (c' := #[.pointer (some ⟨b, 0, none⟩), v1]) hheap (cs' := [.ptr d t 0, .d (.sl 1 es)])
  ⟨by simp only [RepAs]; exact ⟨_, _, rfl, hself, _, _, rfl, hsl, rfl⟩, fun _ j sz es' u hj _ => by cases hj⟩
  (by
   refine ⟨?_, by simp only [AV.ok], trivial⟩
   simp only [AV.ok]
   exact ⟨Nat.le_refl _, by rw [hbo2]; rfl⟩)
  (by
   intro u hu
   simp only [List.mem_cons, List.not_mem_nil, or_false] at hu
   rcases hu with rfl | rfl
   ·rfl
   ·exact h1)
 refine ⟨_, _, hset.1, hset.2, rfl, fun _ => rfl, rfl, ?_, ?_, ?_, ?_, ?_⟩
 ·show putBx _ d t _ d t = _
  rw [putBx_eq, if_pos ⟨rfl, rfl⟩]
 ·refine ⟨n1'.1, ?_⟩
  intro d' t' bo' hb'
  have hq : putBx (demSt (.box d t 1) (demSt i { tm := argTm [], fr := fun _ => false, g := { g with dp := g.dp + 1 } })).g.bx d t _ d' t' = some bo' := hb'
  rw [putBx_eq] at hq
  split at hq
  ·cases hq; simp [AV.oks, AV.ok]
  ·exact n1'.2 d' t' bo' hq
 ·refine ⟨n2.1, ?_⟩
  intro d' t' bo' hb'
  have hq : putBx (demSt (.box d t 1) (demSt i { tm := argTm [], fr := fun _ => false, g := { g with dp := g.dp + 1 } })).g.bx d t _ d' t' = some bo' := hb'
  rw [putBx_eq] at hq
  split at hq
  ·cases hq; simp [AV.oks, AV.ok]
  ·exact n2.2 d' t' bo' hq
 ·refine hbuf.mono rfl fun b' hb' => ⟨rfl, setRow_other w b b' _ ?_⟩
  rintro rfl
  exact hne hb'
 ·rfl
theorem bld_end {g : G} {w : World} {h : Gh} (hg : GI g w h) {s : St} {a : Act} {w' : World} {h2 : Gh} {nt : Nat} (hf : FI nt s a w' h2) (hr : Rel g { h with df := [], flat := true } w s.g w' h2) (hdp : s.g.dp = g.dp + 1) (hlp : s.g.lp = g.lp) (hbx : ∀ t, s.g.bx (g.dp + 1) t = none) :
  ∃ h', GI { g with bx := s.g.bx } w' h' ∧ Rel g h w { g with bx := s.g.bx } w' h' := by
 have hlpd : ∀ r ∈ s.g.lp, r.dp ≤ g.dp := by
  intro r hr'
  rw [hlp] at hr'
  obtain ⟨l, hl⟩ := List.getElem?_of_mem hr'
  exact (hg.lp l r hl).1.2.1
 have gi := hf.gi.pop hdp hlpd
 have rl := hr.pop (Nat.le_refl _) (fun d t hs => by
  obtain ⟨bo, hbo⟩ := Option.isSome_iff_exists.1 hs
  exact (hg.bx d t bo hbo).1)
 have he : popG s.g (g.dp + 1) = { g with bx := s.g.bx } := by
  unfold popG
  rw [hlp]
  congr 1
  funext d t
  split
  ·rename_i e
   have e := Nat.eq_of_beq_eq_true e
   rw [e, hbx]
  ·rfl
 rw [he] at gi rl
 exact ⟨_, gi, rl.based⟩
theorem bldBx_top {g : G} {w : World} {h : Gh} (hg : GI g w h) {d t : Nat} (hd : d ≤ g.dp) (i j : Id) (bo : Box) (t' : Nat) : putBx (demBx j (demBx i g.bx)) d t bo (g.dp + 1) t' = none := by
 rw [putBx_eq, if_neg (by omega)]
 have : g.bx (g.dp + 1) t' = none := by
  cases hb : g.bx (g.dp + 1) t' with
  | none => rfl
  | some b => have := (hg.bx _ _ b hb).1; omega
 simp only [demBx, this]
end
end Go.Abs
