/- Raw rows that turn into owned ones: sound. -/
import Derived.Test.YtehkgiofchmpaaaDoorAbsOrd
namespace Go.Abs
open Go
set_option linter.unusedVariables false
set_option linter.unusedSimpArgs false
set_option linter.unnecessarySimpa false

theorem setRow_same (w : World) (b : Nat) (cc : Array Value) (e : TypeId) (hh : w.heap[b]? = some (.cells cc e (0, 0))) : w.setRow b cc = w := by
  have he : (w.setRow b cc).heap = w.heap := by
    apply Array.ext_getElem?
    intro i
    by_cases hi : i = b
    · subst hi; rw [setRow_heap w i cc cc e (0, 0) hh, hh]
    · rw [setRow_other w b i cc hi]
  calc w.setRow b cc = { w with heap := (w.setRow b cc).heap } := rfl
    _ = w := by rw [he]

theorem renGa_same (ga : Id → Option Nat) (i : Id) : renGa ga i i = ga := by
  funext k
  unfold renGa
  split
  · rename_i e; rw [e]
  · rfl

section
variable {P : Program} {T : Nat → Option TI} {g0 : G} {h0 : Gh} {w0 : World} {nt : Nat}

/-- What a raw row of the frame comes to, when all others let it go and its cells are given up. -/
theorem FI.cook {s : St} {a : Act} {w : World} {h : Gh} (hf : FI nt s a w h) (hr : Rel g0 h0 w0 s.g w h) (hdp : g0.dp < s.g.dp) {k : Nat} {i : Id} {sz : Nat} {es : List (List D)} {v : Value} (hrep : RepA w h (.raw none k i sz es) v)
    (hi : TmQ s.fr s.g.dp i) : ∃ h', FI nt (demSt i s) a w h' ∧ Rel g0 h0 w0 (demSt i s).g w h' ∧ RepA w h' (.own i sz es) v ∧ h'.be = h.be := by
  obtain ⟨f1, n1⟩ := hf.dem i
  have r1 := hr.dem i
  simp only [RepA] at hrep
  rcases hrep with ⟨_, _, h1⟩ | ⟨_, h1, _⟩ | ⟨b, n, c, vs, cc, e, hv, hm, hn, hc, hkn, hs, hrf, hg, hL, hh, hrm, hcells⟩
  · exact ⟨h, f1, r1, full_own h1, rfl⟩
  · cases h1
  · have hid : ∀ d t k, i = .tmp d t k → g0.dp < d := by
      intro d t k e
      subst e
      rw [hi.1]; exact hdp
    have hjd : ∀ d t k, i = .tmp d t k → d = (demSt i s).g.dp := by
      intro d t k e
      subst e
      exact hi.1
    obtain ⟨f2, r2⟩ := f1.extend r1 (i := i) (j := i) n1 n1 hid hjd hdp (b := b) (m := k * sz) (n := n * sz) (cc := cc) (cc' := cc) hg hh hL (Nat.mul_le_mul_right _ hkn) (fun _ _ => rfl)
    rw [setRow_same w b cc e hh] at f2 r2
    have hE : Ext w h.L w (LNew h.L b (n * sz)) := by
      refine ⟨fun q => ?_, fun _ _ _ => rfl⟩
      unfold LNew
      split
      · rename_i e; rw [e, hL]; exact Nat.mul_le_mul_right _ hkn
      · exact Nat.le_refl _
    refine ⟨_, f2, r2, ?_, rfl⟩
    rw [renGa_same]
    simp only [RepA]
    exact .inr ⟨b, n, c, vs, cc, e, hv, hn, hc, hs, RepF.ext hE _ _ hrf, hg, by simp [LNew], hh, hrm, hcells⟩

theorem cook1_g (p : Nat × Option Nat) (s : St) : (cook1 p s).g.dp = s.g.dp ∧ (cook1 p s).g.lp = s.g.lp := by
  unfold cook1
  repeat' split
  all_goals first
    | exact ⟨rfl, rfl⟩
    | (dsimp only; split <;> exact ⟨rfl, rfl⟩)

theorem cook1_sound {p : Nat × Option Nat} {s : St} {a : Act} {w : World} {h : Gh} (hf : FI nt s a w h) (hr : Rel g0 h0 w0 s.g w h) (hdp : g0.dp < s.g.dp) :
    ∃ h', FI nt (cook1 p s) a w h' ∧ Rel g0 h0 w0 (cook1 p s).g w h' := by
  unfold cook1
  split
  · rename_i t
    split
    · rename_i k i sz es ht
      obtain ⟨h1, h2⟩ := hf.tm t _ ht
      simp only [AV.ok] at h2
      obtain ⟨h', f1, r1, q1, _⟩ := hf.cook hr hdp h1 h2
      exact ⟨h', f1.retm q1 (by simp only [AV.ok]; exact h2), r1⟩
    · exact ⟨h, hf, hr⟩
  · rename_i t off'
    split
    case h_2 => exact ⟨h, hf, hr⟩
    rename_i d u o htp
    generalize o + off' = off
    split
    · rename_i bo hbo
      split
      · rename_i k i sz es hlock hce
        obtain ⟨g1, g2, b, c, e, g3, g4, ⟨g5, -⟩, g6, g7⟩ := hf.gi.bx _ u bo hbo
        obtain ⟨hfrz, htyz⟩ := Box.unlock hlock
        have hlt : off < bo.cells.length := (List.getElem?_eq_some_iff.1 hce).1
        have hlc : c.toList.length = bo.cells.length := g5.length
        have hget : ∀ {as : List AV} {vs : List Value} {j : Nat} {x : AV}, RepAs w h as vs → as[j]? = some x → ∃ u, vs[j]? = some u ∧ RepA w h x u := by
          intro as
          induction as with
          | nil => intro vs j x _ hx; simp at hx
          | cons y ys ih =>
            intro vs j x hra hx
            simp only [RepAs] at hra
            obtain ⟨u, us, rfl, k1, k2⟩ := hra
            cases j with
            | zero => simp at hx; subst hx; exact ⟨u, rfl, k1⟩
            | succ j => simpa using ih k2 (by simpa using hx)
        obtain ⟨uv, hu, hru⟩ := hget g5 hce
        have hib : IsBox i := by
          have := oks_mem g2 _ (List.mem_of_getElem? hce)
          simpa only [AV.ok] using this
        have hq : TmQ s.fr s.g.dp i := by cases i <;> first | trivial | exact hib.elim
        obtain ⟨h', f1, r1, q1, q2⟩ := hf.cook hr hdp hru hq
        dsimp only
        have hb1 : (demSt i s).g.bx d u = some { bo with cells := dems i bo.cells } := by
          show demBx i s.g.bx d u = _
          unfold demBx
          rw [hbo]
        rw [hb1]
        dsimp only
        obtain ⟨e1, e2, b2, c2, e3, k3, k4, ⟨k5, -⟩, k6, k7⟩ := f1.gi.bx _ u _ hb1
        rw [q2, g3] at k3
        cases k3
        rw [g4] at k4
        obtain ⟨k8, -⟩ : c = c2 ∧ True := by simp only [Option.some.injEq, Obj.cells.injEq] at k4; exact ⟨k4.1, trivial⟩
        subst k8
        have hl1 : (setCells (dems i bo.cells) off [AV.own i sz es]) = (dems i bo.cells).take off ++ [AV.own i sz es] ++ (dems i bo.cells).drop (off + 1) := rfl
        have hc1 : c.toList = c.toList.take off ++ [uv] ++ c.toList.drop (off + 1) := by
          have h1 : off < c.toList.length := by omega
          have h2 : c.toList[off] = uv := by
            have := List.getElem?_eq_getElem h1
            rw [this] at hu; exact Option.some.inj hu
          rw [← h2, List.append_assoc, List.singleton_append, List.getElem_cons_drop]
          exact (List.take_append_drop off c.toList).symm
        obtain ⟨n1, n2⟩ := f1.setBox r1 (d := d) (u := u) (b := b) hb1 hfrz (by rw [q2, g3]) g4 (c' := c) (cs' := setCells (dems i bo.cells) off [AV.own i sz es])
          (by
            refine RepBx.plain ?_ htyz
            rw [hl1, hc1]
            exact (k5.take.append (show RepAs w h' [AV.own i sz es] [uv] by simp only [RepAs]; exact ⟨uv, [], rfl, q1, rfl⟩)).append k5.drop)
          (by
            rw [hl1]
            refine oks_append (oks_append ?_ ⟨?_, trivial⟩) ?_
            · exact oks_of fun y hy => oks_mem e2 y (List.mem_of_mem_take hy)
            · simpa only [AV.ok] using hib
            · exact oks_of fun y hy => oks_mem e2 y (List.mem_of_mem_drop hy))
          k6
        rw [setRow_same w b c e.1 g4] at n1 n2
        exact ⟨h', n1, n2⟩
      · exact ⟨h, hf, hr⟩
    · exact ⟨h, hf, hr⟩

theorem cookAll_sound : ∀ (ps : List (Nat × Option Nat)) {s : St} {a : Act} {w : World} {h : Gh}, SI nt g0 h0 w0 s a w h → ∃ h', SI nt g0 h0 w0 (cookAll ps s) a w h'
  | [], s, a, w, h, hsi => ⟨h, hsi⟩
  | p :: ps, s, a, w, h, hsi => by
    obtain ⟨h', f1, r1⟩ := cook1_sound (p := p) hsi.fi hsi.rel hsi.hdp
    obtain ⟨e1, e2⟩ := cook1_g p s
    exact cookAll_sound ps ⟨f1, r1, by rw [e1]; exact hsi.dp, by rw [e2]; exact hsi.lps, hsi.nd, hsi.dnew, hsi.lpd, hsi.bxd⟩

theorem cooked_ok {R : Type} {k : Ex → St → Option R} {r : R} {ps : List (Nat × Option Nat)} {Q : Exit → Act → World → Prop} (hk : ExOk k r nt g0 h0 w0 Q) : ExOk (cooked k ps) r nt g0 h0 w0 Q := by
  intro ex s' a' w' h' hsi hs
  cases ex with
  | normal =>
    obtain ⟨h2, hsi2⟩ := cookAll_sound ps hsi
    exact hk .normal _ a' w' h2 hsi2 hs
  | exit id => exact hk (.exit id) s' a' w' h' hsi hs
  | goto l => exact hk (.goto l) s' a' w' h' hsi hs
  | ret => exact hk .ret s' a' w' h' hsi hs
  | panic x => exact hk (.panic x) s' a' w' h' hsi hs
end
end Go.Abs
