/- Steps of a frame: the operations that touch its boxes and rows. -/
import Derived.Test.YtehkgiofchmpaaaDoorAbsInv
namespace Go.Abs
open Go
set_option linter.unusedVariables false
set_option linter.unusedSimpArgs false

theorem getD_put (a : Act) (d t : Nat) (u : Value) (hd : d < a.tmps.size) : (a.put (some d) u).tmps.getD t undef = if t = d then u else a.tmps.getD t undef := by
  simp only [Act.put, Array.getD_eq_getD_getElem?]
  by_cases h : t = d
  · subst h; simp [hd]
  · rw [Array.getElem?_setIfInBounds_ne (Ne.symm h), if_neg h]

theorem upd_some {tm : Nat → Option AV} {d t : Nat} {v v' : AV} (h : upd tm d (some v) t = some v') : (t = d ∧ v' = v) ∨ (t ≠ d ∧ tm t = some v') := by
  unfold upd at h
  by_cases ht : t = d
  · subst ht; simp at h; exact .inl ⟨rfl, h.symm⟩
  · rw [if_neg (by simpa using ht)] at h; exact .inr ⟨ht, h⟩

theorem FI.put {nt : Nat} {s : St} {a : Act} {w : World} {h : Gh} (hf : FI nt s a w h) {d : Nat} (hd : d < nt) {v : AV} {u : Value} (hr : RepA w h v u)
    (hok : v.ok (TmQ s.fr s.g.dp) (KG s.g s.g.dp) (YG s.g s.g.dp)) : FI nt { s with tm := upd s.tm d (some v) } (a.put (some d) u) w h where
  size := by simp [Act.put, hf.size]
  tm := fun t v' hv => by
    rw [getD_put a d t u (by rw [hf.size]; exact hd)]
    rcases upd_some hv with ⟨rfl, rfl⟩ | ⟨hne, hv⟩
    · rw [if_pos rfl]; exact ⟨hr, hok⟩
    · rw [if_neg hne]; exact hf.tm t v' hv
  gi := hf.gi
  dfr := hf.dfr

section
variable {Q : Id → Prop} {K : Nat → Nat → Prop} {Y : Nat → Prop}

theorem cv_ok {v : Value} {a : AV} (h : cv v = some a) : a.ok Q K Y := by
  obtain ⟨x, rfl⟩ := cv_d h
  simp [AV.ok]

theorem ev_ok {tm : Nat → Option AV} (ht : ∀ t v, tm t = some v → v.ok Q K Y) {x : Operand} {v : AV} (h : ev tm x = some v) : v.ok Q K Y := by
  cases x with
  | tmp t => exact ht t v h
  | const c => exact cv_ok h
  | func f => simp [ev] at h; subst h; simp [AV.ok]
  | global g => simp [ev] at h

theorem oks_get : ∀ {xs : List AV} {i : Nat} {v : AV}, AV.oks Q K Y xs → xs[i]? = some v → v.ok Q K Y
  | [], _, _, _, h => by simp at h
  | x :: xs, i, v, ho, h => by
    simp only [AV.oks] at ho
    cases i with
    | zero => simp at h; subst h; exact ho.1
    | succ i => exact oks_get ho.2 (by simpa using h)

theorem oks_of : ∀ {xs : List AV}, (∀ x ∈ xs, x.ok Q K Y) → AV.oks Q K Y xs
  | [], _ => by simp [AV.oks]
  | x :: xs, h => by
    simp only [AV.oks]
    exact ⟨h x (by simp), oks_of fun y hy => h y (by simp [hy])⟩

theorem oks_mem : ∀ {xs : List AV}, AV.oks Q K Y xs → ∀ x ∈ xs, x.ok Q K Y
  | [], _, x, hx => by simp at hx
  | y :: ys, h, x, hx => by
    simp only [AV.oks] at h
    simp only [List.mem_cons] at hx
    rcases hx with rfl | hx
    · exact h.1
    · exact oks_mem h.2 x hx

theorem oks_d (xs : List D) : AV.oks Q K Y (xs.map .d) := oks_of (by intro x hx; simp at hx; obtain ⟨y, _, rfl⟩ := hx; simp [AV.ok])

theorem oks_append {xs ys : List AV} (h1 : AV.oks Q K Y xs) (h2 : AV.oks Q K Y ys) : AV.oks Q K Y (xs ++ ys) := oks_of (by
  intro x hx
  rcases List.mem_append.1 hx with hx | hx
  · exact oks_mem h1 x hx
  · exact oks_mem h2 x hx)

theorem semV_d {s : Sem Value} {a : AV} (h : semV s = some a) : ∃ x, a = .d x := by
  cases s with
  | pure v =>
    simp only [semV] at h
    cases hv : vD v with
    | none => simp [hv] at h
    | some x => simp [hv] at h; exact ⟨x, h.symm⟩
  | _ => simp [semV] at h

theorem elem_ok {n : Nat} {e : List D} {a : AV} (h : a.ok Q K Y) : (AV.elem n e a).ok Q K Y := by
  cases a with
  | raw o k i z es =>
    cases o with
    | none => simpa only [AV.elem, AV.ok] using h
    | some m => simp [AV.elem, AV.ok]
  | old o z m => cases o <;> simp [AV.elem, AV.ok]
  | _ => simp [AV.elem, AV.ok]

theorem lenA_ok {T : Nat → Option TI} {E : Operand → Option AV} {c : Call} {v : AV} (hv : lenA T E c = some v) : v.ok Q K Y := by
  unfold lenA opLen extA at hv
  repeat' (split at hv <;> try (cases hv; done))
  all_goals (simp at hv; subst hv; simp [AV.ok])

/-- What an operation that only computes hands back. -/
theorem opP_ok {T : Nat → Option TI} {tm : Nat → Option AV} (ht : ∀ t v, tm t = some v → v.ok Q K Y) {o : Op} {v : AV} (hv : opP T (ev tm) o = some v) : v.ok Q K Y := by
  unfold opP at hv
  split at hv
  · exact ev_ok ht hv
  · exact ev_ok ht hv
  · split at hv
    · exact ev_ok ht hv
    · exact ev_ok ht hv
    · cases hv
  · split at hv
    · split at hv
      · split at hv
        · simp at hv; subst hv; simp [AV.ok]
        · cases hv
      · cases hv
    · cases hv
  · split at hv
    · split at hv
      · rename_i hx
        simp at hv; subst hv
        have := ev_ok ht hx
        simpa only [AV.ok] using this
      · split at hv
        · simp at hv; subst hv; simp [AV.ok]
        · cases hv
      · cases hv
    · cases hv
  · repeat' (split at hv <;> try (cases hv; done))
    rename_i a hx _ _ _ _ _ _ _ _ _ _ _ _ _
    cases hv
    exact elem_ok (ev_ok ht (by assumption))
  · repeat' (split at hv <;> try (cases hv; done))
    all_goals (simp at hv; subst hv; simp [AV.ok])
  · repeat' (split at hv <;> try (cases hv; done))
    · unfold sliceD at hv
      repeat' (split at hv <;> try (cases hv; done))
      all_goals first
        | (simp at hv; subst hv; simp [AV.ok]; done)
        | (simp at hv; obtain ⟨_, rfl⟩ := hv; simp [AV.ok])
    · simp at hv; subst hv; simp [AV.ok]
  · split at hv
    · rename_i hx
      have := ev_ok ht hx
      simp only [AV.ok] at this
      exact oks_get this hv
    · cases hv
  · split at hv
    · rename_i hx
      cases hv
      exact ev_ok ht hx
    · rename_i hx
      cases hv
      exact ev_ok ht hx
    · cases hv
  · split at hv
    · split at hv
      · rename_i hob
        cases hv
        unfold opB at hob
        repeat' (split at hob <;> try (cases hob; done))
        obtain ⟨x, rfl⟩ := semV_d hob
        simp [AV.ok]
      · unfold eqA at hv
        repeat' (split at hv <;> try (cases hv; done))
        all_goals (cases hv; simp [AV.ok])
    · cases hv
  · split at hv
    · split at hv
      · obtain ⟨x, rfl⟩ := semV_d hv
        simp [AV.ok]
      · cases hv
    · cases hv
  · repeat' (split at hv <;> try (cases hv; done))
    all_goals (cases hv; simp [AV.ok])
  · unfold zeroT at hv
    repeat' (split at hv <;> try (cases hv; done))
    all_goals (cases hv; simp [AV.ok, AV.oks])
  · repeat' (split at hv <;> try (cases hv; done))
    all_goals (cases hv; simp [AV.ok])
  · exact lenA_ok hv
  · cases hv
end

/-- How an operation ends that is no call of Go code. -/
def Did (o : Oper) (a : Act) (nx : Next) (a' : Act) : Prop := (∃ u, nx = .value u ∧ a' = a.put o.dst u) ∨ (nx = .skip ∧ a' = a.put o.dst undef)

section
variable {P : Program} {T : Nat → Option TI} {g0 : G} {h0 : Gh} {w0 : World} {nt : Nat}

/-- A step of the frame. -/
def Steps1 (P : Program) (nt : Nat) (g0 : G) (h0 : Gh) (w0 : World) (o : Oper) (s' : St) (a : Act) (w : World) : Prop :=
  ∃ nx w' a' h', (execOp a.eval o).run P w = .ok nx w' ∧ Did o a nx a' ∧ FI nt s' a' w' h' ∧ Rel g0 h0 w0 s'.g w' h'

theorem step_value {o : Oper} {d : Nat} (hdst : o.dst = some d) (hd : d < nt) {s : St} {a : Act} {w : World} {h : Gh} (hf : FI nt s a w h) (hr : Rel g0 h0 w0 s.g w h) {v : AV} {u : Value}
    (hrun : (execOp a.eval o).run P w = .ok (.value u) w) (hrep : RepA w h v u) (hok : v.ok (TmQ s.fr s.g.dp) (KG s.g s.g.dp) (YG s.g s.g.dp)) :
    Steps1 P nt g0 h0 w0 o { s with tm := upd s.tm d (some v) } a w :=
  ⟨_, w, _, h, hrun, .inl ⟨u, rfl, rfl⟩, by rw [hdst]; exact hf.put hd hrep hok, hr⟩

/-! ### Load -/
theorem loadA_sound (hT : TyOk P T) {g : G} {w : World} {h : Gh} (hg : GI g w h) {t : TypeId} {p v : AV} {pv : Value} {n : Nat} (hv : loadA T g.bx t p = some v) (hp : RepA w h p pv)
    {Q : Id → Prop} {Y : Nat → Prop} (hQ : ∀ i, IsBox i → Q i) (hok : p.ok Q (KG g n) Y) (hY : ∀ l, YG g n l → Y l) :
    ∃ u, (Instr.loadAt t pv).run P w = .ok u w ∧ RepA w h v u ∧ v.ok Q (KG g n) Y := by
  unfold loadA at hv
  cases hti : T t with
  | none => simp [hti] at hv
  | some ti =>
    simp only [hti] at hv
    have hty := hT t ti hti
    obtain ⟨dd, hud, hagg, _⟩ := hty.desc
    split at hv
    · -- a box
      rename_i d u off
      simp only [RepA] at hp
      obtain ⟨b, hb, rfl⟩ := hp
      cases hbo : g.bx d u with
      | none => simp [hbo] at hv
      | some bo =>
        simp only [hbo] at hv
        obtain ⟨hd, hoks, b', c, e, hb', hheap, ⟨hrep, -⟩, h1, hL⟩ := hg.bx d u bo hbo
        rw [hb] at hb'; cases hb'
        have hcell : ∀ k v, c.toList[k]? = some v → w.cell? ⟨b, k, none⟩ = some v := by
          intro k v hk
          simp only [World.cell?, hheap]
          simpa using hk
        split at hv
        · -- a struct
          rename_i hat
          cases hds : AV.datas ((bo.cells.drop off).take ti.size) with
          | none => simp [hds] at hv
          | some cs =>
            simp only [hds] at hv
            split at hv
            case isFalse => cases hv
            rename_i hlen
            simp only [Option.some.injEq] at hv; subst hv
            have hlen' : cs.length = ti.size := by simpa using hlen
            have hsub : RepAs w h ((bo.cells.drop off).take ti.size) ((c.toList.drop off).take ti.size) := (hrep.drop).take
            have hvs := RepAs.datas _ _ _ hds hsub
            have hl2 := hvs.length
            refine ⟨.agg ((c.toList.drop off).take ti.size).toArray, ?_, ?_, by simp [AV.ok]⟩
            · refine Go.run_loadAt_mid w b off t _ dd ?_ hud (by rw [hagg, hat]) ?_
              · intro j v hj
                rw [List.getElem?_take] at hj
                split at hj
                · rw [List.getElem?_drop] at hj
                  exact hcell (off + j) v hj
                · cases hj
              · rw [hty.sizeMap, hl2, hlen']
            · simp only [RepA, RepV]
              refine ⟨_, rfl, by simpa using hvs, ?_⟩
              intro u hu
              simp only [List.toList_toArray] at hu
              exact h1 u (List.mem_of_mem_drop (List.mem_of_mem_take hu))
        · -- one cell
          rename_i hat
          obtain ⟨u', hu', hru⟩ := hrep.get hv
          refine ⟨u', ?_, hru, ?_⟩
          · have hna : (isAgg t).run P w = .ok false w := by
              unfold isAgg
              rw [Sem.run_bind, run_underlying hud w]
              rw [hat] at hagg
              cases dd <;> simp_all
            have := hcell off u' hu'
            simp [Instr.loadAt, Instr.sureAddr, loadVar, hna, this]
          · have := oks_get hoks hv
            simp only [AV.ok] at hok
            refine AV.ok.mono hQ (fun d' t' (hk : KG g d d' t') => ⟨Nat.le_trans hk.1 hok.1, hk.2⟩) (fun l (hl : YG g d l) => hY l ?_) _ this
            obtain ⟨r, h1, h2⟩ := hl
            exact ⟨r, h1, Nat.lt_of_lt_of_le h2 hok.1⟩
    · -- what never turns
      rename_i cs
      simp only [RepA, RepV] at hp
      obtain ⟨b, o, vs, rfl, hrep, hl, hc⟩ := hp
      split at hv
      · rename_i hat
        split at hv
        case isFalse => cases hv
        rename_i hlen
        have hlen' : ti.size ≤ cs.length := by simpa using hlen
        simp only [Option.some.injEq] at hv; subst hv
        have hvs : RepVs w h.L (cs.take ti.size) (vs.take ti.size) := hrep.take
        have hl2 := hvs.length
        refine ⟨.agg (vs.take ti.size).toArray, ?_, ?_, by simp [AV.ok]⟩
        · refine Go.run_loadAt_mid w b o t _ dd (hc.take _).range hud (by rw [hagg, hat]) ?_
          rw [hty.sizeMap, hl2]
          simp
          omega
        · simp only [RepA, RepV]
          refine ⟨_, rfl, by simpa using hvs, ?_⟩
          intro u hu
          simp only [List.toList_toArray] at hu
          exact hc.one u (List.mem_of_mem_take hu)
      · rename_i hat
        cases hcs : cs[0]? with
        | none => simp [hcs] at hv
        | some x =>
          simp only [hcs, Option.some.injEq] at hv; subst hv
          obtain ⟨u', hu', hru⟩ := hrep.get hcs
          refine ⟨u', ?_, by simpa only [RepA] using hru, by simp [AV.ok]⟩
          have hna : (isAgg t).run P w = .ok false w := by
            unfold isAgg
            rw [Sem.run_bind, run_underlying hud w]
            rw [hat] at hagg
            cases dd <;> simp_all
          have := (hc 0 u' hu').1
          simp only [Nat.add_zero] at this
          simp [Instr.loadAt, Instr.sureAddr, loadVar, hna, this]
    · cases hv

/-! ### Letting a name go -/
theorem demBx_some {i : Id} {bx : Nat → Nat → Option Box} {d t : Nat} {bo : Box} (h : demBx i bx d t = some bo) : ∃ b, bx d t = some b ∧ bo = { b with cells := dems i b.cells } := by
  unfold demBx at h
  cases hb : bx d t with
  | none => simp [hb] at h
  | some b => simp [hb] at h; exact ⟨b, rfl, h.symm⟩

theorem demBx_isSome (i : Id) (bx : Nat → Nat → Option Box) (d t : Nat) : (demBx i bx d t).isSome = (bx d t).isSome := by
  unfold demBx
  cases bx d t <;> rfl

theorem demTm_some {i : Id} {tm : Nat → Option AV} {t : Nat} {v : AV} (h : demTm i tm t = some v) : ∃ u, tm t = some u ∧ v = dem i u := by
  unfold demTm at h
  cases hb : tm t with
  | none => simp [hb] at h
  | some b => simp [hb] at h; exact ⟨b, rfl, h.symm⟩

def NoIn (i : Id) (s : St) : Prop :=
  (∀ t v, s.tm t = some v → v.ok (· ≠ i) (fun _ _ => True) (fun _ => True)) ∧ ∀ d t bo, s.g.bx d t = some bo → AV.oks (· ≠ i) (fun _ _ => True) (fun _ => True) bo.cells

mutual
  theorem AV.ok.and {Q Q' : Id → Prop} {K K' : Nat → Nat → Prop} {Y Y' : Nat → Prop} : ∀ (a : AV), a.ok Q K Y → a.ok Q' K' Y' → a.ok (fun i => Q i ∧ Q' i) K Y
    | .d _, _, _ => by simp [AV.ok]
    | .own i _ _, h, h' => by simp only [AV.ok] at h h' ⊢; exact ⟨h, h'⟩
    | .ptr d1 t _, h, _ => by simpa only [AV.ok] using h
    | .fn _ caps, h, _ => by simpa only [AV.ok] using h
    | .tup xs, h, h' => by simp only [AV.ok] at h h' ⊢; exact AV.oks.and xs h h'
    | .yld l, h, _ => by simpa only [AV.ok] using h
    | .raw _ _ i _ _, h, h' => by simp only [AV.ok] at h h' ⊢; exact ⟨h, h'⟩
    | .old _ _ _, _, _ => by simp [AV.ok]
  theorem AV.oks.and {Q Q' : Id → Prop} {K K' : Nat → Nat → Prop} {Y Y' : Nat → Prop} : ∀ (as : List AV), AV.oks Q K Y as → AV.oks Q' K' Y' as → AV.oks (fun i => Q i ∧ Q' i) K Y as
    | [], _, _ => by simp [AV.oks]
    | a :: as, h, h' => by simp only [AV.oks] at h h' ⊢; exact ⟨AV.ok.and a h.1 h'.1, AV.oks.and as h.2 h'.2⟩
end

mutual
  theorem AV.ok.top {Q : Id → Prop} {K : Nat → Nat → Prop} {Y : Nat → Prop} : ∀ (a : AV), a.ok Q K Y → a.ok (fun _ => True) (fun _ _ => True) (fun _ => True)
    | a, h => AV.ok.mono (fun _ _ => trivial) (fun _ _ _ => trivial) (fun _ _ => trivial) a h
end

theorem NoIn.dem {i : Id} (j : Id) {s : St} (h : NoIn i s) : NoIn i (demSt j s) := by
  refine ⟨fun t v hv => ?_, fun d t bo hb => ?_⟩
  · obtain ⟨u, hu, rfl⟩ := demTm_some hv
    exact AV.ok.mono (fun _ h => h.1) (fun _ _ h => h) (fun _ h => h) _ (AV.ok.dem j u (h.1 t u hu))
  · obtain ⟨b, hb', rfl⟩ := demBx_some hb
    exact AV.oks.mono (fun _ h => h.1) (fun _ _ h => h) (fun _ h => h) _ (AV.oks.dem j _ (h.2 d t b hb'))

theorem FI.dem {s : St} {a : Act} {w : World} {h : Gh} (hf : FI nt s a w h) (i : Id) : FI nt (demSt i s) a w h ∧ NoIn i (demSt i s) := by
  have hK : ∀ n d t, KG s.g n d t → KG (demSt i s).g n d t := fun n d t hk => ⟨hk.1, by
    show (demBx i s.g.bx d t).isSome = true
    rw [demBx_isSome]; exact hk.2⟩
  refine ⟨⟨hf.size, ?_, ?_, hf.dfr⟩, ?_, ?_⟩
  · intro t v hv
    obtain ⟨u, hu, rfl⟩ := demTm_some hv
    obtain ⟨h1, h2⟩ := hf.tm t u hu
    exact ⟨h1.dem i u _, AV.ok.mono (fun _ h => h.1) (fun d t hk => hK _ d t hk) (fun _ h => h) _ (AV.ok.dem i u h2)⟩
  · refine { bx := ?_, inj := ?_, gaBx := ?_, gaInj := hf.gi.gaInj, gaLt := hf.gi.gaLt, gaC := hf.gi.gaC, lim := hf.gi.lim, lp := ?_, roInj := hf.gi.roInj, gaTop := hf.gi.gaTop }
    · intro d t bo hb
      obtain ⟨b, hb', rfl⟩ := demBx_some hb
      obtain ⟨h1, h2, b', c, e, h3, h4, h5, h6, h7⟩ := hf.gi.bx d t b hb'
      exact ⟨h1, AV.oks.mono (fun _ h => h.1) (fun d t hk => hK _ d t hk) (fun _ h => h) _ (AV.oks.dem i _ h2), b', c, e, h3, h4, RepBx.dem i _ _ h5, h6, h7⟩
    · intro d t d' t' b h1 h2 h3 h4
      simp only [demSt, demBx_isSome] at h1 h2
      exact hf.gi.inj d t d' t' b h1 h2 h3 h4
    · intro j b d t h1 h2
      simp only [demSt, demBx_isSome] at h2
      exact hf.gi.gaBx j b d t h1 h2
    · intro l r hl
      obtain ⟨hp, D, tmps, h1, h2, h3, h4⟩ := hf.gi.lp l r hl
      refine ⟨hp, D, tmps, h1, h2, h3, fun t v hv => ?_⟩
      obtain ⟨h5, h6⟩ := h4 t v hv
      exact ⟨h5, AV.ok.mono (fun _ h => h) (fun d t hk => hK _ d t hk) (fun _ h => h) _ h6⟩
  · intro t v hv
    obtain ⟨u, hu, rfl⟩ := demTm_some hv
    exact AV.ok.mono (fun _ h => h.2) (fun _ _ h => h) (fun _ h => h) _ (AV.ok.dem i u (AV.ok.top u (hf.tm t u hu).2))
  · intro d t bo hb
    obtain ⟨b, hb', rfl⟩ := demBx_some hb
    obtain ⟨_, h2, _⟩ := hf.gi.bx d t b hb'
    exact AV.oks.mono (fun _ h => h.2) (fun _ _ h => h) (fun _ h => h) _ (AV.oks.dem i _ (AV.oks.mono (fun _ _ => trivial) (fun _ _ _ => trivial) (fun _ _ => trivial) _ h2))

theorem Rel.dem {s : St} {w : World} {h : Gh} (hr : Rel g0 h0 w0 s.g w h) (i : Id) : Rel g0 h0 w0 (demSt i s).g w h :=
  { hr with
    bxs := fun d t hs => by
      obtain ⟨a1, a2⟩ := hr.bxs d t hs
      exact ⟨by show (demBx i s.g.bx d t).isSome = true; rw [demBx_isSome]; exact a1, a2⟩
    bxMay := fun d t b hs hb => hr.bxMay d t b (by simpa only [demSt, demBx_isSome] using hs) hb }

def renGa (ga : Id → Option Nat) (i j : Id) : Id → Option Nat := fun k => if k = j then ga i else if k = i then none else ga k

theorem Owned.ren {w : World} {h : Gh} {i j : Id} {sz : Nat} {es : List (List D)} {v : Value} (hr : RepA w h (.own i sz es) v) : RepA w { h with ga := renGa h.ga i j } (.own j sz es) v := by
  simp only [RepA] at hr ⊢
  rcases hr with hr | ⟨b, n, c, vs, cc, e, h1, h2, h3, h4, h5, h6, h7⟩
  · exact .inl hr
  · exact .inr ⟨b, n, c, vs, cc, e, h1, h2, h3, h4, h5, by simp [renGa, h6], h7⟩

theorem RawRow.ren {w : World} {h : Gh} {i j : Id} {o : Option Nat} {k sz : Nat} {es : List (List D)} {v : Value} (hr : RepA w h (.raw o k i sz es) v) : RepA w { h with ga := renGa h.ga i j } (.raw o k j sz es) v := by
  simp only [RepA] at hr ⊢
  rcases hr with hr | hr | ⟨b, n, c, vs, cc, e, h1, h2, h3, h4, h4', h5, h6, h7, h8⟩
  · exact .inl hr
  · exact .inr (.inl hr)
  · exact .inr (.inr ⟨b, n, c, vs, cc, e, h1, h2, h3, h4, h4', h5, h6, by simp [renGa, h7], h8⟩)

/-- A row goes over to another name. -/
theorem FI.ren {s : St} {a : Act} {w : World} {h : Gh} (hf : FI nt s a w h) {i j : Id} (hi : NoIn i s) (hj : NoIn j s) (hjd : ∀ d t k, j = .tmp d t k → d ≤ s.g.dp) :
    FI nt s a w { h with ga := renGa h.ga i j } := by
  have hga : ∀ k b, (k ≠ i ∧ k ≠ j) → h.ga k = some b → renGa h.ga i j k = some b ∧ h.L b = h.L b ∧ w.heap[b]? = w.heap[b]? := fun k b hk hb => by
    refine ⟨?_, rfl, rfl⟩
    unfold renGa
    rw [if_neg hk.2, if_neg hk.1, hb]
  have inv : ∀ k b, renGa h.ga i j k = some b → (k = j ∧ h.ga i = some b) ∨ (k ≠ j ∧ k ≠ i ∧ h.ga k = some b) := by
    intro k b hk
    unfold renGa at hk
    split at hk
    · rename_i e; exact .inl ⟨e, hk⟩
    · split at hk
      · cases hk
      · rename_i h1 h2; exact .inr ⟨h1, h2, hk⟩
  refine ⟨hf.size, ?_, ?_, hf.dfr⟩
  · intro t v hv
    obtain ⟨h1, h2⟩ := hf.tm t v hv
    exact ⟨RepA.ext (h := h) (h' := { h with ga := renGa h.ga i j }) (Ext.refl w h.L) (fun _ _ _ _ h => h) (fun _ _ => rfl) hga v _ (AV.ok.and v (AV.ok.mono (fun _ h => h) (fun _ _ h => h) (fun _ h => h) _ (hi.1 t v hv)) (hj.1 t v hv)) h1, h2⟩
  · refine { bx := ?_, inj := hf.gi.inj, gaBx := ?_, gaInj := ?_, gaLt := ?_, gaC := ?_, lim := hf.gi.lim, lp := ?_, roInj := hf.gi.roInj, gaTop := ?_ }
    · intro d t bo hb
      obtain ⟨h1, h2, b', c, e, h3, h4, h5, h6, h7⟩ := hf.gi.bx d t bo hb
      refine ⟨h1, h2, b', c, e, h3, h4, ?_, h6, h7⟩
      exact RepBx.ext (h := h) (h' := { h with ga := renGa h.ga i j }) (Ext.refl w h.L) (fun _ _ _ _ h => h) (fun _ _ => rfl) hga _ _ (AV.oks.and _ (hi.2 d t bo hb) (hj.2 d t bo hb)) h5
    · intro k b d t hk hs
      rcases inv k b hk with ⟨_, h1⟩ | ⟨_, _, h1⟩
      · exact hf.gi.gaBx _ b d t h1 hs
      · exact hf.gi.gaBx _ b d t h1 hs
    · intro k k' b hk hk'
      rcases inv k b hk with ⟨rfl, h1⟩ | ⟨a1, a2, h1⟩ <;> rcases inv k' b hk' with ⟨rfl, h2⟩ | ⟨b1, b2, h2⟩
      · rfl
      · exact absurd (hf.gi.gaInj _ _ b h2 h1) b2
      · exact absurd (hf.gi.gaInj _ _ b h1 h2) a2
      · exact hf.gi.gaInj _ _ b h1 h2
    · intro k b hk
      rcases inv k b hk with ⟨_, h1⟩ | ⟨_, _, h1⟩
      · exact hf.gi.gaLt _ b h1
      · exact hf.gi.gaLt _ b h1
    · intro k b hk
      rcases inv k b hk with ⟨_, h1⟩ | ⟨_, _, h1⟩
      · exact hf.gi.gaC _ b h1
      · exact hf.gi.gaC _ b h1
    · intro l r hl
      obtain ⟨hp, D, tmps, h1, h2, h3, h4⟩ := hf.gi.lp l r hl
      refine ⟨hp, D, tmps, h1, h2, h3, fun t v hv => ?_⟩
      obtain ⟨h5, h6⟩ := h4 t v hv
      exact ⟨RepA.ext (h := h) (h' := { h with ga := renGa h.ga i j }) (Ext.refl w h.L) (fun _ _ _ _ h => h) (fun _ _ => rfl) (fun _ _ h => h.elim) _ _ h6 h5, h6⟩
    · intro d t k hd
      show renGa h.ga i j (.tmp d t k) = none
      unfold renGa
      split
      · rename_i e; exact absurd (hjd d t k e.symm) (by omega)
      · split
        · rfl
        · exact hf.gi.gaTop d t k hd

mutual
  theorem AV.ok.renA {Q Q' : Id → Prop} {K : Nat → Nat → Prop} {Y : Nat → Prop} {i nm : Id} (hQ : ∀ j, Q j → Q' j) (hn : Q' nm) : ∀ (a : AV), a.ok Q K Y → (renA i nm a).ok Q' K Y
    | .d _, _ => by simp [Go.Abs.renA, AV.ok]
    | .own j _ _, h => by
      simp only [Go.Abs.renA, AV.ok] at h ⊢
      split
      · exact hn
      · exact hQ _ h
    | .ptr _ _ _, h => by simpa only [Go.Abs.renA, AV.ok] using h
    | .fn _ _, h => by simpa only [Go.Abs.renA, AV.ok] using h
    | .tup xs, h => by simp only [Go.Abs.renA, AV.ok] at h ⊢; exact AV.oks.renA hQ hn xs h
    | .yld _, h => by simpa only [Go.Abs.renA, AV.ok] using h
    | .old _ _ _, _ => by simp [Go.Abs.renA, AV.ok]
    | .raw _ _ j _ _, h => by
      simp only [Go.Abs.renA, AV.ok] at h ⊢
      split
      · exact hn
      · exact hQ _ h
  theorem AV.oks.renA {Q Q' : Id → Prop} {K : Nat → Nat → Prop} {Y : Nat → Prop} {i nm : Id} (hQ : ∀ j, Q j → Q' j) (hn : Q' nm) : ∀ (as : List AV), AV.oks Q K Y as → AV.oks Q' K Y (renAs i nm as)
    | [], _ => by simp [renAs, AV.oks]
    | a :: as, h => by simp only [renAs, AV.oks] at h ⊢; exact ⟨AV.ok.renA hQ hn a h.1, AV.oks.renA hQ hn as h.2⟩
end

mutual
  theorem RepA.renA {w : World} {h : Gh} {i nm : Id} {K : Nat → Nat → Prop} {Y : Nat → Prop} : ∀ (a : AV) (v : Value), a.ok (· ≠ nm) K Y → RepA w h a v → RepA w { h with ga := renGa h.ga i nm } (renA i nm a) v
    | .d _, v, _, hr => by simpa only [Go.Abs.renA, RepA] using hr
    | .ptr _ _ _, v, _, hr => by simpa only [Go.Abs.renA, RepA] using hr
    | .yld _, v, _, hr => by simpa only [Go.Abs.renA, RepA] using hr
    | .old _ _ _, v, _, hr => by simpa only [Go.Abs.renA, RepA] using hr
    | .fn f caps, v, hok, hr => by
      simp only [Go.Abs.renA, RepA, AV.ok] at hr hok ⊢
      obtain ⟨cv, rfl, hcv⟩ := hr
      exact ⟨cv, rfl, RepAs.ext (h := h) (h' := { h with ga := renGa h.ga i nm }) (Ext.refl w h.L) (fun _ _ _ _ h => h) (fun _ _ => rfl) (fun _ _ h => h.elim) caps _ hok hcv⟩
    | .tup xs, v, hok, hr => by
      simp only [Go.Abs.renA, RepA, AV.ok] at hr hok ⊢
      obtain ⟨cv, rfl, hcv⟩ := hr
      exact ⟨cv, rfl, RepAs.renA xs _ hok hcv⟩
    | .own j z es, v, hok, hr => by
      simp only [Go.Abs.renA, AV.ok] at hok ⊢
      split
      · rename_i e; subst e; exact Owned.ren hr
      · rename_i hne
        refine RepA.ext (h := h) (h' := { h with ga := renGa h.ga i nm }) (Q := (· = j)) (K := fun _ _ => True) (Y := fun _ => True) (Ext.refl w h.L) (fun _ _ _ _ h => h) (fun _ _ => rfl) ?_ (.own j z es) v (by simp [AV.ok]) hr
        rintro k b rfl hb
        exact ⟨by show renGa h.ga i nm k = _; unfold renGa; rw [if_neg hok, if_neg (fun e => hne e.symm), hb], rfl, rfl⟩
    | .raw o k' j z es, v, hok, hr => by
      simp only [Go.Abs.renA, AV.ok] at hok ⊢
      split
      · rename_i e; subst e; exact RawRow.ren hr
      · rename_i hne
        refine RepA.ext (h := h) (h' := { h with ga := renGa h.ga i nm }) (Q := (· = j)) (K := fun _ _ => True) (Y := fun _ => True) (Ext.refl w h.L) (fun _ _ _ _ h => h) (fun _ _ => rfl) ?_ (.raw o k' j z es) v (by simp [AV.ok]) hr
        rintro k b rfl hb
        exact ⟨by show renGa h.ga i nm k = _; unfold renGa; rw [if_neg hok, if_neg (fun e => hne e.symm), hb], rfl, rfl⟩
  theorem RepAs.renA {w : World} {h : Gh} {i nm : Id} {K : Nat → Nat → Prop} {Y : Nat → Prop} : ∀ (as : List AV) (vs : List Value), AV.oks (· ≠ nm) K Y as → RepAs w h as vs → RepAs w { h with ga := renGa h.ga i nm } (renAs i nm as) vs
    | [], vs, _, hr => by simpa only [renAs, RepAs] using hr
    | a :: as, vs, hok, hr => by
      simp only [renAs, RepAs, AV.oks] at hr hok ⊢
      obtain ⟨u, us, rfl, h1, h2⟩ := hr
      exact ⟨u, us, rfl, RepA.renA a u hok.1 h1, RepAs.renA as us hok.2 h2⟩
end

theorem renAs_get (i nm : Id) : ∀ (as : List AV) (k : Nat), (renAs i nm as)[k]? = (as[k]?).map (renA i nm)
  | [], k => by simp [renAs]
  | a :: as, 0 => by simp [renAs]
  | a :: as, k + 1 => by simp [renAs, renAs_get i nm as k]

theorem RepBx.renA {w : World} {h : Gh} {ty : Nat × Nat} {i nm : Id} {K : Nat → Nat → Prop} {Y : Nat → Prop} (as : List AV) (vs : List Value) (ho : AV.oks (· ≠ nm) K Y as) (hr : RepBx w h ty as vs) : RepBx w { h with ga := renGa h.ga i nm } ty (renAs i nm as) vs := by
  refine ⟨RepAs.renA as vs ho hr.1, fun ht j sz es v hi hv => ?_⟩
  rw [renAs_get] at hi
  cases ha : as[1]? with
  | none => rw [ha] at hi; cases hi
  | some a =>
    rw [ha] at hi
    simp only [Option.map_some, Option.some.injEq] at hi
    cases a with
    | own k z es' =>
      have hk : k ≠ nm := by have := oks_at ho ha; simpa only [AV.ok] using this
      simp only [Abs.renA, AV.own.injEq] at hi
      obtain ⟨hj, rfl, rfl⟩ := hi
      rcases hr.2 ht _ _ _ v ha hv with h1 | ⟨b, n, c, cc, h1, h2, h3, h4, h5⟩
      · exact .inl h1
      · refine .inr ⟨b, n, c, cc, h1, ?_, h3, h4, h5⟩
        show renGa h.ga i nm j = some b
        unfold renGa
        split at hj
        · rename_i e; rw [← hj, if_pos rfl, e]; exact h2
        · rename_i e; rw [← hj, if_neg hk, if_neg (fun q => e q.symm)]; exact h2
    | raw o k j' z es' => simp only [Abs.renA] at hi; cases hi
    | _ => simp only [Abs.renA] at hi; cases hi

theorem renBx_some {i nm : Id} {bx : Nat → Nat → Option Box} {d t : Nat} {bo : Box} (h : renBx i nm bx d t = some bo) : ∃ b, bx d t = some b ∧ bo = { b with cells := renAs i nm b.cells } := by
  unfold renBx at h
  cases hb : bx d t with
  | none => simp [hb] at h
  | some b => simp [hb] at h; exact ⟨b, rfl, h.symm⟩
theorem renBx_isSome (i nm : Id) (bx : Nat → Nat → Option Box) (d t : Nat) : (renBx i nm bx d t).isSome = (bx d t).isSome := by
  unfold renBx; cases bx d t <;> rfl
theorem renTm_some {i nm : Id} {tm : Nat → Option AV} {t : Nat} {v : AV} (h : renTm i nm tm t = some v) : ∃ u, tm t = some u ∧ v = renA i nm u := by
  unfold renTm at h
  cases hb : tm t with
  | none => simp [hb] at h
  | some b => simp [hb] at h; exact ⟨b, rfl, h.symm⟩

theorem noIn_dem {i j : Id} {s : St} (h : NoIn j s) : NoIn j (demSt i s) := by
  refine ⟨fun t v hv => ?_, fun d t bo hb => ?_⟩
  · obtain ⟨u, hu, rfl⟩ := demTm_some hv
    exact AV.ok.mono (fun _ h => h.1) (fun _ _ h => h) (fun _ h => h) _ (AV.ok.dem i u (h.1 t u hu))
  · obtain ⟨b, hb', rfl⟩ := demBx_some hb
    exact AV.oks.mono (fun _ h => h.1) (fun _ _ h => h) (fun _ h => h) _ (AV.oks.dem i _ (h.2 d t b hb'))

/-- A row goes over to a box's name, with all that bear it. -/
theorem FI.renAll {s : St} {a : Act} {w : World} {h : Gh} (hf : FI nt s a w h) {i nm : Id} (hn : NoIn nm s) (hb : IsBox nm) : FI nt (renSt i nm s) a w { h with ga := renGa h.ga i nm } := by
  obtain ⟨f1, n1⟩ := hf.dem i
  have f2 := f1.ren n1 (noIn_dem hn) (fun d t k e => by rw [e] at hb; exact hb.elim)
  have hQ : TmQ s.fr s.g.dp nm := by cases nm <;> first | trivial | exact hb.elim
  have hK : ∀ n d t, KG s.g n d t → KG (renSt i nm s).g n d t := fun n d t hk => ⟨hk.1, by
    show (renBx i nm s.g.bx d t).isSome = true
    rw [renBx_isSome]; exact hk.2⟩
  have hK2 : ∀ n d t, KG (demSt i s).g n d t → KG (renSt i nm s).g n d t := fun n d t hk => ⟨hk.1, by
    show (renBx i nm s.g.bx d t).isSome = true
    have := hk.2
    simp only [demSt, demBx_isSome] at this
    rw [renBx_isSome]; exact this⟩
  refine ⟨hf.size, ?_, ?_, hf.dfr⟩
  · intro t v hv
    obtain ⟨u, hu, rfl⟩ := renTm_some hv
    obtain ⟨h1, h2⟩ := hf.tm t u hu
    exact ⟨RepA.renA u _ (hn.1 t u hu) h1, AV.ok.mono (fun _ h => h) (fun d t hk => hK _ d t hk) (fun _ h => h) _ (AV.ok.renA (fun _ h => h) hQ u h2)⟩
  · refine { bx := ?_, inj := ?_, gaBx := ?_, gaInj := f2.gi.gaInj, gaLt := f2.gi.gaLt, gaC := f2.gi.gaC, lim := f2.gi.lim, lp := ?_, roInj := f2.gi.roInj, gaTop := f2.gi.gaTop }
    · intro d t bo hbo
      obtain ⟨b, hb', rfl⟩ := renBx_some hbo
      obtain ⟨h1, h2, b', c, e, h3, h4, h5, h6, h7⟩ := hf.gi.bx d t b hb'
      exact ⟨h1, AV.oks.mono (fun _ h => h) (fun d t hk => hK _ d t hk) (fun _ h => h) _ (AV.oks.renA (fun _ h => h) hb _ h2), b', c, e, h3, h4, RepBx.renA _ _ (hn.2 d t b hb') h5, h6, h7⟩
    · intro d t d' t' b h1 h2 h3 h4
      simp only [renSt, renBx_isSome] at h1 h2
      exact f2.gi.inj d t d' t' b (by simpa only [demSt, demBx_isSome] using h1) (by simpa only [demSt, demBx_isSome] using h2) h3 h4
    · intro k b d t hk hs
      simp only [renSt, renBx_isSome] at hs
      exact f2.gi.gaBx k b d t hk (by simpa only [demSt, demBx_isSome] using hs)
    · intro l r hl
      obtain ⟨hp, D, tmps, h1, h2, h3, h4⟩ := f2.gi.lp l r hl
      refine ⟨hp, D, tmps, h1, h2, h3, fun t v hv => ?_⟩
      obtain ⟨h5, h6⟩ := h4 t v hv
      exact ⟨h5, AV.ok.mono (fun _ h => h) (fun d t hk => hK2 _ d t hk) (fun _ h => h) _ h6⟩

theorem Rel.ren {s : St} {w : World} {h : Gh} (hr : Rel g0 h0 w0 s.g w h) {i j : Id} (hi : ∀ d t k, i = .tmp d t k → g0.dp < d) (hj : ∀ d t k, j = .tmp d t k → g0.dp < d) :
    Rel g0 h0 w0 s.g w { h with ga := renGa h.ga i j } :=
  { hr with
    ga := fun d t k hd => by
      rw [← hr.ga d t k hd]
      show renGa h.ga i j (.tmp d t k) = _
      unfold renGa
      rw [if_neg (fun e => by have := hj d t k e.symm; omega), if_neg (fun e => by have := hi d t k e.symm; omega)]
    gaMay := fun k b hk hb => by
      unfold renGa at hb
      simp only at hb
      split at hb
      · exact hr.gaMay i b hi hb
      · split at hb
        · cases hb
        · exact hr.gaMay k b hk hb }

theorem Rel.renSt {s : St} {w : World} {h : Gh} (hr : Rel g0 h0 w0 s.g w h) {i j : Id} (hi : ∀ d t k, i = .tmp d t k → g0.dp < d) (hj : ∀ d t k, j = .tmp d t k → g0.dp < d) :
    Rel g0 h0 w0 (renSt i j s).g w { h with ga := renGa h.ga i j } :=
  { hr.ren hi hj with
    bxs := fun d t hs => by
      obtain ⟨a1, a2⟩ := hr.bxs d t hs
      exact ⟨by show (renBx i j s.g.bx d t).isSome = true; rw [renBx_isSome]; exact a1, a2⟩
    bxMay := fun d t b hs hb => hr.bxMay d t b (by simpa only [Go.Abs.renSt, renBx_isSome] using hs) hb }

/-! ### A new box -/
def beNew (be : Nat → Nat → Option Nat) (dp dst n : Nat) : Nat → Nat → Option Nat := fun d u => if d = dp ∧ u = dst then some n else be d u

theorem beNew_old {be : Nat → Nat → Option Nat} {dp dst n d u : Nat} (h : ¬ (d = dp ∧ u = dst)) : beNew be dp dst n d u = be d u := by
  unfold beNew; rw [if_neg h]

theorem bxNew_eq {bx : Nat → Nat → Option Box} {dp dst : Nat} {b : Box} {d u : Nat} :
    (if Nat.beq d dp && Nat.beq u dst then some b else bx d u) = if d = dp ∧ u = dst then some b else bx d u := by
  by_cases h : d = dp ∧ u = dst
  · rw [if_pos (by simp [h.1, h.2]), if_pos h]
  · rw [if_neg (by simpa using h), if_neg h]

theorem FI.newBox {s : St} {a : Act} {w : World} {h : Gh} (hf : FI nt s a w h) (hr : Rel g0 h0 w0 s.g w h) {dst : Nat} (hnone : s.g.bx s.g.dp dst = none) (hdst : dst < nt) (hd0 : g0.dp < s.g.dp)
    {cs : List AV} {c : Array Value} {e : TypeId} {ty : Nat × Nat} (hty : ty.1 = 0 ∨ ty.1 = e) (hrep : RepBx w h ty cs c.toList) (hok : AV.oks IsBox (KG s.g s.g.dp) (YG s.g s.g.dp) cs) (h1 : ∀ u ∈ c.toList, u.oneCell' = true) :
    FI nt { tm := upd s.tm dst (some (.ptr s.g.dp dst 0)), fr := s.fr, g := { s.g with bx := fun d u => if Nat.beq d s.g.dp && Nat.beq u dst then some { cells := cs, frz := false, ty := ty } else s.g.bx d u } }
        (a.put (some dst) (.pointer (some ⟨w.heap.size, 0, none⟩))) (w.alloc (.cells c e (0, 0))) { h with be := beNew h.be s.g.dp dst w.heap.size } ∧
      Rel g0 h0 w0 { s.g with bx := fun d u => if Nat.beq d s.g.dp && Nat.beq u dst then some { cells := cs, frz := false, ty := ty } else s.g.bx d u } (w.alloc (.cells c e (0, 0))) { h with be := beNew h.be s.g.dp dst w.heap.size } := by
  have hb := below_alloc w (.cells c e (0, 0))
  have hold : ∀ d t, (s.g.bx d t).isSome = true → ¬ (d = s.g.dp ∧ t = dst) := by
    intro d t hs hh
    rw [hh.1, hh.2, hnone] at hs
    cases hs
  have hbe : ∀ d t, (s.g.bx d t).isSome = true → beNew h.be s.g.dp dst w.heap.size d t = h.be d t := fun d t hs => beNew_old (hold d t hs)
  have hsz : (w.alloc (.cells c e (0, 0))).heap.size = w.heap.size + 1 := by simp
  have hG : GI s.g (w.alloc (.cells c e (0, 0))) { h with be := beNew h.be s.g.dp dst w.heap.size } :=
    hf.gi.grow (h' := { h with be := beNew h.be s.g.dp dst w.heap.size }) hb (fun _ _ => rfl) (fun b hh => hf.gi.lim b (by rw [hsz] at hh; omega)) hbe (fun _ _ => rfl) (fun _ _ => rfl)
      (fun i b d t h1 h2 => by show beNew h.be s.g.dp dst w.heap.size d t ≠ some b; rw [hbe d t h2]; exact hf.gi.gaBx i b d t h1 h2)
      hf.gi.gaInj (fun i b hi => by obtain ⟨c, e, hc⟩ := hf.gi.gaC i b hi; exact ⟨c, e, by rw [hb.block b (lt_of_heap hc), hc]⟩) hf.gi.gaTop
  have hmono : ∀ n d t, KG s.g n d t → KG { s.g with bx := fun d u => if Nat.beq d s.g.dp && Nat.beq u dst then some { cells := cs, frz := false, ty := ty } else s.g.bx d u } n d t := by
    intro n d t hk
    refine ⟨hk.1, ?_⟩
    show (if Nat.beq d s.g.dp && Nat.beq t dst then some ({ cells := cs, frz := false, ty := ty } : Box) else s.g.bx d t).isSome = true
    split
    · rfl
    · exact hk.2
  have hcases : ∀ d t bo, (if Nat.beq d s.g.dp && Nat.beq t dst then some ({ cells := cs, frz := false, ty := ty } : Box) else s.g.bx d t) = some bo → (d = s.g.dp ∧ t = dst ∧ bo = { cells := cs, frz := false, ty := ty }) ∨ s.g.bx d t = some bo := by
    intro d t bo hh
    rw [bxNew_eq] at hh
    split at hh
    · rename_i hdt
      cases hh
      exact .inl ⟨hdt.1, hdt.2, rfl⟩
    · exact .inr hh
  have hE : Ext w h.L (w.alloc (.cells c e (0, 0))) h.L := ext_grow hb (fun _ _ => rfl) hf.gi.lim
  have hga : ∀ i b, h.ga i = some b → h.ga i = some b ∧ h.L b = h.L b ∧ (w.alloc (.cells c e (0, 0))).heap[b]? = w.heap[b]? := fun i b hi => ⟨hi, rfl, hb.block b (hf.gi.gaLt i b hi)⟩
  refine ⟨⟨by simp [Act.put, hf.size], ?_, ?_, dfr_grow hf.dfr hb⟩, ?_⟩
  · intro t v hv
    rw [getD_put a dst t _ (by rw [hf.size]; exact hdst)]
    rcases upd_some hv with ⟨rfl, rfl⟩ | ⟨hne, hv⟩
    · rw [if_pos rfl]
      refine ⟨?_, ?_⟩
      · simp only [RepA]
        exact ⟨w.heap.size, by simp [beNew], rfl⟩
      · simp only [AV.ok]
        refine ⟨Nat.le_refl _, ?_⟩
        simp
    · rw [if_neg hne]
      obtain ⟨h5, h6⟩ := hf.tm t v hv
      exact ⟨RepA.ext (h' := { h with be := beNew h.be s.g.dp dst w.heap.size }) hE (fun d t b hk hh => by show beNew h.be s.g.dp dst w.heap.size d t = some b; rw [hbe d t hk.2]; exact hh) (fun _ _ => rfl) (fun i b _ hi => hga i b hi) v _ h6 h5,
        AV.ok.mono (fun _ h => h) (fun d t hk => hmono _ d t hk) (fun _ h => h) v h6⟩
  · refine { bx := ?_, inj := ?_, gaBx := ?_, gaInj := hG.gaInj, gaLt := hG.gaLt, gaC := hG.gaC, lim := hG.lim, lp := ?_, roInj := hG.roInj, gaTop := hG.gaTop }
    · intro d t bo hbo
      rcases hcases d t bo hbo with ⟨rfl, rfl, rfl⟩ | hbo'
      · refine ⟨Nat.le_refl _, AV.oks.mono (fun _ h => h) (fun d t hk => hmono _ d t hk) (fun _ h => h) _ hok, w.heap.size, c, ⟨e, hty⟩, by simp [beNew], heap_new w _, ?_, h1, ?_⟩
        · exact RepBx.ext (h' := { h with be := beNew h.be s.g.dp t w.heap.size }) hE (fun d t b hk hh => by show beNew h.be _ _ w.heap.size d t = some b; rw [hbe d t hk.2]; exact hh) (fun _ _ => rfl) (fun i b _ hi => hga i b hi) _ _ hok hrep
        · simpa using hf.gi.lim _ (Nat.le_refl _)
      · obtain ⟨h2, h3, rest⟩ := hG.bx d t bo hbo'
        exact ⟨h2, AV.oks.mono (fun _ h => h) (fun d t hk => hmono _ d t hk) (fun _ h => h) _ h3, rest⟩
    · intro d t d' t' b h2 h3 h4 h5
      obtain ⟨bo, hbo⟩ := Option.isSome_iff_exists.1 h2
      obtain ⟨bo', hbo'⟩ := Option.isSome_iff_exists.1 h3
      have hlt : ∀ d t bo b, s.g.bx d t = some bo → beNew h.be s.g.dp dst w.heap.size d t = some b → b < w.heap.size := by
        intro d t bo b hh hb'
        rw [hbe d t (by rw [hh]; rfl)] at hb'
        obtain ⟨_, _, b2, c2, e2, h7, h8, _⟩ := hf.gi.bx d t bo hh
        rw [hb'] at h7; cases h7
        exact lt_of_heap h8
      rcases hcases d t bo hbo with ⟨rfl, rfl, rfl⟩ | hq <;> rcases hcases d' t' bo' hbo' with ⟨e1, e2, rfl⟩ | hq'
      · exact ⟨e1.symm, e2.symm⟩
      · have := hlt d' t' bo' b hq' h5
        simp [beNew] at h4
        omega
      · have := hlt d t bo b hq h4
        subst e1 e2
        simp [beNew] at h5
        omega
      · exact hG.inj d t d' t' b (by rw [hq]; rfl) (by rw [hq']; rfl) h4 h5
    · intro i b d t hi hs
      obtain ⟨bo, hbo⟩ := Option.isSome_iff_exists.1 hs
      rcases hcases d t bo hbo with ⟨rfl, rfl, rfl⟩ | hq
      · have := hf.gi.gaLt i b hi
        simp [beNew]
        omega
      · exact hG.gaBx i b d t hi (by rw [hq]; rfl)
    · intro l r hl
      obtain ⟨hp, D, tmps, h2, h3, h4, h5⟩ := hG.lp l r hl
      refine ⟨hp, D, tmps, h2, h3, h4, fun t v hv => ?_⟩
      obtain ⟨h6, h7⟩ := h5 t v hv
      exact ⟨h6, AV.ok.mono (fun _ h => h) (fun d t hk => hmono _ d t hk) (fun _ h => h) _ h7⟩
  · refine hr.grow (h' := { h with be := beNew h.be s.g.dp dst w.heap.size }) hf.gi hb (fun _ _ => rfl) ?_ (fun _ _ => rfl) (fun _ _ _ _ => rfl) ?_ (fun _ _ h => .inr h) (fun l hl => .inr ⟨hl, rfl⟩) (Nat.le_refl _)
    · intro d t _ hs
      refine ⟨?_, hbe d t hs⟩
      show (if Nat.beq d s.g.dp && Nat.beq t dst then some ({ cells := cs, frz := false, ty := ty } : Box) else s.g.bx d t).isSome = true
      split
      · rfl
      · exact hs
    · intro d t b hs hb'
      obtain ⟨bo, hbo⟩ := Option.isSome_iff_exists.1 hs
      rcases hcases d t bo hbo with ⟨rfl, rfl, rfl⟩ | hq
      · simp [beNew] at hb'
        exact .inl (by omega)
      · refine .inr ⟨d, t, by rw [hq]; rfl, ?_⟩
        have := hbe d t (by rw [hq]; rfl)
        rw [← this]; exact hb'

/-! ### A new row of one's own -/
def gaNew (ga : Id → Option Nat) (i : Id) (n : Nat) : Id → Option Nat := fun k => if k = i then some n else ga k
def LNew (L : Nat → Nat) (b n : Nat) : Nat → Nat := fun k => if k = b then n else L k

theorem setFr_mono {fr : Nat → Bool} {d dp : Nat} : ∀ i, TmQ fr dp i → TmQ (setFr fr d) dp i := by
  intro i hi
  cases i with
  | box _ _ _ => trivial
  | res _ => exact hi.elim
  | tmp a b c => exact ⟨hi.1, by simp [setFr, hi.2]⟩

def limK (k : Option Nat) (n : Nat) : Nat := match k with
  | none => n
  | some m => m

theorem rowAV_ok {k : Option Nat} {i : Id} {sz : Nat} {es : List (List D)} {Q : Id → Prop} {K : Nat → Nat → Prop} {Y : Nat → Prop} (h : Q i) : (rowAV k i sz es).ok Q K Y := by
  cases k <;> simpa only [rowAV, AV.ok] using h

theorem rowAV_rep {w : World} {h : Gh} {k : Option Nat} {i : Id} {sz : Nat} {es : List (List D)} {b n c : Nat} {vs : List Value} {cc : Array Value} {e : TypeId} (hn : n = es.length) (hc : n ≤ c) (hk : limK k n ≤ n)
    (hs : ∀ x ∈ es, x.length = sz) (hf : RepF w h.L es vs) (hg : h.ga i = some b) (hL : h.L b = limK k n * sz) (hh : w.heap[b]? = some (.cells cc e (0, 0))) (hr : c * sz ≤ cc.size) (hcells : cellsAt w b 0 vs) :
    RepA w h (rowAV k i sz es) (.slice (some ⟨b, 0, none⟩) n c) := by
  cases k with
  | none =>
    simp only [rowAV, RepA]
    exact .inr ⟨b, n, c, vs, cc, e, rfl, hn, hc, hs, hf, hg, hL, hh, hr, hcells⟩
  | some m =>
    simp only [rowAV, RepA]
    exact .inr (.inr ⟨b, n, c, vs, cc, e, rfl, (by intro m h; cases h), hn, hc, hk, hs, hf, hg, hL, hh, hr, hcells⟩)

theorem full_row {w : World} {h : Gh} {k : Option Nat} {i : Id} {sz : Nat} {es : List (List D)} {v : Value} (hr : RepV w h.L (.full sz es) v) (hk : limK k es.length = es.length) (h0 : k = none ∨ es = []) : RepA w h (rowAV k i sz es) v := by
  cases k with
  | none => simp only [rowAV, RepA]; exact .inl hr
  | some m => simp only [rowAV, RepA]; exact .inl ⟨trivial, ⟨hk, by simpa using h0⟩, hr⟩

theorem own_row {w : World} {h : Gh} {k : Option Nat} {i : Id} {sz : Nat} {es : List (List D)} {v : Value} (hr : RepA w h (.own i sz es) v) (hk : limK k es.length = es.length) (h0 : k = none ∨ es = []) : RepA w h (rowAV k i sz es) v := by
  simp only [RepA] at hr
  rcases hr with hr | ⟨b, n, c, vs, cc, e, rfl, hn, hc, hs, hf, hg, hL, hh, hrm, hcells⟩
  · exact full_row hr hk h0
  · exact rowAV_rep hn hc (by rw [hn, hk]; exact Nat.le_refl _) hs hf hg (by rw [hL, hn, hk]) hh hrm hcells

theorem FI.newRow {s : St} {a : Act} {w w' : World} {h : Gh} (hf : FI nt s a w h) (hr : Rel g0 h0 w0 s.g w h) {dst sz : Nat} (hfr : s.fr dst = false) (hdst : dst < nt) (hd0 : g0.dp < s.g.dp)
    {k : Option Nat} {es : List (List D)} {vs : List Value} {cc : Array Value} {e : TypeId} {cap : Nat} (hkn : limK k es.length ≤ es.length) (hb : RowKit.Below w.heap.size w w') (hsize : w'.heap.size = w.heap.size + 1)
    (hnew : w'.heap[w.heap.size]? = some (.cells cc e (0, 0))) (hus : ∀ x ∈ es, x.length = sz) (hrep : RepF w h.L es vs) (hcap : es.length ≤ cap) (hroom : cap * sz ≤ cc.size)
    (hcells : ∀ (k : Nat) (u : Value), vs[k]? = some u → cc[k]? = some u ∧ u.oneCell' = true) :
    FI nt { tm := upd s.tm dst (some (rowAV k (.tmp s.g.dp dst 0) sz es)), fr := setFr s.fr dst, g := s.g } (a.put (some dst) (.slice (some ⟨w.heap.size, 0, none⟩) es.length cap)) w'
        { h with ga := gaNew h.ga (.tmp s.g.dp dst 0) w.heap.size, L := LNew h.L w.heap.size (limK k es.length * sz) } ∧
      Rel g0 h0 w0 s.g w' { h with ga := gaNew h.ga (.tmp s.g.dp dst 0) w.heap.size, L := LNew h.L w.heap.size (limK k es.length * sz) } := by
  have hL : ∀ b, b < w.heap.size → LNew h.L w.heap.size (limK k es.length * sz) b = h.L b := fun b hlt => by unfold LNew; rw [if_neg (by omega)]
  have hgaQ : ∀ i, TmQ s.fr s.g.dp i → gaNew h.ga (.tmp s.g.dp dst 0) w.heap.size i = h.ga i := by
    intro i hi
    unfold gaNew
    rw [if_neg]
    rintro rfl
    have := hi.2
    rw [hfr] at this
    cases this
  have inv : ∀ k b, gaNew h.ga (.tmp s.g.dp dst 0) w.heap.size k = some b → (k = .tmp s.g.dp dst 0 ∧ b = w.heap.size) ∨ h.ga k = some b := by
    intro k b hk
    unfold gaNew at hk
    split at hk
    · rename_i e; cases hk; exact .inl ⟨e, rfl⟩
    · exact .inr hk
  have hG : GI s.g w' { h with ga := gaNew h.ga (.tmp s.g.dp dst 0) w.heap.size, L := LNew h.L w.heap.size (limK k es.length * sz) } := by
    refine hf.gi.grow (h' := { h with ga := gaNew h.ga (.tmp s.g.dp dst 0) w.heap.size, L := LNew h.L w.heap.size (limK k es.length * sz) }) hb hL ?_ (fun _ _ _ => rfl) (fun _ _ => rfl) ?_ ?_ ?_ ?_ ?_
    · intro b hh
      show LNew h.L w.heap.size (limK k es.length * sz) b = 0
      unfold LNew
      rw [if_neg (by omega)]
      exact hf.gi.lim b (by omega)
    · intro i hi
      cases i with
      | box _ _ _ => rfl
      | tmp _ _ _ => exact hi.elim
      | res _ => exact hi.elim
    · intro i b d t hi hs
      rcases inv i b hi with ⟨_, rfl⟩ | h1
      · obtain ⟨bo, hbo⟩ := Option.isSome_iff_exists.1 hs
        obtain ⟨_, _, b2, c2, e2, h7, h8, _⟩ := hf.gi.bx d t bo hbo
        have := lt_of_heap h8
        show h.be d t ≠ _
        rw [h7]
        intro e; cases e; omega
      · exact hf.gi.gaBx i b d t h1 hs
    · intro i j b hi hj
      rcases inv i b hi with ⟨e1, hb1⟩ | h1 <;> rcases inv j b hj with ⟨e2, h2⟩ | h2
      · rw [e1, e2]
      · have := hf.gi.gaLt j _ h2; omega
      · have := hf.gi.gaLt i _ h1; omega
      · exact hf.gi.gaInj i j b h1 h2
    · intro i b hi
      rcases inv i b hi with ⟨_, rfl⟩ | h1
      · exact ⟨_, _, hnew⟩
      · obtain ⟨c, e, hc⟩ := hf.gi.gaC i b h1
        exact ⟨c, e, by rw [hb.block b (lt_of_heap hc), hc]⟩
    · intro d t j hd
      show gaNew h.ga (.tmp s.g.dp dst 0) w.heap.size (.tmp d t j) = none
      unfold gaNew
      rw [if_neg (by intro e; cases e; omega)]
      exact hf.gi.gaTop d t j hd
  have hE : Ext w h.L w' (LNew h.L w.heap.size (limK k es.length * sz)) := ext_grow hb hL hf.gi.lim
  refine ⟨⟨by simp [Act.put, hf.size], ?_, hG, dfr_grow hf.dfr hb⟩, ?_⟩
  · intro t v hv
    rw [getD_put a dst t _ (by rw [hf.size]; exact hdst)]
    rcases upd_some hv with ⟨rfl, rfl⟩ | ⟨hne, hv⟩
    · rw [if_pos rfl]
      refine ⟨?_, ?_⟩
      · refine rowAV_rep rfl hcap hkn hus (RepF.ext hE es vs hrep) (by simp [gaNew]) (by simp [LNew]) hnew hroom ?_
        intro k u hk
        obtain ⟨h1, h2⟩ := hcells k u hk
        refine ⟨?_, h2⟩
        simp only [World.cell?, hnew]
        simpa using h1
      · exact rowAV_ok ⟨rfl, by simp [setFr]⟩
    · rw [if_neg hne]
      obtain ⟨h5, h6⟩ := hf.tm_grow (h' := { h with ga := gaNew h.ga (.tmp s.g.dp dst 0) w.heap.size, L := LNew h.L w.heap.size (limK k es.length * sz) }) hb hL (fun _ _ _ => rfl) (fun _ _ => rfl) hgaQ t v hv
      exact ⟨h5, AV.ok.mono setFr_mono (fun _ _ h => h) (fun _ h => h) v h6⟩
  · refine hr.grow (h' := { h with ga := gaNew h.ga (.tmp s.g.dp dst 0) w.heap.size, L := LNew h.L w.heap.size (limK k es.length * sz) }) hf.gi hb hL (fun d t _ hs => ⟨hs, rfl⟩) (fun _ _ => rfl) ?_
      (fun d t b hs hb' => .inr ⟨d, t, hs, hb'⟩) ?_ (fun l hl => .inr ⟨hl, rfl⟩) (Nat.le_refl _)
    · intro d t j hd
      show gaNew h.ga (.tmp s.g.dp dst 0) w.heap.size (.tmp d t j) = _
      unfold gaNew
      rw [if_neg (by intro e; cases e; omega)]
    · intro i b hi
      rcases inv i b hi with ⟨_, rfl⟩ | h1
      · exact .inl (Nat.le_refl _)
      · exact .inr h1
end
end Go.Abs
