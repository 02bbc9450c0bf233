/- What holds between the interpreter's state and the model's. -/
import Derived.Test.YtehkgiofchmpaaaDoorAbsOps
namespace Go.Abs
open Go
set_option linter.unusedVariables false
set_option linter.unusedSimpArgs false

/- The names of owned rows, the boxes that are pointed to, the loops: each is of a kind. -/
mutual
  def AV.ok (Q : Id → Prop) (K : Nat → Nat → Prop) (Y : Nat → Prop) : AV → Prop
    | .d _ => True
    | .own i _ _ => Q i
    | .ptr d1 t _ => K d1 t
    | .fn _ caps => AV.oks (fun _ => False) K Y caps
    | .tup xs => AV.oks Q K Y xs
    | .yld l => Y l
    | .raw _ _ i _ _ => Q i
    | .old _ _ _ => True
  def AV.oks (Q : Id → Prop) (K : Nat → Nat → Prop) (Y : Nat → Prop) : List AV → Prop
    | [] => True
    | a :: as => AV.ok Q K Y a ∧ AV.oks Q K Y as
end

mutual
  theorem AV.ok.mono {Q Q' : Id → Prop} {K K' : Nat → Nat → Prop} {Y Y' : Nat → Prop} (hQ : ∀ i, Q i → Q' i) (hK : ∀ d t, K d t → K' d t) (hY : ∀ l, Y l → Y' l) :
      ∀ (a : AV), a.ok Q K Y → a.ok Q' K' Y'
    | .d _, _ => by simp [AV.ok]
    | .own i _ _, h => by simp only [AV.ok] at h ⊢; exact hQ _ h
    | .ptr d1 t _, h => by simp only [AV.ok] at h ⊢; exact hK _ _ h
    | .fn _ caps, h => by simp only [AV.ok] at h ⊢; exact AV.oks.mono (fun _ h => h) hK hY caps h
    | .tup xs, h => by simp only [AV.ok] at h ⊢; exact AV.oks.mono hQ hK hY xs h
    | .yld l, h => by simp only [AV.ok] at h ⊢; exact hY _ h
    | .raw _ _ i _ _, h => by simp only [AV.ok] at h ⊢; exact hQ _ h
    | .old _ _ _, _ => by simp [AV.ok]
  theorem AV.oks.mono {Q Q' : Id → Prop} {K K' : Nat → Nat → Prop} {Y Y' : Nat → Prop} (hQ : ∀ i, Q i → Q' i) (hK : ∀ d t, K d t → K' d t) (hY : ∀ l, Y l → Y' l) :
      ∀ (as : List AV), AV.oks Q K Y as → AV.oks Q' K' Y' as
    | [], _ => by simp [AV.oks]
    | a :: as, h => by simp only [AV.oks] at h ⊢; exact ⟨AV.ok.mono hQ hK hY a h.1, AV.oks.mono hQ hK hY as h.2⟩
end

mutual
  /-- What a value stands for stays, where what it leads to stays. -/
  theorem RepA.ext {w w' : World} {h h' : Gh} {Q : Id → Prop} {K : Nat → Nat → Prop} {Y : Nat → Prop} (hE : Ext w h.L w' h'.L)
      (hbe : ∀ d t b, K d t → h.be d t = some b → h'.be d t = some b) (hro : ∀ l, Y l → h'.ro l = h.ro l)
      (hga : ∀ i b, Q i → h.ga i = some b → h'.ga i = some b ∧ h'.L b = h.L b ∧ w'.heap[b]? = w.heap[b]?) :
      ∀ (a : AV) (v : Value), a.ok Q K Y → RepA w h a v → RepA w' h' a v
    | .d x, v, _, hr => by simp only [RepA] at hr ⊢; exact hr.ext hE
    | .own i sz es, v, hok, hr => by
      simp only [RepA, AV.ok] at hr hok ⊢
      rcases hr with hr | ⟨b, n, c, vs, cc, e, rfl, hn, hc, hs, hf, hg, hL, hh, hrm, hcells⟩
      · exact .inl (hr.ext hE)
      · obtain ⟨g1, g2, g3⟩ := hga i b hok hg
        have hlen := hf.length hs
        refine .inr ⟨b, n, c, vs, cc, e, rfl, hn, hc, hs, RepF.ext hE es vs hf, g1, by rw [g2, hL], by rw [g3, hh], hrm, hcells.ext hE (by rw [hL, hlen, hn]; omega)⟩
    | .ptr d t off, v, hok, hr => by
      simp only [RepA, AV.ok] at hr hok ⊢
      obtain ⟨b, hb, rfl⟩ := hr
      exact ⟨b, hbe _ _ _ hok hb, rfl⟩
    | .fn f caps, v, hok, hr => by
      simp only [RepA, AV.ok] at hr hok ⊢
      obtain ⟨cv, rfl, hc⟩ := hr
      exact ⟨cv, rfl, RepAs.ext hE hbe hro (fun _ _ h => h.elim) caps _ hok hc⟩
    | .tup xs, v, hok, hr => by
      simp only [RepA, AV.ok] at hr hok ⊢
      obtain ⟨cv, rfl, hc⟩ := hr
      exact ⟨cv, rfl, RepAs.ext hE hbe hro hga xs _ hok hc⟩
    | .yld l, v, hok, hr => by
      simp only [AV.ok] at hok
      simp only [RepA] at hr ⊢
      rw [hr, hro _ hok]
    | .old _ _ _, v, _, hr => by simpa only [RepA] using hr
    | .raw o k i sz es, v, hok, hr => by
      simp only [RepA, AV.ok] at hr hok ⊢
      rcases hr with ⟨ho, hk, hr⟩ | hr | ⟨b, n, c, vs, cc, e, hv, hm, hn, hc, hkn, hs, hf, hg, hL, hh, hrm, hcells⟩
      · exact .inl ⟨ho, hk, hr.ext hE⟩
      · exact .inr (.inl hr)
      · obtain ⟨g1, g2, g3⟩ := hga i b hok hg
        refine .inr (.inr ⟨b, n, c, vs, cc, e, hv, hm, hn, hc, hkn, hs, RepF.ext hE es vs hf, g1, by rw [g2, hL], by rw [g3, hh], hrm, ?_⟩)
        intro j u hj
        have := hcells j u hj
        rw [World.cell?_of_block g3]
        exact this
  theorem RepAs.ext {w w' : World} {h h' : Gh} {Q : Id → Prop} {K : Nat → Nat → Prop} {Y : Nat → Prop} (hE : Ext w h.L w' h'.L)
      (hbe : ∀ d t b, K d t → h.be d t = some b → h'.be d t = some b) (hro : ∀ l, Y l → h'.ro l = h.ro l)
      (hga : ∀ i b, Q i → h.ga i = some b → h'.ga i = some b ∧ h'.L b = h.L b ∧ w'.heap[b]? = w.heap[b]?) :
      ∀ (as : List AV) (vs : List Value), AV.oks Q K Y as → RepAs w h as vs → RepAs w' h' as vs
    | [], vs, _, hr => by simpa only [RepAs] using hr
    | a :: as, vs, hok, hr => by
      simp only [RepAs, AV.oks] at hr hok ⊢
      obtain ⟨u, us, rfl, h1, h2⟩ := hr
      exact ⟨u, us, rfl, RepA.ext hE hbe hro hga a u hok.1 h1, RepAs.ext hE hbe hro hga as us hok.2 h2⟩
end

/-! ### Letting ownership go -/
mutual
  theorem RepA.dem {w : World} {h : Gh} (i : Id) : ∀ (a : AV) (v : Value), RepA w h a v → RepA w h (dem i a) v
    | .d x, v, hr => by simpa only [dem] using hr
    | .own j sz es, v, hr => by
      simp only [Go.Abs.dem]
      split
      · simp only [RepA]; exact hr.own_sl
      · exact hr
    | .ptr _ _ _, v, hr => by simpa only [dem] using hr
    | .fn _ _, v, hr => by simpa only [dem] using hr
    | .tup xs, v, hr => by
      simp only [Go.Abs.dem, RepA] at hr ⊢
      obtain ⟨cv, rfl, hc⟩ := hr
      exact ⟨cv, rfl, RepAs.dem i xs _ hc⟩
    | .yld _, v, hr => by simpa only [dem] using hr
    | .old _ _ _, v, hr => by simpa only [dem] using hr
    | .raw o k j sz es, v, hr => by
      simp only [Go.Abs.dem]
      split
      · simp only [RepA]; exact hr.raw_old
      · exact hr
  theorem RepAs.dem {w : World} {h : Gh} (i : Id) : ∀ (as : List AV) (vs : List Value), RepAs w h as vs → RepAs w h (dems i as) vs
    | [], vs, hr => by simpa only [dems] using hr
    | a :: as, vs, hr => by
      simp only [dems, RepAs] at hr ⊢
      obtain ⟨u, us, rfl, h1, h2⟩ := hr
      exact ⟨u, us, rfl, RepA.dem i a u h1, RepAs.dem i as us h2⟩
end

mutual
  theorem AV.ok.dem {Q : Id → Prop} {K : Nat → Nat → Prop} {Y : Nat → Prop} (i : Id) : ∀ (a : AV), a.ok Q K Y → (dem i a).ok (fun j => Q j ∧ j ≠ i) K Y
    | .d _, _ => by simp [Go.Abs.dem, AV.ok]
    | .own j _ _, h => by
      simp only [Go.Abs.dem, AV.ok] at h ⊢
      split
      · simp [AV.ok]
      · rename_i hne; simp only [AV.ok]; exact ⟨h, fun e => hne e.symm⟩
    | .ptr d1 t _, h => by simpa only [Go.Abs.dem, AV.ok] using h
    | .fn _ caps, h => by simpa only [Go.Abs.dem, AV.ok] using h
    | .tup xs, h => by simp only [Go.Abs.dem, AV.ok] at h ⊢; exact AV.oks.dem i xs h
    | .yld l, h => by simpa only [Go.Abs.dem, AV.ok] using h
    | .old _ _ _, _ => by simp [Go.Abs.dem, AV.ok]
    | .raw _ _ j _ _, h => by
      simp only [Go.Abs.dem, AV.ok] at h ⊢
      split
      · simp [AV.ok]
      · rename_i hne; simp only [AV.ok]; exact ⟨h, fun e => hne e.symm⟩
  theorem AV.oks.dem {Q : Id → Prop} {K : Nat → Nat → Prop} {Y : Nat → Prop} (i : Id) : ∀ (as : List AV), AV.oks Q K Y as → AV.oks (fun j => Q j ∧ j ≠ i) K Y (dems i as)
    | [], _ => by simp [dems, AV.oks]
    | a :: as, h => by simp only [dems, AV.oks] at h ⊢; exact ⟨AV.ok.dem i a h.1, AV.oks.dem i as h.2⟩
end

theorem dems_get (i : Id) : ∀ (as : List AV) (k : Nat), (dems i as)[k]? = (as[k]?).map (dem i)
  | [], k => by simp [dems]
  | a :: as, 0 => by simp [dems]
  | a :: as, k + 1 => by simp [dems, dems_get i as k]

/-! ### The invariants -/
def KG (g : G) (n : Nat) (d t : Nat) : Prop := d ≤ n ∧ (g.bx d t).isSome = true
def YG (g : G) (n : Nat) (l : Nat) : Prop := ∃ r, g.lp[l]? = some r ∧ r.dp < n
theorem YG.lt {g : G} {n l : Nat} (h : YG g n l) : l < g.lp.length := by
  obtain ⟨r, hr, _⟩ := h
  exact (List.getElem?_eq_some_iff.1 hr).1
def IsBox : Id → Prop
  | .box _ _ _ => True
  | _ => False
def TmQ (fr : Nat → Bool) (dp : Nat) : Id → Prop
  | .box _ _ _ => True
  | .tmp d t _ => d = dp ∧ fr t = true
  | .res _ => False
def NoId : Id → Prop := fun _ => False

/-- A type of the kind that a box says. -/
def TyOf (t : Nat × Nat) := { e : TypeId // t.1 = 0 ∨ t.1 = e }

/-- Bytes, as elements. -/
def byteRow (l : List UInt8) : List (List D) := l.map fun c => [.int .u8 c.toNat]

/-- A row in cell 1 lies in a block of its own, of this type. -/
def StrongL (w : World) (h : Gh) (bt : TypeId) (as : List AV) (vs : List Value) : Prop :=
  ∀ i sz es v, as[1]? = some (.own i sz es) → vs[1]? = some v → (v = .slice none 0 0 ∧ es = []) ∨ ∃ b n c cc, v = .slice (some ⟨b, 0, none⟩) n c ∧ h.ga i = some b ∧ h.L b = n ∧ w.heap[b]? = some (.cells cc bt (0, 0)) ∧ n ≤ c ∧ c ≤ cc.size ∧ 0 < c ∧ ∃ l : List UInt8, es = byteRow l

def RepBx (w : World) (h : Gh) (ty : Nat × Nat) (as : List AV) (vs : List Value) : Prop := RepAs w h as vs ∧ (ty.1 ≠ 0 → StrongL w h ty.2 as vs)

theorem oks_at {Q : Id → Prop} {K : Nat → Nat → Prop} {Y : Nat → Prop} : ∀ {xs : List AV} {i : Nat} {v : AV}, AV.oks Q K Y xs → xs[i]? = some v → v.ok Q K Y
  | [], i, v, _, h => by simp at h
  | x :: xs, 0, v, ho, h => by simp only [AV.oks] at ho; simp at h; subst h; exact ho.1
  | x :: xs, i + 1, v, ho, h => by simp only [AV.oks] at ho; exact oks_at ho.2 (by simpa using h)

theorem RepBx.ext {w w' : World} {h h' : Gh} {ty : Nat × Nat} {Q : Id → Prop} {K : Nat → Nat → Prop} {Y : Nat → Prop} (hE : Ext w h.L w' h'.L)
    (hbe : ∀ d t b, K d t → h.be d t = some b → h'.be d t = some b) (hro : ∀ l, Y l → h'.ro l = h.ro l)
    (hga : ∀ i b, Q i → h.ga i = some b → h'.ga i = some b ∧ h'.L b = h.L b ∧ w'.heap[b]? = w.heap[b]?)
    (as : List AV) (vs : List Value) (ho : AV.oks Q K Y as) (hr : RepBx w h ty as vs) : RepBx w' h' ty as vs := by
  refine ⟨RepAs.ext hE hbe hro hga as vs ho hr.1, fun ht i sz es v hi hv => ?_⟩
  rcases hr.2 ht i sz es v hi hv with h1 | ⟨b, n, c, cc, h1, h2, h3, h4, h5⟩
  · exact .inl h1
  · have hq : Q i := by have := oks_at ho hi; simpa only [AV.ok] using this
    obtain ⟨g1, g2, g3⟩ := hga i b hq h2
    exact .inr ⟨b, n, c, cc, h1, g1, by rw [g2, h3], by rw [g3, h4], h5⟩

theorem RepBx.dem {w : World} {h : Gh} {ty : Nat × Nat} (i : Id) (as : List AV) (vs : List Value) (hr : RepBx w h ty as vs) : RepBx w h ty (dems i as) vs := by
  refine ⟨RepAs.dem i as vs hr.1, fun ht j sz es v hi hv => ?_⟩
  rw [dems_get] at hi
  cases ha : as[1]? with
  | none => rw [ha] at hi; cases hi
  | some a =>
    rw [ha] at hi
    simp only [Option.map_some, Option.some.injEq] at hi
    cases a with
    | own k z es' =>
      simp only [Abs.dem] at hi
      split at hi
      · cases hi
      · cases hi; exact hr.2 ht _ _ _ v ha hv
    | raw o k j' z es' =>
      simp only [Abs.dem] at hi
      split at hi <;> cases hi
    | _ => simp only [Abs.dem] at hi; cases hi

theorem RepBx.noOwn {w w' : World} {h h' : Gh} {ty : Nat × Nat} {as : List AV} {vs : List Value} (hr : RepAs w h as vs) (hn : ∀ i sz es, as[1]? ≠ some (.own i sz es)) : RepBx w h ty as vs := ⟨hr, fun _ i sz es v hi _ => absurd hi (hn i sz es)⟩

theorem RepBx.plain {w : World} {h : Gh} {ty : Nat × Nat} {as : List AV} {vs : List Value} (hr : RepAs w h as vs) (ht : ty.1 = 0) : RepBx w h ty as vs := ⟨hr, fun hn => absurd ht hn⟩

def BoxOk (g : G) (w : World) (h : Gh) (d t : Nat) (bo : Box) : Prop :=
  AV.oks IsBox (KG g d) (YG g d) bo.cells ∧ ∃ (b : Nat) (c : Array Value) (e : TyOf bo.ty), h.be d t = some b ∧ w.heap[b]? = some (.cells c e.1 (0, 0)) ∧ RepBx w h bo.ty bo.cells c.toList ∧
    (∀ u ∈ c.toList, u.oneCell' = true) ∧ h.L b = if bo.frz then c.size else 0

def exCode : Ex → Option Code
  | .exit id => some (.exit id)
  | .goto l => some (.goto l)
  | .ret => some .ret
  | _ => none

/-- The model's record of a loop over a function. -/
def loopObj (r : LoopRec) (q : Array Value × FuncId) (D : Nat) : Loop :=
  { state := match r.pend with
      | none => .ready
      | some .normal => .busy
      | some _ => .done
    pending := match r.pend with
      | none => none
      | some e => exCode e
    fn := q.2, tmps := q.1, params := r.params.toArray, assign := r.assign, body := r.body, defers := D }

def LoopOk (g : G) (w : World) (h : Gh) (l : Nat) (r : LoopRec) : Prop :=
  ((∀ e, r.pend = some e → e = .normal ∨ (exCode e).isSome = true) ∧ r.dp ≤ g.dp ∧ codeOk r.hint r.assign = true ∧ codeOk r.hint r.body = true) ∧ ∃ D tmps, w.heap[(h.ro l).1]? = some (.loop (loopObj r tmps D)) ∧ w.heap[D]? = some (.deferred (some [])) ∧ (tmps.1.size = r.nt ∧ D = (h.ro l).2) ∧
    ∀ t v, r.tm t = some v → RepA w h v (tmps.1.getD t undef) ∧ v.ok NoId (KG g r.dp) (YG g r.dp)

/-- What all frames share. -/
structure GI (g : G) (w : World) (h : Gh) : Prop where
  bx : ∀ d t bo, g.bx d t = some bo → d ≤ g.dp ∧ BoxOk g w h d t bo
  inj : ∀ d t d' t' b, (g.bx d t).isSome = true → (g.bx d' t').isSome = true → h.be d t = some b → h.be d' t' = some b → d = d' ∧ t = t'
  gaBx : ∀ i b d t, h.ga i = some b → (g.bx d t).isSome = true → h.be d t ≠ some b
  gaInj : ∀ i j b, h.ga i = some b → h.ga j = some b → i = j
  gaLt : ∀ i b, h.ga i = some b → b < w.heap.size
  gaC : ∀ i b, h.ga i = some b → ∃ c e, w.heap[b]? = some (.cells c e (0, 0))
  lim : ∀ b, w.heap.size ≤ b → h.L b = 0
  lp : ∀ l r, g.lp[l]? = some r → LoopOk g w h l r
  roInj : ∀ l l', l < g.lp.length → l' < g.lp.length → (h.ro l).1 = (h.ro l').1 → l = l'
  gaTop : ∀ d t j, g.dp < d → h.ga (.tmp d t j) = none

/-- A frame. -/
structure FI (nt : Nat) (s : St) (a : Act) (w : World) (h : Gh) : Prop where
  size : a.tmps.size = nt
  tm : ∀ t v, s.tm t = some v → RepA w h v (a.tmps.getD t undef) ∧ v.ok (TmQ s.fr s.g.dp) (KG s.g s.g.dp) (YG s.g s.g.dp)
  gi : GI s.g w h
  dfr : ∀ x ∈ a.defers, ∀ D, x = { target := .collected D, args := #[] } → w.heap[D]? = some (.deferred (some []))

/-- The blocks that a callee may turn. -/
def May (g0 : G) (h0 : Gh) (b : Nat) : Prop :=
  (∃ d t, (g0.bx d t).isSome = true ∧ h0.be d t = some b) ∨ (∃ i, (∀ d t j, i ≠ .tmp d t j) ∧ h0.ga i = some b) ∨ ∃ l, l < g0.lp.length ∧ b = (h0.ro l).1

/-- From the world in which a function was entered to the present one. -/
structure Rel (g0 : G) (h0 : Gh) (w0 : World) (g : G) (w : World) (h : Gh) : Prop where
  os : w.os = w0.os
  tape : w.tape = w0.tape
  output : w.output = w0.output
  size : w0.heap.size ≤ w.heap.size
  ext : Ext w0 h0.L w h.L
  keep : ∀ b, b < w0.heap.size → ¬ May g0 h0 b → w.heap[b]? = w0.heap[b]? ∧ h.L b = h0.L b
  bxs : ∀ d t, (g0.bx d t).isSome = true → (g.bx d t).isSome = true ∧ h.be d t = h0.be d t
  ro : ∀ l, l < g0.lp.length → h.ro l = h0.ro l
  ga : ∀ d t j, d ≤ g0.dp → h.ga (.tmp d t j) = h0.ga (.tmp d t j)
  bxMay : ∀ d t b, (g.bx d t).isSome = true → h.be d t = some b → w0.heap.size ≤ b ∨ May g0 h0 b
  gaMay : ∀ i b, (∀ d t j, i = .tmp d t j → g0.dp < d) → h.ga i = some b → w0.heap.size ≤ b ∨ May g0 h0 b
  lpMay : ∀ l, l < g.lp.length → w0.heap.size ≤ (h.ro l).1 ∨ May g0 h0 (h.ro l).1
  lpLen : g0.lp.length ≤ g.lp.length

theorem Rel.refl {g : G} {w : World} {h : Gh} (hg : GI g w h) : Rel g h w g w h where
  os := rfl
  tape := rfl
  output := rfl
  size := Nat.le_refl _
  ext := Ext.refl _ _
  keep := fun _ _ _ => ⟨rfl, rfl⟩
  bxs := fun _ _ hh => ⟨hh, rfl⟩
  ro := fun _ _ => rfl
  ga := fun _ _ _ _ => rfl
  bxMay := fun d t b hs hb => .inr (.inl ⟨d, t, hs, hb⟩)
  gaMay := fun i b hi hb => by
    cases i with
    | tmp d t j => rw [hg.gaTop d t j (hi d t j rfl)] at hb; cases hb
    | box d t j => exact .inr (.inr (.inl ⟨_, by simp, hb⟩))
    | res j => exact .inr (.inr (.inl ⟨_, by simp, hb⟩))
  lpMay := fun l hl => .inr (.inr (.inr ⟨l, hl, rfl⟩))
  lpLen := Nat.le_refl _

/-- Behind a call. -/
theorem Rel.call {g0 g1 g2 : G} {h0 h1 h2 : Gh} {w0 w1 w2 : World} (hr : Rel g0 h0 w0 g1 w1 h1) (hc : Rel g1 h1 w1 g2 w2 h2) (hdp : g0.dp ≤ g1.dp) : Rel g0 h0 w0 g2 w2 h2 := by
  have may : ∀ b, May g1 h1 b → w0.heap.size ≤ b ∨ May g0 h0 b := by
    intro b hb
    rcases hb with ⟨d, t, hs, hb⟩ | ⟨i, hi, hb⟩ | ⟨l, hl, rfl⟩
    · exact hr.bxMay d t b hs hb
    · exact hr.gaMay _ b (fun d t j e => absurd e (hi d t j)) hb
    · exact hr.lpMay l hl
  have step : ∀ b, w1.heap.size ≤ b ∨ May g1 h1 b → w0.heap.size ≤ b ∨ May g0 h0 b := by
    intro b hb
    rcases hb with hb | hb
    · exact .inl (Nat.le_trans hr.size hb)
    · exact may b hb
  refine
    { os := hc.os.trans hr.os
      tape := hc.tape.trans hr.tape
      output := hc.output.trans hr.output
      size := Nat.le_trans hr.size hc.size
      ext := hr.ext.trans hc.ext
      keep := ?_
      bxs := fun d t hs => ⟨(hc.bxs d t (hr.bxs d t hs).1).1, ((hc.bxs d t (hr.bxs d t hs).1).2).trans (hr.bxs d t hs).2⟩
      ro := fun l hl => (hc.ro l (Nat.lt_of_lt_of_le hl hr.lpLen)).trans (hr.ro l hl)
      ga := fun d t j hd => (hc.ga d t j (Nat.le_trans hd hdp)).trans (hr.ga d t j hd)
      bxMay := fun d t b hs hb => step b (hc.bxMay d t b hs hb)
      gaMay := ?_
      lpMay := fun l hl => step _ (hc.lpMay l hl)
      lpLen := Nat.le_trans hr.lpLen hc.lpLen }
  · intro b hb hm
    have hm1 : ¬ May g1 h1 b := fun hh => by
      rcases may b hh with h3 | h3
      · omega
      · exact hm h3
    obtain ⟨a1, a2⟩ := hr.keep b hb hm
    obtain ⟨b1, b2⟩ := hc.keep b (Nat.lt_of_lt_of_le hb hr.size) hm1
    exact ⟨b1.trans a1, b2.trans a2⟩
  · intro i b hi hb
    cases i with
    | box d t j => exact step b (hc.gaMay _ b (by intro _ _ _ e; cases e) hb)
    | res j => exact step b (hc.gaMay _ b (by intro _ _ _ e; cases e) hb)
    | tmp d t j =>
      have hd := hi d t j rfl
      by_cases hd1 : d ≤ g1.dp
      · rw [hc.ga d t j hd1] at hb
        exact hr.gaMay _ b hi hb
      · exact step b (hc.gaMay _ b (by intro d' t' j' e; cases e; omega) hb)

/-! ### New blocks -/
theorem lt_of_heap {w : World} {b : Nat} {o : Obj} (h : w.heap[b]? = some o) : b < w.heap.size := (Array.getElem?_eq_some_iff.1 h).1

theorem ext_grow {w w' : World} {L L' : Nat → Nat} (hb : RowKit.Below w.heap.size w w') (hL : ∀ b, b < w.heap.size → L' b = L b) (h0 : ∀ b, w.heap.size ≤ b → L b = 0) : Ext w L w' L' where
  lim := fun b => by
    by_cases hlt : b < w.heap.size
    · rw [hL b hlt]; exact Nat.le_refl _
    · rw [h0 b (by omega)]; exact Nat.zero_le _
  cell := fun b i hi => by
    have hlt : b < w.heap.size := by
      by_cases hlt : b < w.heap.size
      · exact hlt
      · rw [h0 b (by omega)] at hi; omega
    exact hb.cell (p := ⟨b, i, none⟩) hlt

theorem GI.grow {g : G} {w w' : World} {h h' : Gh} (hg : GI g w h) (hb : RowKit.Below w.heap.size w w') (hL : ∀ b, b < w.heap.size → h'.L b = h.L b)
    (hlim : ∀ b, w'.heap.size ≤ b → h'.L b = 0) (hbe : ∀ d t, (g.bx d t).isSome = true → h'.be d t = h.be d t) (hro : ∀ l, l < g.lp.length → h'.ro l = h.ro l)
    (hga : ∀ i, IsBox i → h'.ga i = h.ga i) (gaBx : ∀ i b d t, h'.ga i = some b → (g.bx d t).isSome = true → h'.be d t ≠ some b)
    (gaInj : ∀ i j b, h'.ga i = some b → h'.ga j = some b → i = j) (gaC : ∀ i b, h'.ga i = some b → ∃ c e, w'.heap[b]? = some (.cells c e (0, 0))) (gaTop : ∀ d t j, g.dp < d → h'.ga (.tmp d t j) = none) :
    GI g w' h' := by
  have hE := ext_grow hb hL hg.lim
  have hga' : ∀ i b, IsBox i → h.ga i = some b → h'.ga i = some b ∧ h'.L b = h.L b ∧ w'.heap[b]? = w.heap[b]? := fun i b hi hib => by
    have hlt := hg.gaLt i b hib
    exact ⟨by rw [hga i hi, hib], hL b hlt, hb.block b hlt⟩
  refine { bx := ?_, inj := ?_, gaBx := gaBx, gaInj := gaInj, gaLt := fun i b hi => by obtain ⟨c, e, hc⟩ := gaC i b hi; exact lt_of_heap hc, gaC := gaC, lim := hlim, lp := ?_, roInj := ?_, gaTop := gaTop }
  · intro d t bo hbo
    obtain ⟨h1, h2, b, c, e, h3, h4, h5, h6, h7⟩ := hg.bx d t bo hbo
    have hlt := lt_of_heap h4
    refine ⟨h1, h2, b, c, e, ?_, ?_, ?_, h6, ?_⟩
    · rw [hbe d t (by rw [hbo]; rfl), h3]
    · rw [hb.block b hlt, h4]
    · exact RepBx.ext hE (fun d t b hk hh => by rw [hbe d t hk.2]; exact hh) (fun l hl => hro l hl.lt) hga' _ _ h2 h5
    · rw [hL b hlt, h7]
  · intro d t d' t' b h1 h2 h3 h4
    rw [hbe d t h1] at h3
    rw [hbe d' t' h2] at h4
    exact hg.inj d t d' t' b h1 h2 h3 h4
  · intro l r hl
    have hlt : l < g.lp.length := (List.getElem?_eq_some_iff.1 hl).1
    obtain ⟨hp, D, tmps, h1, h2, h3, h4⟩ := hg.lp l r hl
    refine ⟨hp, D, tmps, ?_, ?_, ⟨h3.1, by rw [hro l hlt]; exact h3.2⟩, ?_⟩
    · rw [hro l hlt, hb.block _ (lt_of_heap h1), h1]
    · rw [hb.block _ (lt_of_heap h2), h2]
    · intro t v hv
      obtain ⟨h5, h6⟩ := h4 t v hv
      exact ⟨RepA.ext hE (fun d t b hk hh => by rw [hbe d t hk.2]; exact hh) (fun l' hl' => hro l' hl'.lt) (fun _ _ hh => hh.elim) _ _ h6 h5, h6⟩
  · intro l l' hl hl' he
    rw [hro l hl, hro l' hl'] at he
    exact hg.roInj l l' hl hl' he

theorem below_alloc (w : World) (o : Obj) : RowKit.Below w.heap.size w (w.alloc o) := (RowKit.Below.refl _ _).alloc (Nat.le_refl _) _
theorem below_drew (w : World) (B : Nat) : RowKit.Below B w w.drew := (RowKit.Below.refl _ _).drew
theorem heap_new (w : World) (o : Obj) : (w.alloc o).heap[w.heap.size]? = some o := by
  show (w.heap.push o)[w.heap.size]? = some o
  simp

/-- The frame's part of what a longer heap leaves as it was. -/
theorem FI.tm_grow {nt : Nat} {s : St} {a : Act} {w w' : World} {h h' : Gh} (hf : FI nt s a w h) (hb : RowKit.Below w.heap.size w w') (hL : ∀ b, b < w.heap.size → h'.L b = h.L b)
    (hbe : ∀ d t, (s.g.bx d t).isSome = true → h'.be d t = h.be d t) (hro : ∀ l, l < s.g.lp.length → h'.ro l = h.ro l)
    (hga : ∀ i, TmQ s.fr s.g.dp i → h'.ga i = h.ga i) : ∀ t v, s.tm t = some v → RepA w' h' v (a.tmps.getD t undef) ∧ v.ok (TmQ s.fr s.g.dp) (KG s.g s.g.dp) (YG s.g s.g.dp) := by
  intro t v hv
  obtain ⟨h1, h2⟩ := hf.tm t v hv
  refine ⟨?_, h2⟩
  refine RepA.ext (ext_grow hb hL hf.gi.lim) (fun d t b hk hh => by rw [hbe d t hk.2]; exact hh) (fun l hl => hro l hl.lt) (fun i b hi hib => ?_) _ _ h2 h1
  have hlt := hf.gi.gaLt i b hib
  exact ⟨by rw [hga i hi, hib], hL b hlt, hb.block b hlt⟩

theorem dfr_grow {ds : List Deferred} {w w' : World} (hd : ∀ x ∈ ds, ∀ D, x = { target := .collected D, args := #[] } → w.heap[D]? = some (.deferred (some []))) (hb : RowKit.Below w.heap.size w w') :
    ∀ x ∈ ds, ∀ D, x = ({ target := .collected D, args := #[] } : Deferred) → w'.heap[D]? = some (.deferred (some [])) := by
  intro x hx D h1
  have h2 := hd x hx D h1
  rw [hb.block D (lt_of_heap h2), h2]

/-- A step that lays new blocks and turns none. -/
theorem Rel.grow {g0 g g' : G} {h0 h h' : Gh} {w0 w w' : World} (hr : Rel g0 h0 w0 g w h) (hg : GI g w h) (hb : RowKit.Below w.heap.size w w') (hL : ∀ b, b < w.heap.size → h'.L b = h.L b)
    (hbx : ∀ d t, (g0.bx d t).isSome = true → (g.bx d t).isSome = true → (g'.bx d t).isSome = true ∧ h'.be d t = h.be d t) (hro : ∀ l, l < g0.lp.length → h'.ro l = h.ro l)
    (hga : ∀ d t j, d ≤ g0.dp → h'.ga (.tmp d t j) = h.ga (.tmp d t j))
    (bxMay : ∀ d t b, (g'.bx d t).isSome = true → h'.be d t = some b → w.heap.size ≤ b ∨ ∃ d' t', (g.bx d' t').isSome = true ∧ h.be d' t' = some b)
    (gaMay : ∀ i b, h'.ga i = some b → w.heap.size ≤ b ∨ h.ga i = some b)
    (lpMay : ∀ l, l < g'.lp.length → w.heap.size ≤ (h'.ro l).1 ∨ (l < g.lp.length ∧ h'.ro l = h.ro l)) (lpLen : g.lp.length ≤ g'.lp.length) : Rel g0 h0 w0 g' w' h' where
  os := hb.os.trans hr.os
  tape := hb.tape.trans hr.tape
  output := hb.output.trans hr.output
  size := Nat.le_trans hr.size hb.size
  ext := hr.ext.trans (ext_grow hb hL hg.lim)
  keep := fun b hlt hm => by
    obtain ⟨a1, a2⟩ := hr.keep b hlt hm
    have hlt' := Nat.lt_of_lt_of_le hlt hr.size
    exact ⟨(hb.block b hlt').trans a1, (hL b hlt').trans a2⟩
  bxs := fun d t hs => by
    obtain ⟨a1, a2⟩ := hr.bxs d t hs
    obtain ⟨b1, b2⟩ := hbx d t hs a1
    exact ⟨b1, b2.trans a2⟩
  ro := fun l hl => (hro l hl).trans (hr.ro l hl)
  ga := fun d t j hd => (hga d t j hd).trans (hr.ga d t j hd)
  bxMay := fun d t b hs hbe => by
    rcases bxMay d t b hs hbe with hh | ⟨d', t', h1, h2⟩
    · exact .inl (Nat.le_trans hr.size hh)
    · exact hr.bxMay d' t' b h1 h2
  gaMay := fun i b hi hib => by
    rcases gaMay i b hib with hh | hh
    · exact .inl (Nat.le_trans hr.size hh)
    · exact hr.gaMay i b hi hh
  lpMay := fun l hl => by
    rcases lpMay l hl with hh | ⟨h1, h2⟩
    · exact .inl (Nat.le_trans hr.size hh)
    · rw [h2]; exact hr.lpMay l h1
  lpLen := Nat.le_trans hr.lpLen lpLen

end Go.Abs
