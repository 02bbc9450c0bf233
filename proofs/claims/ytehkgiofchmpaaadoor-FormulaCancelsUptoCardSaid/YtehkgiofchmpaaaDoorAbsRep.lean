/- What abstract values stand for in a world: readings, and that they stay. -/
import Derived.Test.YtehkgiofchmpaaaDoorAbsDef
import Derived.Deep.MidRow
namespace Go.Abs
open Go
set_option linter.unusedVariables false

/-- From the cell (b, o) on lie these values, each of one cell. -/
def cellsAt (w : World) (b o : Nat) (vs : List Value) : Prop := ∀ k u, vs[k]? = some u → w.cell? ⟨b, o + k, none⟩ = some u ∧ u.oneCell' = true

mutual
  /-- The value reads as the datum; what it leads to lies below the limits L. -/
  def RepV (w : World) (L : Nat → Nat) : D → Value → Prop
    | .bool b, v => v = .bool b
    | .int k n, v => v = .int k n
    | .str s, v => v = .string s
    | .nilp, v => v = .pointer none
    | .nilf, v => v = .nilFunc
    | .nili, v => v = .nilIface
    | .nilm, v => v = .map none
    | .nils, v => v = .slice none 0 0
    | .iface t x, v => ∃ u, v = .iface t u ∧ RepV w L x u
    | .emp _, v => ∃ ad c, v = .slice (some ad) 0 c
    | .sl sz es, v => ∃ a n c vs, v = .slice a n c ∧ n = es.length ∧ n ≤ c ∧ (∀ e ∈ es, e.length = sz) ∧ RepF w L es vs ∧
        (n = 0 ∨ ∃ b o, a = some ⟨b, o, none⟩ ∧ o + n * sz ≤ L b ∧ cellsAt w b o vs)
    | .full sz es, v => ∃ a n vs, v = .slice a n n ∧ n = es.length ∧ (∀ e ∈ es, e.length = sz) ∧ RepF w L es vs ∧
        (n = 0 ∨ ∃ b o, a = some ⟨b, o, none⟩ ∧ o + n * sz ≤ L b ∧ cellsAt w b o vs)
    | .fn f caps, v => ∃ cv : Array Value, v = .func f #[] cv ∧ RepVs w L caps cv.toList
    | .at cs, v => ∃ b o vs, v = .pointer (some ⟨b, o, none⟩) ∧ RepVs w L cs vs ∧ o + cs.length ≤ L b ∧ cellsAt w b o vs
    | .agg cs, v => ∃ cv : Array Value, v = .agg cv ∧ RepVs w L cs cv.toList ∧ ∀ u ∈ cv.toList, u.oneCell' = true
  def RepVs (w : World) (L : Nat → Nat) : List D → List Value → Prop
    | [], vs => vs = []
    | x :: xs, vs => ∃ u us, vs = u :: us ∧ RepV w L x u ∧ RepVs w L xs us
  /-- The cells of elements, one behind the other. -/
  def RepF (w : World) (L : Nat → Nat) : List (List D) → List Value → Prop
    | [], vs => vs = []
    | e :: es, vs => ∃ us ts, vs = us ++ ts ∧ RepVs w L e us ∧ RepF w L es ts
end

/-- Nothing below the limits has turned, and the limits have not gone down. -/
structure Ext (w : World) (L : Nat → Nat) (w' : World) (L' : Nat → Nat) : Prop where
  lim : ∀ b, L b ≤ L' b
  cell : ∀ b i, i < L b → w'.cell? ⟨b, i, none⟩ = w.cell? ⟨b, i, none⟩

theorem Ext.refl (w : World) (L : Nat → Nat) : Ext w L w L := ⟨fun _ => Nat.le_refl _, fun _ _ _ => rfl⟩
theorem Ext.trans {w w' w'' : World} {L L' L'' : Nat → Nat} (h : Ext w L w' L') (k : Ext w' L' w'' L'') : Ext w L w'' L'' :=
  ⟨fun b => Nat.le_trans (h.lim b) (k.lim b), fun b i hi => (k.cell b i (Nat.lt_of_lt_of_le hi (h.lim b))).trans (h.cell b i hi)⟩

theorem RepVs.length {w : World} {L : Nat → Nat} : ∀ {xs : List D} {vs : List Value}, RepVs w L xs vs → vs.length = xs.length
  | [], _, h => by simp [RepVs] at h; simp [h]
  | x :: xs, vs, h => by
    simp only [RepVs] at h
    obtain ⟨u, us, rfl, _, h2⟩ := h
    simp [RepVs.length h2]

theorem RepF.length {w : World} {L : Nat → Nat} {sz : Nat} : ∀ {es : List (List D)} {vs : List Value}, RepF w L es vs → (∀ e ∈ es, e.length = sz) → vs.length = es.length * sz
  | [], _, h, _ => by simp [RepF] at h; simp [h]
  | e :: es, vs, h, hs => by
    simp only [RepF] at h
    obtain ⟨us, ts, rfl, h1, h2⟩ := h
    have := RepVs.length h1
    have := RepF.length h2 (fun e he => hs e (by simp [he]))
    have := hs e (by simp)
    simp [*, Nat.succ_mul, Nat.add_comm]

theorem cellsAt.ext {w w' : World} {L L' : Nat → Nat} (h : Ext w L w' L') {b o : Nat} {vs : List Value} (hc : cellsAt w b o vs) (hl : o + vs.length ≤ L b) : cellsAt w' b o vs := by
  intro k u hk
  have hlt : k < vs.length := (List.getElem?_eq_some_iff.1 hk).1
  rw [h.cell b (o + k) (by omega)]
  exact hc k u hk

mutual
  theorem RepV.ext {w w' : World} {L L' : Nat → Nat} (h : Ext w L w' L') : ∀ (x : D) (v : Value), RepV w L x v → RepV w' L' x v
    | .bool _, _, hv | .int _ _, _, hv | .str _, _, hv | .nilp, _, hv | .nilf, _, hv | .nili, _, hv | .nilm, _, hv | .nils, _, hv => by simpa only [RepV] using hv
    | .emp _, v, hv => by simpa only [RepV] using hv
    | .iface t x, v, hv => by
      simp only [RepV] at hv ⊢
      obtain ⟨u, rfl, hu⟩ := hv
      exact ⟨u, rfl, RepV.ext h x u hu⟩
    | .sl sz es, v, hv => by
      simp only [RepV] at hv ⊢
      obtain ⟨a, n, c, vs, rfl, hn, hc, hs, hf, hm⟩ := hv
      refine ⟨a, n, c, vs, rfl, hn, hc, hs, RepF.ext h es vs hf, ?_⟩
      rcases hm with h0 | ⟨b, o, ha, hl, hcells⟩
      · exact .inl h0
      · have hlen := RepF.length hf hs
        exact .inr ⟨b, o, ha, Nat.le_trans hl (h.lim b), hcells.ext h (by rw [hlen, ← hn]; exact hl)⟩
    | .full sz es, v, hv => by
      simp only [RepV] at hv ⊢
      obtain ⟨a, n, vs, rfl, hn, hs, hf, hm⟩ := hv
      refine ⟨a, n, vs, rfl, hn, hs, RepF.ext h es vs hf, ?_⟩
      rcases hm with h0 | ⟨b, o, ha, hl, hcells⟩
      · exact .inl h0
      · have hlen := RepF.length hf hs
        exact .inr ⟨b, o, ha, Nat.le_trans hl (h.lim b), hcells.ext h (by rw [hlen, ← hn]; exact hl)⟩
    | .fn f caps, v, hv => by
      simp only [RepV] at hv ⊢
      obtain ⟨cv, rfl, hc⟩ := hv
      exact ⟨cv, rfl, RepVs.ext h caps _ hc⟩
    | .at cs, v, hv => by
      simp only [RepV] at hv ⊢
      obtain ⟨b, o, vs, rfl, hr, hl, hc⟩ := hv
      have hlen := RepVs.length hr
      exact ⟨b, o, vs, rfl, RepVs.ext h cs vs hr, Nat.le_trans hl (h.lim b), hc.ext h (by rw [hlen]; exact hl)⟩
    | .agg cs, v, hv => by
      simp only [RepV] at hv ⊢
      obtain ⟨cv, rfl, hc, h1⟩ := hv
      exact ⟨cv, rfl, RepVs.ext h cs _ hc, h1⟩
  theorem RepVs.ext {w w' : World} {L L' : Nat → Nat} (h : Ext w L w' L') : ∀ (xs : List D) (vs : List Value), RepVs w L xs vs → RepVs w' L' xs vs
    | [], _, hv => by simpa only [RepVs] using hv
    | x :: xs, vs, hv => by
      simp only [RepVs] at hv ⊢
      obtain ⟨u, us, rfl, h1, h2⟩ := hv
      exact ⟨u, us, rfl, RepV.ext h x u h1, RepVs.ext h xs us h2⟩
  theorem RepF.ext {w w' : World} {L L' : Nat → Nat} (h : Ext w L w' L') : ∀ (es : List (List D)) (vs : List Value), RepF w L es vs → RepF w' L' es vs
    | [], _, hv => by simpa only [RepF] using hv
    | e :: es, vs, hv => by
      simp only [RepF] at hv ⊢
      obtain ⟨us, ts, rfl, h1, h2⟩ := hv
      exact ⟨us, ts, rfl, RepVs.ext h e us h1, RepF.ext h es ts h2⟩
end

theorem RepV.nrm1 {w : World} {L : Nat → Nat} {k : Nat} {x : D} {v : Value} (h : RepV w L x v) : RepV w L (nrm1 k x) v := by
  unfold Go.Abs.nrm1
  split
  · simp only [RepV] at h ⊢
    subst h
    exact ⟨none, 0, 0, [], rfl, rfl, Nat.le_refl _, (fun e he => by cases he), rfl, .inl rfl⟩
  · simp only [RepV] at h ⊢
    obtain ⟨a, n, vs, rfl, hn, hs, hf, hm⟩ := h
    exact ⟨a, n, n, vs, rfl, hn, Nat.le_refl _, hs, hf, hm⟩
  · simp only [RepV] at h ⊢
    obtain ⟨ad, c, rfl⟩ := h
    exact ⟨some ad, 0, c, [], rfl, rfl, Nat.zero_le _, (fun e he => by cases he), rfl, .inl rfl⟩
  · exact h
theorem RepVs.nrmC {w : World} {L : Nat → Nat} : ∀ {ks : List Nat} {cs : List D} {vs : List Value}, RepVs w L cs vs → RepVs w L (nrmC ks cs) vs
  | [], cs, vs, h => by simpa only [Go.Abs.nrmC] using h
  | k :: ks, [], vs, h => by simpa only [Go.Abs.nrmC] using h
  | k :: ks, c :: cs, vs, h => by
    simp only [Go.Abs.nrmC, RepVs] at h ⊢
    obtain ⟨u, us, rfl, h1, h2⟩ := h
    exact ⟨u, us, rfl, h1.nrm1, RepVs.nrmC h2⟩
theorem nrmC_len : ∀ (ks : List Nat) (cs : List D), (nrmC ks cs).length = cs.length
  | [], cs => by simp [nrmC]
  | k :: ks, [] => by simp [nrmC]
  | k :: ks, c :: cs => by simp [nrmC, nrmC_len ks cs]
theorem RepF.nrmC {w : World} {L : Nat → Nat} {ks : List Nat} : ∀ {es : List (List D)} {vs : List Value}, RepF w L es vs → RepF w L (es.map (nrmC ks)) vs
  | [], vs, h => by simpa only [List.map_nil] using h
  | e :: es, vs, h => by
    simp only [List.map_cons, RepF] at h ⊢
    obtain ⟨us, ts, rfl, h1, h2⟩ := h
    exact ⟨us, ts, rfl, h1.nrmC, RepF.nrmC h2⟩
theorem RepV.nrmD {w : World} {L : Nat → Nat} {T : Nat → Option TI} {t : Nat} {x : D} {v : Value} (h : RepV w L x v) : RepV w L (nrmD T t x) v := by
  unfold Go.Abs.nrmD
  split
  · split
    · simp only [RepV] at h ⊢
      obtain ⟨cv, rfl, h1, h2⟩ := h
      exact ⟨cv, rfl, h1.nrmC, h2⟩
    · exact h
  · exact h
theorem RepVs.nrmDs {w : World} {L : Nat → Nat} {T : Nat → Option TI} : ∀ {ts : List Nat} {xs : List D} {vs : List Value}, RepVs w L xs vs → RepVs w L (nrmDs T ts xs) vs
  | [], xs, vs, h => by simpa only [Go.Abs.nrmDs] using h
  | t :: ts, [], vs, h => by simpa only [Go.Abs.nrmDs] using h
  | t :: ts, x :: xs, vs, h => by
    simp only [Go.Abs.nrmDs, RepVs] at h ⊢
    obtain ⟨u, us, rfl, h1, h2⟩ := h
    exact ⟨u, us, rfl, h1.nrmD, RepVs.nrmDs h2⟩

/-- A value of one cell, or a row of cells. -/
theorem RepV.one {w : World} {L : Nat → Nat} : ∀ {x : D} {v : Value}, RepV w L x v → (∀ cs, x ≠ .agg cs) → v.oneCell' = true
  | .bool _, _, h, _ | .int _ _, _, h, _ | .str _, _, h, _ | .nilp, _, h, _ | .nilf, _, h, _ | .nili, _, h, _ | .nilm, _, h, _ | .nils, _, h, _ => by
    simp only [RepV] at h; subst h; rfl
  | .iface _ _, _, h, _ => by simp only [RepV] at h; obtain ⟨u, rfl, _⟩ := h; rfl
  | .emp _, _, h, _ => by simp only [RepV] at h; obtain ⟨_, _, rfl⟩ := h; rfl
  | .sl _ _, _, h, _ => by simp only [RepV] at h; obtain ⟨_, _, _, _, rfl, _⟩ := h; rfl
  | .full _ _, _, h, _ => by simp only [RepV] at h; obtain ⟨_, _, _, rfl, _⟩ := h; rfl
  | .fn _ _, _, h, _ => by simp only [RepV] at h; obtain ⟨_, rfl, _⟩ := h; rfl
  | .at _, _, h, _ => by simp only [RepV] at h; obtain ⟨_, _, _, rfl, _⟩ := h; rfl
  | .agg cs, _, _, hn => absurd rfl (hn cs)

theorem RepV.cells {w : World} {L : Nat → Nat} : ∀ {x : D} {v : Value}, RepV w L x v → RepVs w L x.cells v.cells.toList ∧ ∀ u ∈ v.cells.toList, u.oneCell' = true := by
  intro x v h
  by_cases hx : ∃ cs, x = .agg cs
  · obtain ⟨cs, rfl⟩ := hx
    simp only [RepV] at h
    obtain ⟨cv, rfl, h1, h2⟩ := h
    exact ⟨by simpa [D.cells, Value.cells] using h1, by simpa [Value.cells] using h2⟩
  · have h1 := h.one (fun cs e => hx ⟨cs, e⟩)
    have hc : x.cells = [x] := by cases x <;> first | rfl | exact absurd ⟨_, rfl⟩ hx
    have hv : v.cells = #[v] := by cases v <;> first | rfl | simp [Value.oneCell'] at h1
    rw [hc, hv]
    exact ⟨⟨v, [], rfl, h, rfl⟩, by simpa using h1⟩

/-- Where boxes, owned rows and loops lie. -/
structure Gh where
  L : Nat → Nat
  be : Nat → Nat → Option Nat
  ga : Id → Option Nat
  ro : Nat → Nat × Nat
  /-- Where a frame begins: the calls that it has deferred before; whether it has no loop over a function. -/
  df : List Deferred := []
  flat : Bool := false

/-- A row with room that is one's own. -/
def Owned (w : World) (h : Gh) (i : Id) (sz : Nat) (es : List (List D)) (v : Value) : Prop :=
  ∃ b n c vs cc e, v = .slice (some ⟨b, 0, none⟩) n c ∧ n = es.length ∧ n ≤ c ∧ (∀ x ∈ es, x.length = sz) ∧ RepF w h.L es vs ∧
    h.ga i = some b ∧ h.L b = n * sz ∧ w.heap[b]? = some (.cells cc e (0, 0)) ∧ c * sz ≤ cc.size ∧ cellsAt w b 0 vs

/-- A row of which the elements from k on are one's own to turn; or a pointer to one of its elements. -/
def RawRow (w : World) (h : Gh) (o : Option Nat) (k : Nat) (i : Id) (sz : Nat) (es : List (List D)) (v : Value) : Prop :=
  ∃ b n c vs cc e, v = (match o with
      | none => .slice (some ⟨b, 0, none⟩) n c
      | some m => .pointer (some ⟨b, m * sz, none⟩)) ∧ (∀ m, o = some m → m < n) ∧ n = es.length ∧ n ≤ c ∧ k ≤ n ∧ (∀ x ∈ es, x.length = sz) ∧ RepF w h.L es vs ∧
    h.ga i = some b ∧ h.L b = k * sz ∧ w.heap[b]? = some (.cells cc e (0, 0)) ∧ c * sz ≤ cc.size ∧ cellsAt w b 0 vs

/-- A slice of n elements somewhere, or a pointer. -/
def OldRef (o : Option Nat) (n : Nat) (v : Value) : Prop := match o with
  | none => ∃ a c, v = .slice a n c ∧ (n = 0 ∨ ∃ b off, a = some ⟨b, off, none⟩)
  | some _ => ∃ b off, v = .pointer (some ⟨b, off, none⟩)
theorem OldRef.one {o : Option Nat} {n : Nat} {v : Value} (h : OldRef o n v) : v.oneCell' = true := by
  cases o with
  | none => obtain ⟨_, _, rfl, _⟩ := h; rfl
  | some m => obtain ⟨_, _, rfl⟩ := h; rfl

mutual
  def RepA (w : World) (h : Gh) : AV → Value → Prop
    | .d x, v => RepV w h.L x v
    | .own i sz es, v => RepV w h.L (.full sz es) v ∨ Owned w h i sz es v
    | .ptr d t off, v => ∃ b, h.be d t = some b ∧ v = .pointer (some ⟨b, off, none⟩)
    | .fn f caps, v => ∃ cv : Array Value, v = .func f #[] cv ∧ RepAs w h caps cv.toList
    | .tup xs, v => ∃ cv : Array Value, v = .tuple cv ∧ RepAs w h xs cv.toList
    | .yld l, v => v = .func (.yield (h.ro l).1) #[] #[]
    | .raw o k i sz es, v => (o = none ∧ (k = es.length ∧ es = []) ∧ RepV w h.L (.full sz es) v) ∨ ((k = es.length ∧ es = []) ∧ o.isSome = true ∧ OldRef o es.length v) ∨ RawRow w h o k i sz es v
    | .old o _ n, v => OldRef o n v
  def RepAs (w : World) (h : Gh) : List AV → List Value → Prop
    | [], vs => vs = []
    | a :: as, vs => ∃ u us, vs = u :: us ∧ RepA w h a u ∧ RepAs w h as us
end

theorem RepAs.length {w : World} {h : Gh} : ∀ {xs : List AV} {vs : List Value}, RepAs w h xs vs → vs.length = xs.length
  | [], _, hh => by simp [RepAs] at hh; simp [hh]
  | x :: xs, vs, hh => by
    simp only [RepAs] at hh
    obtain ⟨u, us, rfl, _, h2⟩ := hh
    simp [RepAs.length h2]

theorem RepV.sl_of_full {w : World} {L : Nat → Nat} {sz : Nat} {es : List (List D)} {v : Value} (h : RepV w L (.full sz es) v) : RepV w L (.sl sz es) v := by
  simp only [RepV] at h ⊢
  obtain ⟨a, n, vs, rfl, hn, hs, hf, hm⟩ := h
  exact ⟨a, n, n, vs, rfl, hn, Nat.le_refl _, hs, hf, hm⟩

theorem Owned.sl {w : World} {h : Gh} {i : Id} {sz : Nat} {es : List (List D)} {v : Value} (ho : Owned w h i sz es v) : RepV w h.L (.sl sz es) v := by
  obtain ⟨b, n, c, vs, cc, e, rfl, hn, hc, hs, hf, hg, hL, hh, hr, hcells⟩ := ho
  simp only [RepV]
  exact ⟨_, n, c, vs, rfl, hn, hc, hs, hf, .inr ⟨b, 0, rfl, by omega, hcells⟩⟩

theorem RepA.raw_old {w : World} {h : Gh} {o : Option Nat} {k : Nat} {i : Id} {sz : Nat} {es : List (List D)} {v : Value} (hr : RepA w h (.raw o k i sz es) v) : OldRef o es.length v := by
  simp only [RepA] at hr
  rcases hr with ⟨ho, _, hr⟩ | ⟨_, _, hr⟩ | ⟨b, n, c, vs, cc, e, hv, _, hn, _⟩
  · simp only [RepV] at hr
    obtain ⟨a, n, vs, rfl, hn, _, _, hm⟩ := hr
    subst ho
    subst hn
    exact ⟨a, _, rfl, hm.imp id fun ⟨b, o, ha, _⟩ => ⟨b, o, ha⟩⟩
  · exact hr
  · subst hv
    subst hn
    cases o with
    | none => exact ⟨_, _, rfl, .inr ⟨_, _, rfl⟩⟩
    | some m => exact ⟨_, _, rfl⟩
theorem RepA.raw_one {w : World} {h : Gh} {o : Option Nat} {k : Nat} {i : Id} {sz : Nat} {es : List (List D)} {v : Value} (hr : RepA w h (.raw o k i sz es) v) : v.oneCell' = true := hr.raw_old.one

/-- A raw row where what it says of limits and blocks still holds. -/
theorem RepA.raw_map {w w' : World} {h h' : Gh} {o : Option Nat} {k : Nat} {i : Id} {sz : Nat} {es : List (List D)} {v : Value} (hr : RepA w h (.raw o k i sz es) v) (hE : Ext w h.L w' h'.L)
    (hga : ∀ b, h.ga i = some b → h'.ga i = some b ∧ h'.L b = h.L b ∧ w'.heap[b]? = w.heap[b]?) : RepA w' h' (.raw o k i sz es) v := by
  simp only [RepA] at hr ⊢
  rcases hr with ⟨ho, hk, hr⟩ | hr | ⟨b, n, c, vs, cc, e, hv, hm, hn, hc, hkn, hs, hf, hg, hL, hh, hrm, hcells⟩
  · exact .inl ⟨ho, hk, hr.ext hE⟩
  · exact .inr (.inl hr)
  · obtain ⟨g1, g2, g3⟩ := hga b hg
    refine .inr (.inr ⟨b, n, c, vs, cc, e, hv, hm, hn, hc, hkn, hs, RepF.ext hE es vs hf, g1, by rw [g2, hL], by rw [g3, hh], hrm, ?_⟩)
    intro j u hj
    have := hcells j u hj
    rw [World.cell?_of_block g3]
    exact this

theorem RepA.own_sl {w : World} {h : Gh} {i : Id} {sz : Nat} {es : List (List D)} {v : Value} (ho : RepA w h (.own i sz es) v) : RepV w h.L (.sl sz es) v := by
  simp only [RepA] at ho
  rcases ho with ho | ho
  · exact ho.sl_of_full
  · exact ho.sl

mutual
  theorem RepA.data {w : World} {h : Gh} : ∀ (a : AV) (x : D) (v : Value), a.data = some x → RepA w h a v → RepV w h.L x v
    | .d y, x, v, hd, hr => by
      simp only [AV.data, Option.some.injEq] at hd; subst hd; simpa only [RepA] using hr
    | .own i sz es, x, v, hd, hr => by
      simp only [AV.data, Option.some.injEq] at hd; subst hd; exact hr.own_sl
    | .ptr _ _ _, x, v, hd, hr => by simp [AV.data] at hd
    | .yld _, x, v, hd, hr => by simp [AV.data] at hd
    | .tup _, x, v, hd, hr => by simp [AV.data] at hd
    | .fn f caps, x, v, hd, hr => by
      simp only [AV.data] at hd
      cases hc : AV.datas caps with
      | none => simp [hc] at hd
      | some ds =>
        simp only [hc, Option.some.injEq] at hd; subst hd
        simp only [RepA] at hr
        obtain ⟨cv, rfl, hcv⟩ := hr
        simp only [RepV]
        exact ⟨cv, rfl, RepAs.datas caps ds _ hc hcv⟩
  theorem RepAs.datas {w : World} {h : Gh} : ∀ (as : List AV) (xs : List D) (vs : List Value), AV.datas as = some xs → RepAs w h as vs → RepVs w h.L xs vs
    | [], xs, vs, hd, hr => by
      simp only [AV.datas, Option.some.injEq] at hd; subst hd; simpa only [RepAs, RepVs] using hr
    | a :: as, xs, vs, hd, hr => by
      simp only [AV.datas] at hd
      cases h1 : a.data with
      | none => simp [h1] at hd
      | some x =>
        cases h2 : AV.datas as with
        | none => simp [h1, h2] at hd
        | some ys =>
          simp only [h1, h2, Option.some.injEq] at hd; subst hd
          simp only [RepAs] at hr
          obtain ⟨u, us, rfl, hu, hus⟩ := hr
          simp only [RepVs]
          exact ⟨u, us, rfl, RepA.data a x u h1 hu, RepAs.datas as ys us h2 hus⟩
end

theorem RepAs.of_d {w : World} {h : Gh} : ∀ {xs : List D} {vs : List Value}, RepVs w h.L xs vs → RepAs w h (xs.map .d) vs
  | [], vs, hr => by simpa only [RepVs, RepAs, List.map_nil] using hr
  | x :: xs, vs, hr => by
    simp only [RepVs] at hr
    obtain ⟨u, us, rfl, hu, hus⟩ := hr
    simp only [List.map_cons, RepAs]
    exact ⟨u, us, rfl, by simpa only [RepA] using hu, RepAs.of_d hus⟩

theorem RepVs.of_as {w : World} {h : Gh} : ∀ {xs : List D} {vs : List Value}, RepAs w h (xs.map .d) vs → RepVs w h.L xs vs
  | [], vs, hr => by simpa only [RepVs, RepAs, List.map_nil] using hr
  | x :: xs, vs, hr => by
    simp only [List.map_cons, RepAs] at hr
    obtain ⟨u, us, rfl, hu, hus⟩ := hr
    simp only [RepVs]
    exact ⟨u, us, rfl, by simpa only [RepA] using hu, RepVs.of_as hus⟩

theorem RepVs.get {w : World} {L : Nat → Nat} : ∀ {xs : List D} {vs : List Value} {k : Nat} {x : D}, RepVs w L xs vs → xs[k]? = some x → ∃ u, vs[k]? = some u ∧ RepV w L x u
  | [], _, _, _, _, hk => by simp at hk
  | y :: ys, vs, k, x, h, hk => by
    simp only [RepVs] at h
    obtain ⟨u, us, rfl, h1, h2⟩ := h
    cases k with
    | zero => simp at hk; subst hk; exact ⟨u, rfl, h1⟩
    | succ k => simpa using RepVs.get h2 (by simpa using hk)

theorem RepAs.get {w : World} {h : Gh} : ∀ {xs : List AV} {vs : List Value} {k : Nat} {x : AV}, RepAs w h xs vs → xs[k]? = some x → ∃ u, vs[k]? = some u ∧ RepA w h x u
  | [], _, _, _, _, hk => by simp at hk
  | y :: ys, vs, k, x, hh, hk => by
    simp only [RepAs] at hh
    obtain ⟨u, us, rfl, h1, h2⟩ := hh
    cases k with
    | zero => simp at hk; subst hk; exact ⟨u, rfl, h1⟩
    | succ k => simpa using RepAs.get h2 (by simpa using hk)

theorem RepVs.drop {w : World} {L : Nat → Nat} : ∀ {k : Nat} {xs : List D} {vs : List Value}, RepVs w L xs vs → RepVs w L (xs.drop k) (vs.drop k)
  | 0, _, _, h => by simpa using h
  | k + 1, [], vs, h => by simp [RepVs] at h; simp [h, RepVs]
  | k + 1, x :: xs, vs, h => by
    simp only [RepVs] at h
    obtain ⟨u, us, rfl, _, h2⟩ := h
    simpa using RepVs.drop (k := k) h2

theorem RepVs.take {w : World} {L : Nat → Nat} : ∀ {k : Nat} {xs : List D} {vs : List Value}, RepVs w L xs vs → RepVs w L (xs.take k) (vs.take k)
  | 0, _, _, h => by simp [RepVs]
  | k + 1, [], vs, h => by simp [RepVs] at h; simp [h, RepVs]
  | k + 1, x :: xs, vs, h => by
    simp only [RepVs] at h
    obtain ⟨u, us, rfl, h1, h2⟩ := h
    simp only [List.take_succ_cons, RepVs]
    exact ⟨u, us.take k, rfl, h1, RepVs.take (k := k) h2⟩

theorem RepVs.append {w : World} {L : Nat → Nat} : ∀ {xs : List D} {vs : List Value} {ys : List D} {us : List Value}, RepVs w L xs vs → RepVs w L ys us → RepVs w L (xs ++ ys) (vs ++ us)
  | [], vs, _, _, h, h' => by simp only [RepVs] at h; subst h; simpa using h'
  | x :: xs, vs, _, _, h, h' => by
    simp only [RepVs] at h
    obtain ⟨u, us, rfl, h1, h2⟩ := h
    simp only [List.cons_append, RepVs]
    exact ⟨u, _, rfl, h1, RepVs.append h2 h'⟩

theorem RepAs.drop {w : World} {h : Gh} : ∀ {k : Nat} {xs : List AV} {vs : List Value}, RepAs w h xs vs → RepAs w h (xs.drop k) (vs.drop k)
  | 0, _, _, hh => by simpa using hh
  | k + 1, [], vs, hh => by simp [RepAs] at hh; simp [hh, RepAs]
  | k + 1, x :: xs, vs, hh => by
    simp only [RepAs] at hh
    obtain ⟨u, us, rfl, _, h2⟩ := hh
    simpa using RepAs.drop (k := k) h2

theorem RepAs.take {w : World} {h : Gh} : ∀ {k : Nat} {xs : List AV} {vs : List Value}, RepAs w h xs vs → RepAs w h (xs.take k) (vs.take k)
  | 0, _, _, hh => by simp [RepAs]
  | k + 1, [], vs, hh => by simp [RepAs] at hh; simp [hh, RepAs]
  | k + 1, x :: xs, vs, hh => by
    simp only [RepAs] at hh
    obtain ⟨u, us, rfl, h1, h2⟩ := hh
    simp only [List.take_succ_cons, RepAs]
    exact ⟨u, us.take k, rfl, h1, RepAs.take (k := k) h2⟩

theorem RepAs.append {w : World} {h : Gh} : ∀ {xs : List AV} {vs : List Value} {ys : List AV} {us : List Value}, RepAs w h xs vs → RepAs w h ys us → RepAs w h (xs ++ ys) (vs ++ us)
  | [], vs, _, _, hh, h' => by simp only [RepAs] at hh; subst hh; simpa using h'
  | x :: xs, vs, _, _, hh, h' => by
    simp only [RepAs] at hh
    obtain ⟨u, us, rfl, h1, h2⟩ := hh
    simp only [List.cons_append, RepAs]
    exact ⟨u, _, rfl, h1, RepAs.append h2 h'⟩

theorem RepF.append {w : World} {L : Nat → Nat} : ∀ {xs : List (List D)} {vs : List Value} {ys : List (List D)} {us : List Value}, RepF w L xs vs → RepF w L ys us → RepF w L (xs ++ ys) (vs ++ us)
  | [], vs, _, _, h, h' => by simp only [RepF] at h; subst h; simpa using h'
  | x :: xs, vs, _, _, h, h' => by
    simp only [RepF] at h
    obtain ⟨a, b, rfl, h1, h2⟩ := h
    simp only [List.cons_append, RepF]
    exact ⟨a, _, List.append_assoc _ _ _, h1, RepF.append h2 h'⟩

theorem RepF.drop {w : World} {L : Nat → Nat} {sz : Nat} : ∀ {k : Nat} {es : List (List D)} {vs : List Value}, RepF w L es vs → (∀ e ∈ es, e.length = sz) → RepF w L (es.drop k) (vs.drop (k * sz))
  | 0, _, _, h, _ => by simpa using h
  | k + 1, [], vs, h, _ => by simp [RepF] at h; simp [h, RepF]
  | k + 1, e :: es, vs, h, hs => by
    simp only [RepF] at h
    obtain ⟨a, b, rfl, h1, h2⟩ := h
    have h3 := RepF.drop (k := k) h2 (fun e he => hs e (by simp [he]))
    have hl : a.length = sz := by rw [RepVs.length h1]; exact hs e (by simp)
    have : (k + 1) * sz = a.length + k * sz := by rw [Nat.succ_mul, hl, Nat.add_comm]
    rw [this, List.drop_append, List.drop_eq_nil_of_le (as := a) (i := a.length + k * sz) (by omega), Nat.add_sub_cancel_left]
    simpa using h3

theorem RepF.take {w : World} {L : Nat → Nat} {sz : Nat} : ∀ {k : Nat} {es : List (List D)} {vs : List Value}, RepF w L es vs → (∀ e ∈ es, e.length = sz) → RepF w L (es.take k) (vs.take (k * sz))
  | 0, _, _, h, _ => by simp [RepF]
  | k + 1, [], vs, h, _ => by simp [RepF] at h; simp [h, RepF]
  | k + 1, e :: es, vs, h, hs => by
    simp only [RepF] at h
    obtain ⟨a, b, rfl, h1, h2⟩ := h
    have h3 := RepF.take (k := k) h2 (fun e he => hs e (by simp [he]))
    have hl : a.length = sz := by rw [RepVs.length h1]; exact hs e (by simp)
    have : (k + 1) * sz = a.length + k * sz := by rw [Nat.succ_mul, hl, Nat.add_comm]
    rw [this, List.take_append, List.take_succ_cons]
    simp only [RepF]
    refine ⟨a, b.take (k * sz), ?_, h1, h3⟩
    rw [List.take_of_length_le (by omega)]
    congr 2
    omega

/-- The cells of one element. -/
theorem RepF.get {w : World} {L : Nat → Nat} {sz : Nat} : ∀ {k : Nat} {es : List (List D)} {vs : List Value} {e : List D}, RepF w L es vs → (∀ e ∈ es, e.length = sz) → es[k]? = some e →
    RepVs w L e ((vs.drop (k * sz)).take sz)
  | _, [], _, _, _, _, hk => by simp at hk
  | 0, x :: es, vs, e, h, hs, hk => by
    simp at hk; subst hk
    simp only [RepF] at h
    obtain ⟨a, b, rfl, h1, h2⟩ := h
    have hl : a.length = sz := by rw [RepVs.length h1]; exact hs x (by simp)
    have : ((a ++ b).drop (0 * sz)).take sz = a := by simp [← hl]
    rw [this]; exact h1
  | k + 1, x :: es, vs, e, h, hs, hk => by
    simp only [RepF] at h
    obtain ⟨a, b, rfl, h1, h2⟩ := h
    have hl : a.length = sz := by rw [RepVs.length h1]; exact hs x (by simp)
    have h3 := RepF.get (k := k) h2 (fun e he => hs e (by simp [he])) (by simpa using hk)
    have : (k + 1) * sz = a.length + k * sz := by rw [Nat.succ_mul, hl, Nat.add_comm]
    rw [this, List.drop_append, List.drop_eq_nil_of_le (as := a) (i := a.length + k * sz) (by omega), Nat.add_sub_cancel_left]
    simpa using h3

theorem cellsAt.range {w : World} {b o : Nat} {vs : List Value} (h : cellsAt w b o vs) : w.rangeAt b o vs := fun j v hj => (h j v hj).1
theorem cellsAt.one {w : World} {b o : Nat} {vs : List Value} (h : cellsAt w b o vs) : ∀ u ∈ vs, u.oneCell' = true := by
  intro u hu
  obtain ⟨k, hk⟩ := List.getElem?_of_mem hu
  exact (h k u hk).2

theorem cellsAt.sub {w : World} {b o : Nat} {vs : List Value} (h : cellsAt w b o vs) (k m : Nat) : cellsAt w b (o + k) ((vs.drop k).take m) := by
  intro j u hj
  rw [List.getElem?_take] at hj
  split at hj
  · rw [List.getElem?_drop] at hj
    have := h (k + j) u hj
    rwa [← Nat.add_assoc] at this
  · cases hj

theorem cellsAt.drop {w : World} {b o : Nat} {vs : List Value} (h : cellsAt w b o vs) (k : Nat) : cellsAt w b (o + k) (vs.drop k) := by
  intro j u hj
  rw [List.getElem?_drop] at hj
  have := h (k + j) u hj
  rwa [← Nat.add_assoc] at this

theorem cellsAt.take {w : World} {b o : Nat} {vs : List Value} (h : cellsAt w b o vs) (m : Nat) : cellsAt w b o (vs.take m) := by
  intro j u hj
  rw [List.getElem?_take] at hj
  split at hj
  · exact h j u hj
  · cases hj
end Go.Abs
