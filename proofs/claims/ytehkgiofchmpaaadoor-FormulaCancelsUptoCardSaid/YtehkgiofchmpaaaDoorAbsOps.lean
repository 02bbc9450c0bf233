/- The operations that only compute, and loads: what the model does is what the interpreter does. -/
import Derived.Test.YtehkgiofchmpaaaDoorAbsRep
namespace Go.Abs
open Go
set_option linter.unusedVariables false
set_option linter.unusedSimpArgs false

def D.plain : D → Bool
  | .bool _ | .int _ _ | .str _ | .nilp | .nilf | .nili | .nilm | .nils => true
  | _ => false

def D.zv : D → Value
  | .bool b => .bool b
  | .int k n => .int k n
  | .str s => .string s
  | .nilp => .pointer none
  | .nilf => .nilFunc
  | .nili => .nilIface
  | .nilm => .map none
  | .nils => .slice none 0 0
  | _ => undef

theorem D.plain_rep {w : World} {L : Nat → Nat} : ∀ {x : D}, x.plain = true → RepV w L x x.zv ∧ x.zv.oneCell' = true := by
  intro x h
  cases x <;> first | (simp [D.plain] at h; done) | exact ⟨by simp [RepV, D.zv], rfl⟩

theorem RepVs.plain {w : World} {L : Nat → Nat} : ∀ {xs : List D}, xs.all D.plain = true → RepVs w L xs (xs.map D.zv) ∧ ∀ u ∈ xs.map D.zv, u.oneCell' = true
  | [], _ => by simp [RepVs]
  | x :: xs, h => by
    simp only [List.all_cons, Bool.and_eq_true] at h
    obtain ⟨h1, h2⟩ := D.plain_rep (w := w) (L := L) h.1
    obtain ⟨h3, h4⟩ := RepVs.plain (w := w) (L := L) h.2
    refine ⟨?_, ?_⟩
    · simp only [List.map_cons, RepVs]; exact ⟨_, _, rfl, h1, h3⟩
    · intro u hu
      simp only [List.map_cons, List.mem_cons] at hu
      rcases hu with rfl | hu
      · exact h2
      · exact h4 u hu

def KindFact (P : Program) (ti : TI) (d : TypeDesc) : Prop := match ti.kind with
  | 1 => ∃ fs, d = .struct fs ∧ fs.toList.mapM (fun f => (P.info? f.type).map fun i => (f.offset, i.size)) = some ti.fields ∧ ∀ p ∈ ti.fields, 0 < p.2 ∧ p.1 + p.2 ≤ ti.size
  | 2 => d = .slice ti.elem
  | 3 => d = .string
  | 4 => ∃ k, d = .int k
  | 5 => d = .bool
  | 7 => ∃ e, d = .pointer e
  | 8 => d = .interface #[]
  | 9 => ∃ a b c, d = .func a b c
  | 10 => ∃ a b, d = .map a b
  | _ => True

/-- The zero value. -/
def zeroV (ti : TI) : Value := match ti.agg with
  | true => .agg (ti.zero.map D.zv).toArray
  | false => (ti.zero.map D.zv).headD undef

/-- What the table says of a type is so. -/
structure TyFact (P : Program) (t : TypeId) (ti : TI) : Prop where
  info : ∃ i z, P.info? t = some i ∧ i.size = ti.size ∧ i.bytes = ti.bytes ∧ i.zero = some z ∧ z.cells.toList = ti.zero.map D.zv
  plain : ti.zero.all D.plain = true
  len : ti.zero.length = ti.size
  one : ti.agg = false → ti.size = 1
  desc : ∃ d, P.underlying t = some d ∧ d.isRow = ti.agg ∧ KindFact P ti d
  mark : ti.mark.1 = 0 ∨ ti.mark.1 = t
  int : ∀ k, ti.int = some k → P.underlying t = some (.int k)
  val : ∃ i, P.info? t = some i ∧ i.zero = some (zeroV ti)

def TyOk (P : Program) (T : Nat → Option TI) : Prop := ∀ t ti, T t = some ti → TyFact P t ti

theorem cvD_rep {w : World} {L : Nat → Nat} {v : Value} {x : D} (hc : cvD v = some x) : RepV w L x v ∧ v.oneCell' = true := by
  unfold cvD at hc
  split at hc <;> simp at hc <;> subst hc <;> refine ⟨by simp [RepV], rfl⟩
theorem cvDs_rep {w : World} {L : Nat → Nat} : ∀ {vs : List Value} {xs : List D}, cvDs vs = some xs → RepVs w L xs vs ∧ ∀ u ∈ vs, u.oneCell' = true
  | [], xs, hc => by simp only [cvDs, Option.some.injEq] at hc; subst hc; simp [RepVs]
  | v :: vs, xs, hc => by
    simp only [cvDs] at hc
    cases h1 : cvD v with
    | none => simp [h1] at hc
    | some x =>
      cases h2 : cvDs vs with
      | none => simp [h1, h2] at hc
      | some ys =>
        simp only [h1, h2, Option.some.injEq] at hc; subst hc
        obtain ⟨r1, o1⟩ := cvD_rep (w := w) (L := L) h1
        obtain ⟨r2, o2⟩ := cvDs_rep (w := w) (L := L) h2
        refine ⟨?_, ?_⟩
        · simp only [RepVs]; exact ⟨v, vs, rfl, r1, r2⟩
        · intro u hu
          rcases List.mem_cons.1 hu with rfl | hu
          · exact o1
          · exact o2 u hu
theorem cv_rep {w : World} {h : Gh} : ∀ {v : Value} {a : AV}, cv v = some a → RepA w h a v := by
  intro v a hc
  unfold cv at hc
  split at hc
  · split at hc
    · rename_i ds hds
      simp only [Option.some.injEq] at hc; subst hc
      obtain ⟨r, o⟩ := cvDs_rep (w := w) (L := h.L) hds
      simp only [RepA, RepV]
      exact ⟨_, rfl, r, o⟩
    · cases hc
  · split at hc
    · rename_i x hx
      simp only [Option.some.injEq] at hc; subst hc
      simp only [RepA]
      exact (cvD_rep hx).1
    · cases hc

section
variable {P : Program} {T : Nat → Option TI} {w : World} {h : Gh}

/-- The temporaries read as the interpreter's. -/
def Tms (w : World) (h : Gh) (tm : Nat → Option AV) (a : Act) : Prop := ∀ t v, tm t = some v → RepA w h v (a.tmps.getD t undef)

theorem ev_rep {tm : Nat → Option AV} {a : Act} (ht : Tms w h tm a) : ∀ {x : Operand} {v : AV}, ev tm x = some v → RepA w h v (a.eval x) := by
  intro x v hx
  cases x with
  | tmp t => exact ht t v hx
  | const c => exact cv_rep hx
  | func f => simp only [ev, Option.some.injEq] at hx; subst hx; simp only [RepA, RepV]; exact ⟨#[], rfl, by simp [RepVs]⟩
  | global g => simp [ev] at hx

theorem evs_rep {tm : Nat → Option AV} {a : Act} (ht : Tms w h tm a) : ∀ {xs : List Operand} {vs : List AV}, evs tm xs = some vs → RepAs w h vs (xs.map a.eval)
  | [], vs, hx => by simp [evs] at hx; subst hx; simp [RepAs]
  | x :: xs, vs, hx => by
    simp only [evs] at hx
    cases h1 : ev tm x with
    | none => simp [h1] at hx
    | some v =>
      cases h2 : evs tm xs with
      | none => simp [h1, h2] at hx
      | some us =>
        simp only [h1, h2, Option.some.injEq] at hx; subst hx
        simp only [List.map_cons, RepAs]
        exact ⟨_, _, rfl, ev_rep ht h1, evs_rep ht h2⟩

theorem elems_rep : ∀ {a : AV} {es : List (List D)} {v : Value}, a.elems = some es → RepA w h a v →
    ∃ b n c, v = .slice b n c ∧ n = es.length := by
  intro a es v he hr
  cases a with
  | d x =>
    cases x <;> simp [AV.elems] at he <;> subst he <;> simp only [RepA, RepV] at hr
    · subst hr; exact ⟨none, 0, 0, rfl, rfl⟩
    · obtain ⟨b, n, c, vs, rfl, hn, _⟩ := hr; exact ⟨b, n, c, rfl, hn⟩
    · obtain ⟨b, n, vs, rfl, hn, _⟩ := hr; exact ⟨b, n, n, rfl, hn⟩
    · obtain ⟨ad, c, rfl⟩ := hr; exact ⟨some ad, 0, c, rfl, rfl⟩
  | own i sz es' =>
    simp [AV.elems] at he; subst he
    have := hr.own_sl
    simp only [RepV] at this
    obtain ⟨b, n, c, vs, rfl, hn, _⟩ := this
    exact ⟨b, n, c, rfl, hn⟩
  | _ => simp [AV.elems] at he

/-- A slice whose elements have so many cells. -/
theorem row_rep {sz : Nat} : ∀ {a : AV} {es : List (List D)} {v : Value}, AV.row sz a = some es → RepA w h a v → es = [] ∧ v = .slice none 0 0 ∨ RepV w h.L (.sl sz es) v := by
  intro a es v he hr
  cases a with
  | d x =>
    cases x <;> simp [AV.row] at he
    · subst he; simp only [RepA, RepV] at hr; exact .inl ⟨rfl, hr⟩
    · obtain ⟨rfl, rfl⟩ := he; exact .inr (by simpa only [RepA] using hr)
    · obtain ⟨rfl, rfl⟩ := he; exact .inr (RepV.sl_of_full (by simpa only [RepA] using hr))
    · obtain ⟨rfl, rfl⟩ := he
      simp only [RepA, RepV] at hr
      obtain ⟨ad, c, rfl⟩ := hr
      right
      simp only [RepV]
      exact ⟨some ad, 0, c, [], rfl, rfl, Nat.zero_le _, by simp, by simp [RepF], .inl rfl⟩
  | own i z es' =>
    simp [AV.row] at he; obtain ⟨rfl, rfl⟩ := he
    exact .inr hr.own_sl
  | _ => simp [AV.row] at he

theorem row_rep' {sz : Nat} {a : AV} {es : List (List D)} {v : Value} (he : AV.row sz a = some es) (hr : RepA w h a v) : RepV w h.L (.sl sz es) v := by
  rcases row_rep he hr with ⟨rfl, rfl⟩ | h1
  · simp only [RepV]; exact ⟨none, 0, 0, [], rfl, rfl, Nat.le_refl _, by simp, by simp [RepF], .inl rfl⟩
  · exact h1

/-- What may be pointed to: a raw row, one that was raw, or a row. -/
theorem refs_cases {w : World} {h : Gh} {sz n : Nat} {e : List D} {a : AV} {es : List (List D)} {v : Value} (hes : AV.refs sz a = some es) (he : es[n]? = some e) (hr : RepA w h a v) :
    (∃ b o ln c, v = .slice (some ⟨b, o, none⟩) ln c ∧ n < ln ∧ RepA w h (AV.elem n e a) (.pointer (some ⟨b, o + n * sz, none⟩))) ∨ (AV.row sz a = some es ∧ AV.elem n e a = .d (.at e)) := by
  have hlt : n < es.length := (List.getElem?_eq_some_iff.1 he).1
  cases a with
  | raw o k i z xs =>
    cases o with
    | some m => simp [AV.refs, AV.row] at hes
    | none =>
      simp only [AV.refs] at hes
      split at hes
      case isFalse => cases hes
      rename_i hz
      cases hes
      have hz : z = sz := by simpa using hz
      subst hz
      left
      simp only [RepA] at hr
      rcases hr with ⟨_, hk, hr⟩ | ⟨_, h2, _⟩ | ⟨b, ln, c, vs, cc, ty, hv, hm, hn, hc, hkn, hs, hf, hg, hL, hh, hrm, hcells⟩
      · simp only [RepV] at hr
        obtain ⟨ad, ln, vs, rfl, hn, _, _, hm⟩ := hr
        rcases hm with hm | ⟨b, o, rfl, _⟩
        · omega
        · refine ⟨b, o, ln, ln, rfl, by omega, ?_⟩
          simp only [AV.elem, RepA]
          exact .inr (.inl ⟨hk, rfl, _, _, rfl⟩)
      · cases h2
      · subst hv
        refine ⟨b, 0, ln, c, rfl, by omega, ?_⟩
        simp only [AV.elem, RepA]
        exact .inr (.inr ⟨b, ln, c, vs, cc, ty, by simp, by intro m hm; cases hm; omega, hn, hc, hkn, hs, hf, hg, hL, hh, hrm, hcells⟩)
  | old o z m =>
    cases o with
    | some m => simp [AV.refs, AV.row] at hes
    | none =>
      simp only [AV.refs] at hes
      split at hes
      case isFalse => cases hes
      cases hes
      left
      simp only [List.length_replicate] at hlt
      simp only [RepA, OldRef] at hr
      obtain ⟨ad, c, rfl, hm⟩ := hr
      rcases hm with hm | ⟨b, off, rfl⟩
      · omega
      · refine ⟨b, off, m, c, rfl, hlt, ?_⟩
        simp only [AV.elem, RepA, OldRef]
        exact ⟨_, _, rfl⟩
  | _ => exact .inr ⟨hes, rfl⟩

theorem intOf_rep : ∀ {a : AV} {n : Int} {v : Value}, intOf a = some n → RepA w h a v → ∃ k, v = .int k n := by
  intro a n v he hr
  cases a with
  | d x => cases x <;> simp [intOf] at he; subst he; simp only [RepA, RepV] at hr; exact ⟨_, hr⟩
  | _ => simp [intOf] at he

theorem val_rep : ∀ {x : D} {u v : Value}, x.val = some u → RepV w h.L x v → v = u := by
  intro x u v hx hr
  cases x <;> simp [D.val] at hx <;> subst hx <;> simpa only [RepV] using hr

theorem semV_run {s : Sem Value} {a : AV} (hs : semV s = some a) : ∃ v, s.run P w = .ok v w ∧ RepA w h a v := by
  cases s with
  | pure v =>
    simp only [semV] at hs
    cases hv : vD v with
    | none => simp [hv] at hs
    | some x =>
      simp only [hv, Option.some.injEq] at hs; subst hs
      refine ⟨v, rfl, ?_⟩
      cases v <;> simp [vD] at hv <;> subst hv <;> simp [RepA, RepV]
  | _ => simp [semV] at hs

theorem eqGuard_plain {op : BinOp} {t : TypeId} {x y : Operand} {a b : D} {u v : Value} (hu : a.val = some u) (hv : b.val = some v) : (eqGuard op t x y u v).run P w = .ok () w := by
  cases a <;> simp [D.val] at hu <;> subst hu <;> cases b <;> simp [D.val] at hv <;> subst hv <;> simp [eqGuard] <;> split <;> rfl

theorem foldl_set (off : Nat) : ∀ (us : List Value) (k : Nat) (acc : Array Value), off + k + us.length ≤ acc.size →
    ((us.zipIdx k).foldl (fun cs (c, j) => cs.setIfInBounds (off + j) c) acc).toList = acc.toList.take (off + k) ++ us ++ acc.toList.drop (off + k + us.length)
  | [], k, acc, hh => by simp
  | u :: us, k, acc, hh => by
    simp only [List.length_cons] at hh
    simp only [List.zipIdx_cons, List.foldl_cons]
    rw [foldl_set off us (k + 1) (acc.setIfInBounds (off + k) u) (by simp; omega)]
    simp only [Array.toList_setIfInBounds]
    rw [show off + (k + 1) = off + k + 1 from rfl]
    have hlt : off + k < acc.toList.length := by simp; omega
    rw [List.take_set, List.drop_set, List.take_succ_eq_append_getElem hlt, List.set_append_right _ _ (by simp; omega)]
    have e1 : off + k - (acc.toList.take (off + k)).length = 0 := by simp; omega
    rw [e1, if_pos (by omega)]
    simp only [List.set_cons_zero, List.length_cons, List.append_assoc, List.cons_append, List.nil_append]
    rw [show off + k + 1 + us.length = off + k + (us.length + 1) by omega]

theorem fill_cells {fields : List (Nat × Nat)} {e : Operand → Option AV} {ea : Operand → Value} (he : ∀ x v, e x = some v → RepA w h v (ea x)) :
    ∀ (parts : List (Nat × Operand)) (cs cs' : List D) (vs : Array Value), buildCells fields e parts cs = some cs' → RepVs w h.L cs vs.toList → (∀ u ∈ vs.toList, u.oneCell' = true) →
      ∃ vs', Instr.fill (fields.toArray[·]?) vs (parts.map fun p => (p.1, ea p.2)) = some vs' ∧ RepVs w h.L cs' vs'.toList ∧ (∀ u ∈ vs'.toList, u.oneCell' = true)
  | [], cs, cs', vs, hb, hr, h1 => by
    simp only [buildCells, Option.some.injEq] at hb; subst hb
    exact ⟨vs, by simp [Instr.fill], hr, h1⟩
  | (i, x) :: rest, cs, cs', vs, hb, hr, h1 => by
    simp only [buildCells] at hb
    cases hx : e x with
    | none => simp [hx] at hb
    | some a =>
      simp only [hx] at hb
      cases hd : a.data with
      | none => simp [hd] at hb
      | some v =>
        simp only [hd] at hb
        cases hf : fields[i]? with
        | none => simp [hf] at hb
        | some p =>
          obtain ⟨off, size⟩ := p
          simp only [hf] at hb
          split at hb
          · rename_i hc
            simp only [Bool.and_eq_true, Nat.beq_eq, Nat.ble_eq] at hc
            obtain ⟨hc1, hc2⟩ := hc
            have hrep : RepV w h.L v (ea x) := (he x a hx).data a v _ hd
            obtain ⟨g1, g2⟩ := hrep.cells
            have hl1 : (ea x).cells.toList.length = v.cells.length := g1.length
            have hl2 : vs.toList.length = cs.length := hr.length
            have hsz : (ea x).cells.size = v.cells.length := by simpa using hl1
            have hvsz : vs.size = cs.length := by simpa using hl2
            have hk := foldl_set off (ea x).cells.toList 0 vs (by simp; omega)
            simp only [Nat.add_zero] at hk
            have hfill : Instr.fill (fields.toArray[·]?) vs (((i, x) :: rest).map fun p => (p.1, ea p.2)) =
                Instr.fill (fields.toArray[·]?) (((ea x).cells.zipIdx.foldl (fun cs (c, j) => cs.setIfInBounds (off + j) c) vs)) (rest.map fun p => (p.1, ea p.2)) := by
              simp only [List.map_cons, Instr.fill]
              have : (fields.toArray)[i]? = some (off, size) := by simpa using hf
              rw [this]
              simp only []
              rw [if_neg]
              simp
              omega
            rw [hfill]
            have hz : ((ea x).cells.zipIdx.foldl (fun cs (c, j) => cs.setIfInBounds (off + j) c) vs) = (((ea x).cells.toList.zipIdx 0).foldl (fun cs (c, j) => cs.setIfInBounds (off + j) c) vs) := by
              rw [← Array.foldl_toList]; simp
            rw [hz]
            refine fill_cells he rest (fillCells cs off v.cells) cs' _ hb ?_ ?_
            · rw [hk, hl1]
              unfold fillCells
              exact (hr.take.append g1).append hr.drop
            · rw [hk]
              intro u hu
              simp only [List.mem_append] at hu
              rcases hu with (hu | hu) | hu
              · exact h1 u (List.mem_of_mem_take hu)
              · exact g2 u hu
              · exact h1 u (List.mem_of_mem_drop hu)
          · cases hb

theorem opB_run {f : Value → Value → Sem Value} {a b v : AV} {u1 u2 : Value} (hb : opB f a b = some v) (h1 : RepA w h a u1) (h2 : RepA w h b u2) :
    ∃ u, (f u1 u2).run P w = .ok u w ∧ RepA w h v u := by
  unfold opB at hb
  split at hb
  · rename_i x y
    simp only [RepA] at h1 h2
    cases hx : x.val with
    | none => simp [hx] at hb
    | some p =>
      cases hy : y.val with
      | none => simp [hx, hy] at hb
      | some q =>
        simp only [hx, hy] at hb
        rw [val_rep hx h1, val_rep hy h2]
        exact semV_run hb
  · cases hb

theorem optI_run {tm : Nat → Option AV} {a : Act} (ht : Tms w h tm a) {x : Option Operand} {r : Option Int} (hx : optI (ev tm) x = some r) :
    (x = none ∧ r = none) ∨ ∃ y k n, x = some y ∧ a.eval y = .int k n ∧ r = some n := by
  cases x with
  | none => simp [optI] at hx; exact .inl ⟨rfl, hx.symm⟩
  | some y =>
    simp only [optI] at hx
    cases hy : ev tm y with
    | none => simp [hy] at hx
    | some b =>
      simp only [hy] at hx
      cases hn : intOf b with
      | none => simp [hn] at hx
      | some n =>
        simp only [hn, Option.some.injEq] at hx; subst hx
        obtain ⟨k, hk⟩ := intOf_rep hn (ev_rep ht hy)
        exact .inr ⟨y, k, n, rfl, hk, rfl⟩

theorem TyFact.size {t : TypeId} {ti : TI} (hf : TyFact P t ti) (w : World) : (sizeOf t).run P w = .ok ti.size w := by
  obtain ⟨i, z, hi, hs, _⟩ := hf.info
  simp [sizeOf, typeInfo, hi, hs]

theorem TyFact.sizeMap {t : TypeId} {ti : TI} (hf : TyFact P t ti) : (P.info? t).map (·.size) = some ti.size := by
  obtain ⟨i, z, hi, hs, _⟩ := hf.info
  simp [hi, hs]

theorem TyFact.und {t : TypeId} {ti : TI} (hf : TyFact P t ti) (hk : ti.kind = 2) : P.underlying t = some (.slice ti.elem) := by
  obtain ⟨d, hd, _, hkf⟩ := hf.desc
  unfold KindFact at hkf
  rw [hk] at hkf
  simp only at hkf
  rw [hd, hkf]

theorem TyFact.und3 {t : TypeId} {ti : TI} (hf : TyFact P t ti) (hk : ti.kind = 3) : P.underlying t = some .string := by
  obtain ⟨d, hd, _, hkf⟩ := hf.desc
  unfold KindFact at hkf
  rw [hk] at hkf
  simp only at hkf
  rw [hd, hkf]

theorem TyFact.und4 {t : TypeId} {ti : TI} (hf : TyFact P t ti) (hk : ti.kind = 4) : ∃ k, P.underlying t = some (.int k) := by
  obtain ⟨d, hd, _, hkf⟩ := hf.desc
  unfold KindFact at hkf
  rw [hk] at hkf
  simp only at hkf
  obtain ⟨k, rfl⟩ := hkf
  exact ⟨k, hd⟩

theorem TyFact.und1 {t : TypeId} {ti : TI} (hf : TyFact P t ti) (hk : ti.kind = 1) :
    ∃ fs, P.underlying t = some (.struct fs) ∧ fs.toList.mapM (fun f => (P.info? f.type).map fun i => (f.offset, i.size)) = some ti.fields ∧ ∀ p ∈ ti.fields, 0 < p.2 ∧ p.1 + p.2 ≤ ti.size := by
  obtain ⟨d, hd, _, hkf⟩ := hf.desc
  unfold KindFact at hkf
  rw [hk] at hkf
  simp only at hkf
  obtain ⟨fs, rfl, h2, h3⟩ := hkf
  exact ⟨fs, hd, h2, h3⟩

theorem mapM_get {α β : Type} {f : α → Option β} : ∀ {l : List α} {r : List β} {k : Nat} {y : β}, l.mapM f = some r → r[k]? = some y → ∃ x, l[k]? = some x ∧ f x = some y
  | [], r, k, y, hm, hk => by simp at hm; subst hm; simp at hk
  | x :: l, r, k, y, hm, hk => by
    simp only [List.mapM_cons, Option.bind_eq_bind, Option.pure_def] at hm
    cases h1 : f x with
    | none => simp [h1] at hm
    | some z =>
      cases h2 : l.mapM f with
      | none => simp [h1, h2] at hm
      | some zs =>
        simp [h1, h2] at hm; subst hm
        cases k with
        | zero => simp at hk; subst hk; exact ⟨x, rfl, h1⟩
        | succ k => simpa using mapM_get h2 (by simpa using hk)

theorem run_fieldPlace {t : TypeId} {b o : Nat} {f : Field} {i : TypeInfo} {size : Nat} (hi : P.info? f.type = some i) (hs : i.size = size) (h0 : 0 < size) :
    (fieldPlace ⟨b, o, none⟩ f).run P w = .ok ⟨b, o + f.offset, none⟩ w := by
  have : i.size ≠ 0 := by omega
  simp [fieldPlace, sizeOf, typeInfo, hi, this, Addr.add_mid]

theorem run_fieldAt {t : TypeId} {ti : TI} (hf : TyFact P t ti) (hk : ti.kind = 1) {k off size : Nat} (hg : ti.fields[k]? = some (off, size)) (b o : Nat) :
    (Instr.fieldAt t (.pointer (some ⟨b, o, none⟩)) k).run P w = .ok (.pointer (some ⟨b, o + off, none⟩)) w := by
  obtain ⟨fs, hu, hm, hpos⟩ := hf.und1 hk
  obtain ⟨f, hf1, hf2⟩ := mapM_get hm hg
  cases hi : P.info? f.type with
  | none => simp [hi] at hf2
  | some i =>
    simp only [hi, Option.map_some, Option.some.injEq, Prod.mk.injEq] at hf2
    obtain ⟨rfl, rfl⟩ := hf2
    have h0 := (hpos _ (List.mem_of_getElem? hg)).1
    have hfs : fs[k]? = some f := by simpa using hf1
    have := run_fieldPlace (P := P) (w := w) (t := t) (b := b) (o := o) hi rfl h0
    simp [Instr.fieldAt, run_underlying hu, hfs, Instr.sureAddr, this]

/-- A bound of a slice expression, where it is in range. -/
theorem run_slice_vals {t e : TypeId} (hu : P.underlying t = some (.slice e)) {size : Nat} (hs : (sizeOf e).run P w = .ok size w) (b : Option Addr) (n c : Nat)
    {lo hi mx : Option Value} {l h m : Nat} (hl : (lo = none ∧ l = 0) ∨ ∃ k, lo = some (.int k l)) (hh : (hi = none ∧ h = n ∧ mx = none) ∨ ∃ k, hi = some (.int k h))
    (hm : (mx = none ∧ m = c) ∨ ∃ k, mx = some (.int k m)) (h1 : l ≤ h) (h2 : h ≤ m) (h3 : m ≤ c) :
    (Instr.sliceAt t (.slice b n c) lo hi mx).run P w = .ok (.slice (if m = l then b else b.map (·.add (l * size))) (h - l) (m - l)) w := by
  rcases hl with ⟨rfl, rfl⟩ | ⟨kl, rfl⟩ <;> rcases hh with ⟨rfl, rfl, rfl⟩ | ⟨kh, rfl⟩ <;> rcases hm with ⟨hm1, rfl⟩ | ⟨km, hm1⟩ <;> (first | subst hm1 | cases hm1) <;>
    simp [Instr.sliceAt, Instr.slice, Instr.sliceBounds, run_underlying hu, hs, run_sliceBound, h1, h2, h3, Nat.le_trans h2 h3, Nat.le_trans h1 h2]

theorem sliceD_rep {sz : Nat} {t e : TypeId} (hu : P.underlying t = some (.slice e)) (hs : (sizeOf e).run P w = .ok sz w) {a v : AV} {lo hi mx : Option Int} {va : Value}
    (hd : sliceD sz a lo hi mx = some v) (hr : RepA w h a va) {vlo vhi vmx : Option Value}
    (hlo : (vlo = none ∧ lo = none) ∨ ∃ k n, vlo = some (.int k n) ∧ lo = some n) (hhi : (vhi = none ∧ hi = none) ∨ ∃ k n, vhi = some (.int k n) ∧ hi = some n)
    (hmx : (vmx = none ∧ mx = none) ∨ ∃ k n, vmx = some (.int k n) ∧ mx = some n) :
    ∃ u, (Instr.sliceAt t va vlo vhi vmx).run P w = .ok u w ∧ RepA w h v u := by
  unfold sliceD at hd
  split at hd
  case isTrue => cases hd
  rename_i hmh
  have hmh : hi = none → mx = none := by
    intro e; subst e
    cases mx with
    | none => rfl
    | some m => simp at hmh
  split at hd
  · -- nil
    split at hd
    · rename_i hc
      simp only [Option.some.injEq] at hd; subst hd
      simp only [RepA, RepV] at hr; subst hr
      refine ⟨.slice none 0 0, ?_, by simp [RepA, RepV]⟩
      have := run_slice_vals (w := w) hu hs none 0 0 (lo := vlo) (hi := vhi) (mx := vmx) (l := 0) (h := 0) (m := 0)
        (by rcases hlo with ⟨rfl, rfl⟩ | ⟨k, n, rfl, rfl⟩
            · exact .inl ⟨rfl, rfl⟩
            · simp only [Option.getD_some] at hc; exact .inr ⟨k, by rw [hc.1]; rfl⟩)
        (by rcases hhi with ⟨rfl, rfl⟩ | ⟨k, n, rfl, rfl⟩
            · refine .inl ⟨rfl, rfl, ?_⟩
              rcases hmx with ⟨rfl, _⟩ | ⟨k, n, _, h2⟩
              · rfl
              · rw [hmh rfl] at h2; cases h2
            · simp only [Option.getD_some] at hc; exact .inr ⟨k, by rw [hc.2.1]; rfl⟩)
        (by rcases hmx with ⟨rfl, rfl⟩ | ⟨k, n, rfl, rfl⟩
            · exact .inl ⟨rfl, rfl⟩
            · simp only [Option.getD_some] at hc; exact .inr ⟨k, by rw [hc.2.2]; rfl⟩)
        (Nat.le_refl _) (Nat.le_refl _) (Nat.le_refl _)
      simpa using this
    · cases hd
  · rename_i hnn
    cases he : AV.row sz a with
    | none => simp [he] at hd
    | some es =>
      simp only [he] at hd
      have hrep := row_rep' he hr
      simp only [RepV] at hrep
      obtain ⟨ad, n, c, vs, rfl, hn, hc, hus, hf, hm⟩ := hrep
      cases mx with
      | none =>
        simp only at hd
        split at hd
        · rename_i hb
          simp only [Option.some.injEq] at hd; subst hd
          obtain ⟨hb1, hb2, hb3⟩ := hb
          obtain ⟨l, hl⟩ := Int.eq_ofNat_of_zero_le hb1
          obtain ⟨hh, hhq⟩ := Int.eq_ofNat_of_zero_le (Int.le_trans hb1 hb2)
          rw [hl, hhq] at hb2
          rw [hhq] at hb3
          rw [hl, hhq]
          simp only [Int.toNat_natCast]
          have hle1 : l ≤ hh := by omega
          have hle2 : hh ≤ es.length := by omega
          refine ⟨_, run_slice_vals (w := w) hu hs ad n c (lo := vlo) (hi := vhi) (mx := vmx) (l := l) (h := hh) (m := c) ?_ ?_ ?_ hle1 (by omega) (Nat.le_refl _), ?_⟩
          · rcases hlo with ⟨rfl, rfl⟩ | ⟨k, q, rfl, rfl⟩
            · simp at hl; exact .inl ⟨rfl, by omega⟩
            · simp at hl; exact .inr ⟨k, by rw [hl]⟩
          · rcases hhi with ⟨rfl, rfl⟩ | ⟨k, q, rfl, rfl⟩
            · simp at hhq
              refine .inl ⟨rfl, by omega, ?_⟩
              rcases hmx with ⟨rfl, _⟩ | ⟨_, _, _, h2⟩
              · rfl
              · cases h2
            · simp at hhq; exact .inr ⟨k, by rw [hhq]⟩
          · rcases hmx with ⟨rfl, _⟩ | ⟨_, _, _, h2⟩
            · exact .inl ⟨rfl, rfl⟩
            · cases h2
          · simp only [RepA, RepV]
            refine ⟨_, hh - l, c - l, (vs.take (hh * sz)).drop (l * sz), rfl, by simp; omega, by omega, ?_, ?_, ?_⟩
            · intro e he'; exact hus e (List.mem_of_mem_take (List.mem_of_mem_drop he'))
            · exact (hf.take hus).drop (fun e he' => hus e (List.mem_of_mem_take he'))
            · by_cases h0 : hh - l = 0
              · exact .inl h0
              · rcases hm with hm | ⟨b, o, rfl, hL, hcells⟩
                · omega
                · refine .inr ⟨b, o + l * sz, ?_, ?_, ?_⟩
                  · rw [if_neg (by omega)]
                    simp [Addr.add_mid]
                  · have : (l + (hh - l)) * sz ≤ n * sz := Nat.mul_le_mul_right _ (by omega)
                    rw [Nat.add_mul] at this
                    omega
                  · exact (hcells.take _).drop _
        · cases hd
      | some m =>
        simp only at hd
        split at hd
        · rename_i hb
          simp only [Option.some.injEq] at hd; subst hd
          obtain ⟨hb1, hb2, hb3, hb4⟩ := hb
          have hmh2 : hi = some m := by
            cases hi with
            | none => exact absurd (hmh rfl) (by simp)
            | some q => simp at hb3; rw [hb3]
          subst hmh2
          simp only [Option.getD_some] at hb2 hb3 ⊢
          obtain ⟨l, hl⟩ := Int.eq_ofNat_of_zero_le hb1
          obtain ⟨hh, hhq⟩ := Int.eq_ofNat_of_zero_le (Int.le_trans hb1 hb2)
          subst hhq
          rw [hl] at hb2 ⊢
          simp only [Int.toNat_natCast]
          have hle1 : l ≤ hh := by omega
          have hle2 : hh ≤ es.length := by omega
          refine ⟨_, run_slice_vals (w := w) hu hs ad n c (lo := vlo) (hi := vhi) (mx := vmx) (l := l) (h := hh) (m := hh) ?_ ?_ ?_ hle1 (Nat.le_refl _) (by omega), ?_⟩
          · rcases hlo with ⟨rfl, rfl⟩ | ⟨k, q, rfl, rfl⟩
            · simp at hl; exact .inl ⟨rfl, by omega⟩
            · simp at hl; exact .inr ⟨k, by rw [hl]⟩
          · rcases hhi with ⟨_, h2⟩ | ⟨k, q, rfl, h2⟩
            · cases h2
            · simp at h2; exact .inr ⟨k, by rw [h2]⟩
          · rcases hmx with ⟨_, h2⟩ | ⟨k, q, rfl, h2⟩
            · cases h2
            · simp at h2; exact .inr ⟨k, by rw [h2]⟩
          · simp only [RepA, RepV]
            refine ⟨_, hh - l, (vs.take (hh * sz)).drop (l * sz), rfl, by simp; omega, ?_, ?_, ?_⟩
            · intro e he'; exact hus e (List.mem_of_mem_take (List.mem_of_mem_drop he'))
            · exact (hf.take hus).drop (fun e he' => hus e (List.mem_of_mem_take he'))
            · by_cases h0 : hh - l = 0
              · exact .inl h0
              · rcases hm with hm | ⟨b, o, rfl, hL, hcells⟩
                · omega
                · refine .inr ⟨b, o + l * sz, ?_, ?_, ?_⟩
                  · rw [if_neg (by omega)]
                    simp [Addr.add_mid]
                  · have : (l + (hh - l)) * sz ≤ n * sz := Nat.mul_le_mul_right _ (by omega)
                    rw [Nat.add_mul] at this
                    omega
                  · exact (hcells.take _).drop _
        · cases hd

theorem opLen_rep {k : Nat} {a v : AV} {va : Value} (hl : opLen k a = some v) (hr : RepA w h a va) :
    (k = 3 ∧ ∃ s, va = .string s ∧ v = .d (.int .i64 s.size)) ∨ (k = 2 ∧ ∃ b n c, va = .slice b n c ∧ v = .d (.int .i64 n)) := by
  unfold opLen at hl
  split at hl
  · cases he : AV.elems a with
    | none => simp [he] at hl
    | some es =>
      simp only [he, Option.some.injEq] at hl; subst hl
      obtain ⟨b, n, c, rfl, hn⟩ := elems_rep he hr
      exact .inr ⟨rfl, b, n, c, rfl, by rw [hn]⟩
  · split at hl
    · rename_i s
      simp only [Option.some.injEq] at hl; subst hl
      simp only [RepA, RepV] at hr; subst hr
      exact .inl ⟨rfl, s, rfl, rfl⟩
    · cases hl
  · cases hl

theorem lenA_run (hT : TyOk P T) {tm : Nat → Option AV} {a : Act} (ht : Tms w h tm a) {c : Call} {v : AV} {ty : TypeId} (hv : lenA T (ev tm) c = some v) :
    ∃ u, (do let d ← resolve a.eval c ty; invoke d.target d.args : Sem Next).run P w = .ok (.value u) w ∧ RepA w h v u := by
  obtain ⟨callee, args, argTypes⟩ := c
  unfold lenA at hv
  split at hv
  case isFalse => cases hv
  rename_i hlen
  split at hv
  · rename_i hext
    have hcl : callee = .builtin .len := by
      revert hlen hext
      cases callee with
      | builtin b => cases b <;> simp [isLen, extOp]
      | _ => simp [isLen]
    subst hcl
    split at hv
    · rename_i x t rest hargs htys
      have hargs' : args = #[x] := by simpa using congrArg List.toArray hargs
      have htys' : argTypes = (t :: rest).toArray := by simpa using congrArg List.toArray htys
      subst hargs' htys'
      cases hti : T t with
      | none => simp [hti] at hv
      | some ti =>
        simp only [hti] at hv
        cases hx : ev tm x with
        | none => simp [hx] at hv
        | some ax =>
          simp only [hx] at hv
          have h1 := ev_rep ht hx
          have hf := hT t ti hti
          rcases opLen_rep hv h1 with ⟨hk, s, hs, rfl⟩ | ⟨hk, b, n, cp, hs, rfl⟩
          · have hu := hf.und3 hk
            refine ⟨.int .i64 s.size, ?_, by simp [RepA, RepV]⟩
            simp [resolve, invoke, builtin, hs, Builtin.len_, run_underlying hu, goInt]
          · have hu := hf.und hk
            refine ⟨.int .i64 n, ?_, by simp [RepA, RepV]⟩
            simp [resolve, invoke, builtin, hs, Builtin.len_, run_underlying hu, goInt]
    · cases hv
  · rename_i mx hext
    have hcl : (callee = .builtin .max ∧ mx = true) ∨ (callee = .builtin .min ∧ mx = false) := by
      revert hlen hext
      cases callee with
      | builtin b => cases b <;> simp [isLen, extOp]
      | _ => simp [isLen]
    split at hv
    · rename_i x y hargs
      have hargs' : args = #[x, y] := by simpa using congrArg List.toArray hargs
      subst hargs'
      cases hx : ev tm x with
      | none => simp [hx] at hv
      | some ax =>
        cases hy : ev tm y with
        | none => simp [hx, hy] at hv
        | some ay =>
          simp only [hx, hy] at hv
          have h1 := ev_rep ht hx
          have h2 := ev_rep ht hy
          unfold extA at hv
          split at hv
          · rename_i k m l n
            simp only [Option.some.injEq] at hv; subst hv
            simp only [RepA, RepV] at h1 h2
            refine ⟨.int k (extI mx m n), ?_, by simp [RepA, RepV]⟩
            rcases hcl with ⟨rfl, rfl⟩ | ⟨rfl, rfl⟩
            · simp [resolve, invoke, builtin, h1, h2, Builtin.max_, Builtin.max2, extI]
            · simp [resolve, invoke, builtin, h1, h2, Builtin.min_, Builtin.min2, extI]
          · cases hv
    · cases hv

theorem nilQ_rep {k : Nat} {a : AV} {r : Bool} {v : Value} (hq : nilQ k a = some r) (hr : RepA w h a v) :
    (k = 2 ∧ ∃ b n c, v = .slice b n c ∧ b.isNone = r) ∨ (k = 7 ∧ ∃ b, v = .pointer b ∧ b.isNone = r) ∨ (k = 9 ∧ ((r = true ∧ v = .nilFunc) ∨ (r = false ∧ ∃ f x y, v = .func f x y))) ∨ (k = 10 ∧ r = true ∧ v = .map none) ∨ (k = 8 ∧ ((r = true ∧ v = .nilIface) ∨ (r = false ∧ ∃ t u, v = .iface t u))) := by
  unfold nilQ at hq
  split at hq
  · left
    refine ⟨rfl, ?_⟩
    split at hq
    · cases hq
      simp only [RepA, RepV] at hr
      exact ⟨_, _, _, hr, rfl⟩
    · cases hq
      simp only [RepA, RepV] at hr
      obtain ⟨ad, c, rfl⟩ := hr
      exact ⟨_, _, _, rfl, rfl⟩
    · split at hq
      · rename_i e es he
        cases hq
        have big : ∀ {sz : Nat} {es' : List (List D)}, RepV w h.L (.sl sz es') v → es' = e :: es → ∃ b n c, v = .slice b n c ∧ b.isNone = false := by
          intro sz es' hv hes
          simp only [RepV] at hv
          obtain ⟨b, n, c, vs, rfl, hn, _, _, _, hm⟩ := hv
          rcases hm with hm | ⟨b', o, rfl, _⟩
          · rw [hes] at hn; simp at hn; omega
          · exact ⟨_, _, _, rfl, rfl⟩
        cases a with
        | d x =>
          cases x <;> simp [AV.elems] at he
          · exact big (by simpa only [RepA] using hr) he
          · simp only [RepA] at hr; exact big hr.sl_of_full he
        | own i sz es' =>
          simp [AV.elems] at he
          exact big hr.own_sl he
        | _ => simp [AV.elems] at he
      · cases hq
  · right; left
    refine ⟨rfl, ?_⟩
    split at hq <;> cases hq
    · simp only [RepA, RepV] at hr; exact ⟨_, hr, rfl⟩
    · simp only [RepA, RepV] at hr; obtain ⟨b, o, vs, rfl, _⟩ := hr; exact ⟨_, rfl, rfl⟩
    · simp only [RepA] at hr; obtain ⟨b, _, rfl⟩ := hr; exact ⟨_, rfl, rfl⟩
  · right; right; left
    refine ⟨rfl, ?_⟩
    split at hq <;> cases hq
    · simp only [RepA, RepV] at hr; exact .inl ⟨rfl, hr⟩
    · simp only [RepA, RepV] at hr; obtain ⟨cv, rfl, _⟩ := hr; exact .inr ⟨rfl, _, _, _, rfl⟩
    · simp only [RepA] at hr; obtain ⟨cv, rfl, _⟩ := hr; exact .inr ⟨rfl, _, _, _, rfl⟩
    · simp only [RepA] at hr; exact .inr ⟨rfl, _, _, _, hr⟩
  · right; right; right; left
    split at hq <;> cases hq
    simp only [RepA, RepV] at hr; exact ⟨rfl, rfl, hr⟩
  · right; right; right; right
    refine ⟨rfl, ?_⟩
    split at hq <;> cases hq
    · simp only [RepA, RepV] at hr; exact .inl ⟨rfl, hr⟩
    · simp only [RepA, RepV] at hr; obtain ⟨u, rfl, _⟩ := hr; exact .inr ⟨rfl, _, _, rfl⟩
  · cases hq

theorem equal_run' (m : Nat) {t : TypeId} {d : TypeDesc} (hu : P.underlying t = some d) {u v : Value} {r : Bool} (h : d = .bool ∧ (∃ x y, u = .bool x ∧ v = .bool y ∧ r = (x == y)) ∨
      (∃ e, d = .slice e) ∧ (∃ a n c a' n' c', u = .slice a n c ∧ v = .slice a' n' c' ∧ ((a = none ∧ r = a'.isNone) ∨ (a' = none ∧ r = a.isNone))) ∨
      (∃ e, d = .pointer e) ∧ (∃ a a', u = .pointer a ∧ v = .pointer a' ∧ ((a = none ∧ r = a'.isNone) ∨ (a' = none ∧ r = a.isNone))) ∨
      (∃ a b c, d = .func a b c) ∧ ((u = .nilFunc ∧ v = .nilFunc ∧ r = true) ∨ (u = .nilFunc ∧ (∃ f x y, v = .func f x y) ∧ r = false) ∨ (v = .nilFunc ∧ (∃ f x y, u = .func f x y) ∧ r = false)) ∨
      ((∃ a b, d = .map a b) ∧ u = .map none ∧ v = .map none ∧ r = true) ∨
      (d = .interface #[] ∧ ((u = .nilIface ∧ v = .nilIface ∧ r = true) ∨ (u = .nilIface ∧ (∃ t x, v = .iface t x) ∧ r = false) ∨ (v = .nilIface ∧ (∃ t x, u = .iface t x) ∧ r = false)))) : (Op.equalIn (m + 1) t u v).run P w = .ok r w := by
  rcases h with ⟨rfl, x, y, rfl, rfl, rfl⟩ | ⟨⟨e, rfl⟩, a, n, c, a', n', c', rfl, rfl, hr⟩ | ⟨⟨e, rfl⟩, a, a', rfl, rfl, hr⟩ | ⟨⟨a, b, c, rfl⟩, hr⟩ | ⟨⟨a, b, rfl⟩, rfl, rfl, rfl⟩ | ⟨rfl, hr⟩
  · simp [Op.equalIn, run_underlying hu]
  · rcases hr with ⟨rfl, rfl⟩ | ⟨rfl, rfl⟩
    · simp [Op.equalIn, run_underlying hu]
    · cases a <;> simp [Op.equalIn, run_underlying hu]
  · rcases hr with ⟨rfl, rfl⟩ | ⟨rfl, rfl⟩
    · simp [Op.equalIn, run_underlying hu]
    · cases a <;> simp [Op.equalIn, run_underlying hu]
  · rcases hr with ⟨rfl, rfl, rfl⟩ | ⟨rfl, ⟨f, x, y, rfl⟩, rfl⟩ | ⟨rfl, ⟨f, x, y, rfl⟩, rfl⟩ <;> simp [Op.equalIn, run_underlying hu]
  · simp [Op.equalIn, run_underlying hu]
  · rcases hr with ⟨rfl, rfl, rfl⟩ | ⟨rfl, ⟨f, x, rfl⟩, rfl⟩ | ⟨rfl, ⟨f, x, rfl⟩, rfl⟩ <;> simp [Op.equalIn, run_underlying hu]

theorem eqV_run (hT : TyOk P T) {t : TypeId} {a b : AV} {u v : Value} {r : Bool} (he : eqV T t a b = some r) (h1 : RepA w h a u) (h2 : RepA w h b v) :
    (Op.equal t u v).run P w = .ok r w ∧ (∀ op x y, (eqGuard op t x y u v).run P w = .ok () w) ∧ binOp .eql t u v = (do pure (.bool (← Op.equal t u v))) ∧ binOp .neq t u v = (do pure (.bool (!(← Op.equal t u v)))) := by
  have fin : ∀ {d : TypeDesc}, P.underlying t = some d → _ → (Op.equal t u v).run P w = .ok r w := fun {d} hu h => equal_run' (P := P) (w := w) 9999 (u := u) (v := v) (r := r) hu h
  unfold eqV at he
  cases hti : T t with
  | none => simp [hti] at he
  | some ti =>
    simp only [hti] at he
    obtain ⟨d, hd, _, hkf⟩ := (hT t ti hti).desc
    unfold KindFact at hkf
    have nilCase : ∀ k, (∃ q1 q2, nilQ k a = some q1 ∧ nilQ k b = some q2 ∧ ((q1 = true ∧ r = q2) ∨ (q2 = true ∧ r = q1))) → ti.kind = k → (Op.equal t u v).run P w = .ok r w ∧ (∀ op x y, (eqGuard op t x y u v).run P w = .ok () w) ∧ binOp .eql t u v = (do pure (.bool (← Op.equal t u v))) ∧ binOp .neq t u v = (do pure (.bool (!(← Op.equal t u v)))) := by
      rintro k ⟨q1, q2, e1, e2, hq⟩ hk
      rcases nilQ_rep e1 h1 with ⟨rfl, b1, n1, c1, rfl, r1⟩ | ⟨rfl, b1, rfl, r1⟩ | ⟨rfl, r1⟩ | ⟨rfl, rfl, rfl⟩ | ⟨rfl, r1⟩
      · rcases nilQ_rep e2 h2 with ⟨_, b2, n2, c2, rfl, r2⟩ | ⟨h', _⟩ | ⟨h', _⟩ | ⟨h', _⟩ | ⟨h', _⟩ <;> try omega
        rw [hk] at hkf
        simp only at hkf
        refine ⟨fin hd (.inr (.inl ⟨⟨_, hkf⟩, _, _, _, _, _, _, rfl, rfl, ?_⟩)), fun op x y => by unfold eqGuard; split <;> simp, rfl, rfl⟩
        subst r1 r2
        rcases hq with ⟨q, rfl⟩ | ⟨q, rfl⟩
        · exact .inl ⟨by cases b1 <;> simp_all, rfl⟩
        · exact .inr ⟨by cases b2 <;> simp_all, rfl⟩
      · rcases nilQ_rep e2 h2 with ⟨h', _⟩ | ⟨_, b2, rfl, r2⟩ | ⟨h', _⟩ | ⟨h', _⟩ | ⟨h', _⟩ <;> try omega
        rw [hk] at hkf
        simp only at hkf
        refine ⟨fin hd (.inr (.inr (.inl ⟨hkf, _, _, rfl, rfl, ?_⟩))), fun op x y => by unfold eqGuard; split <;> simp, rfl, rfl⟩
        subst r1 r2
        rcases hq with ⟨q, rfl⟩ | ⟨q, rfl⟩
        · exact .inl ⟨by cases b1 <;> simp_all, rfl⟩
        · exact .inr ⟨by cases b2 <;> simp_all, rfl⟩
      · rcases nilQ_rep e2 h2 with ⟨h', _⟩ | ⟨h', _⟩ | ⟨_, r2⟩ | ⟨h', _⟩ | ⟨h', _⟩ <;> try omega
        rw [hk] at hkf
        simp only at hkf
        rcases r1 with ⟨rfl, rfl⟩ | ⟨rfl, f1, x1, y1, rfl⟩ <;> rcases r2 with ⟨rfl, rfl⟩ | ⟨rfl, f2, x2, y2, rfl⟩
        · exact ⟨fin hd (.inr (.inr (.inr (.inl ⟨hkf, .inl ⟨rfl, rfl, by simpa using hq⟩⟩)))), fun op x y => by unfold eqGuard; split <;> simp, rfl, rfl⟩
        · exact ⟨fin hd (.inr (.inr (.inr (.inl ⟨hkf, .inr (.inl ⟨rfl, ⟨_, _, _, rfl⟩, by simpa using hq⟩)⟩)))), fun op x y => by unfold eqGuard; split <;> simp, rfl, rfl⟩
        · exact ⟨fin hd (.inr (.inr (.inr (.inl ⟨hkf, .inr (.inr ⟨rfl, ⟨_, _, _, rfl⟩, by simpa using hq⟩)⟩)))), fun op x y => by unfold eqGuard; split <;> simp, rfl, rfl⟩
        · simp at hq
      · rcases nilQ_rep e2 h2 with ⟨h', _⟩ | ⟨h', _⟩ | ⟨h', _⟩ | ⟨_, rfl, rfl⟩ | ⟨h', _⟩ <;> try omega
        rw [hk] at hkf
        simp only at hkf
        exact ⟨fin hd (.inr (.inr (.inr (.inr (.inl ⟨hkf, rfl, rfl, by simpa using hq⟩))))), fun op x y => by unfold eqGuard; split <;> simp, rfl, rfl⟩
      · rcases nilQ_rep e2 h2 with ⟨h', _⟩ | ⟨h', _⟩ | ⟨h', _⟩ | ⟨h', _⟩ | ⟨_, r2⟩ <;> try omega
        rw [hk] at hkf
        simp only at hkf
        subst hkf
        have hg : ∀ u v : Value, ∀ op x y, (u = .nilIface ∨ ∃ t x, u = .iface t x) → (v = .nilIface ∨ ∃ t x, v = .iface t x) → (eqGuard op t x y u v).run P w = .ok () w := by
          intro u v op x y hu hv
          have lem : ∀ m, (Op.eqGuardIn (m + 1) t .nilIface .nilIface).run P w = .ok false w := by
            intro m
            simp [Op.eqGuardIn, run_underlying hd]
          have key : (Op.eqGuardIn Op.maxDepth t .nilIface .nilIface).run P w = .ok false w := lem 9999
          rcases hu with rfl | ⟨t1, x1, rfl⟩ <;> rcases hv with rfl | ⟨t2, x2, rfl⟩
          · unfold eqGuard
            generalize Op.maxDepth = M at key
            cases op <;> first | (simp; done) | (cases x <;> cases y <;> simp [key])
          · unfold eqGuard; split <;> simp
          · unfold eqGuard; split <;> simp
          · unfold eqGuard; split <;> simp
        rcases r1 with ⟨rfl, rfl⟩ | ⟨rfl, t1, x1, rfl⟩ <;> rcases r2 with ⟨rfl, rfl⟩ | ⟨rfl, t2, x2, rfl⟩
        · exact ⟨fin hd (.inr (.inr (.inr (.inr (.inr ⟨rfl, .inl ⟨rfl, rfl, by simpa using hq⟩⟩))))), fun op x y => hg _ _ _ _ _ (.inl rfl) (.inl rfl), rfl, rfl⟩
        · exact ⟨fin hd (.inr (.inr (.inr (.inr (.inr ⟨rfl, .inr (.inl ⟨rfl, ⟨_, _, rfl⟩, by simpa using hq⟩)⟩))))), fun op x y => hg _ _ _ _ _ (.inl rfl) (.inr ⟨_, _, rfl⟩), rfl, rfl⟩
        · exact ⟨fin hd (.inr (.inr (.inr (.inr (.inr ⟨rfl, .inr (.inr ⟨rfl, ⟨_, _, rfl⟩, by simpa using hq⟩)⟩))))), fun op x y => hg _ _ _ _ _ (.inr ⟨_, _, rfl⟩) (.inl rfl), rfl, rfl⟩
        · simp at hq
    split at he
    · rename_i hk
      split at he
      · rename_i x y
        simp only [Option.some.injEq] at he
        simp only [RepA, RepV] at h1 h2
        subst h1 h2
        rw [hk] at hkf
        simp only at hkf
        exact ⟨fin hd (.inl ⟨hkf, x, y, rfl, rfl, he.symm⟩), fun op x y => by unfold eqGuard; split <;> simp, rfl, rfl⟩
      · cases he
    · rename_i k hk5
      split at he
      · rename_i r' e1 e2
        cases he
        exact nilCase _ ⟨_, _, e1, e2, .inl ⟨rfl, rfl⟩⟩ rfl
      · rename_i r' _ e1 e2
        cases he
        exact nilCase _ ⟨_, _, e1, e2, .inr ⟨rfl, rfl⟩⟩ rfl
      · cases he

set_option maxHeartbeats 1000000 in
/-- The operations that only compute. -/
theorem opP_sound (hT : TyOk P T) {tm : Nat → Option AV} {a : Act} (ht : Tms w h tm a) {o : Oper} {v : AV} (hv : opP T (ev tm) o.op = some v) :
    ∃ u, (execOp a.eval o).run P w = .ok (.value u) w ∧ RepA w h v u := by
  unfold opP at hv
  split at hv
  · -- move
    rename_i x hop
    exact ⟨a.eval x, by simp [execOp, hop], ev_rep ht hv⟩
  · rename_i x hop
    exact ⟨a.eval x, by simp [execOp, hop], ev_rep ht hv⟩
  · -- pick
    rename_i c x y hop
    split at hv
    · rename_i hc
      have h1 := ev_rep ht hc
      simp only [RepA, RepV] at h1
      exact ⟨a.eval x, by simp [execOp, hop, h1, asBool], ev_rep ht hv⟩
    · rename_i hc
      have h1 := ev_rep ht hc
      simp only [RepA, RepV] at h1
      exact ⟨a.eval y, by simp [execOp, hop, h1, asBool], ev_rep ht hv⟩
    · cases hv
  · -- build
    rename_i t parts hop
    cases hti : T t with
    | none => simp [hti] at hv
    | some ti =>
      simp only [hti] at hv
      split at hv
      · rename_i hk
        cases hb : buildCells ti.fields (ev tm) parts.toList ti.zero with
        | none => simp [hb] at hv
        | some cs =>
          simp only [hb, Option.some.injEq] at hv; subst hv
          have hf := hT t ti hti
          obtain ⟨i, z, hi, hs, _, hz, hzc⟩ := hf.info
          obtain ⟨fs, hu, hm, _⟩ := hf.und1 hk
          obtain ⟨g1, g2⟩ := RepVs.plain (w := w) (L := h.L) hf.plain
          obtain ⟨vs', hfl, hr, h1⟩ := fill_cells (w := w) (h := h) (fun x v => ev_rep ht) parts.toList ti.zero cs z.cells hb (by rw [hzc]; exact g1) (by rw [hzc]; exact g2)
          refine ⟨.agg vs', ?_, ?_⟩
          · have hbt : P.built t (parts.map fun (i, x) => (i, a.eval x)).toList = some vs' := by
              unfold Program.built
              simp only [hi, hu, hz, hm]
              simpa using hfl
            have := run_build (P := P) w t (parts.map fun (i, x) => (i, a.eval x)) vs' hbt
            simp [execOp, hop, this]
          · simp only [RepA, RepV]
            exact ⟨vs', rfl, hr, h1⟩
      · cases hv
  · -- fieldAddr
    rename_i t x f hop
    cases hti : T t with
    | none => simp [hti] at hv
    | some ti =>
      simp only [hti] at hv
      split at hv
      · rename_i off sz d u o' hk hfi hx
        simp only [Option.some.injEq] at hv; subst hv
        have h1 := ev_rep ht hx
        simp only [RepA] at h1
        obtain ⟨b, hb, hxe⟩ := h1
        refine ⟨.pointer (some ⟨b, o' + off, none⟩), by simp [execOp, hop, hxe, run_fieldAt (w := w) (hT t ti hti) hk hfi b o'], ?_⟩
        simp only [RepA]
        exact ⟨b, hb, rfl⟩
      · rename_i off sz cs hk hfi hx
        split at hv
        case isFalse => cases hv
        rename_i hle
        have hle : off ≤ cs.length := by simpa using hle
        simp only [Option.some.injEq] at hv; subst hv
        have h1 := ev_rep ht hx
        simp only [RepA, RepV] at h1
        obtain ⟨b, o', vs, hxe, hr, hl, hc⟩ := h1
        refine ⟨.pointer (some ⟨b, o' + off, none⟩), by simp [execOp, hop, hxe, run_fieldAt (w := w) (hT t ti hti) hk hfi b o'], ?_⟩
        simp only [RepA, RepV]
        exact ⟨b, o' + off, vs.drop off, rfl, hr.drop, by simp; omega, hc.drop off⟩
      · cases hv
  · -- indexAddr
    rename_i t x i hop
    cases hti : T t with
    | none => simp [hti] at hv
    | some ti =>
      simp only [hti] at hv
      split at hv
      · rename_i hk
        cases hte : T ti.elem with
        | none => simp [hte] at hv
        | some te =>
          simp only [hte] at hv
          cases hx : ev tm x with
          | none => simp [hx] at hv
          | some ax =>
            simp only [hx] at hv
            cases hes : AV.refs te.size ax with
            | none => simp [hes] at hv
            | some es =>
              simp only [hes] at hv
              cases hix : ev tm i with
              | none => simp [hix] at hv
              | some ai =>
                simp only [hix] at hv
                cases hn : intOf ai with
                | none => simp [hn] at hv
                | some n =>
                  simp only [hn] at hv
                  split at hv
                  · rename_i h0
                    cases he : es[n.toNat]? with
                    | none => simp [he] at hv
                    | some e =>
                      simp only [he, Option.some.injEq] at hv; subst hv
                      have hlt : n.toNat < es.length := (List.getElem?_eq_some_iff.1 he).1
                      rcases refs_cases hes (n := n.toNat) (e := e) he (ev_rep ht hx) with ⟨ad, o', ln, c, hxe, hll, hpt⟩ | ⟨hes, hel⟩
                      · obtain ⟨k, hki⟩ := intOf_rep hn (ev_rep ht hix)
                        have hu := (hT t ti hti).und hk
                        have hsz := (hT _ te hte).size w
                        have hlt2 : n < (ln : Int) := by omega
                        refine ⟨.pointer (some ⟨ad, o' + n.toNat * te.size, none⟩), ?_, hpt⟩
                        simp [execOp, hop, hxe, hki, Instr.indexAt, asIntOf, run_underlying hu, h0, hlt2, hsz, Addr.add_mid]
                      rw [hel]
                      have hrx := row_rep' hes (ev_rep ht hx)
                      simp only [RepV] at hrx
                      obtain ⟨ad, ln, c, vs, hxe, hln, hc, hus, hf, hm⟩ := hrx
                      rcases hm with hm | ⟨b, o', rfl, hL, hcells⟩
                      · omega
                      · obtain ⟨k, hki⟩ := intOf_rep hn (ev_rep ht hix)
                        have hu := (hT t ti hti).und hk
                        have hsz := (hT _ te hte).size w
                        have hlt2 : n < (ln : Int) := by omega
                        refine ⟨.pointer (some ⟨b, o' + n.toNat * te.size, none⟩), ?_, ?_⟩
                        · simp [execOp, hop, hxe, hki, Instr.indexAt, asIntOf, run_underlying hu, h0, hlt2, hsz, Addr.add_mid]
                        · simp only [RepA, RepV]
                          have hg := hf.get hus he
                          have hel := hus e (List.mem_of_getElem? he)
                          refine ⟨b, o' + n.toNat * te.size, _, rfl, hg, ?_, hcells.sub _ _⟩
                          have : (n.toNat + 1) * te.size ≤ ln * te.size := Nat.mul_le_mul_right _ (by omega)
                          rw [Nat.succ_mul] at this
                          omega
                  · cases hv
      · cases hv
  · -- index
    rename_i t x i hop
    cases hti : T t with
    | none => simp [hti] at hv
    | some ti =>
      simp only [hti] at hv
      split at hv
      · rename_i s hk hx
        cases hix : ev tm i with
        | none => simp [hix] at hv
        | some ai =>
          simp only [hix] at hv
          cases hn : intOf ai with
          | none => simp [hn] at hv
          | some n =>
            simp only [hn] at hv
            split at hv
            · rename_i c hc
              simp only [Option.some.injEq] at hv; subst hv
              have h1 := ev_rep ht hx
              simp only [RepA, RepV] at h1
              obtain ⟨k, hki⟩ := intOf_rep hn (ev_rep ht hix)
              have hu := (hT t ti hti).und3 hk
              refine ⟨.int .u8 c.toNat, ?_, by simp [RepA, RepV]⟩
              simp [execOp, hop, h1, hki, Instr.index, asIntOf, run_underlying hu, hc]
            · cases hv
      · cases hv
  · -- slice
    rename_i t x lo hi mx hop
    cases hti : T t with
    | none => simp [hti] at hv
    | some ti =>
      simp only [hti] at hv
      split at hv
      · rename_i ax l hh m hk hx hl hhi hmx
        cases hte : T ti.elem with
        | none => simp [hte] at hv
        | some te =>
          simp only [hte] at hv
          have hu := (hT t ti hti).und hk
          have hsz := (hT _ te hte).size w
          have q : ∀ {y : Option Operand} {r : Option Int}, optI (ev tm) y = some r → (y.map a.eval = none ∧ r = none) ∨ ∃ k n, y.map a.eval = some (.int k n) ∧ r = some n := by
            intro y r hy
            rcases optI_run ht hy with ⟨rfl, rfl⟩ | ⟨z, k, n, rfl, hz, rfl⟩
            · exact .inl ⟨rfl, rfl⟩
            · exact .inr ⟨k, n, by simp [hz], rfl⟩
          obtain ⟨u, hrun, hr⟩ := sliceD_rep (w := w) hu hsz hv (ev_rep ht hx) (q hl) (q hhi) (q hmx)
          exact ⟨u, by simp [execOp, hop, hrun], hr⟩
      · rename_i s l hh hk hx hl hhi hmx
        split at hv
        case isFalse => cases hv
        rename_i hb
        obtain ⟨hb1, hb2, hb3⟩ := hb
        simp only [Option.some.injEq] at hv; subst hv
        have h1 := ev_rep ht hx
        simp only [RepA, RepV] at h1
        have hu := (hT t ti hti).und3 hk
        have hmx' : mx = none := by
          rcases optI_run ht hmx with ⟨h, _⟩ | ⟨_, _, _, _, _, h⟩
          · exact h
          · cases h
        subst hmx'
        refine ⟨.string (s.extract (l.getD 0).toNat (hh.getD s.size).toNat), ?_, by simp [RepA, RepV]⟩
        rcases optI_run ht hl with ⟨rfl, rfl⟩ | ⟨y, k, n, rfl, hy, rfl⟩ <;> rcases optI_run ht hhi with ⟨rfl, rfl⟩ | ⟨y', k', n', rfl, hy', rfl⟩ <;>
          simp only [Option.getD_some, Option.getD_none] at hb1 hb2 hb3 ⊢ <;>
          simp [execOp, hop, h1, *, Instr.sliceAt, Instr.slice, Instr.sliceBounds, run_underlying hu, run_sliceBound]
        rw [run_sliceBound (w := w) k' n' s.size _ (by omega) (by omega)]
        simp only [Result.andThen_ok]
        rw [run_sliceBound (w := w) k n n'.toNat _ hb1 (by omega)]
        simp only [Result.andThen_ok]
      · cases hv
  · -- extract
    rename_i x i hop
    split at hv
    · rename_i xs hx
      have h1 := ev_rep ht hx
      simp only [RepA] at h1
      obtain ⟨cv, hxe, hr⟩ := h1
      obtain ⟨u, hu, hru⟩ := hr.get hv
      refine ⟨u, ?_, hru⟩
      have hcu : cv[i]? = some u := by simpa using hu
      simp [execOp, hop, hxe, Instr.extract, hcu]
    · cases hv
  · -- nilCheck
    rename_i x hop
    split at hv
    · rename_i d u o hx
      simp only [Option.some.injEq] at hv; subst hv
      have h1 := ev_rep ht hx
      have h2 := h1
      simp only [RepA] at h2
      obtain ⟨b, hb, hxe⟩ := h2
      exact ⟨a.eval x, by simp [execOp, hop, hxe], h1⟩
    · rename_i cs hx
      simp only [Option.some.injEq] at hv; subst hv
      have h1 := ev_rep ht hx
      have h2 := h1
      simp only [RepA, RepV] at h2
      obtain ⟨b, o', vs, hxe, _⟩ := h2
      exact ⟨a.eval x, by simp [execOp, hop, hxe], h1⟩
    · cases hv
  · -- binOp
    rename_i op t x y ty hop
    split at hv
    · rename_i ax ay hx hy
      have h1 := ev_rep ht hx
      have h2 := ev_rep ht hy
      cases hob : opB (binOp op t) ax ay with
      | none =>
        simp only [hob] at hv
        unfold eqA at hv
        cases heq : eqV T t ax ay with
        | none => simp [heq] at hv
        | some r =>
          simp only [heq] at hv
          obtain ⟨q1, q2, q3, q4⟩ := eqV_run hT heq h1 h2
          cases op <;> simp at hv
          · subst hv
            exact ⟨.bool r, by simp [execOp, hop, q2, q3, q1], by simp [RepA, RepV]⟩
          · subst hv
            exact ⟨.bool (!r), by simp [execOp, hop, q2, q4, q1], by simp [RepA, RepV]⟩
      | some v' =>
      simp only [hob, Option.some.injEq] at hv
      subst hv
      have hv := hob
      obtain ⟨u, hrun, hr⟩ := opB_run (P := P) hv h1 h2
      refine ⟨u, ?_, hr⟩
      unfold opB at hv
      split at hv
      · rename_i p q
        cases hp : p.val with
        | none => simp [hp] at hv
        | some pv =>
          cases hq : q.val with
          | none => simp [hp, hq] at hv
          | some qv =>
            simp only [RepA] at h1 h2
            rw [val_rep hp h1, val_rep hq h2] at hrun
            have hg := eqGuard_plain (P := P) (w := w) (op := op) (t := t) (x := x) (y := y) hp hq
            simp [execOp, hop, val_rep hp h1, val_rep hq h2, hg, hrun]
      · cases hv
    · cases hv
  · -- unOp
    rename_i op t x hop
    split at hv
    · rename_i p hx
      have h1 := ev_rep ht hx
      cases hp : p.val with
      | none => simp [hp] at hv
      | some pv =>
        simp only [hp] at hv
        simp only [RepA] at h1
        obtain ⟨u, hrun, hr⟩ := semV_run (P := P) (w := w) (h := h) hv
        exact ⟨u, by simp [execOp, hop, val_rep hp h1, hrun], hr⟩
    · cases hv
  · -- makeInterface
    rename_i t x hop
    cases hti : T t with
    | none => simp [hti] at hv
    | some ti =>
      simp only [hti] at hv
      split at hv
      · rename_i cs hx
        split at hv
        case isFalse => cases hv
        rename_i hk
        simp only [Option.some.injEq] at hv; subst hv
        have h1 := ev_rep ht hx
        obtain ⟨fs, hu, _⟩ := (hT t ti hti).und1 (Nat.eq_of_beq_eq_true hk)
        have hrun : (Instr.makeInterface t (a.eval x)).run P w = .ok (.iface t (a.eval x)) w := by
          simp [Instr.makeInterface, run_underlying hu]
        simp only [RepA] at h1 ⊢
        refine ⟨.iface t (a.eval x), by simp [execOp, hop, hrun], ?_⟩
        simp only [RepV]
        exact ⟨_, rfl, by simpa only [RepV] using h1⟩
      · rename_i k n hx
        split at hv
        case isFalse => cases hv
        rename_i hk
        simp only [Option.some.injEq] at hv; subst hv
        have h1 := ev_rep ht hx
        obtain ⟨l, hu⟩ := (hT t ti hti).und4 (Nat.eq_of_beq_eq_true hk)
        have hrun : (Instr.makeInterface t (a.eval x)).run P w = .ok (.iface t (a.eval x)) w := by
          simp [Instr.makeInterface, run_underlying hu]
        simp only [RepA] at h1 ⊢
        refine ⟨.iface t (a.eval x), by simp [execOp, hop, hrun], ?_⟩
        simp only [RepV]
        exact ⟨_, rfl, by simpa only [RepV] using h1⟩
      · cases hv
  · -- typeAssert
    rename_i x xt t ok hop
    cases hti : T t with
    | none => simp [hti] at hv
    | some ti =>
      simp only [hti] at hv
      have hf := hT t ti hti
      have plain : (Nat.beq ti.kind 1 || Nat.beq ti.kind 4) = true → ∃ d, P.underlying t = some d ∧ ∀ ms, d ≠ .interface ms := by
        intro hk
        simp only [Bool.or_eq_true] at hk
        rcases hk with hk | hk
        · obtain ⟨fs, hu, _⟩ := hf.und1 (Nat.eq_of_beq_eq_true hk)
          exact ⟨_, hu, fun ms e => by cases e⟩
        · obtain ⟨l, hu⟩ := hf.und4 (Nat.eq_of_beq_eq_true hk)
          exact ⟨_, hu, fun ms e => by cases e⟩
      have zero : ∀ {v : AV}, zeroT ti = some v → ∃ u, RepA w h v (.tuple #[u, .bool false]) ∧ (zeroValue t).run P w = .ok u w := by
        intro v hz
        obtain ⟨i, hi, hzv⟩ := hf.val
        refine ⟨zeroV ti, ?_, by simp [zeroValue, typeInfo, hi, hzv]⟩
        obtain ⟨g1, g2⟩ := RepVs.plain (w := w) (L := h.L) hf.plain
        unfold zeroT at hz
        unfold zeroV
        split at hz
        · rename_i ha
          simp only [Option.some.injEq] at hz; subst hz
          simp only [ha, RepA, RepAs]
          refine ⟨_, rfl, _, _, rfl, ?_, _, _, rfl, by simp [RepV], rfl⟩
          simp only [RepV]
          exact ⟨_, rfl, by simpa using g1, by simpa using g2⟩
        · rename_i ha
          split at hz
          · rename_i z hzz
            simp only [Option.some.injEq] at hz; subst hz
            simp only [ha, RepA, RepAs]
            refine ⟨_, rfl, _, _, rfl, ?_, _, _, rfl, by simp [RepV], rfl⟩
            rw [hzz] at g1
            simp only [List.map_cons, List.map_nil, RepVs] at g1
            obtain ⟨u, us, he, hu, _⟩ := g1
            rw [hzz]
            simp only [List.cons.injEq] at he
            simp only [List.map_cons, List.headD_cons]
            rw [he.1]; exact hu
          · cases hz
      split at hv
      · rename_i u y hx
        split at hv
        case isFalse => cases hv
        rename_i hk
        obtain ⟨d, hd, hnd⟩ := plain hk
        have h1 := ev_rep ht hx
        simp only [RepA, RepV] at h1
        obtain ⟨yv, hxe, hy⟩ := h1
        split at hv
        · rename_i hut
          have hut := Nat.eq_of_beq_eq_true hut
          subst hut
          simp only [Option.some.injEq] at hv; subst hv
          refine ⟨.tuple #[yv, .bool true], ?_, ?_⟩
          · have hrun : (Instr.typeAssert (a.eval x) xt u true).run P w = .ok (.tuple #[yv, .bool true]) w := by
              rw [hxe]
              cases d <;> first | exact absurd rfl (hnd _) | simp [Instr.typeAssert, run_underlying hd]
            simp [execOp, hop, hrun]
          · simp only [RepA, RepAs]
            exact ⟨_, rfl, _, _, rfl, hy, _, _, rfl, by simp [RepV], rfl⟩
        · rename_i hut
          have hut : u ≠ t := by simpa using hut
          obtain ⟨z, hz1, hz2⟩ := zero hv
          refine ⟨_, ?_, hz1⟩
          have hrun : (Instr.typeAssert (a.eval x) xt t true).run P w = .ok (.tuple #[z, .bool false]) w := by
            rw [hxe]
            cases d <;> first | exact absurd rfl (hnd _) | simp [Instr.typeAssert, run_underlying hd, hut, hz2]
          simp [execOp, hop, hrun]
      · rename_i hx
        split at hv
        case isFalse => cases hv
        rename_i hk
        obtain ⟨d, hd, hnd⟩ := plain hk
        have h1 := ev_rep ht hx
        simp only [RepA, RepV] at h1
        obtain ⟨z, hz1, hz2⟩ := zero hv
        refine ⟨_, ?_, hz1⟩
        have hrun : (Instr.typeAssert (a.eval x) xt t true).run P w = .ok (.tuple #[z, .bool false]) w := by
          rw [h1]
          cases d <;> first | exact absurd rfl (hnd _) | simp [Instr.typeAssert, run_underlying hd, hz2]
        simp [execOp, hop, hrun]
      · cases hv
  · -- convert
    rename_i s t x hop
    cases hsi : T s with
    | none => simp [hsi] at hv
    | some si =>
      cases hti : T t with
      | none => simp [hsi, hti] at hv
      | some ti =>
        simp only [hsi, hti] at hv
        split at hv
        · rename_i k1 k2 k n e1 e2 hx
          simp only [Option.some.injEq] at hv; subst hv
          have h1 := ev_rep ht hx
          simp only [RepA, RepV] at h1
          have hu1 := (hT s si hsi).int _ e1
          have hu2 := (hT t ti hti).int _ e2
          refine ⟨.int k2 (k2.wrap n), ?_, by simp [RepA, RepV]⟩
          simp [execOp, hop, h1, convert, run_underlying hu1, run_underlying hu2, Conv.intToInt]
        · cases hv
  · -- len
    rename_i c hop
    obtain ⟨v', hrun, hr⟩ := lenA_run (a := a) (ty := o.type) hT ht hv
    exact ⟨v', by simp [execOp, hop, hrun], hr⟩
  · cases hv
end
end Go.Abs
